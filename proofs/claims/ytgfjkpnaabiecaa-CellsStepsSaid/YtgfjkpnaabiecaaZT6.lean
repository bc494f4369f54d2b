/- Lemmas for the row (words on memory, contracts of the program's functions): RefTG, RefTH, RefTI, RefTJ, Grow2, RefTK. -/
import Derived.Test.YtgfjkpnaabiecaaZT5
set_option linter.unusedVariables false
set_option linter.unusedSimpArgs false
namespace Go.Proofs.Ytgfjkpnaabiecaa
open Go.RowKit Go.Proofs.YtgfjkpnaabiecaaW.PrintWords
namespace RTab
open Tags Tab Cmp
/-- A function that hands a table over: its result's cells are laid. -/
theorem ret7 {w W W9 : World} {ok okX : Nat → Prop} {T : Tb} {A B : Option Addr} {c d rb : Nat} {u0 u1 u2 u3 u4 u5 u6 : Value} (hb : Below w.heap.size w W) (hr : Blk W rb [u0, u1, u2, u3, u4, u5, u6]) (hrb : w.heap.size ≤ rb) (hT : RT W okX T A c B d) (hk : ∀ i, okX i → i ≠ rb ∧ (ok i ∨ w.heap.size ≤ i))
    (hW : set7 W rb (.int .i64 T.room.cells) (.int .i64 T.room.bytes) (.int .i64 T.room.buckets) (.bool T.room.fresh) (.slice A T.l.length c) (.slice B T.tok.length d) (.int .i64 T.uses) = W9) :
    (W9.cell? ⟨rb, 0, none⟩ = some (.int .i64 T.room.cells) ∧ W9.cell? ⟨rb, 1, none⟩ = some (.int .i64 T.room.bytes) ∧ W9.cell? ⟨rb, 2, none⟩ = some (.int .i64 T.room.buckets) ∧ W9.cell? ⟨rb, 3, none⟩ = some (.bool T.room.fresh) ∧ W9.cell? ⟨rb, 4, none⟩ = some (.slice A T.l.length c) ∧ W9.cell? ⟨rb, 5, none⟩ = some (.slice B T.tok.length d) ∧ W9.cell? ⟨rb, 6, none⟩ = some (.int .i64 T.uses)) ∧
    RT W9 (fun i => ok i ∨ w.heap.size ≤ i) T A c B d ∧ Below w.heap.size w W9 := by
  subst hW
  have hO := set7_only W rb (.int .i64 T.room.cells) (.int .i64 T.room.bytes) (.int .i64 T.room.buckets) (.bool T.room.fresh) (.slice A T.l.length c) (.slice B T.tok.length d) (.int .i64 T.uses)
  refine ⟨(seven (set7_blk hr _ _ _ _ _ _ _)).1, (hT.only hO (fun i hi hm => (hk i hi).1 (by simpa using hm))).mono (fun i hi => (hk i hi).2), ?_⟩
  exact ((Only.of_below [rb] hb).trans hO).below (by intro i hi; simp at hi; omega) (Nat.le_refl _)
/-- What a function leaves that hands a table over, and values. -/
def MadeV (w : World) (ok : Nat → Prop) (T : Tb) (vs : List Value) (e : Ending) (w' : World) : Prop :=
  ∃ A c B d, e = .returned (.tuple (.agg (rtc T A c B d).toArray :: vs).toArray) ∧ RT w' (fun i => ok i ∨ w.heap.size ≤ i) T A c B d ∧ Below w.heap.size w w'
theorem fk_cell {w : World} {ok : Nat → Prop} {e : Entry} {A : Option Addr} {cp : Nat} (h : Kd.FK Entry.k w ok e (ecs e A cp)) (x y : Bool) {u : Int} (hu : InR .i64 u) : Kd.FK Cell.k w ok ⟨e, x, y, u⟩ (ccs ⟨e, x, y, u⟩ A cp) := by
  refine Foot.imp h (fun W' hK => ?_)
  obtain ⟨A5, c5, he, s0, r1, r2, r3, l5, g5⟩ := Entry.open_ hK
  simp only [ecs, List.cons.injEq, Value.slice.injEq, true_and, and_true] at he
  obtain ⟨rfl, rfl⟩ := he
  exact Cell.mk_ W' ⟨e, x, y, u⟩ s0 r1 r2 r3 l5 g5 hu
theorem blk_add (a : Addr) (n : Nat) : (a.add n).block = a.block := by unfold Addr.add; split <;> rfl
theorem row_block {w : World} {ok : Nat → Prop} {ad : Addr} {n : Nat} {xs : List Cell} (h : Kd.F Cell.k w ok (some ad) n xs) (k : Nat) (h1 : k < n) : ok ad.block := by
  have hl : xs.length = n := Kd.F_len h
  obtain ⟨ad', c, e, _, _, _, hok⟩ := Kd.F_get h Cell.z (k : Int) (by omega) (by omega)
  obtain rfl : ad = ad' := Option.some.inj e
  exact hok (by decide)
set_option maxRecDepth 100000 in
set_option maxHeartbeats 2000000 in
theorem storeR_calls (T : Tb) (A : Option Addr) (c : Nat) (B : Option Addr) (d : Nat) (e : Entry) (Ae : Option Addr) (ce : Nat) (n : Int) (ok : Nat → Prop) (w : World) (h : RT w ok T A c B d) (hw : Wf T n) (hn : n ≤ 1900000000000000000) (hF : Kd.FK Entry.k w ok e (ecs e Ae ce)) (hxl : e.val.b.length ≤ 140737488351232) :
    Calls Try.prog 50 #[.agg (rtc T A c B d).toArray, .agg (ecs e Ae ce).toArray] w (MadeV w ok (storeT T e) [.int .i64 (storeE T e)]) := by
  have HT := Aside0.mk h.bound
  have HF := Aside0.mk (Foot.bound hF)
  have hks : e.key.size ≤ 140737488351232 := by obtain ⟨_, _, _, s0, _⟩ := Entry.open_ (Kd.FK_now hF); exact s0
  have HRG : Aside0 (∀ w', Calls Try.prog 69 #[.agg (ecs e Ae ce).toArray] w' fun r w'' => r = .returned (.int .i64 (rgt e)) ∧ Below w'.heap.size w' w'') := ⟨fun w' => rightR_calls e.key e.tag.seq e.tag.who e.tag.op e.val.has Ae ce e.val.b w' hks hxl⟩
  by_cases hE : EntOk e ∧ e.tag.seq ≠ 0
  · obtain ⟨hEO, hseq⟩ := hE
    have hb0 : (e.tag.seq == 0) = false := by simpa using hseq
    obtain ⟨rm1, rm2, rm3, rm4, rm5, rm6⟩ := hw.rm
    obtain ⟨b0, b1⟩ := Hash.bkt_bd e.key rm5
    obtain ⟨i, hi⟩ : ∃ i : Nat, Hash.bkt e.key T.room.buckets = (i : Int) := ⟨_, (Int.toNat_of_nonneg b0).symm⟩
    have htl := hw.tl
    have hil : i < T.tok.length := by rw [hi] at b1; omega
    obtain ⟨x, hx⟩ : ∃ x, T.tok[i]? = some x := ⟨_, List.getElem?_eq_getElem hil⟩
    have HX0 : Aside0 (tokAt T e.key = x) := ⟨by unfold tokAt; rw [hi, Int.toNat_natCast, List.getD_eq_getElem?_getD, hx]; rfl⟩
    have HXI := Aside0.mk hx
    have HBK : Aside0 (∀ A c B d w', Calls Try.prog 66 #[.agg (rtc T A c B d).toArray, .string e.key] w' fun r w'' => r = .returned (.int .i64 (i : Int)) ∧ Below w'.heap.size w' w'') := ⟨fun A c B d w' => by
      have := bucketR_calls T A c B d e.key w' hks rm5 rm6
      rw [hi] at this
      exact this⟩
    obtain ⟨fi, hfi⟩ : ∃ fi, fi = findI T.l e.key := ⟨_, rfl⟩
    have HFN : Aside0 (∀ A c B d w', Cell.k.C w' A T.l.length T.l → Calls Try.prog 67 #[.agg (rtc T A c B d).toArray, .string e.key] w' fun r w'' => r = .returned (.int .i64 fi) ∧ Below w'.heap.size w' w'') := ⟨fun A c B d w' h => by rw [hfi]; exact find_calls T A c B d e.key w' h⟩
    have HFI : Aside0 ((fi = -1 ∧ find T.l e.key = none) ∨ ∃ j u, fi = ((j : Nat) : Int) ∧ T.l[j]? = some u ∧ find T.l e.key = some u) := ⟨by
      rw [hfi]
      rcases hf : find T.l e.key with _ | u
      · exact .inl ⟨findI_none hf, rfl⟩
      · exact .inr ⟨_, u, findI_some hf, (idx_some hf).2, rfl⟩⟩
    have hTl : T.l.length ≤ 4096 := by have h1 := hw.len; omega
    have HUS : Aside0 (0 ≤ T.uses ∧ T.uses ≤ 4000000000000000000) := ⟨by have := hw.us; omega⟩
    have HRO : Aside0 (∀ A c B d w' okx, RT w' okx T A c B d → Kd.FK Entry.k w' okx e (ecs e Ae ce) → Calls Try.prog 70 #[.agg (rtc T A c B d).toArray, .agg (ecs e Ae ce).toArray] w' (RoomTold w' okx T e)) := ⟨fun A c B d w' okx h1 h2 => room_calls e Ae ce hEO (T.l.length + 1) T A c B d n okx w' h1 hw (by omega) (by omega) h2⟩
    have HMK : Aside0 ((vict T e).2 = true → (drops T (vict T e).1).l.length ≤ 1000000 ∧ 0 ≤ (drops T (vict T e).1).uses ∧ (drops T (vict T e).1).uses ≤ 4000000000000000000) := ⟨fun hv => by
      have h1 := hw.make_ hEO (if_pos hv) false false 0
      have h2 : makeT T e = drops T (vict T e).1 := if_pos hv
      rw [h2] at h1
      have h3 := h1.1.len
      have h4 := h1.1.rm.2.1
      have h5 := h1.1.us
      exact ⟨by omega, by omega, by omega⟩⟩
    have HS1 : Aside0 (∀ u, find T.l e.key = some u → 0 ≤ cmpT u.e.tag e.tag → storeT T e = lay T u ∧ storeE T e = 0) := ⟨fun u h1 h2 => by
      have h3 : storeOld T e = some u := by unfold storeOld; rw [h1]; exact if_pos h2
      exact ⟨(if_pos ⟨hEO, hseq⟩).trans (by rw [h3]), (if_pos ⟨hEO, hseq⟩).trans (by rw [h3])⟩⟩
    have HS2 : Aside0 (storeOld T e = none → ((vict T e).2 = false → storeT T e = T ∧ storeE T e = 30) ∧ ((vict T e).2 = true → storeT T e = lay (drops T (vict T e).1) ⟨e, wholeT T e.key, false, 0⟩ ∧ storeE T e = 0)) := ⟨fun h3 => by
      constructor
      · intro h; exact ⟨(if_pos ⟨hEO, hseq⟩).trans (by rw [h3]; exact if_neg (by unfold makeE; rw [h]; decide)), (if_pos ⟨hEO, hseq⟩).trans (by rw [h3]; exact if_neg (by rw [h]; decide))⟩
      · intro h; exact ⟨(if_pos ⟨hEO, hseq⟩).trans (by rw [h3]; refine (if_pos (if_pos h)).trans ?_; rw [show makeT T e = drops T (vict T e).1 from if_pos h]), (if_pos ⟨hEO, hseq⟩).trans (by rw [h3]; exact if_pos h)⟩⟩
    have HO1 : Aside0 (find T.l e.key = none → storeOld T e = none ∧ wholeT T e.key = (x == 0)) := ⟨fun h1 => by unfold storeOld wholeT; rw [h1, HX0.out]; exact ⟨rfl, rfl⟩⟩
    have HO2 : Aside0 (∀ u, find T.l e.key = some u → ¬ 0 ≤ cmpT u.e.tag e.tag → storeOld T e = none ∧ wholeT T e.key = u.whole) := ⟨fun u h1 h2 => by unfold storeOld wholeT; rw [h1]; exact ⟨if_neg h2, rfl⟩⟩
    rw [rgt_ok hEO] at HRG
    clear hfi h hw hF hEO hseq rm1 rm2 rm3 rm4 rm5 rm6 b0 b1 hi htl hx
    obtain ⟨⟨ra, rz, rc, rd⟩, l, tok, us⟩ := T
    obtain ⟨ek, ⟨a1, a2, a3⟩, ⟨eh, eb⟩⟩ := e
    dsimp only [rtc, ecs] at *
    go_enter Try.func50, Try.ntmps50
    go_upto_region 1 with (fail)
    generalize hX : World.alloc _ _ = W0
    have HB0 : Aside0 (Below w.heap.size w W0) := ⟨by rw [← hX]; exact below_alloc (below_alloc (below_alloc (Below.refl _ _) _) _) _⟩
    have HX : Aside0 (Blk W0 w.heap.size [.int .i64 ra, .int .i64 rz, .int .i64 rc, .bool rd, .slice A l.length c, .slice B tok.length d, .int .i64 us] ∧ Blk W0 (w.heap.size + 1) [.string ek, .int .i64 a1, .int .i64 a2, .int .i64 a3, .bool eh, .slice Ae eb.length ce] ∧ Blk W0 (w.heap.size + 2) [.int .i64 0, .int .i64 0, .int .i64 0, .bool false, .slice none 0 0, .slice none 0 0, .int .i64 0]) := ⟨by rw [← hX]; exact ⟨((Blk.new_ _ _ _ rfl rfl).alloc _).alloc _, (Blk.new_ _ _ _ (by simp) rfl).alloc _, Blk.new_ _ _ _ (by simp) rfl⟩⟩
    have hs3 : w.heap.size + 3 ≤ W0.heap.size := by have := HX.out.2.2.lt; omega
    have HT0 := Aside0.mk (HT.out.below HB0.out)
    have HF0 : Aside0 (Kd.FK Entry.k W0 _ _ _) := ⟨Foot.step HF.out (fun i _ hlt => HB0.out.block i hlt)⟩
    clear hX
    obtain ⟨⟨k0, k1, k2, k3, k4, k5⟩, _⟩ := HX.out.2.1.six
    go_upto_region 3 with (first | ((with_reducible refine (HRG.out _).mono ?_); rintro r w1 ⟨rfl, hb⟩; have HB1 := Aside0.mk hb; have k1 := pw_cell_below hb k1; clear hb))
    have HX1 := Aside0.mk (And.intro (HX.out.1.on HB1.out) (HX.out.2.1.on HB1.out))
    have HT1 := Aside0.mk (HT0.out.below HB1.out)
    clear k0 k1 k2 k3 k4 k5
    obtain ⟨⟨x0, x1, x2, x3, x4, x5, x6⟩, _⟩ := seven HX1.out.1
    obtain ⟨⟨k0, k1, k2, k3, k4, k5⟩, _⟩ := HX1.out.2.six
    go_upto_region 4 with (first | ((with_reducible refine (HFN.out _ _ _ _ _ (Kd.F_now HT1.out.l)).mono ?_); rintro r w2 ⟨rfl, hb⟩; have HB2 := Aside0.mk (Below.then_ HB1.out hb (Nat.le_refl _)); clear hb))
    have HX2 := Aside0.mk (And.intro (HX.out.1.on HB2.out) (HX.out.2.1.on HB2.out))
    have HT2 := Aside0.mk (HT0.out.below HB2.out)
    clear k0 k1 k2 k3 k4 k5 x0 x1 x2 x3 x4 x5 x6
    obtain ⟨⟨x0, x1, x2, x3, x4, x5, x6⟩, _⟩ := seven HX2.out.1
    obtain ⟨⟨k0, k1, k2, k3, k4, k5⟩, _⟩ := HX2.out.2.six
    obtain ⟨ad, x', rfl, HXI', t0, _⟩ := int_at (Kd.F_now HT2.out.k) i hil
    obtain rfl : x' = x := Option.some.inj (HXI'.out.symm.trans HXI.out)
    have i0 : (0 : Int) ≤ (i : Int) := by omega
    have i1 : (i : Int) < (tok.length : Int) := by omega
    have x0 := fun w' (h : Below w2.heap.size w2 w') => pw_cell_below h x0
    have x1 := fun w' (h : Below w2.heap.size w2 w') => pw_cell_below h x1
    have x2 := fun w' (h : Below w2.heap.size w2 w') => pw_cell_below h x2
    have x3 := fun w' (h : Below w2.heap.size w2 w') => pw_cell_below h x3
    have x4 := fun w' (h : Below w2.heap.size w2 w') => pw_cell_below h x4
    have x5 := fun w' (h : Below w2.heap.size w2 w') => pw_cell_below h x5
    have x6 := fun w' (h : Below w2.heap.size w2 w') => pw_cell_below h x6
    have k0 := fun w' (h : Below w2.heap.size w2 w') => pw_cell_below h k0
    have t0 := fun w' (h : Below w2.heap.size w2 w') => pw_cell_below h t0
    refine wp_region_noPanic ?_
    refine wp_region_held_drew (S := Below w2.heap.size w2) (by kernel_rfl) (below_drew (Below.refl _ _)) (fun hHeld => ?_)
    (refine takeH 0 24 (v := ?_) rfl rfl (by kernel_rfl) (by kernel_rfl) (by kernel_rfl) (fun _ _ _ h => h) hHeld rfl ?_ ?_; rotate_left; (focus (intro w' hSw; go_simp; try with_reducible rfl)))
    (try simp only [Act.put, List.setIfInBounds_toArray, List.set_cons_zero, List.set_cons_succ])
    (refine takeH 1 25 (v := ?_) rfl rfl (by kernel_rfl) (by kernel_rfl) (by kernel_rfl) (fun _ _ _ h => h) hHeld rfl ?_ ?_; rotate_left; (focus (intro w' hSw; go_simp; try with_reducible rfl)))
    (try simp only [Act.put, List.setIfInBounds_toArray, List.set_cons_zero, List.set_cons_succ])
    (refine takeH 2 26 (v := ?_) rfl rfl (by kernel_rfl) (by kernel_rfl) (by kernel_rfl) (fun _ _ _ h => h) hHeld rfl ?_ ?_; rotate_left; (focus (intro w' hSw; go_simp; try with_reducible rfl)))
    (try simp only [Act.put, List.setIfInBounds_toArray, List.set_cons_zero, List.set_cons_succ])
    (refine takeH 3 27 (v := ?_) rfl rfl (by kernel_rfl) (by kernel_rfl) (by kernel_rfl) (fun _ _ _ h => h) hHeld rfl ?_ ?_; rotate_left; (focus (intro w' hSw; go_simp; try with_reducible rfl)))
    (try simp only [Act.put, List.setIfInBounds_toArray, List.set_cons_zero, List.set_cons_succ])
    (refine takeH 4 28 (v := ?_) rfl rfl (by kernel_rfl) (by kernel_rfl) (by kernel_rfl) (fun _ _ _ h => h) hHeld rfl ?_ ?_; rotate_left; (focus (intro w' hSw; go_simp; try with_reducible rfl)))
    (try simp only [Act.put, List.setIfInBounds_toArray, List.set_cons_zero, List.set_cons_succ])
    refine wpAnyH_ready (rs := [5]) (by kernel_rfl) (by simp) ?_
    refine AllReadyH.cons rfl (fun K hK => ?_) AllReadyH.nil
    go_simp
    refine (HBK.out _ _ _ _ _).mono ?_
    rintro e w3 ⟨rfl, h1⟩
    have H3 := Aside0.mk (Below.then_ (below_drew (Below.refl w2.heap.size w2)) h1 (Nat.le_refl _))
    clear h1
    refine hK.out _ _ (H3.out) (fun hHeld => ?_)
    clear hK K
    (try simp only [Act.put, List.setIfInBounds_toArray, List.set_cons_zero, List.set_cons_succ])
    (refine takeH 6 30 (v := ?_) rfl rfl (by kernel_rfl) (by kernel_rfl) (by kernel_rfl) (fun _ _ _ h => h) hHeld rfl ?_ ?_; rotate_left; (focus (intro w' hSw; go_simp; try with_reducible rfl)))
    (try simp only [Act.put, List.setIfInBounds_toArray, List.set_cons_zero, List.set_cons_succ])
    (refine takeH 7 31 (v := ?_) rfl rfl (by kernel_rfl) (by kernel_rfl) (by kernel_rfl) (fun _ _ _ h => h) hHeld rfl ?_ ?_; rotate_left; (focus (intro w' hSw; go_simp; try with_reducible rfl)))
    (try simp only [Act.put, List.setIfInBounds_toArray, List.set_cons_zero, List.set_cons_succ])
    (refine takeH 8 32 (v := ?_) rfl rfl (by kernel_rfl) (by kernel_rfl) (by kernel_rfl) (fun _ _ _ h => h) hHeld rfl ?_ ?_; rotate_left; (focus (intro w' hSw; go_simp; try with_reducible rfl)))
    (try simp only [Act.put, List.setIfInBounds_toArray, List.set_cons_zero, List.set_cons_succ])
    (refine takeH 9 7 (v := ?_) rfl rfl (by kernel_rfl) (by kernel_rfl) (by kernel_rfl) (fun _ _ _ h => h) hHeld rfl ?_ ?_; rotate_left; (focus (intro w' hSw; go_simp; try with_reducible rfl)))
    (try simp only [Act.put, List.setIfInBounds_toArray, List.set_cons_zero, List.set_cons_succ])
    refine wpAnyH_done (by kernel_rfl) ?_ _
    refine NoPanic.normal ?_
    have HB3 := Aside0.mk (Below.then_ HB2.out H3.out (Nat.le_refl _))
    clear x0 x1 x2 x3 x4 x5 x6 k0 k1 k2 k3 k4 k5 t0
    rcases HFI.out with ⟨rfl, hf⟩ | ⟨j, u, rfl, hj, hf⟩
    · obtain ⟨h1, h2⟩ := HO1.out hf
      have HS3 := Aside0.mk (HS2.out h1)
      rw [h2] at HS3
      clear h1 h2 hf
      go_upto_region 9 with (fail)
      have HX3 := Aside0.mk (And.intro (HX.out.1.on HB3.out) (And.intro (HX.out.2.1.on HB3.out) (HX.out.2.2.on HB3.out)))
      have HT3 := Aside0.mk (HT0.out.below HB3.out)
      have HF3 : Aside0 (Kd.FK Entry.k w3 _ _ _) := ⟨Foot.step HF0.out (fun i _ hlt => (HB3.out).block i hlt)⟩
      obtain ⟨x0, x1, x2, x3, x4, x5, x6⟩ := (seven HX3.out.1).1
      obtain ⟨⟨k0, k1, k2, k3, k4, k5⟩, _⟩ := HX3.out.2.1.six
      have HRO3 := Aside0.mk (HRO.out _ _ _ _ w3 _ HT3.out HF3.out)
      go_upto_region 10 with (first | ((with_reducible refine HRO3.out.mono ?_); rintro r w4 ⟨A4, c4, B4, d4, T4, rfl, hR, hb, hT⟩; have HR4 := Aside0.mk (And.intro hR hT); have HB4 := Aside0.mk hb; clear hR hb hT))
      generalize hX5 : World.alloc _ _ = W5
      have HB5 : Aside0 (Below w4.heap.size w4 W5) := ⟨by rw [← hX5]; exact below_alloc (Below.refl _ _) _⟩
      have HX5 : Aside0 (Blk W5 w4.heap.size (rtc T4 A4 c4 B4 d4)) := ⟨by rw [← hX5]; exact Blk.new_ _ _ _ rfl rfl⟩
      have HBW5 := Aside0.mk (Below.then_ HB4.out HB5.out (Nat.le_refl _))
      have HY5 := Aside0.mk (And.intro (HX3.out.1.on HBW5.out) (And.intro (HX3.out.2.1.on HBW5.out) (HX3.out.2.2.on HBW5.out)))
      have HT5 := Aside0.mk (HT3.out.below HBW5.out)
      have HF5 : Aside0 (Kd.FK Entry.k W5 _ _ _) := ⟨Foot.step HF3.out (fun i _ hlt => HBW5.out.block i hlt)⟩
      have HR5 := Aside0.mk (HR4.out.1.below HB5.out)
      have HBA := Aside0.mk (Below.then_ (Below.then_ HB0.out HB3.out (Nat.le_refl _)) HBW5.out (Nat.le_refl _))
      have hs4 : (w3).heap.size ≤ w4.heap.size := HB4.out.size
      have hs5 : w.heap.size + 3 ≤ (w3).heap.size := by have := HX3.out.2.2.lt; omega
      clear hX5 x0 x1 x2 x3 x4 x5 x6 k0 k1 k2 k3 k4 k5
      obtain ⟨vb, hvb⟩ : ∃ vb, vb = (vict ⟨⟨ra, rz, rc, rd⟩, l, tok, us⟩ ⟨ek, ⟨a1, a2, a3⟩, ⟨eh, eb⟩⟩).2 := ⟨_, rfl⟩
      rw [← hvb]
      have HVB := Aside0.mk hvb
      clear hvb
      obtain ⟨⟨r0, r1, r2, r3, r4, r5, r6⟩, g0, g1, g2, g3, g4, g5, g6⟩ := seven HY5.out.2.2
      obtain ⟨⟨k0, k1, k2, k3, k4, k5⟩, _⟩ := HY5.out.2.1.six
      cases vb with
      | false =>
        have HQ := Aside0.mk (HS3.out.1 HVB.out.symm)
        obtain ⟨⟨x0, x1, x2, x3, x4, x5, x6⟩, _⟩ := seven HY5.out.1
        go_wp2
        generalize hW9 : World.setCell _ _ _ = W9
        have h9 := ret7 (W9 := W9) HBA.out HY5.out.2.2 (by omega) HT5.out (ok := ok) (fun i hi => ⟨by have := hi.2; omega, .inl hi.1⟩) hW9
        clear hW9
        have H9 := Aside0.mk h9.2
        obtain ⟨z0, z1, z2, z3, z4, z5, z6⟩ := h9.1
        clear h9
        refine bodyPost_ret (v := .tuple #[.agg #[.int .i64 ra, .int .i64 rz, .int .i64 rc, .bool rd, .slice A l.length c, .slice (some ad) tok.length d, .int .i64 us], .int .i64 30]) (by simp [results, Try.results50, go_sem, z0, z1, z2, z3, z4, z5, z6]; try rfl) rfl ?_
        unfold MadeV
        rw [HQ.out.1, HQ.out.2]
        exact ⟨A, c, some ad, d, rfl, H9.out.1, H9.out.2⟩
      | true =>
        have hT4 := HR4.out.2 HVB.out.symm
        obtain ⟨hq1, hq2⟩ := HS3.out.2 HVB.out.symm
        rw [← hT4] at hq1
        have hmk := HMK.out HVB.out.symm
        rw [← hT4] at hmk
        obtain ⟨T8, hT8⟩ : ∃ T8, T8 = lay T4 ⟨⟨ek, ⟨a1, a2, a3⟩, ⟨eh, eb⟩⟩, x' == 0, false, 0⟩ := ⟨_, rfl⟩
        rw [← hT8] at hq1
        have HQ := Aside0.mk (And.intro hq1 hq2)
        have HUC : Aside0 (Calls Try.prog 68 #[.agg (rtc T4 A4 c4 B4 d4).toArray, .agg (ccs ⟨⟨ek, ⟨a1, a2, a3⟩, ⟨eh, eb⟩⟩, x' == 0, false, 0⟩ Ae ce).toArray] W5 (MadeT W5 _ T8)) := ⟨by
          rw [hT8]
          refine use_calls T4 A4 c4 B4 d4 ⟨⟨ek, ⟨a1, a2, a3⟩, ⟨eh, eb⟩⟩, x' == 0, false, 0⟩ Ae ce (fun i => ok i ∧ i < w.heap.size ∨ (w3).heap.size ≤ i) W5 HR5.out ?_ (by omega) (by omega)
          exact fk_cell (Foot.mono HF5.out (fun i hi => .inl hi)) _ _ izr⟩
        clear hT4 hq1 hq2 hmk hT8
        obtain ⟨⟨x0, x1, x2, x3, x4, x5, x6⟩, _⟩ := seven HX5.out
        dsimp only [ccs] at HUC
        go_wp2_with (first | ((with_reducible refine HUC.out.mono ?_); rintro r w8 ⟨A8, c8, B8, d8, rfl, hR, hb⟩; have HR8 := Aside0.mk hR; have HB8 := Aside0.mk hb; have HZ8 := Aside0.mk (HY5.out.2.2.on hb); clear hR hb r0 r1 r2 r3 r4 r5 r6 g0 g1 g2 g3 g4 g5 g6; obtain ⟨⟨r0, r1, r2, r3, r4, r5, r6⟩, g0, g1, g2, g3, g4, g5, g6⟩ := seven HZ8.out))
        have s8 := HB8.out.size
        have s5 := HX5.out.lt
        generalize hW9 : World.setCell _ _ _ = W9
        have h9 := ret7 (W9 := W9) (Below.then_ HBA.out HB8.out (Nat.le_refl _)) HZ8.out (by omega) HR8.out (ok := ok) (fun i hi => by rcases hi with (hi | hi) | hi; exact ⟨by have := hi.2; omega, .inl hi.1⟩; exact ⟨by omega, .inr (by omega)⟩; exact ⟨by omega, .inr (by omega)⟩) hW9
        clear hW9
        have H9 := Aside0.mk h9.2
        obtain ⟨z0, z1, z2, z3, z4, z5, z6⟩ := h9.1
        clear h9
        refine bodyPost_ret (v := .tuple #[.agg (rtc T8 A8 c8 B8 d8).toArray, .int .i64 0]) (by simp [results, Try.results50, go_sem, z0, z1, z2, z3, z4, z5, z6, rtc]; try rfl) rfl ?_
        unfold MadeV
        rw [HQ.out.1, HQ.out.2]
        exact ⟨A8, c8, B8, d8, rfl, H9.out.1, H9.out.2⟩
    · have hjl : j < l.length := (List.getElem?_eq_some_iff.1 hj).1
      have hjI : (j : Int) < (l.length : Int) := by omega
      have HX3 := Aside0.mk (And.intro (HX.out.1.on HB3.out) (And.intro (HX.out.2.1.on HB3.out) (HX.out.2.2.on HB3.out)))
      have HT3 := Aside0.mk (HT0.out.below HB3.out)
      obtain ⟨au, u', A5, c5, rfl, HU', y0, y1, y2, y3, y4, y5, y6, y7, y8, HFK⟩ := RTab.cell_at HT3.out.l (Below.refl _ _) j hjl
      obtain rfl : u' = u := Option.some.inj (HU'.out.symm.trans hj)
      obtain ⟨cv, hcv⟩ : ∃ cv, cv = cmpT u'.e.tag ⟨a1, a2, a3⟩ := ⟨_, rfl⟩
      have HCM : Aside0 (∀ w', Calls Try.prog 14 #[.agg #[.int .i64 u'.e.tag.seq, .int .i64 u'.e.tag.who, .int .i64 u'.e.tag.op], .agg #[.int .i64 a1, .int .i64 a2, .int .i64 a3]] w' fun r w'' => r = .returned (.int .i64 cv) ∧ Below w'.heap.size w' w'') := ⟨fun w' => by rw [hcv]; exact compareR_calls u'.e.tag ⟨a1, a2, a3⟩ w'⟩
      have HSA : Aside0 (0 ≤ cv → storeT _ _ = lay _ u' ∧ storeE _ _ = 0) := ⟨fun h => HS1.out u' hf (hcv ▸ h)⟩
      have HSB : Aside0 (¬ 0 ≤ cv → storeOld _ _ = none ∧ wholeT _ _ = u'.whole) := ⟨fun h => HO2.out u' hf (by rw [← hcv]; omega)⟩
      clear hf hj hcv
      obtain ⟨⟨x0, x1, x2, x3, x4, x5, x6⟩, _⟩ := seven HX3.out.1
      obtain ⟨⟨k0, k1, k2, k3, k4, k5⟩, _⟩ := HX3.out.2.1.six
      by_cases hc : 0 ≤ cv
      · obtain ⟨hq1, hq2⟩ := HSA.out hc
        obtain ⟨T8, hT8⟩ : ∃ T8, T8 = lay ⟨⟨ra, rz, rc, rd⟩, l, tok, us⟩ u' := ⟨_, rfl⟩
        rw [← hT8] at hq1
        have HQ := Aside0.mk (And.intro hq1 hq2)
        have HUC : Aside0 (∀ w', RT w' (fun i => ok i ∧ i < w.heap.size) ⟨⟨ra, rz, rc, rd⟩, l, tok, us⟩ (some au) c (some ad) d → Kd.FK Cell.k w' (fun i => ok i ∧ i < w.heap.size) u' (ccs u' A5 c5) → Calls Try.prog 68 #[.agg (rtc ⟨⟨ra, rz, rc, rd⟩, l, tok, us⟩ (some au) c (some ad) d).toArray, .agg (ccs u' A5 c5).toArray] w' (MadeT w' (fun i => ok i ∧ i < w.heap.size) T8)) := ⟨fun w' h1 h2 => by rw [hT8]; exact use_calls ⟨⟨ra, rz, rc, rd⟩, l, tok, us⟩ (some au) c (some ad) d u' A5 c5 _ w' h1 h2 (by dsimp only; omega) HUS.out⟩
        clear hq1 hq2 hT8
        dsimp only [ccs] at HUC
        have HYS := Aside0.mk (And.intro y0 (And.intro y1 (And.intro y2 (And.intro y3 (And.intro y4 (And.intro y5 (And.intro y6 (And.intro y7 y8))))))))
        go_upto_region 6 with (fail)
        have x4 := fun w' (h : Below w3.heap.size w3 w') => pw_cell_below h x4
        have y1 := fun w' (h : Below w3.heap.size w3 w') => pw_cell_below h y1
        have y2 := fun w' (h : Below w3.heap.size w3 w') => pw_cell_below h y2
        have y3 := fun w' (h : Below w3.heap.size w3 w') => pw_cell_below h y3
        have k1 := fun w' (h : Below w3.heap.size w3 w') => pw_cell_below h k1
        have k2 := fun w' (h : Below w3.heap.size w3 w') => pw_cell_below h k2
        have k3 := fun w' (h : Below w3.heap.size w3 w') => pw_cell_below h k3
        clear x0 x1 x2 x3 x5 x6 k0 k4 k5 y0 y4 y5 y6 y7 y8
        refine wp_region_noPanic ?_
        refine wp_region_held_drew (S := Below w3.heap.size w3) (by kernel_rfl) (below_drew (Below.refl _ _)) (fun hHeld => ?_)
        (refine takeH 0 35 (v := ?_) rfl rfl (by kernel_rfl) (by kernel_rfl) (by kernel_rfl) (fun _ _ _ h => h) hHeld rfl ?_ ?_; rotate_left; (focus (intro w' hSw; go_simp; try with_reducible rfl)))
        (try simp only [Act.put, List.setIfInBounds_toArray, List.set_cons_zero, List.set_cons_succ])
        (refine takeH 1 36 (v := ?_) rfl rfl (by kernel_rfl) (by kernel_rfl) (by kernel_rfl) (fun _ _ _ h => h) hHeld rfl ?_ ?_; rotate_left; (focus (intro w' hSw; go_simp; try with_reducible rfl)))
        (try simp only [Act.put, List.setIfInBounds_toArray, List.set_cons_zero, List.set_cons_succ])
        (refine takeH 2 37 (v := ?_) rfl rfl (by kernel_rfl) (by kernel_rfl) (by kernel_rfl) (fun _ _ _ h => h) hHeld rfl ?_ ?_; rotate_left; (focus (intro w' hSw; go_simp; try with_reducible rfl)))
        (try simp only [Act.put, List.setIfInBounds_toArray, List.set_cons_zero, List.set_cons_succ])
        (refine takeH 3 38 (v := ?_) rfl rfl (by kernel_rfl) (by kernel_rfl) (by kernel_rfl) (fun _ _ _ h => h) hHeld rfl ?_ ?_; rotate_left; (focus (intro w' hSw; go_simp; try with_reducible rfl)))
        (try simp only [Act.put, List.setIfInBounds_toArray, List.set_cons_zero, List.set_cons_succ])
        (refine takeH 4 39 (v := ?_) rfl rfl (by kernel_rfl) (by kernel_rfl) (by kernel_rfl) (fun _ _ _ h => h) hHeld rfl ?_ ?_; rotate_left; (focus (intro w' hSw; go_simp; try with_reducible rfl)))
        (try simp only [Act.put, List.setIfInBounds_toArray, List.set_cons_zero, List.set_cons_succ])
        (refine takeH 5 40 (v := ?_) rfl rfl (by kernel_rfl) (by kernel_rfl) (by kernel_rfl) (fun _ _ _ h => h) hHeld rfl ?_ ?_; rotate_left; (focus (intro w' hSw; go_simp; try with_reducible rfl)))
        (try simp only [Act.put, List.setIfInBounds_toArray, List.set_cons_zero, List.set_cons_succ])
        (refine takeH 6 41 (v := ?_) rfl rfl (by kernel_rfl) (by kernel_rfl) (by kernel_rfl) (fun _ _ _ h => h) hHeld rfl ?_ ?_; rotate_left; (focus (intro w' hSw; go_simp; try with_reducible rfl)))
        (try simp only [Act.put, List.setIfInBounds_toArray, List.set_cons_zero, List.set_cons_succ])
        (refine takeH 7 42 (v := ?_) rfl rfl (by kernel_rfl) (by kernel_rfl) (by kernel_rfl) (fun _ _ _ h => h) hHeld rfl ?_ ?_; rotate_left; (focus (intro w' hSw; go_simp; try with_reducible rfl)))
        (try simp only [Act.put, List.setIfInBounds_toArray, List.set_cons_zero, List.set_cons_succ])
        (refine takeH 8 43 (v := ?_) rfl rfl (by kernel_rfl) (by kernel_rfl) (by kernel_rfl) (fun _ _ _ h => h) hHeld rfl ?_ ?_; rotate_left; (focus (intro w' hSw; go_simp; try with_reducible rfl)))
        (try simp only [Act.put, List.setIfInBounds_toArray, List.set_cons_zero, List.set_cons_succ])
        refine wpAnyH_ready (rs := [9]) (by kernel_rfl) (by simp) ?_
        refine AllReadyH.cons rfl (fun K hK => ?_) AllReadyH.nil
        go_simp
        refine (HCM.out _).mono ?_
        rintro r wm ⟨rfl, hb⟩
        have HBM := Aside0.mk (Below.then_ (below_drew (Below.refl w3.heap.size w3)) hb (Nat.le_refl _))
        clear hb
        refine hK.out _ _ (HBM.out) (fun hHeld => ?_)
        clear hK K
        (try simp only [Act.put, List.setIfInBounds_toArray, List.set_cons_zero, List.set_cons_succ])
        (refine takeH 10 45 (v := ?_) rfl rfl (by kernel_rfl) (by kernel_rfl) (by kernel_rfl) (fun _ _ _ h => h) hHeld rfl ?_ ?_; rotate_left; (focus (intro w' hSw; go_simp; try with_reducible rfl)))
        (try simp only [Act.put, List.setIfInBounds_toArray, List.set_cons_zero, List.set_cons_succ])
        refine wpAnyH_done (by kernel_rfl) ?_ _
        refine NoPanic.normal ?_
        clear x4 y1 y2 y3 k1 k2 k3
        obtain ⟨y0, y1, y2, y3, y4, y5, y6, y7, y8⟩ := HYS.out
        have y0 := pw_cell_below HBM.out y0
        have y1 := pw_cell_below HBM.out y1
        have y2 := pw_cell_below HBM.out y2
        have y3 := pw_cell_below HBM.out y3
        have y4 := pw_cell_below HBM.out y4
        have y5 := pw_cell_below HBM.out y5
        have y6 := pw_cell_below HBM.out y6
        have y7 := pw_cell_below HBM.out y7
        have y8 := pw_cell_below HBM.out y8
        have HXM := Aside0.mk (And.intro (HX3.out.1.on HBM.out) (HX3.out.2.2.on HBM.out))
        have HTM := Aside0.mk (HT3.out.below HBM.out)
        have HFKM : Aside0 (Kd.FK Cell.k wm (fun i => ok i ∧ i < w.heap.size) u' (ccs u' A5 c5)) := ⟨Foot.step HFK.out (fun i _ hlt => HBM.out.block i hlt)⟩
        obtain ⟨⟨x0, x1, x2, x3, x4, x5, x6⟩, _⟩ := seven HXM.out.1
        have hab := row_block HTM.out.l j hjl
        have hab1 : (au.add (j * 9)).block < w.heap.size := by rw [blk_add]; exact hab.2
        have hab2 : au.block < w.heap.size := hab.2
        clear hab
        go_upto_region 7 with (fail)
        have x0 := fun w' (h : Only [w.heap.size + 2] wm w') => (h.cell (World.block_lt_of_cell? _ _ x0) (by simp; try omega)).trans x0
        have x1 := fun w' (h : Only [w.heap.size + 2] wm w') => (h.cell (World.block_lt_of_cell? _ _ x1) (by simp; try omega)).trans x1
        have x2 := fun w' (h : Only [w.heap.size + 2] wm w') => (h.cell (World.block_lt_of_cell? _ _ x2) (by simp; try omega)).trans x2
        have x3 := fun w' (h : Only [w.heap.size + 2] wm w') => (h.cell (World.block_lt_of_cell? _ _ x3) (by simp; try omega)).trans x3
        have x4 := fun w' (h : Only [w.heap.size + 2] wm w') => (h.cell (World.block_lt_of_cell? _ _ x4) (by simp; try omega)).trans x4
        have x5 := fun w' (h : Only [w.heap.size + 2] wm w') => (h.cell (World.block_lt_of_cell? _ _ x5) (by simp; try omega)).trans x5
        have x6 := fun w' (h : Only [w.heap.size + 2] wm w') => (h.cell (World.block_lt_of_cell? _ _ x6) (by simp; try omega)).trans x6
        have y0 := fun w' (h : Only [w.heap.size + 2] wm w') => (h.cell (World.block_lt_of_cell? _ _ y0) (by simp; try omega)).trans y0
        have y1 := fun w' (h : Only [w.heap.size + 2] wm w') => (h.cell (World.block_lt_of_cell? _ _ y1) (by simp; try omega)).trans y1
        have y2 := fun w' (h : Only [w.heap.size + 2] wm w') => (h.cell (World.block_lt_of_cell? _ _ y2) (by simp; try omega)).trans y2
        have y3 := fun w' (h : Only [w.heap.size + 2] wm w') => (h.cell (World.block_lt_of_cell? _ _ y3) (by simp; try omega)).trans y3
        have y4 := fun w' (h : Only [w.heap.size + 2] wm w') => (h.cell (World.block_lt_of_cell? _ _ y4) (by simp; try omega)).trans y4
        have y5 := fun w' (h : Only [w.heap.size + 2] wm w') => (h.cell (World.block_lt_of_cell? _ _ y5) (by simp; try omega)).trans y5
        have y6 := fun w' (h : Only [w.heap.size + 2] wm w') => (h.cell (World.block_lt_of_cell? _ _ y6) (by simp; try omega)).trans y6
        have y7 := fun w' (h : Only [w.heap.size + 2] wm w') => (h.cell (World.block_lt_of_cell? _ _ y7) (by simp; try omega)).trans y7
        have y8 := fun w' (h : Only [w.heap.size + 2] wm w') => (h.cell (World.block_lt_of_cell? _ _ y8) (by simp; try omega)).trans y8
        refine wp_region_noPanic ?_
        refine wp_region_held_drew (S := Only [w.heap.size + 2] wm) (by kernel_rfl) ((Only.refl _ _).drew) (fun hHeld => ?_)
        (refine takeH 0 46 (v := ?_) rfl rfl (by kernel_rfl) (by kernel_rfl) (by kernel_rfl) (fun _ _ _ h => h) hHeld rfl ?_ ?_; rotate_left; (focus (intro w' hSw; go_simp; try with_reducible rfl)))
        (try simp only [Act.put, List.setIfInBounds_toArray, List.set_cons_zero, List.set_cons_succ])
        (refine takeH 1 47 (v := ?_) rfl rfl (by kernel_rfl) (by kernel_rfl) (by kernel_rfl) (fun _ _ _ h => h) hHeld rfl ?_ ?_; rotate_left; (focus (intro w' hSw; go_simp; try with_reducible rfl)))
        (try simp only [Act.put, List.setIfInBounds_toArray, List.set_cons_zero, List.set_cons_succ])
        (refine takeH 2 48 (v := ?_) rfl rfl (by kernel_rfl) (by kernel_rfl) (by kernel_rfl) (fun _ _ _ h => h) hHeld rfl ?_ ?_; rotate_left; (focus (intro w' hSw; go_simp; try with_reducible rfl)))
        (try simp only [Act.put, List.setIfInBounds_toArray, List.set_cons_zero, List.set_cons_succ])
        (refine takeH 3 49 (v := ?_) rfl rfl (by kernel_rfl) (by kernel_rfl) (by kernel_rfl) (fun _ _ _ h => h) hHeld rfl ?_ ?_; rotate_left; (focus (intro w' hSw; go_simp; try with_reducible rfl)))
        (try simp only [Act.put, List.setIfInBounds_toArray, List.set_cons_zero, List.set_cons_succ])
        (refine takeH 4 50 (v := ?_) rfl rfl (by kernel_rfl) (by kernel_rfl) (by kernel_rfl) (fun _ _ _ h => h) hHeld rfl ?_ ?_; rotate_left; (focus (intro w' hSw; go_simp; try with_reducible rfl)))
        (try simp only [Act.put, List.setIfInBounds_toArray, List.set_cons_zero, List.set_cons_succ])
        (refine takeH 5 51 (v := ?_) rfl rfl (by kernel_rfl) (by kernel_rfl) (by kernel_rfl) (fun _ _ _ h => h) hHeld rfl ?_ ?_; rotate_left; (focus (intro w' hSw; go_simp; try with_reducible rfl)))
        (try simp only [Act.put, List.setIfInBounds_toArray, List.set_cons_zero, List.set_cons_succ])
        refine wpAnyH_ready (rs := [6]) (by kernel_rfl) (by simp) ?_
        refine AllReadyH.cons rfl (fun K hK => ?_) AllReadyH.nil
        go_simp
        refine (HUC.out _ (HTM.out.below (below_drew (Below.refl _ _))) (Foot.step HFKM.out (fun i _ hlt => (below_drew (Below.refl wm.heap.size wm)).block i hlt))).mono ?_
        rintro r w8 ⟨A8, c8, B8, d8, rfl, hR, hb⟩
        have HR8 := Aside0.mk hR
        have HB8 := Aside0.mk (Below.then_ (below_drew (Below.refl wm.heap.size wm)) hb (Nat.le_refl _))
        have HZ8 := Aside0.mk (HXM.out.2.on HB8.out)
        clear hR hb
        refine hK.out _ _ (Only.of_below _ HB8.out) (fun hHeld => ?_)
        clear hK K
        (try simp only [Act.put, List.setIfInBounds_toArray, List.set_cons_zero, List.set_cons_succ])
        obtain ⟨⟨r0, r1, r2, r3, r4, r5, r6⟩, g0, g1, g2, g3, g4, g5, g6⟩ := seven HZ8.out
        refine wpAnyH_ready (rs := [7]) (by kernel_rfl) (by simp) ?_
        refine AllReadyH.cons rfl (fun K hK => ?_) AllReadyH.nil
        go_simp
        refine hK.out _ _ (((((((((Only.of_below [w.heap.size + 2] HB8.out).set _ (.inl (by simp))).set _ (.inl (by simp))).set _ (.inl (by simp))).set _ (.inl (by simp))).set _ (.inl (by simp))).set _ (.inl (by simp))).set _ (.inl (by simp)))) (fun hHeld => ?_)
        clear hK K
        (try simp only [Act.put, List.setIfInBounds_toArray, List.set_cons_zero, List.set_cons_succ])
        (refine takeH 8 5 (v := ?_) rfl rfl (by kernel_rfl) (by kernel_rfl) (by kernel_rfl) (fun _ _ _ h => h) hHeld rfl ?_ ?_; rotate_left; (focus (intro w' hSw; go_simp; try with_reducible rfl)))
        (try simp only [Act.put, List.setIfInBounds_toArray, List.set_cons_zero, List.set_cons_succ])
        refine wpAnyH_done (by kernel_rfl) ?_ _
        refine NoPanic.normal ?_
        go_wp2
        have s4 := HBM.out.size
        have s8 := HB8.out.size
        have sx := HX3.out.2.2.lt
        generalize hW9 : World.setCell _ _ _ = W9
        have h9 := ret7 (W9 := W9) (Below.then_ (Below.then_ (Below.then_ HB0.out HB3.out (Nat.le_refl _)) HBM.out (Nat.le_refl _)) HB8.out (Nat.le_refl _)) HZ8.out (by omega) HR8.out (ok := ok) (fun i hi => by rcases hi with hi | hi; exact ⟨by have := hi.2; omega, .inl hi.1⟩; simp at hi; exact ⟨by omega, .inr (by omega)⟩) hW9
        clear hW9
        have H9 := Aside0.mk h9.2
        obtain ⟨z0, z1, z2, z3, z4, z5, z6⟩ := h9.1
        clear h9
        refine bodyPost_ret (v := .tuple #[.agg (rtc T8 A8 c8 B8 d8).toArray, .int .i64 0]) (by simp [results, Try.results50, go_sem, z0, z1, z2, z3, z4, z5, z6, rtc]; try rfl) rfl ?_
        unfold MadeV
        rw [HQ.out.1, HQ.out.2]
        exact ⟨A8, c8, B8, d8, rfl, H9.out.1, H9.out.2⟩
      · obtain ⟨h1, h2⟩ := HSB.out hc
        have HS3 := Aside0.mk (HS2.out h1)
        rw [h2] at HS3
        clear h1 h2
        have HYS := Aside0.mk (And.intro y0 (And.intro y1 (And.intro y2 (And.intro y3 (And.intro y4 (And.intro y5 (And.intro y6 (And.intro y7 y8))))))))
        go_upto_region 6 with (fail)
        have x4 := fun w' (h : Below w3.heap.size w3 w') => pw_cell_below h x4
        have y1 := fun w' (h : Below w3.heap.size w3 w') => pw_cell_below h y1
        have y2 := fun w' (h : Below w3.heap.size w3 w') => pw_cell_below h y2
        have y3 := fun w' (h : Below w3.heap.size w3 w') => pw_cell_below h y3
        have k1 := fun w' (h : Below w3.heap.size w3 w') => pw_cell_below h k1
        have k2 := fun w' (h : Below w3.heap.size w3 w') => pw_cell_below h k2
        have k3 := fun w' (h : Below w3.heap.size w3 w') => pw_cell_below h k3
        clear x0 x1 x2 x3 x5 x6 k0 k4 k5 y0 y4 y5 y6 y7 y8
        refine wp_region_noPanic ?_
        refine wp_region_held_drew (S := Below w3.heap.size w3) (by kernel_rfl) (below_drew (Below.refl _ _)) (fun hHeld => ?_)
        (refine takeH 0 35 (v := ?_) rfl rfl (by kernel_rfl) (by kernel_rfl) (by kernel_rfl) (fun _ _ _ h => h) hHeld rfl ?_ ?_; rotate_left; (focus (intro w' hSw; go_simp; try with_reducible rfl)))
        (try simp only [Act.put, List.setIfInBounds_toArray, List.set_cons_zero, List.set_cons_succ])
        (refine takeH 1 36 (v := ?_) rfl rfl (by kernel_rfl) (by kernel_rfl) (by kernel_rfl) (fun _ _ _ h => h) hHeld rfl ?_ ?_; rotate_left; (focus (intro w' hSw; go_simp; try with_reducible rfl)))
        (try simp only [Act.put, List.setIfInBounds_toArray, List.set_cons_zero, List.set_cons_succ])
        (refine takeH 2 37 (v := ?_) rfl rfl (by kernel_rfl) (by kernel_rfl) (by kernel_rfl) (fun _ _ _ h => h) hHeld rfl ?_ ?_; rotate_left; (focus (intro w' hSw; go_simp; try with_reducible rfl)))
        (try simp only [Act.put, List.setIfInBounds_toArray, List.set_cons_zero, List.set_cons_succ])
        (refine takeH 3 38 (v := ?_) rfl rfl (by kernel_rfl) (by kernel_rfl) (by kernel_rfl) (fun _ _ _ h => h) hHeld rfl ?_ ?_; rotate_left; (focus (intro w' hSw; go_simp; try with_reducible rfl)))
        (try simp only [Act.put, List.setIfInBounds_toArray, List.set_cons_zero, List.set_cons_succ])
        (refine takeH 4 39 (v := ?_) rfl rfl (by kernel_rfl) (by kernel_rfl) (by kernel_rfl) (fun _ _ _ h => h) hHeld rfl ?_ ?_; rotate_left; (focus (intro w' hSw; go_simp; try with_reducible rfl)))
        (try simp only [Act.put, List.setIfInBounds_toArray, List.set_cons_zero, List.set_cons_succ])
        (refine takeH 5 40 (v := ?_) rfl rfl (by kernel_rfl) (by kernel_rfl) (by kernel_rfl) (fun _ _ _ h => h) hHeld rfl ?_ ?_; rotate_left; (focus (intro w' hSw; go_simp; try with_reducible rfl)))
        (try simp only [Act.put, List.setIfInBounds_toArray, List.set_cons_zero, List.set_cons_succ])
        (refine takeH 6 41 (v := ?_) rfl rfl (by kernel_rfl) (by kernel_rfl) (by kernel_rfl) (fun _ _ _ h => h) hHeld rfl ?_ ?_; rotate_left; (focus (intro w' hSw; go_simp; try with_reducible rfl)))
        (try simp only [Act.put, List.setIfInBounds_toArray, List.set_cons_zero, List.set_cons_succ])
        (refine takeH 7 42 (v := ?_) rfl rfl (by kernel_rfl) (by kernel_rfl) (by kernel_rfl) (fun _ _ _ h => h) hHeld rfl ?_ ?_; rotate_left; (focus (intro w' hSw; go_simp; try with_reducible rfl)))
        (try simp only [Act.put, List.setIfInBounds_toArray, List.set_cons_zero, List.set_cons_succ])
        (refine takeH 8 43 (v := ?_) rfl rfl (by kernel_rfl) (by kernel_rfl) (by kernel_rfl) (fun _ _ _ h => h) hHeld rfl ?_ ?_; rotate_left; (focus (intro w' hSw; go_simp; try with_reducible rfl)))
        (try simp only [Act.put, List.setIfInBounds_toArray, List.set_cons_zero, List.set_cons_succ])
        refine wpAnyH_ready (rs := [9]) (by kernel_rfl) (by simp) ?_
        refine AllReadyH.cons rfl (fun K hK => ?_) AllReadyH.nil
        go_simp
        refine (HCM.out _).mono ?_
        rintro r wm ⟨rfl, hb⟩
        have HBM := Aside0.mk (Below.then_ (below_drew (Below.refl w3.heap.size w3)) hb (Nat.le_refl _))
        clear hb
        refine hK.out _ _ (HBM.out) (fun hHeld => ?_)
        clear hK K
        (try simp only [Act.put, List.setIfInBounds_toArray, List.set_cons_zero, List.set_cons_succ])
        (refine takeH 10 45 (v := ?_) rfl rfl (by kernel_rfl) (by kernel_rfl) (by kernel_rfl) (fun _ _ _ h => h) hHeld rfl ?_ ?_; rotate_left; (focus (intro w' hSw; go_simp; try with_reducible rfl)))
        (try simp only [Act.put, List.setIfInBounds_toArray, List.set_cons_zero, List.set_cons_succ])
        refine wpAnyH_done (by kernel_rfl) ?_ _
        refine NoPanic.normal ?_
        clear x4 y1 y2 y3 k1 k2 k3
        obtain ⟨y0, y1, y2, y3, y4, y5, y6, y7, y8⟩ := HYS.out
        have y0 := pw_cell_below HBM.out y0
        have y1 := pw_cell_below HBM.out y1
        have y2 := pw_cell_below HBM.out y2
        have y3 := pw_cell_below HBM.out y3
        have y4 := pw_cell_below HBM.out y4
        have y5 := pw_cell_below HBM.out y5
        have y6 := pw_cell_below HBM.out y6
        have y7 := pw_cell_below HBM.out y7
        have y8 := pw_cell_below HBM.out y8
        have HBMW := Aside0.mk (Below.then_ HB3.out HBM.out (Nat.le_refl _))
        obtain ⟨x0, x1, x2, x3, x4, x5, x6⟩ := (seven (HX3.out.1.on HBM.out)).1
        clear x0 x1 x2 x3 x5 x6 y0 y1 y2 y3 y4 y5 y7 y8
        go_upto_region 9 with (fail)
        clear x4 y6 HX3 HT3 HYS
        have HX3 := Aside0.mk (And.intro (HX.out.1.on HBMW.out) (And.intro (HX.out.2.1.on HBMW.out) (HX.out.2.2.on HBMW.out)))
        have HT3 := Aside0.mk (HT0.out.below HBMW.out)
        have HF3 : Aside0 (Kd.FK Entry.k wm _ _ _) := ⟨Foot.step HF0.out (fun i _ hlt => (HBMW.out).block i hlt)⟩
        obtain ⟨x0, x1, x2, x3, x4, x5, x6⟩ := (seven HX3.out.1).1
        obtain ⟨⟨k0, k1, k2, k3, k4, k5⟩, _⟩ := HX3.out.2.1.six
        have HRO3 := Aside0.mk (HRO.out _ _ _ _ wm _ HT3.out HF3.out)
        go_upto_region 10 with (first | ((with_reducible refine HRO3.out.mono ?_); rintro r w4 ⟨A4, c4, B4, d4, T4, rfl, hR, hb, hT⟩; have HR4 := Aside0.mk (And.intro hR hT); have HB4 := Aside0.mk hb; clear hR hb hT))
        generalize hX5 : World.alloc _ _ = W5
        have HB5 : Aside0 (Below w4.heap.size w4 W5) := ⟨by rw [← hX5]; exact below_alloc (Below.refl _ _) _⟩
        have HX5 : Aside0 (Blk W5 w4.heap.size (rtc T4 A4 c4 B4 d4)) := ⟨by rw [← hX5]; exact Blk.new_ _ _ _ rfl rfl⟩
        have HBW5 := Aside0.mk (Below.then_ HB4.out HB5.out (Nat.le_refl _))
        have HY5 := Aside0.mk (And.intro (HX3.out.1.on HBW5.out) (And.intro (HX3.out.2.1.on HBW5.out) (HX3.out.2.2.on HBW5.out)))
        have HT5 := Aside0.mk (HT3.out.below HBW5.out)
        have HF5 : Aside0 (Kd.FK Entry.k W5 _ _ _) := ⟨Foot.step HF3.out (fun i _ hlt => HBW5.out.block i hlt)⟩
        have HR5 := Aside0.mk (HR4.out.1.below HB5.out)
        have HBA := Aside0.mk (Below.then_ (Below.then_ HB0.out HBMW.out (Nat.le_refl _)) HBW5.out (Nat.le_refl _))
        have hs4 : (wm).heap.size ≤ w4.heap.size := HB4.out.size
        have hs5 : w.heap.size + 3 ≤ (wm).heap.size := by have := HX3.out.2.2.lt; omega
        clear hX5 x0 x1 x2 x3 x4 x5 x6 k0 k1 k2 k3 k4 k5
        obtain ⟨vb, hvb⟩ : ∃ vb, vb = (vict ⟨⟨ra, rz, rc, rd⟩, l, tok, us⟩ ⟨ek, ⟨a1, a2, a3⟩, ⟨eh, eb⟩⟩).2 := ⟨_, rfl⟩
        rw [← hvb]
        have HVB := Aside0.mk hvb
        clear hvb
        obtain ⟨⟨r0, r1, r2, r3, r4, r5, r6⟩, g0, g1, g2, g3, g4, g5, g6⟩ := seven HY5.out.2.2
        obtain ⟨⟨k0, k1, k2, k3, k4, k5⟩, _⟩ := HY5.out.2.1.six
        cases vb with
        | false =>
          have HQ := Aside0.mk (HS3.out.1 HVB.out.symm)
          obtain ⟨⟨x0, x1, x2, x3, x4, x5, x6⟩, _⟩ := seven HY5.out.1
          go_wp2
          generalize hW9 : World.setCell _ _ _ = W9
          have h9 := ret7 (W9 := W9) HBA.out HY5.out.2.2 (by omega) HT5.out (ok := ok) (fun i hi => ⟨by have := hi.2; omega, .inl hi.1⟩) hW9
          clear hW9
          have H9 := Aside0.mk h9.2
          obtain ⟨z0, z1, z2, z3, z4, z5, z6⟩ := h9.1
          clear h9
          refine bodyPost_ret (v := .tuple #[.agg #[.int .i64 ra, .int .i64 rz, .int .i64 rc, .bool rd, .slice (some au) l.length c, .slice (some ad) tok.length d, .int .i64 us], .int .i64 30]) (by simp [results, Try.results50, go_sem, z0, z1, z2, z3, z4, z5, z6]; try rfl) rfl ?_
          unfold MadeV
          rw [HQ.out.1, HQ.out.2]
          exact ⟨(some au), c, some ad, d, rfl, H9.out.1, H9.out.2⟩
        | true =>
          have hT4 := HR4.out.2 HVB.out.symm
          obtain ⟨hq1, hq2⟩ := HS3.out.2 HVB.out.symm
          rw [← hT4] at hq1
          have hmk := HMK.out HVB.out.symm
          rw [← hT4] at hmk
          obtain ⟨T8, hT8⟩ : ∃ T8, T8 = lay T4 ⟨⟨ek, ⟨a1, a2, a3⟩, ⟨eh, eb⟩⟩, u'.whole, false, 0⟩ := ⟨_, rfl⟩
          rw [← hT8] at hq1
          have HQ := Aside0.mk (And.intro hq1 hq2)
          have HUC : Aside0 (Calls Try.prog 68 #[.agg (rtc T4 A4 c4 B4 d4).toArray, .agg (ccs ⟨⟨ek, ⟨a1, a2, a3⟩, ⟨eh, eb⟩⟩, u'.whole, false, 0⟩ Ae ce).toArray] W5 (MadeT W5 _ T8)) := ⟨by
            rw [hT8]
            refine use_calls T4 A4 c4 B4 d4 ⟨⟨ek, ⟨a1, a2, a3⟩, ⟨eh, eb⟩⟩, u'.whole, false, 0⟩ Ae ce (fun i => ok i ∧ i < w.heap.size ∨ (wm).heap.size ≤ i) W5 HR5.out ?_ (by omega) (by omega)
            exact fk_cell (Foot.mono HF5.out (fun i hi => .inl hi)) _ _ izr⟩
          clear hT4 hq1 hq2 hmk hT8
          obtain ⟨⟨x0, x1, x2, x3, x4, x5, x6⟩, _⟩ := seven HX5.out
          dsimp only [ccs] at HUC
          go_wp2_with (first | ((with_reducible refine HUC.out.mono ?_); rintro r w8 ⟨A8, c8, B8, d8, rfl, hR, hb⟩; have HR8 := Aside0.mk hR; have HB8 := Aside0.mk hb; have HZ8 := Aside0.mk (HY5.out.2.2.on hb); clear hR hb r0 r1 r2 r3 r4 r5 r6 g0 g1 g2 g3 g4 g5 g6; obtain ⟨⟨r0, r1, r2, r3, r4, r5, r6⟩, g0, g1, g2, g3, g4, g5, g6⟩ := seven HZ8.out))
          have s8 := HB8.out.size
          have s5 := HX5.out.lt
          generalize hW9 : World.setCell _ _ _ = W9
          have h9 := ret7 (W9 := W9) (Below.then_ HBA.out HB8.out (Nat.le_refl _)) HZ8.out (by omega) HR8.out (ok := ok) (fun i hi => by rcases hi with (hi | hi) | hi; exact ⟨by have := hi.2; omega, .inl hi.1⟩; exact ⟨by omega, .inr (by omega)⟩; exact ⟨by omega, .inr (by omega)⟩) hW9
          clear hW9
          have H9 := Aside0.mk h9.2
          obtain ⟨z0, z1, z2, z3, z4, z5, z6⟩ := h9.1
          clear h9
          refine bodyPost_ret (v := .tuple #[.agg (rtc T8 A8 c8 B8 d8).toArray, .int .i64 0]) (by simp [results, Try.results50, go_sem, z0, z1, z2, z3, z4, z5, z6, rtc]; try rfl) rfl ?_
          unfold MadeV
          rw [HQ.out.1, HQ.out.2]
          exact ⟨A8, c8, B8, d8, rfl, H9.out.1, H9.out.2⟩
  · have HQ : Aside0 (storeT T e = T ∧ storeE T e = 2) := ⟨if_neg hE, if_neg hE⟩
    have hE' : (rgt e = 2) ∨ (rgt e = 0 ∧ e.tag.seq = 0) := by
      by_cases h1 : EntOk e
      · exact .inr ⟨rgt_ok h1, Classical.byContradiction (fun h2 => hE ⟨h1, h2⟩)⟩
      · exact .inl (rgt_no h1)
    clear hE h hw hF
    obtain ⟨⟨ra, rz, rc, rd⟩, l, tok, us⟩ := T
    obtain ⟨ek, ⟨a1, a2, a3⟩, ⟨eh, eb⟩⟩ := e
    dsimp only [rtc, ecs] at *
    obtain ⟨g, hg⟩ : ∃ g, g = rgt ⟨ek, ⟨a1, a2, a3⟩, ⟨eh, eb⟩⟩ := ⟨_, rfl⟩
    rw [← hg] at hE' HRG
    clear hg
    rcases hE' with rfl | ⟨rfl, rfl⟩
    all_goals
      go_enter Try.func50, Try.ntmps50
      go_upto_region 1 with (fail)
      generalize hX : World.alloc _ _ = W0
      have HB0 : Aside0 (Below w.heap.size w W0) := ⟨by rw [← hX]; exact below_alloc (below_alloc (below_alloc (Below.refl _ _) _) _) _⟩
      have HX : Aside0 (Blk W0 w.heap.size [.int .i64 ra, .int .i64 rz, .int .i64 rc, .bool rd, .slice A l.length c, .slice B tok.length d, .int .i64 us] ∧ Blk W0 (w.heap.size + 1) [.string ek, .int .i64 _, .int .i64 a2, .int .i64 a3, .bool eh, .slice Ae eb.length ce] ∧ Blk W0 (w.heap.size + 2) [.int .i64 0, .int .i64 0, .int .i64 0, .bool false, .slice none 0 0, .slice none 0 0, .int .i64 0]) := ⟨by rw [← hX]; exact ⟨((Blk.new_ _ _ _ rfl rfl).alloc _).alloc _, (Blk.new_ _ _ _ (by simp) rfl).alloc _, Blk.new_ _ _ _ (by simp) rfl⟩⟩
      have hs3 : w.heap.size + 3 ≤ W0.heap.size := by have := HX.out.2.2.lt; omega
      have HT0 := Aside0.mk (HT.out.below HB0.out)
      clear hX
      obtain ⟨⟨k0, k1, k2, k3, k4, k5⟩, _⟩ := HX.out.2.1.six
      go_upto_region 2 with (first | ((with_reducible refine (HRG.out _).mono ?_); rintro r w1 ⟨rfl, hb⟩; have HB1 := Aside0.mk hb; have k1 := pw_cell_below hb k1; clear hb))
      have HX1 := Aside0.mk (And.intro (HX.out.1.on HB1.out) (HX.out.2.2.on HB1.out))
      have HBW1 := Aside0.mk (Below.then_ HB0.out HB1.out (Nat.le_refl _))
      have HT1 := Aside0.mk (HT0.out.below HB1.out)
      obtain ⟨⟨x0, x1, x2, x3, x4, x5, x6⟩, _⟩ := seven HX1.out.1
      obtain ⟨⟨r0, r1, r2, r3, r4, r5, r6⟩, g0, g1, g2, g3, g4, g5, g6⟩ := seven HX1.out.2
      clear k0 k1 k2 k3 k4 k5
      go_wp2
      generalize hW9 : World.setCell _ _ _ = W9
      have h9 := ret7 (W9 := W9) HBW1.out HX1.out.2 (by omega) HT1.out (ok := ok) (fun i hi => ⟨by have := hi.2; omega, .inl hi.1⟩) hW9
      clear hW9
      have H9 := Aside0.mk h9.2
      obtain ⟨z0, z1, z2, z3, z4, z5, z6⟩ := h9.1
      clear h9
      refine bodyPost_ret (v := .tuple #[.agg #[.int .i64 ra, .int .i64 rz, .int .i64 rc, .bool rd, .slice A l.length c, .slice B tok.length d, .int .i64 us], .int .i64 2]) (by simp [results, Try.results50, go_sem, z0, z1, z2, z3, z4, z5, z6]; try rfl) rfl ?_
      unfold MadeV
      rw [HQ.out.1, HQ.out.2]
      exact ⟨A, c, B, d, rfl, H9.out.1, H9.out.2⟩
end RTab
end Go.Proofs.Ytgfjkpnaabiecaa
set_option linter.unusedVariables false
set_option linter.unusedSimpArgs false
namespace Go.Proofs.Ytgfjkpnaabiecaa
open Go.RowKit Go.Proofs.YtgfjkpnaabiecaaW.PrintWords
namespace RTab
open Tags Tab Cmp
set_option maxRecDepth 100000 in
set_option maxHeartbeats 2000000 in
theorem fillR_calls (T : Tb) (A : Option Addr) (c : Nat) (B : Option Addr) (d : Nat) (e : Entry) (Ae : Option Addr) (ce : Nat) (tk : Int) (n : Int) (ok : Nat → Prop) (w : World) (h : RT w ok T A c B d) (hw : Wf T n) (hn : n ≤ 1900000000000000000) (hF : Kd.FK Entry.k w ok e (ecs e Ae ce)) (hxl : e.val.b.length ≤ 140737488351232) :
    Calls Try.prog 51 #[.agg (rtc T A c B d).toArray, .agg (ecs e Ae ce).toArray, .int .i64 tk] w (MadeV w ok (fillT T e tk) [.bool (fillB T e tk), .int .i64 (fillE T e tk)]) := by
  have HT := Aside0.mk h.bound
  have HF := Aside0.mk (Foot.bound hF)
  have hks : e.key.size ≤ 140737488351232 := by obtain ⟨_, _, _, s0, _⟩ := Entry.open_ (Kd.FK_now hF); exact s0
  have HRG : Aside0 (∀ w', Calls Try.prog 69 #[.agg (ecs e Ae ce).toArray] w' fun r w'' => r = .returned (.int .i64 (rgt e)) ∧ Below w'.heap.size w' w'') := ⟨fun w' => rightR_calls e.key e.tag.seq e.tag.who e.tag.op e.val.has Ae ce e.val.b w' hks hxl⟩
  by_cases hE : EntOk e
  · have hEO := hE
    obtain ⟨rm1, rm2, rm3, rm4, rm5, rm6⟩ := hw.rm
    obtain ⟨b0, b1⟩ := Hash.bkt_bd e.key rm5
    obtain ⟨i, hi⟩ : ∃ i : Nat, Hash.bkt e.key T.room.buckets = (i : Int) := ⟨_, (Int.toNat_of_nonneg b0).symm⟩
    have htl := hw.tl
    have hil : i < T.tok.length := by rw [hi] at b1; omega
    obtain ⟨x, hx⟩ : ∃ x, T.tok[i]? = some x := ⟨_, List.getElem?_eq_getElem hil⟩
    have HX0 : Aside0 (tokAt T e.key = x) := ⟨by unfold tokAt; rw [hi, Int.toNat_natCast, List.getD_eq_getElem?_getD, hx]; rfl⟩
    have HXI := Aside0.mk hx
    have HBK : Aside0 (∀ A c B d w', Calls Try.prog 66 #[.agg (rtc T A c B d).toArray, .string e.key] w' fun r w'' => r = .returned (.int .i64 (i : Int)) ∧ Below w'.heap.size w' w'') := ⟨fun A c B d w' => by
      have := bucketR_calls T A c B d e.key w' hks rm5 rm6
      rw [hi] at this
      exact this⟩
    obtain ⟨fi, hfi⟩ : ∃ fi, fi = findI T.l e.key := ⟨_, rfl⟩
    have HFN : Aside0 (∀ A c B d w', Cell.k.C w' A T.l.length T.l → Calls Try.prog 67 #[.agg (rtc T A c B d).toArray, .string e.key] w' fun r w'' => r = .returned (.int .i64 fi) ∧ Below w'.heap.size w' w'') := ⟨fun A c B d w' h => by rw [hfi]; exact find_calls T A c B d e.key w' h⟩
    have HFI : Aside0 ((fi = -1 ∧ find T.l e.key = none) ∨ ∃ j u, fi = ((j : Nat) : Int) ∧ T.l[j]? = some u ∧ find T.l e.key = some u) := ⟨by
      rw [hfi]
      rcases hf : find T.l e.key with _ | u
      · exact .inl ⟨findI_none hf, rfl⟩
      · exact .inr ⟨_, u, findI_some hf, (idx_some hf).2, rfl⟩⟩
    have hTl : T.l.length ≤ 4096 := by have h1 := hw.len; omega
    have HUS : Aside0 (0 ≤ T.uses ∧ T.uses ≤ 4000000000000000000) := ⟨by have := hw.us; omega⟩
    have HRO : Aside0 (∀ A c B d w' okx, RT w' okx T A c B d → Kd.FK Entry.k w' okx e (ecs e Ae ce) → Calls Try.prog 70 #[.agg (rtc T A c B d).toArray, .agg (ecs e Ae ce).toArray] w' (RoomTold w' okx T e)) := ⟨fun A c B d w' okx h1 h2 => room_calls e Ae ce hEO (T.l.length + 1) T A c B d n okx w' h1 hw (by omega) (by omega) h2⟩
    have HMK : Aside0 ((vict T e).2 = true → (drops T (vict T e).1).l.length ≤ 1000000 ∧ 0 ≤ (drops T (vict T e).1).uses ∧ (drops T (vict T e).1).uses ≤ 4000000000000000000) := ⟨fun hv => by
      have h1 := hw.make_ hEO (if_pos hv) true true 0
      have h2 : makeT T e = drops T (vict T e).1 := if_pos hv
      rw [h2] at h1
      have h3 := h1.1.len
      have h4 := h1.1.rm.2.1
      have h5 := h1.1.us
      exact ⟨by omega, by omega, by omega⟩⟩
    have HS0 : Aside0 (x ≠ tk → fillT T e tk = T ∧ fillB T e tk = false ∧ fillE T e tk = 0) := ⟨fun h => by
      have hn : ¬ (EntOk e ∧ tokAt T e.key = tk) := fun h2 => h (HX0.out ▸ h2.2)
      exact ⟨if_neg hn, if_neg hn, (if_pos hEO).trans (if_neg (fun h2 => h (HX0.out ▸ h2)))⟩⟩
    have HS1 : Aside0 (∀ u, x = tk → find T.l e.key = some u → 0 < cmpT u.e.tag e.tag → fillT T e tk = lay T { u with whole := true } ∧ fillB T e tk = true ∧ fillE T e tk = 0) := ⟨fun u h0 h1 h2 => by
      have h3 : fillOld T e = some u := by unfold fillOld; rw [h1]; exact if_pos h2
      have hp : EntOk e ∧ tokAt T e.key = tk := ⟨hEO, HX0.out.trans h0⟩
      exact ⟨(if_pos hp).trans (by rw [h3]), (if_pos hp).trans (by rw [h3]), (if_pos hEO).trans ((if_pos hp.2).trans (by rw [h3]))⟩⟩
    have HS2 : Aside0 (x = tk → fillOld T e = none → ((vict T e).2 = false → fillT T e tk = T ∧ fillB T e tk = false ∧ fillE T e tk = 30) ∧ ((vict T e).2 = true → fillT T e tk = lay (drops T (vict T e).1) ⟨e, true, true, 0⟩ ∧ fillB T e tk = true ∧ fillE T e tk = 0)) := ⟨fun h0 h3 => by
      have hp : EntOk e ∧ tokAt T e.key = tk := ⟨hEO, HX0.out.trans h0⟩
      constructor
      · intro h
        have hm : makeE T e = 30 := if_neg (by rw [h]; decide)
        exact ⟨(if_pos hp).trans (by rw [h3]; exact if_neg (by rw [hm]; decide)), (if_pos hp).trans (by rw [h3, hm]; rfl), (if_pos hEO).trans ((if_pos hp.2).trans (by rw [h3]; exact hm))⟩
      · intro h
        have hm : makeE T e = 0 := if_pos h
        exact ⟨(if_pos hp).trans (by rw [h3]; refine (if_pos hm).trans ?_; rw [show makeT T e = drops T (vict T e).1 from if_pos h]), (if_pos hp).trans (by rw [h3, hm]; rfl), (if_pos hEO).trans ((if_pos hp.2).trans (by rw [h3]; exact hm))⟩⟩
    have HO1 : Aside0 (find T.l e.key = none → fillOld T e = none) := ⟨fun h1 => by unfold fillOld; rw [h1]; rfl⟩
    have HO2 : Aside0 (∀ u, find T.l e.key = some u → ¬ 0 < cmpT u.e.tag e.tag → fillOld T e = none) := ⟨fun u h1 h2 => by unfold fillOld; rw [h1]; exact if_neg h2⟩
    rw [rgt_ok hEO] at HRG
    clear hfi h hw hF hE hEO rm1 rm2 rm3 rm4 rm5 rm6 b0 b1 hi htl hx
    obtain ⟨⟨ra, rz, rc, rd⟩, l, tok, us⟩ := T
    obtain ⟨ek, ⟨a1, a2, a3⟩, ⟨eh, eb⟩⟩ := e
    dsimp only [rtc, ecs] at *
    go_enter Try.func51, Try.ntmps51
    go_upto_region 1 with (fail)
    generalize hX : World.alloc _ _ = W0
    have HB0 : Aside0 (Below w.heap.size w W0) := ⟨by rw [← hX]; exact below_alloc (below_alloc (below_alloc (Below.refl _ _) _) _) _⟩
    have HX : Aside0 (Blk W0 w.heap.size [.int .i64 ra, .int .i64 rz, .int .i64 rc, .bool rd, .slice A l.length c, .slice B tok.length d, .int .i64 us] ∧ Blk W0 (w.heap.size + 1) [.string ek, .int .i64 a1, .int .i64 a2, .int .i64 a3, .bool eh, .slice Ae eb.length ce] ∧ Blk W0 (w.heap.size + 2) [.int .i64 0, .int .i64 0, .int .i64 0, .bool false, .slice none 0 0, .slice none 0 0, .int .i64 0]) := ⟨by rw [← hX]; exact ⟨((Blk.new_ _ _ _ rfl rfl).alloc _).alloc _, (Blk.new_ _ _ _ (by simp) rfl).alloc _, Blk.new_ _ _ _ (by simp) rfl⟩⟩
    have hs3 : w.heap.size + 3 ≤ W0.heap.size := by have := HX.out.2.2.lt; omega
    have HT0 := Aside0.mk (HT.out.below HB0.out)
    have HF0 : Aside0 (Kd.FK Entry.k W0 _ _ _) := ⟨Foot.step HF.out (fun i _ hlt => HB0.out.block i hlt)⟩
    clear hX
    obtain ⟨⟨k0, k1, k2, k3, k4, k5⟩, _⟩ := HX.out.2.1.six
    go_upto_region 3 with (first | ((with_reducible refine (HRG.out _).mono ?_); rintro r w1 ⟨rfl, hb⟩; have HB1 := Aside0.mk hb; have k1 := pw_cell_below hb k1; clear hb))
    have HX1 := Aside0.mk (And.intro (HX.out.1.on HB1.out) (HX.out.2.1.on HB1.out))
    have HT1 := Aside0.mk (HT0.out.below HB1.out)
    clear k0 k1 k2 k3 k4 k5
    obtain ⟨⟨x0, x1, x2, x3, x4, x5, x6⟩, _⟩ := seven HX1.out.1
    obtain ⟨⟨k0, k1, k2, k3, k4, k5⟩, _⟩ := HX1.out.2.six
    obtain ⟨ad, x', rfl, HXI', t0, _⟩ := int_at (Kd.F_now HT1.out.k) i hil
    obtain rfl : x' = x := Option.some.inj (HXI'.out.symm.trans HXI.out)
    have i0 : (0 : Int) ≤ (i : Int) := by omega
    have i1 : (i : Int) < (tok.length : Int) := by omega
    have x0 := fun w' (h : Below w1.heap.size w1 w') => pw_cell_below h x0
    have x1 := fun w' (h : Below w1.heap.size w1 w') => pw_cell_below h x1
    have x2 := fun w' (h : Below w1.heap.size w1 w') => pw_cell_below h x2
    have x3 := fun w' (h : Below w1.heap.size w1 w') => pw_cell_below h x3
    have x4 := fun w' (h : Below w1.heap.size w1 w') => pw_cell_below h x4
    have x5 := fun w' (h : Below w1.heap.size w1 w') => pw_cell_below h x5
    have x6 := fun w' (h : Below w1.heap.size w1 w') => pw_cell_below h x6
    have k0 := fun w' (h : Below w1.heap.size w1 w') => pw_cell_below h k0
    have t0 := fun w' (h : Below w1.heap.size w1 w') => pw_cell_below h t0
    refine wp_region_noPanic ?_
    refine wp_region_held_drew (S := Below w1.heap.size w1) (by kernel_rfl) (below_drew (Below.refl _ _)) (fun hHeld => ?_)
    (refine takeH 0 17 (v := ?_) rfl rfl (by kernel_rfl) (by kernel_rfl) (by kernel_rfl) (fun _ _ _ h => h) hHeld rfl ?_ ?_; rotate_left; (focus (intro w' hSw; go_simp; try with_reducible rfl)))
    (try simp only [Act.put, List.setIfInBounds_toArray, List.set_cons_zero, List.set_cons_succ])
    (refine takeH 1 18 (v := ?_) rfl rfl (by kernel_rfl) (by kernel_rfl) (by kernel_rfl) (fun _ _ _ h => h) hHeld rfl ?_ ?_; rotate_left; (focus (intro w' hSw; go_simp; try with_reducible rfl)))
    (try simp only [Act.put, List.setIfInBounds_toArray, List.set_cons_zero, List.set_cons_succ])
    (refine takeH 2 19 (v := ?_) rfl rfl (by kernel_rfl) (by kernel_rfl) (by kernel_rfl) (fun _ _ _ h => h) hHeld rfl ?_ ?_; rotate_left; (focus (intro w' hSw; go_simp; try with_reducible rfl)))
    (try simp only [Act.put, List.setIfInBounds_toArray, List.set_cons_zero, List.set_cons_succ])
    (refine takeH 3 20 (v := ?_) rfl rfl (by kernel_rfl) (by kernel_rfl) (by kernel_rfl) (fun _ _ _ h => h) hHeld rfl ?_ ?_; rotate_left; (focus (intro w' hSw; go_simp; try with_reducible rfl)))
    (try simp only [Act.put, List.setIfInBounds_toArray, List.set_cons_zero, List.set_cons_succ])
    (refine takeH 4 21 (v := ?_) rfl rfl (by kernel_rfl) (by kernel_rfl) (by kernel_rfl) (fun _ _ _ h => h) hHeld rfl ?_ ?_; rotate_left; (focus (intro w' hSw; go_simp; try with_reducible rfl)))
    (try simp only [Act.put, List.setIfInBounds_toArray, List.set_cons_zero, List.set_cons_succ])
    (refine takeH 8 25 (v := ?_) rfl rfl (by kernel_rfl) (by kernel_rfl) (by kernel_rfl) (fun _ _ _ h => h) hHeld rfl ?_ ?_; rotate_left; (focus (intro w' hSw; go_simp; try with_reducible rfl)))
    (try simp only [Act.put, List.setIfInBounds_toArray, List.set_cons_zero, List.set_cons_succ])
    refine wpAnyH_ready (rs := [5]) (by kernel_rfl) (by simp) ?_
    refine AllReadyH.cons rfl (fun K hK => ?_) AllReadyH.nil
    go_simp
    refine (HBK.out _ _ _ _ _).mono ?_
    rintro e w3 ⟨rfl, h1⟩
    have H3 := Aside0.mk (Below.then_ (below_drew (Below.refl w1.heap.size w1)) h1 (Nat.le_refl _))
    clear h1
    refine hK.out _ _ (H3.out) (fun hHeld => ?_)
    clear hK K
    (try simp only [Act.put, List.setIfInBounds_toArray, List.set_cons_zero, List.set_cons_succ])
    (refine takeH 6 23 (v := ?_) rfl rfl (by kernel_rfl) (by kernel_rfl) (by kernel_rfl) (fun _ _ _ h => h) hHeld rfl ?_ ?_; rotate_left; (focus (intro w' hSw; go_simp; try with_reducible rfl)))
    (try simp only [Act.put, List.setIfInBounds_toArray, List.set_cons_zero, List.set_cons_succ])
    (refine takeH 7 24 (v := ?_) rfl rfl (by kernel_rfl) (by kernel_rfl) (by kernel_rfl) (fun _ _ _ h => h) hHeld rfl ?_ ?_; rotate_left; (focus (intro w' hSw; go_simp; try with_reducible rfl)))
    (try simp only [Act.put, List.setIfInBounds_toArray, List.set_cons_zero, List.set_cons_succ])
    (refine takeH 9 26 (v := ?_) rfl rfl (by kernel_rfl) (by kernel_rfl) (by kernel_rfl) (fun _ _ _ h => h) hHeld rfl ?_ ?_; rotate_left; (focus (intro w' hSw; go_simp; try with_reducible rfl)))
    (try simp only [Act.put, List.setIfInBounds_toArray, List.set_cons_zero, List.set_cons_succ])
    refine wpAnyH_done (by kernel_rfl) ?_ _
    refine NoPanic.normal ?_
    have HB3 := Aside0.mk (Below.then_ HB1.out H3.out (Nat.le_refl _))
    have HX3 := Aside0.mk (And.intro (HX.out.1.on HB3.out) (And.intro (HX.out.2.1.on HB3.out) (HX.out.2.2.on HB3.out)))
    have HT3 := Aside0.mk (HT0.out.below HB3.out)
    clear x0 x1 x2 x3 x4 x5 x6 k0 k1 k2 k3 k4 k5 t0
    obtain ⟨⟨x0, x1, x2, x3, x4, x5, x6⟩, _⟩ := seven HX3.out.1
    by_cases htk : x' = tk
    · have hb1 : (x' != tk) = false := by rw [htk]; simp
      have HS2 := Aside0.mk (HS2.out htk)
      have HS1 : Aside0 (∀ u, find l ek = some u → 0 < cmpT u.e.tag ⟨a1, a2, a3⟩ → fillT _ _ tk = lay _ { u with whole := true } ∧ fillB _ _ tk = true ∧ fillE _ _ tk = 0) := ⟨fun u h1 h2 => HS1.out u htk h1 h2⟩
      clear htk
      obtain ⟨⟨k0, k1, k2, k3, k4, k5⟩, _⟩ := HX3.out.2.1.six
      go_upto_region 6 with (first | ((with_reducible refine (HFN.out _ _ _ _ _ (Kd.F_now HT3.out.l)).mono ?_); rintro r w2 ⟨rfl, hb⟩; have HB2 := Aside0.mk (Below.then_ HB3.out hb (Nat.le_refl _)); clear hb))
      have HX2 := Aside0.mk (And.intro (HX.out.1.on HB2.out) (And.intro (HX.out.2.1.on HB2.out) (HX.out.2.2.on HB2.out)))
      have HT2 := Aside0.mk (HT0.out.below HB2.out)
      clear x0 x1 x2 x3 x4 x5 x6 k0 k1 k2 k3 k4 k5
      rcases HFI.out with ⟨rfl, hf⟩ | ⟨j, u, rfl, hj, hf⟩
      · have HS3 := Aside0.mk (HS2.out (HO1.out hf))
        clear hf
        refine wp_region_noPanic ?_
        refine wp_region_held_drew (S := Below w2.heap.size w2) (by kernel_rfl) (below_drew (Below.refl _ _)) (fun hHeld => ?_)
        (refine takeH 0 32 (v := ?_) rfl rfl (by kernel_rfl) (by kernel_rfl) (by kernel_rfl) (fun _ _ _ h => h) hHeld rfl ?_ ?_; rotate_left; (focus (intro w' hSw; go_simp; try with_reducible rfl)))
        (try simp only [Act.put, List.setIfInBounds_toArray, List.set_cons_zero, List.set_cons_succ])
        (refine takeH 1 33 (v := ?_) rfl rfl (by kernel_rfl) (by kernel_rfl) (by kernel_rfl) (fun _ _ _ h => h) hHeld rfl ?_ ?_; rotate_left; (focus (intro w' hSw; go_simp; try with_reducible rfl)))
        (try simp only [Act.put, List.setIfInBounds_toArray, List.set_cons_zero, List.set_cons_succ])
        (refine takeH 2 34 (v := ?_) rfl rfl (by kernel_rfl) (by kernel_rfl) (by kernel_rfl) (fun _ _ _ h => h) hHeld rfl ?_ ?_; rotate_left; (focus (intro w' hSw; go_simp; try with_reducible rfl)))
        (try simp only [Act.put, List.setIfInBounds_toArray, List.set_cons_zero, List.set_cons_succ])
        (first | (refine skipH 3 35 rfl rfl (by kernel_rfl) (by kernel_rfl) (by kernel_rfl) (fun _ _ _ h => h) hHeld rfl ?_) | (refine takeH 3 35 (v := ?_) rfl rfl (by kernel_rfl) (by kernel_rfl) (by kernel_rfl) (fun _ _ _ h => h) hHeld rfl ?_ ?_; rotate_left; (focus (intro w' hSw; go_simp; try with_reducible rfl))))
        (try simp only [Act.put, List.setIfInBounds_toArray, List.set_cons_zero, List.set_cons_succ])
        (first | (refine skipH 4 36 rfl rfl (by kernel_rfl) (by kernel_rfl) (by kernel_rfl) (fun _ _ _ h => h) hHeld rfl ?_) | (refine takeH 4 36 (v := ?_) rfl rfl (by kernel_rfl) (by kernel_rfl) (by kernel_rfl) (fun _ _ _ h => h) hHeld rfl ?_ ?_; rotate_left; (focus (intro w' hSw; go_simp; try with_reducible rfl))))
        (try simp only [Act.put, List.setIfInBounds_toArray, List.set_cons_zero, List.set_cons_succ])
        (first | (refine skipH 5 37 rfl rfl (by kernel_rfl) (by kernel_rfl) (by kernel_rfl) (fun _ _ _ h => h) hHeld rfl ?_) | (refine takeH 5 37 (v := ?_) rfl rfl (by kernel_rfl) (by kernel_rfl) (by kernel_rfl) (fun _ _ _ h => h) hHeld rfl ?_ ?_; rotate_left; (focus (intro w' hSw; go_simp; try with_reducible rfl))))
        (try simp only [Act.put, List.setIfInBounds_toArray, List.set_cons_zero, List.set_cons_succ])
        (first | (refine skipH 6 38 rfl rfl (by kernel_rfl) (by kernel_rfl) (by kernel_rfl) (fun _ _ _ h => h) hHeld rfl ?_) | (refine takeH 6 38 (v := ?_) rfl rfl (by kernel_rfl) (by kernel_rfl) (by kernel_rfl) (fun _ _ _ h => h) hHeld rfl ?_ ?_; rotate_left; (focus (intro w' hSw; go_simp; try with_reducible rfl))))
        (try simp only [Act.put, List.setIfInBounds_toArray, List.set_cons_zero, List.set_cons_succ])
        (first | (refine skipH 7 39 rfl rfl (by kernel_rfl) (by kernel_rfl) (by kernel_rfl) (fun _ _ _ h => h) hHeld rfl ?_) | (refine takeH 7 39 (v := ?_) rfl rfl (by kernel_rfl) (by kernel_rfl) (by kernel_rfl) (fun _ _ _ h => h) hHeld rfl ?_ ?_; rotate_left; (focus (intro w' hSw; go_simp; try with_reducible rfl))))
        (try simp only [Act.put, List.setIfInBounds_toArray, List.set_cons_zero, List.set_cons_succ])
        (first | (refine skipH 8 40 rfl rfl (by kernel_rfl) (by kernel_rfl) (by kernel_rfl) (fun _ _ _ h => h) hHeld rfl ?_) | (refine takeH 8 40 (v := ?_) rfl rfl (by kernel_rfl) (by kernel_rfl) (by kernel_rfl) (fun _ _ _ h => h) hHeld rfl ?_ ?_; rotate_left; (focus (intro w' hSw; go_simp; try with_reducible rfl))))
        (try simp only [Act.put, List.setIfInBounds_toArray, List.set_cons_zero, List.set_cons_succ])
        (first | (refine skipH 9 41 rfl rfl (by kernel_rfl) (by kernel_rfl) (by kernel_rfl) (fun _ _ _ h => h) hHeld rfl ?_) | (refine takeH 9 41 (v := ?_) rfl rfl (by kernel_rfl) (by kernel_rfl) (by kernel_rfl) (fun _ _ _ h => h) hHeld rfl ?_ ?_; rotate_left; (focus (intro w' hSw; go_simp; try with_reducible rfl))))
        (try simp only [Act.put, List.setIfInBounds_toArray, List.set_cons_zero, List.set_cons_succ])
        (first | (refine skipH 10 42 rfl rfl (by kernel_rfl) (by kernel_rfl) (by kernel_rfl) (fun _ _ _ h => h) hHeld rfl ?_) | (refine takeH 10 42 (v := ?_) rfl rfl (by kernel_rfl) (by kernel_rfl) (by kernel_rfl) (fun _ _ _ h => h) hHeld rfl ?_ ?_; rotate_left; (focus (intro w' hSw; go_simp; try with_reducible rfl))))
        (try simp only [Act.put, List.setIfInBounds_toArray, List.set_cons_zero, List.set_cons_succ])
        (first | (refine skipH 11 43 rfl rfl (by kernel_rfl) (by kernel_rfl) (by kernel_rfl) (fun _ _ _ h => h) hHeld rfl ?_) | (refine takeH 11 43 (v := ?_) rfl rfl (by kernel_rfl) (by kernel_rfl) (by kernel_rfl) (fun _ _ _ h => h) hHeld rfl ?_ ?_; rotate_left; (focus (intro w' hSw; go_simp; try with_reducible rfl))))
        (try simp only [Act.put, List.setIfInBounds_toArray, List.set_cons_zero, List.set_cons_succ])
        (first | (refine skipH 12 44 rfl rfl (by kernel_rfl) (by kernel_rfl) (by kernel_rfl) (fun _ _ _ h => h) hHeld rfl ?_) | (refine takeH 12 44 (v := ?_) rfl rfl (by kernel_rfl) (by kernel_rfl) (by kernel_rfl) (fun _ _ _ h => h) hHeld rfl ?_ ?_; rotate_left; (focus (intro w' hSw; go_simp; try with_reducible rfl))))
        (try simp only [Act.put, List.setIfInBounds_toArray, List.set_cons_zero, List.set_cons_succ])
        (first | (refine skipH 13 45 rfl rfl (by kernel_rfl) (by kernel_rfl) (by kernel_rfl) (fun _ _ _ h => h) hHeld rfl ?_) | (refine takeH 13 45 (v := ?_) rfl rfl (by kernel_rfl) (by kernel_rfl) (by kernel_rfl) (fun _ _ _ h => h) hHeld rfl ?_ ?_; rotate_left; (focus (intro w' hSw; go_simp; try with_reducible rfl))))
        (try simp only [Act.put, List.setIfInBounds_toArray, List.set_cons_zero, List.set_cons_succ])
        (refine takeH 14 46 (v := ?_) rfl rfl (by kernel_rfl) (by kernel_rfl) (by kernel_rfl) (fun _ _ _ h => h) hHeld rfl ?_ ?_; rotate_left; (focus (intro w' hSw; go_simp; try with_reducible rfl)))
        (try simp only [Act.put, List.setIfInBounds_toArray, List.set_cons_zero, List.set_cons_succ])
        refine wpAnyH_done (by kernel_rfl) ?_ _
        refine NoPanic.normal ?_
        have HB2D := Aside0.mk (Below.then_ HB2.out (below_drew (Below.refl w2.heap.size w2)) (Nat.le_refl _))
        go_upto_region 10 with (fail)
        clear HX3 HT3
        have HX3 := Aside0.mk (And.intro (HX.out.1.on HB2D.out) (And.intro (HX.out.2.1.on HB2D.out) (HX.out.2.2.on HB2D.out)))
        have HT3 := Aside0.mk (HT0.out.below HB2D.out)
        have HF3 : Aside0 (Kd.FK Entry.k (World.drew w2) _ _ _) := ⟨Foot.step HF0.out (fun i _ hlt => (HB2D.out).block i hlt)⟩
        obtain ⟨x0, x1, x2, x3, x4, x5, x6⟩ := (seven HX3.out.1).1
        obtain ⟨⟨k0, k1, k2, k3, k4, k5⟩, _⟩ := HX3.out.2.1.six
        have HRO3 := Aside0.mk (HRO.out _ _ _ _ (World.drew w2) _ HT3.out HF3.out)
        go_upto_region 11 with (first | ((with_reducible refine HRO3.out.mono ?_); rintro r w4 ⟨A4, c4, B4, d4, T4, rfl, hR, hb, hT⟩; have HR4 := Aside0.mk (And.intro hR hT); have HB4 := Aside0.mk hb; clear hR hb hT))
        generalize hX5 : World.alloc _ _ = W5
        have HB5 : Aside0 (Below w4.heap.size w4 W5) := ⟨by rw [← hX5]; exact below_alloc (Below.refl _ _) _⟩
        have HX5 : Aside0 (Blk W5 w4.heap.size (rtc T4 A4 c4 B4 d4)) := ⟨by rw [← hX5]; exact Blk.new_ _ _ _ rfl rfl⟩
        have HBW5 := Aside0.mk (Below.then_ HB4.out HB5.out (Nat.le_refl _))
        have HY5 := Aside0.mk (And.intro (HX3.out.1.on HBW5.out) (And.intro (HX3.out.2.1.on HBW5.out) (HX3.out.2.2.on HBW5.out)))
        have HT5 := Aside0.mk (HT3.out.below HBW5.out)
        have HF5 : Aside0 (Kd.FK Entry.k W5 _ _ _) := ⟨Foot.step HF3.out (fun i _ hlt => HBW5.out.block i hlt)⟩
        have HR5 := Aside0.mk (HR4.out.1.below HB5.out)
        have HBA := Aside0.mk (Below.then_ (Below.then_ HB0.out HB2D.out (Nat.le_refl _)) HBW5.out (Nat.le_refl _))
        have hs4 : ((World.drew w2)).heap.size ≤ w4.heap.size := HB4.out.size
        have hs5 : w.heap.size + 3 ≤ ((World.drew w2)).heap.size := by have := HX3.out.2.2.lt; omega
        clear hX5 x0 x1 x2 x3 x4 x5 x6 k0 k1 k2 k3 k4 k5
        obtain ⟨vb, hvb⟩ : ∃ vb, vb = (vict ⟨⟨ra, rz, rc, rd⟩, l, tok, us⟩ ⟨ek, ⟨a1, a2, a3⟩, ⟨eh, eb⟩⟩).2 := ⟨_, rfl⟩
        rw [← hvb]
        have HVB := Aside0.mk hvb
        clear hvb
        obtain ⟨⟨r0, r1, r2, r3, r4, r5, r6⟩, g0, g1, g2, g3, g4, g5, g6⟩ := seven HY5.out.2.2
        obtain ⟨⟨k0, k1, k2, k3, k4, k5⟩, _⟩ := HY5.out.2.1.six
        cases vb with
        | false =>
          have HQ := Aside0.mk (HS3.out.1 HVB.out.symm)
          obtain ⟨⟨x0, x1, x2, x3, x4, x5, x6⟩, _⟩ := seven HY5.out.1
          go_wp2
          generalize hW9 : World.setCell _ _ _ = W9
          have h9 := ret7 (W9 := W9) HBA.out HY5.out.2.2 (by omega) HT5.out (ok := ok) (fun i hi => ⟨by have := hi.2; omega, .inl hi.1⟩) hW9
          clear hW9
          have H9 := Aside0.mk h9.2
          obtain ⟨z0, z1, z2, z3, z4, z5, z6⟩ := h9.1
          clear h9
          refine bodyPost_ret (v := .tuple #[.agg #[.int .i64 ra, .int .i64 rz, .int .i64 rc, .bool rd, .slice A l.length c, .slice (some ad) tok.length d, .int .i64 us], .bool false, .int .i64 30]) (by simp [results, Try.results51, go_sem, z0, z1, z2, z3, z4, z5, z6]; try rfl) rfl ?_
          unfold MadeV
          rw [HQ.out.1, HQ.out.2.1, HQ.out.2.2]
          exact ⟨A, c, some ad, d, rfl, H9.out.1, H9.out.2⟩
        | true =>
          have hT4 := HR4.out.2 HVB.out.symm
          obtain ⟨hq1, hq2⟩ := HS3.out.2 HVB.out.symm
          rw [← hT4] at hq1
          have hmk := HMK.out HVB.out.symm
          rw [← hT4] at hmk
          obtain ⟨T8, hT8⟩ : ∃ T8, T8 = lay T4 ⟨⟨ek, ⟨a1, a2, a3⟩, ⟨eh, eb⟩⟩, true, true, 0⟩ := ⟨_, rfl⟩
          rw [← hT8] at hq1
          have HQ := Aside0.mk (And.intro hq1 hq2)
          have HUC : Aside0 (Calls Try.prog 68 #[.agg (rtc T4 A4 c4 B4 d4).toArray, .agg (ccs ⟨⟨ek, ⟨a1, a2, a3⟩, ⟨eh, eb⟩⟩, true, true, 0⟩ Ae ce).toArray] W5 (MadeT W5 _ T8)) := ⟨by
            rw [hT8]
            refine use_calls T4 A4 c4 B4 d4 ⟨⟨ek, ⟨a1, a2, a3⟩, ⟨eh, eb⟩⟩, true, true, 0⟩ Ae ce (fun i => ok i ∧ i < w.heap.size ∨ ((World.drew w2)).heap.size ≤ i) W5 HR5.out ?_ (by omega) (by omega)
            exact fk_cell (Foot.mono HF5.out (fun i hi => .inl hi)) _ _ izr⟩
          clear hT4 hq1 hq2 hmk hT8
          obtain ⟨⟨x0, x1, x2, x3, x4, x5, x6⟩, _⟩ := seven HX5.out
          dsimp only [ccs] at HUC
          go_wp2_with (first | ((with_reducible refine HUC.out.mono ?_); rintro r w8 ⟨A8, c8, B8, d8, rfl, hR, hb⟩; have HR8 := Aside0.mk hR; have HB8 := Aside0.mk hb; have HZ8 := Aside0.mk (HY5.out.2.2.on hb); clear hR hb r0 r1 r2 r3 r4 r5 r6 g0 g1 g2 g3 g4 g5 g6; obtain ⟨⟨r0, r1, r2, r3, r4, r5, r6⟩, g0, g1, g2, g3, g4, g5, g6⟩ := seven HZ8.out))
          have s8 := HB8.out.size
          have s5 := HX5.out.lt
          generalize hW9 : World.setCell _ _ _ = W9
          have h9 := ret7 (W9 := W9) (Below.then_ HBA.out HB8.out (Nat.le_refl _)) HZ8.out (by omega) HR8.out (ok := ok) (fun i hi => by rcases hi with (hi | hi) | hi; exact ⟨by have := hi.2; omega, .inl hi.1⟩; exact ⟨by omega, .inr (by omega)⟩; exact ⟨by omega, .inr (by omega)⟩) hW9
          clear hW9
          have H9 := Aside0.mk h9.2
          obtain ⟨z0, z1, z2, z3, z4, z5, z6⟩ := h9.1
          clear h9
          refine bodyPost_ret (v := .tuple #[.agg (rtc T8 A8 c8 B8 d8).toArray, .bool true, .int .i64 0]) (by simp [results, Try.results51, go_sem, z0, z1, z2, z3, z4, z5, z6, rtc]; try rfl) rfl ?_
          unfold MadeV
          rw [HQ.out.1, HQ.out.2.1, HQ.out.2.2]
          exact ⟨A8, c8, B8, d8, rfl, H9.out.1, H9.out.2⟩
      · have hjl : j < l.length := (List.getElem?_eq_some_iff.1 hj).1
        have hjI : (j : Int) < (l.length : Int) := by omega
        obtain ⟨au, u', A5, c5, rfl, HU', y0, y1, y2, y3, y4, y5, y6, y7, y8, HFK⟩ := RTab.cell_at HT2.out.l (Below.refl _ _) j hjl
        obtain rfl : u' = u := Option.some.inj (HU'.out.symm.trans hj)
        obtain ⟨cv, hcv⟩ : ∃ cv, cv = cmpT u'.e.tag ⟨a1, a2, a3⟩ := ⟨_, rfl⟩
        have HCM : Aside0 (∀ w', Calls Try.prog 14 #[.agg #[.int .i64 u'.e.tag.seq, .int .i64 u'.e.tag.who, .int .i64 u'.e.tag.op], .agg #[.int .i64 a1, .int .i64 a2, .int .i64 a3]] w' fun r w'' => r = .returned (.int .i64 cv) ∧ Below w'.heap.size w' w'') := ⟨fun w' => by rw [hcv]; exact compareR_calls u'.e.tag ⟨a1, a2, a3⟩ w'⟩
        have HSA : Aside0 (0 < cv → fillT _ _ tk = lay _ { u' with whole := true } ∧ fillB _ _ tk = true ∧ fillE _ _ tk = 0) := ⟨fun h => HS1.out u' hf (hcv ▸ h)⟩
        have HSB : Aside0 (¬ 0 < cv → fillOld _ _ = none) := ⟨fun h => HO2.out u' hf (by rw [← hcv]; omega)⟩
        have HUR : Aside0 (InR .i64 u'.used) := ⟨by obtain ⟨_, _, _, _, _, _, _, _, _, r8⟩ := Cell.open_ (Kd.FK_now HFK.out); exact r8⟩
        clear hf hj hcv
        obtain ⟨⟨x0, x1, x2, x3, x4, x5, x6⟩, _⟩ := seven HX2.out.1
        obtain ⟨⟨k0, k1, k2, k3, k4, k5⟩, _⟩ := HX2.out.2.1.six
        have HYS := Aside0.mk (And.intro y0 (And.intro y1 (And.intro y2 (And.intro y3 (And.intro y4 (And.intro y5 (And.intro y6 (And.intro y7 y8))))))))
        have hj0 : decide ((j : Int) ≥ 0) = true := by simp
        have x4 := fun w' (h : Below w2.heap.size w2 w') => pw_cell_below h x4
        have y1 := fun w' (h : Below w2.heap.size w2 w') => pw_cell_below h y1
        have y2 := fun w' (h : Below w2.heap.size w2 w') => pw_cell_below h y2
        have y3 := fun w' (h : Below w2.heap.size w2 w') => pw_cell_below h y3
        have k1 := fun w' (h : Below w2.heap.size w2 w') => pw_cell_below h k1
        have k2 := fun w' (h : Below w2.heap.size w2 w') => pw_cell_below h k2
        have k3 := fun w' (h : Below w2.heap.size w2 w') => pw_cell_below h k3
        clear x0 x1 x2 x3 x5 x6 k0 k4 k5 y0 y4 y5 y6 y7 y8
        refine wp_region_noPanic ?_
        refine wp_region_held_drew (S := Below w2.heap.size w2) (by kernel_rfl) (below_drew (Below.refl _ _)) (fun hHeld => ?_)
        (refine takeH 0 32 (v := ?_) rfl rfl (by kernel_rfl) (by kernel_rfl) (by kernel_rfl) (fun _ _ _ h => h) hHeld rfl ?_ ?_; rotate_left; (focus (intro w' hSw; go_simp; try with_reducible rfl)))
        (try simp only [Act.put, List.setIfInBounds_toArray, List.set_cons_zero, List.set_cons_succ])
        (refine takeH 1 33 (v := ?_) rfl rfl (by kernel_rfl) (by kernel_rfl) (by kernel_rfl) (fun _ _ _ h => h) hHeld rfl ?_ ?_; rotate_left; (focus (intro w' hSw; go_simp; try with_reducible rfl)))
        (try simp only [Act.put, List.setIfInBounds_toArray, List.set_cons_zero, List.set_cons_succ])
        (refine takeH 2 34 (v := ?_) rfl rfl (by kernel_rfl) (by kernel_rfl) (by kernel_rfl) (fun _ _ _ h => h) hHeld rfl ?_ ?_; rotate_left; (focus (intro w' hSw; go_simp; try with_reducible rfl)))
        (try simp only [Act.put, List.setIfInBounds_toArray, List.set_cons_zero, List.set_cons_succ])
        (first | (refine skipH 3 35 rfl rfl (by kernel_rfl) (by kernel_rfl) (by kernel_rfl) (fun _ _ _ h => h) hHeld rfl ?_) | (refine takeH 3 35 (v := ?_) rfl rfl (by kernel_rfl) (by kernel_rfl) (by kernel_rfl) (fun _ _ _ h => h) hHeld rfl ?_ ?_; rotate_left; (focus (intro w' hSw; go_simp; try with_reducible rfl))))
        (try simp only [Act.put, List.setIfInBounds_toArray, List.set_cons_zero, List.set_cons_succ])
        (first | (refine skipH 4 36 rfl rfl (by kernel_rfl) (by kernel_rfl) (by kernel_rfl) (fun _ _ _ h => h) hHeld rfl ?_) | (refine takeH 4 36 (v := ?_) rfl rfl (by kernel_rfl) (by kernel_rfl) (by kernel_rfl) (fun _ _ _ h => h) hHeld rfl ?_ ?_; rotate_left; (focus (intro w' hSw; go_simp; try with_reducible rfl))))
        (try simp only [Act.put, List.setIfInBounds_toArray, List.set_cons_zero, List.set_cons_succ])
        (first | (refine skipH 5 37 rfl rfl (by kernel_rfl) (by kernel_rfl) (by kernel_rfl) (fun _ _ _ h => h) hHeld rfl ?_) | (refine takeH 5 37 (v := ?_) rfl rfl (by kernel_rfl) (by kernel_rfl) (by kernel_rfl) (fun _ _ _ h => h) hHeld rfl ?_ ?_; rotate_left; (focus (intro w' hSw; go_simp; try with_reducible rfl))))
        (try simp only [Act.put, List.setIfInBounds_toArray, List.set_cons_zero, List.set_cons_succ])
        (first | (refine skipH 6 38 rfl rfl (by kernel_rfl) (by kernel_rfl) (by kernel_rfl) (fun _ _ _ h => h) hHeld rfl ?_) | (refine takeH 6 38 (v := ?_) rfl rfl (by kernel_rfl) (by kernel_rfl) (by kernel_rfl) (fun _ _ _ h => h) hHeld rfl ?_ ?_; rotate_left; (focus (intro w' hSw; go_simp; try with_reducible rfl))))
        (try simp only [Act.put, List.setIfInBounds_toArray, List.set_cons_zero, List.set_cons_succ])
        (first | (refine skipH 7 39 rfl rfl (by kernel_rfl) (by kernel_rfl) (by kernel_rfl) (fun _ _ _ h => h) hHeld rfl ?_) | (refine takeH 7 39 (v := ?_) rfl rfl (by kernel_rfl) (by kernel_rfl) (by kernel_rfl) (fun _ _ _ h => h) hHeld rfl ?_ ?_; rotate_left; (focus (intro w' hSw; go_simp; try with_reducible rfl))))
        (try simp only [Act.put, List.setIfInBounds_toArray, List.set_cons_zero, List.set_cons_succ])
        (first | (refine skipH 8 40 rfl rfl (by kernel_rfl) (by kernel_rfl) (by kernel_rfl) (fun _ _ _ h => h) hHeld rfl ?_) | (refine takeH 8 40 (v := ?_) rfl rfl (by kernel_rfl) (by kernel_rfl) (by kernel_rfl) (fun _ _ _ h => h) hHeld rfl ?_ ?_; rotate_left; (focus (intro w' hSw; go_simp; try with_reducible rfl))))
        (try simp only [Act.put, List.setIfInBounds_toArray, List.set_cons_zero, List.set_cons_succ])
        (first | (refine skipH 9 41 rfl rfl (by kernel_rfl) (by kernel_rfl) (by kernel_rfl) (fun _ _ _ h => h) hHeld rfl ?_) | (refine takeH 9 41 (v := ?_) rfl rfl (by kernel_rfl) (by kernel_rfl) (by kernel_rfl) (fun _ _ _ h => h) hHeld rfl ?_ ?_; rotate_left; (focus (intro w' hSw; go_simp; try with_reducible rfl))))
        (try simp only [Act.put, List.setIfInBounds_toArray, List.set_cons_zero, List.set_cons_succ])
        (first | (refine skipH 10 42 rfl rfl (by kernel_rfl) (by kernel_rfl) (by kernel_rfl) (fun _ _ _ h => h) hHeld rfl ?_) | (refine takeH 10 42 (v := ?_) rfl rfl (by kernel_rfl) (by kernel_rfl) (by kernel_rfl) (fun _ _ _ h => h) hHeld rfl ?_ ?_; rotate_left; (focus (intro w' hSw; go_simp; try with_reducible rfl))))
        (try simp only [Act.put, List.setIfInBounds_toArray, List.set_cons_zero, List.set_cons_succ])
        (first | (refine skipH 11 43 rfl rfl (by kernel_rfl) (by kernel_rfl) (by kernel_rfl) (fun _ _ _ h => h) hHeld rfl ?_) | (refine takeH 11 43 (v := ?_) rfl rfl (by kernel_rfl) (by kernel_rfl) (by kernel_rfl) (fun _ _ _ h => h) hHeld rfl ?_ ?_; rotate_left; (focus (intro w' hSw; go_simp; try with_reducible rfl))))
        (try simp only [Act.put, List.setIfInBounds_toArray, List.set_cons_zero, List.set_cons_succ])
        refine wpAnyH_ready (rs := [12]) (by kernel_rfl) (by simp) ?_
        refine AllReadyH.cons rfl (fun K hK => ?_) AllReadyH.nil
        go_simp
        refine (HCM.out _).mono ?_
        rintro r wm ⟨rfl, hb⟩
        have HBM := Aside0.mk (Below.then_ (below_drew (Below.refl w2.heap.size w2)) hb (Nat.le_refl _))
        clear hb
        refine hK.out _ _ (HBM.out) (fun hHeld => ?_)
        clear hK K
        (try simp only [Act.put, List.setIfInBounds_toArray, List.set_cons_zero, List.set_cons_succ])
        (first | (refine skipH 13 45 rfl rfl (by kernel_rfl) (by kernel_rfl) (by kernel_rfl) (fun _ _ _ h => h) hHeld rfl ?_) | (refine takeH 13 45 (v := ?_) rfl rfl (by kernel_rfl) (by kernel_rfl) (by kernel_rfl) (fun _ _ _ h => h) hHeld rfl ?_ ?_; rotate_left; (focus (intro w' hSw; go_simp; try with_reducible rfl))))
        (try simp only [Act.put, List.setIfInBounds_toArray, List.set_cons_zero, List.set_cons_succ])
        (refine takeH 14 46 (v := ?_) rfl rfl (by kernel_rfl) (by kernel_rfl) (by kernel_rfl) (fun _ _ _ h => h) hHeld rfl ?_ ?_; rotate_left; (focus (intro w' hSw; go_simp; try with_reducible rfl)))
        (try simp only [Act.put, List.setIfInBounds_toArray, List.set_cons_zero, List.set_cons_succ])
        refine wpAnyH_done (by kernel_rfl) ?_ _
        refine NoPanic.normal ?_
        clear x4 y1 y2 y3 k1 k2 k3
        obtain ⟨y0, y1, y2, y3, y4, y5, y6, y7, y8⟩ := HYS.out
        have y0 := pw_cell_below HBM.out y0
        have y1 := pw_cell_below HBM.out y1
        have y2 := pw_cell_below HBM.out y2
        have y3 := pw_cell_below HBM.out y3
        have y4 := pw_cell_below HBM.out y4
        have y5 := pw_cell_below HBM.out y5
        have y6 := pw_cell_below HBM.out y6
        have y7 := pw_cell_below HBM.out y7
        have y8 := pw_cell_below HBM.out y8
        have HTM := Aside0.mk (HT2.out.below HBM.out)
        have HXM := Aside0.mk (And.intro (HX2.out.1.on HBM.out) (HX2.out.2.2.on HBM.out))
        by_cases hc : 0 < cv
        · have hq := HSA.out hc
          obtain ⟨T8, hT8⟩ : ∃ T8, T8 = lay ⟨⟨ra, rz, rc, rd⟩, l, tok, us⟩ { u' with whole := true } := ⟨_, rfl⟩
          rw [← hT8] at hq
          have HQ := Aside0.mk hq
          clear hq
          have HFKM : Aside0 (Kd.FK Cell.k wm (fun i => ok i ∧ i < w.heap.size) u' (ccs u' A5 c5)) := ⟨Foot.step HFK.out (fun i _ hlt => HBM.out.block i hlt)⟩
          obtain ⟨x0, x1, x2, x3, x4, x5, x6⟩ := (seven HXM.out.1).1
          have hcb : decide (cv > 0) = true := by simpa using hc
          go_upto_region 9 with (fail)
          generalize hX6 : World.alloc _ _ = W6
          have HB6 : Aside0 (Below wm.heap.size wm W6) := ⟨by rw [← hX6]; exact below_alloc (Below.refl _ _) _⟩
          have HX6 : Aside0 (Blk W6 wm.heap.size (ccs { u' with whole := true } A5 c5)) := ⟨by rw [← hX6]; exact Blk.new_ _ _ _ rfl rfl⟩
          have HY6 := Aside0.mk (HXM.out.1.on HB6.out)
          have HUC : Aside0 (Calls Try.prog 68 #[.agg (rtc ⟨⟨ra, rz, rc, rd⟩, l, tok, us⟩ (some au) c (some ad) d).toArray, .agg (ccs { u' with whole := true } A5 c5).toArray] W6 (MadeT W6 (fun i => ok i ∧ i < w.heap.size) T8)) := ⟨by
            rw [hT8]
            exact use_calls ⟨⟨ra, rz, rc, rd⟩, l, tok, us⟩ (some au) c (some ad) d { u' with whole := true } A5 c5 _ W6 (HTM.out.below HB6.out) (fk_cell (fk_ent (Foot.step HFKM.out (fun i _ hlt => HB6.out.block i hlt))) true u'.clean HUR.out) (by dsimp only; omega) HUS.out⟩
          have sm := HXM.out.2.lt
          clear hX6 hT8 x0 x1 x2 x3 x4 x5 x6 y0 y1 y2 y3 y4 y5 y6 y7 y8
          obtain ⟨x0, x1, x2, x3, x4, x5, x6⟩ := (seven HY6.out).1
          obtain ⟨⟨k0, k1, k2, k3, k4, k5, k6, k7, k8⟩, _⟩ := HX6.out.nine
          dsimp only [ccs] at HUC k0 k1 k2 k3 k4 k5 k6 k7 k8
          go_wp2_with (first | ((with_reducible refine HUC.out.mono ?_); rintro r w8 ⟨A8, c8, B8, d8, rfl, hR, hb⟩; have HR8 := Aside0.mk hR; have HB8 := Aside0.mk hb; have HZ8 := Aside0.mk (HXM.out.2.on (Below.then_ HB6.out hb (Nat.le_refl _))); clear hR hb; obtain ⟨⟨r0, r1, r2, r3, r4, r5, r6⟩, g0, g1, g2, g3, g4, g5, g6⟩ := seven HZ8.out))
          have s8 := HB8.out.size
          have s6 := HB6.out.size
          generalize hW9 : World.setCell _ _ _ = W9
          have h9 := ret7 (W9 := W9) (Below.then_ (Below.then_ (Below.then_ (Below.then_ HB0.out HB2.out (Nat.le_refl _)) HBM.out (Nat.le_refl _)) HB6.out (Nat.le_refl _)) HB8.out (Nat.le_refl _)) HZ8.out (by omega) HR8.out (ok := ok) (fun i hi => by rcases hi with hi | hi; exact ⟨by have := hi.2; omega, .inl hi.1⟩; exact ⟨by omega, .inr (by omega)⟩) hW9
          clear hW9
          have H9 := Aside0.mk h9.2
          obtain ⟨z0, z1, z2, z3, z4, z5, z6⟩ := h9.1
          clear h9
          refine bodyPost_ret (v := .tuple #[.agg (rtc T8 A8 c8 B8 d8).toArray, .bool true, .int .i64 0]) (by simp [results, Try.results51, go_sem, z0, z1, z2, z3, z4, z5, z6, rtc]; try rfl) rfl ?_
          unfold MadeV
          rw [HQ.out.1, HQ.out.2.1, HQ.out.2.2]
          exact ⟨A8, c8, B8, d8, rfl, H9.out.1, H9.out.2⟩
        · have HS3 := Aside0.mk (HS2.out (HSB.out hc))
          have hcb : decide (cv > 0) = false := by simpa using hc
          have HB4W := Aside0.mk (Below.then_ HB2.out HBM.out (Nat.le_refl _))
          go_upto_region 10 with (fail)
          clear HX3 HT3 HYS y0 y1 y2 y3 y4 y5 y6 y7 y8
          have HX3 := Aside0.mk (And.intro (HX.out.1.on HB4W.out) (And.intro (HX.out.2.1.on HB4W.out) (HX.out.2.2.on HB4W.out)))
          have HT3 := Aside0.mk (HT0.out.below HB4W.out)
          have HF3 : Aside0 (Kd.FK Entry.k wm _ _ _) := ⟨Foot.step HF0.out (fun i _ hlt => (HB4W.out).block i hlt)⟩
          obtain ⟨x0, x1, x2, x3, x4, x5, x6⟩ := (seven HX3.out.1).1
          obtain ⟨⟨k0, k1, k2, k3, k4, k5⟩, _⟩ := HX3.out.2.1.six
          have HRO3 := Aside0.mk (HRO.out _ _ _ _ wm _ HT3.out HF3.out)
          go_upto_region 11 with (first | ((with_reducible refine HRO3.out.mono ?_); rintro r w4 ⟨A4, c4, B4, d4, T4, rfl, hR, hb, hT⟩; have HR4 := Aside0.mk (And.intro hR hT); have HB4 := Aside0.mk hb; clear hR hb hT))
          generalize hX5 : World.alloc _ _ = W5
          have HB5 : Aside0 (Below w4.heap.size w4 W5) := ⟨by rw [← hX5]; exact below_alloc (Below.refl _ _) _⟩
          have HX5 : Aside0 (Blk W5 w4.heap.size (rtc T4 A4 c4 B4 d4)) := ⟨by rw [← hX5]; exact Blk.new_ _ _ _ rfl rfl⟩
          have HBW5 := Aside0.mk (Below.then_ HB4.out HB5.out (Nat.le_refl _))
          have HY5 := Aside0.mk (And.intro (HX3.out.1.on HBW5.out) (And.intro (HX3.out.2.1.on HBW5.out) (HX3.out.2.2.on HBW5.out)))
          have HT5 := Aside0.mk (HT3.out.below HBW5.out)
          have HF5 : Aside0 (Kd.FK Entry.k W5 _ _ _) := ⟨Foot.step HF3.out (fun i _ hlt => HBW5.out.block i hlt)⟩
          have HR5 := Aside0.mk (HR4.out.1.below HB5.out)
          have HBA := Aside0.mk (Below.then_ (Below.then_ HB0.out HB4W.out (Nat.le_refl _)) HBW5.out (Nat.le_refl _))
          have hs4 : (wm).heap.size ≤ w4.heap.size := HB4.out.size
          have hs5 : w.heap.size + 3 ≤ (wm).heap.size := by have := HX3.out.2.2.lt; omega
          clear hX5 x0 x1 x2 x3 x4 x5 x6 k0 k1 k2 k3 k4 k5
          obtain ⟨vb, hvb⟩ : ∃ vb, vb = (vict ⟨⟨ra, rz, rc, rd⟩, l, tok, us⟩ ⟨ek, ⟨a1, a2, a3⟩, ⟨eh, eb⟩⟩).2 := ⟨_, rfl⟩
          rw [← hvb]
          have HVB := Aside0.mk hvb
          clear hvb
          obtain ⟨⟨r0, r1, r2, r3, r4, r5, r6⟩, g0, g1, g2, g3, g4, g5, g6⟩ := seven HY5.out.2.2
          obtain ⟨⟨k0, k1, k2, k3, k4, k5⟩, _⟩ := HY5.out.2.1.six
          cases vb with
          | false =>
            have HQ := Aside0.mk (HS3.out.1 HVB.out.symm)
            obtain ⟨⟨x0, x1, x2, x3, x4, x5, x6⟩, _⟩ := seven HY5.out.1
            go_wp2
            generalize hW9 : World.setCell _ _ _ = W9
            have h9 := ret7 (W9 := W9) HBA.out HY5.out.2.2 (by omega) HT5.out (ok := ok) (fun i hi => ⟨by have := hi.2; omega, .inl hi.1⟩) hW9
            clear hW9
            have H9 := Aside0.mk h9.2
            obtain ⟨z0, z1, z2, z3, z4, z5, z6⟩ := h9.1
            clear h9
            refine bodyPost_ret (v := .tuple #[.agg #[.int .i64 ra, .int .i64 rz, .int .i64 rc, .bool rd, .slice (some au) l.length c, .slice (some ad) tok.length d, .int .i64 us], .bool false, .int .i64 30]) (by simp [results, Try.results51, go_sem, z0, z1, z2, z3, z4, z5, z6]; try rfl) rfl ?_
            unfold MadeV
            rw [HQ.out.1, HQ.out.2.1, HQ.out.2.2]
            exact ⟨(some au), c, some ad, d, rfl, H9.out.1, H9.out.2⟩
          | true =>
            have hT4 := HR4.out.2 HVB.out.symm
            obtain ⟨hq1, hq2⟩ := HS3.out.2 HVB.out.symm
            rw [← hT4] at hq1
            have hmk := HMK.out HVB.out.symm
            rw [← hT4] at hmk
            obtain ⟨T8, hT8⟩ : ∃ T8, T8 = lay T4 ⟨⟨ek, ⟨a1, a2, a3⟩, ⟨eh, eb⟩⟩, true, true, 0⟩ := ⟨_, rfl⟩
            rw [← hT8] at hq1
            have HQ := Aside0.mk (And.intro hq1 hq2)
            have HUC : Aside0 (Calls Try.prog 68 #[.agg (rtc T4 A4 c4 B4 d4).toArray, .agg (ccs ⟨⟨ek, ⟨a1, a2, a3⟩, ⟨eh, eb⟩⟩, true, true, 0⟩ Ae ce).toArray] W5 (MadeT W5 _ T8)) := ⟨by
              rw [hT8]
              refine use_calls T4 A4 c4 B4 d4 ⟨⟨ek, ⟨a1, a2, a3⟩, ⟨eh, eb⟩⟩, true, true, 0⟩ Ae ce (fun i => ok i ∧ i < w.heap.size ∨ (wm).heap.size ≤ i) W5 HR5.out ?_ (by omega) (by omega)
              exact fk_cell (Foot.mono HF5.out (fun i hi => .inl hi)) _ _ izr⟩
            clear hT4 hq1 hq2 hmk hT8
            obtain ⟨⟨x0, x1, x2, x3, x4, x5, x6⟩, _⟩ := seven HX5.out
            dsimp only [ccs] at HUC
            go_wp2_with (first | ((with_reducible refine HUC.out.mono ?_); rintro r w8 ⟨A8, c8, B8, d8, rfl, hR, hb⟩; have HR8 := Aside0.mk hR; have HB8 := Aside0.mk hb; have HZ8 := Aside0.mk (HY5.out.2.2.on hb); clear hR hb r0 r1 r2 r3 r4 r5 r6 g0 g1 g2 g3 g4 g5 g6; obtain ⟨⟨r0, r1, r2, r3, r4, r5, r6⟩, g0, g1, g2, g3, g4, g5, g6⟩ := seven HZ8.out))
            have s8 := HB8.out.size
            have s5 := HX5.out.lt
            generalize hW9 : World.setCell _ _ _ = W9
            have h9 := ret7 (W9 := W9) (Below.then_ HBA.out HB8.out (Nat.le_refl _)) HZ8.out (by omega) HR8.out (ok := ok) (fun i hi => by rcases hi with (hi | hi) | hi; exact ⟨by have := hi.2; omega, .inl hi.1⟩; exact ⟨by omega, .inr (by omega)⟩; exact ⟨by omega, .inr (by omega)⟩) hW9
            clear hW9
            have H9 := Aside0.mk h9.2
            obtain ⟨z0, z1, z2, z3, z4, z5, z6⟩ := h9.1
            clear h9
            refine bodyPost_ret (v := .tuple #[.agg (rtc T8 A8 c8 B8 d8).toArray, .bool true, .int .i64 0]) (by simp [results, Try.results51, go_sem, z0, z1, z2, z3, z4, z5, z6, rtc]; try rfl) rfl ?_
            unfold MadeV
            rw [HQ.out.1, HQ.out.2.1, HQ.out.2.2]
            exact ⟨A8, c8, B8, d8, rfl, H9.out.1, H9.out.2⟩
    · have hb1 : (x' != tk) = true := by simpa using htk
      have HQ := Aside0.mk (HS0.out htk)
      obtain ⟨⟨r0, r1, r2, r3, r4, r5, r6⟩, g0, g1, g2, g3, g4, g5, g6⟩ := seven HX3.out.2.2
      go_wp2
      generalize hW9 : World.setCell _ _ _ = W9
      have h9 := ret7 (W9 := W9) (Below.then_ HB0.out HB3.out (Nat.le_refl _)) HX3.out.2.2 (by omega) HT3.out (ok := ok) (fun i hi => ⟨by have := hi.2; omega, .inl hi.1⟩) hW9
      clear hW9
      have H9 := Aside0.mk h9.2
      obtain ⟨z0, z1, z2, z3, z4, z5, z6⟩ := h9.1
      clear h9
      refine bodyPost_ret (v := .tuple #[.agg #[.int .i64 ra, .int .i64 rz, .int .i64 rc, .bool rd, .slice A l.length c, .slice (some ad) tok.length d, .int .i64 us], .bool false, .int .i64 0]) (by simp [results, Try.results51, go_sem, z0, z1, z2, z3, z4, z5, z6]; try rfl) rfl ?_
      unfold MadeV
      rw [HQ.out.1, HQ.out.2.1, HQ.out.2.2]
      exact ⟨A, c, some ad, d, rfl, H9.out.1, H9.out.2⟩
  · have HQ : Aside0 (fillT T e tk = T ∧ fillB T e tk = false ∧ fillE T e tk = 2) := ⟨if_neg (fun h => hE h.1), if_neg (fun h => hE h.1), if_neg hE⟩
    rw [rgt_no hE] at HRG
    clear hE h hw hF
    obtain ⟨⟨ra, rz, rc, rd⟩, l, tok, us⟩ := T
    obtain ⟨ek, ⟨a1, a2, a3⟩, ⟨eh, eb⟩⟩ := e
    dsimp only [rtc, ecs] at *
    go_enter Try.func51, Try.ntmps51
    go_upto_region 1 with (fail)
    generalize hX : World.alloc _ _ = W0
    have HB0 : Aside0 (Below w.heap.size w W0) := ⟨by rw [← hX]; exact below_alloc (below_alloc (below_alloc (Below.refl _ _) _) _) _⟩
    have HX : Aside0 (Blk W0 w.heap.size [.int .i64 ra, .int .i64 rz, .int .i64 rc, .bool rd, .slice A l.length c, .slice B tok.length d, .int .i64 us] ∧ Blk W0 (w.heap.size + 1) [.string ek, .int .i64 _, .int .i64 a2, .int .i64 a3, .bool eh, .slice Ae eb.length ce] ∧ Blk W0 (w.heap.size + 2) [.int .i64 0, .int .i64 0, .int .i64 0, .bool false, .slice none 0 0, .slice none 0 0, .int .i64 0]) := ⟨by rw [← hX]; exact ⟨((Blk.new_ _ _ _ rfl rfl).alloc _).alloc _, (Blk.new_ _ _ _ (by simp) rfl).alloc _, Blk.new_ _ _ _ (by simp) rfl⟩⟩
    have hs3 : w.heap.size + 3 ≤ W0.heap.size := by have := HX.out.2.2.lt; omega
    have HT0 := Aside0.mk (HT.out.below HB0.out)
    clear hX
    obtain ⟨⟨k0, k1, k2, k3, k4, k5⟩, _⟩ := HX.out.2.1.six
    go_upto_region 2 with (first | ((with_reducible refine (HRG.out _).mono ?_); rintro r w1 ⟨rfl, hb⟩; have HB1 := Aside0.mk hb; clear hb))
    have HX1 := Aside0.mk (And.intro (HX.out.1.on HB1.out) (HX.out.2.2.on HB1.out))
    have HBW1 := Aside0.mk (Below.then_ HB0.out HB1.out (Nat.le_refl _))
    have HT1 := Aside0.mk (HT0.out.below HB1.out)
    obtain ⟨⟨x0, x1, x2, x3, x4, x5, x6⟩, _⟩ := seven HX1.out.1
    obtain ⟨⟨r0, r1, r2, r3, r4, r5, r6⟩, g0, g1, g2, g3, g4, g5, g6⟩ := seven HX1.out.2
    clear k0 k1 k2 k3 k4 k5
    go_wp2
    generalize hW9 : World.setCell _ _ _ = W9
    have h9 := ret7 (W9 := W9) HBW1.out HX1.out.2 (by omega) HT1.out (ok := ok) (fun i hi => ⟨by have := hi.2; omega, .inl hi.1⟩) hW9
    clear hW9
    have H9 := Aside0.mk h9.2
    obtain ⟨z0, z1, z2, z3, z4, z5, z6⟩ := h9.1
    clear h9
    refine bodyPost_ret (v := .tuple #[.agg #[.int .i64 ra, .int .i64 rz, .int .i64 rc, .bool rd, .slice A l.length c, .slice B tok.length d, .int .i64 us], .bool false, .int .i64 2]) (by simp [results, Try.results51, go_sem, z0, z1, z2, z3, z4, z5, z6]; try rfl) rfl ?_
    unfold MadeV
    rw [HQ.out.1, HQ.out.2.1, HQ.out.2.2]
    exact ⟨A, c, B, d, rfl, H9.out.1, H9.out.2⟩
end RTab
end Go.Proofs.Ytgfjkpnaabiecaa
set_option linter.unusedVariables false
set_option linter.unusedSimpArgs false
namespace Go.Proofs.Ytgfjkpnaabiecaa
open Go.RowKit Go.Proofs.YtgfjkpnaabiecaaW.PrintWords
namespace RTab
open Tags Tab Cmp
theorem three {w : World} {b : Nat} {v0 v1 v2 : Value} (h : Blk w b [v0, v1, v2]) :
    (w.cell? ⟨b, 0, none⟩ = some v0 ∧ w.cell? ⟨b, 1, none⟩ = some v1 ∧ w.cell? ⟨b, 2, none⟩ = some v2) ∧ (w.frozen? ⟨b, 0, none⟩ = false ∧ w.frozen? ⟨b, 1, none⟩ = false ∧ w.frozen? ⟨b, 2, none⟩ = false) :=
  ⟨⟨h.cell 0 rfl, h.cell 1 rfl, h.cell 2 rfl⟩, h.frozen 0 rfl, h.frozen 1 rfl, h.frozen 2 rfl⟩
set_option maxRecDepth 100000 in
set_option maxHeartbeats 2000000 in
theorem cleanR_calls (T : Tb) (A : Option Addr) (c : Nat) (B : Option Addr) (d : Nat) (k : ByteArray) (tg : Tag) (n : Int) (ok : Nat → Prop) (w : World) (h : RT w ok T A c B d) (hw : Wf T n) (hn : n ≤ 1900000000000000000) :
    Calls Try.prog 52 #[.agg (rtc T A c B d).toArray, .string k, .agg #[.int .i64 tg.seq, .int .i64 tg.who, .int .i64 tg.op]] w (MadeV w ok (cleanT T k tg) [.bool (cleanOn T k tg).isSome]) := by
  have HT := Aside0.mk h.bound
  obtain ⟨fi, hfi⟩ : ∃ fi, fi = findI T.l k := ⟨_, rfl⟩
  have HFN : Aside0 (∀ A c B d w', Cell.k.C w' A T.l.length T.l → Calls Try.prog 67 #[.agg (rtc T A c B d).toArray, .string k] w' fun r w'' => r = .returned (.int .i64 fi) ∧ Below w'.heap.size w' w'') := ⟨fun A c B d w' h => by rw [hfi]; exact find_calls T A c B d k w' h⟩
  have HFI : Aside0 ((fi = -1 ∧ find T.l k = none) ∨ ∃ j u, fi = ((j : Nat) : Int) ∧ T.l[j]? = some u ∧ find T.l k = some u) := ⟨by
    rw [hfi]
    rcases hf : find T.l k with _ | u
    · exact .inl ⟨findI_none hf, rfl⟩
    · exact .inr ⟨_, u, findI_some hf, (idx_some hf).2, rfl⟩⟩
  have hTl : T.l.length ≤ 4096 := by have h1 := hw.len; have h2 := hw.rm.2.1; omega
  have HSN : Aside0 (cleanOn T k tg = none → cleanT T k tg = T ∧ (cleanOn T k tg).isSome = false) := ⟨fun h3 => by unfold cleanT; rw [h3]; exact ⟨rfl, rfl⟩⟩
  have HSS : Aside0 (∀ u, cleanOn T k tg = some u → cleanT T k tg = { T with l := put T.l { u with clean := true } } ∧ (cleanOn T k tg).isSome = true) := ⟨fun u h3 => by unfold cleanT; rw [h3]; exact ⟨rfl, rfl⟩⟩
  have HO1 : Aside0 (find T.l k = none → cleanOn T k tg = none) := ⟨fun h1 => by unfold cleanOn; rw [h1]; rfl⟩
  have HO2 : Aside0 (∀ u, find T.l k = some u → 0 < cmpT u.e.tag tg → cleanOn T k tg = none) := ⟨fun u h1 h2 => by unfold cleanOn; rw [h1]; exact if_pos h2⟩
  have HO3 : Aside0 (∀ u, find T.l k = some u → cmpT u.e.tag tg ≤ 0 → cleanOn T k tg = some u) := ⟨fun u h1 h2 => by unfold cleanOn; rw [h1]; exact if_neg (by omega)⟩
  clear hfi h hw
  obtain ⟨⟨ra, rz, rc, rd⟩, l, tok, us⟩ := T
  obtain ⟨a1, a2, a3⟩ := tg
  dsimp only [rtc] at *
  go_enter Try.func52, Try.ntmps52
  go_upto_region 1 with (fail)
  generalize hX : World.alloc _ _ = W0
  have HB0 : Aside0 (Below w.heap.size w W0) := ⟨by rw [← hX]; exact below_alloc (below_alloc (below_alloc (Below.refl _ _) _) _) _⟩
  have HX : Aside0 (Blk W0 w.heap.size [.int .i64 ra, .int .i64 rz, .int .i64 rc, .bool rd, .slice A l.length c, .slice B tok.length d, .int .i64 us] ∧ Blk W0 (w.heap.size + 1) [.int .i64 a1, .int .i64 a2, .int .i64 a3] ∧ Blk W0 (w.heap.size + 2) [.int .i64 0, .int .i64 0, .int .i64 0, .bool false, .slice none 0 0, .slice none 0 0, .int .i64 0]) := ⟨by rw [← hX]; exact ⟨((Blk.new_ _ _ _ rfl rfl).alloc _).alloc _, (Blk.new_ _ _ _ (by simp) rfl).alloc _, Blk.new_ _ _ _ (by simp) rfl⟩⟩
  have hs3 : w.heap.size + 3 ≤ W0.heap.size := by have := HX.out.2.2.lt; omega
  have HT0 := Aside0.mk (HT.out.below HB0.out)
  clear hX
  obtain ⟨⟨x0, x1, x2, x3, x4, x5, x6⟩, _⟩ := seven HX.out.1
  go_upto_region 2 with (first | ((with_reducible refine (HFN.out _ _ _ _ _ (Kd.F_now HT0.out.l)).mono ?_); rintro r w2 ⟨rfl, hb⟩; have HB2 := Aside0.mk hb; clear hb))
  have HX2 := Aside0.mk (And.intro (HX.out.1.on HB2.out) (And.intro (HX.out.2.1.on HB2.out) (HX.out.2.2.on HB2.out)))
  have HT2 := Aside0.mk (HT0.out.below HB2.out)
  clear x0 x1 x2 x3 x4 x5 x6
  rcases HFI.out with ⟨rfl, hf⟩ | ⟨j, u, rfl, hj, hf⟩
  · have HQ := Aside0.mk (HSN.out (HO1.out hf))
    clear hf
    refine wp_region_noPanic ?_
    refine wp_region_held_drew (S := Below w2.heap.size w2) (by kernel_rfl) (below_drew (Below.refl _ _)) (fun hHeld => ?_)
    (refine takeH 0 13 (v := ?_) rfl rfl (by kernel_rfl) (by kernel_rfl) (by kernel_rfl) (fun _ _ _ h => h) hHeld rfl ?_ ?_; rotate_left; (focus (intro w' hSw; go_simp; try with_reducible rfl)))
    (try simp only [Act.put, List.setIfInBounds_toArray, List.set_cons_zero, List.set_cons_succ])
    (refine takeH 1 14 (v := ?_) rfl rfl (by kernel_rfl) (by kernel_rfl) (by kernel_rfl) (fun _ _ _ h => h) hHeld rfl ?_ ?_; rotate_left; (focus (intro w' hSw; go_simp; try with_reducible rfl)))
    (try simp only [Act.put, List.setIfInBounds_toArray, List.set_cons_zero, List.set_cons_succ])
    (refine takeH 2 15 (v := ?_) rfl rfl (by kernel_rfl) (by kernel_rfl) (by kernel_rfl) (fun _ _ _ h => h) hHeld rfl ?_ ?_; rotate_left; (focus (intro w' hSw; go_simp; try with_reducible rfl)))
    (try simp only [Act.put, List.setIfInBounds_toArray, List.set_cons_zero, List.set_cons_succ])
    (first | (refine skipH 3 16 rfl rfl (by kernel_rfl) (by kernel_rfl) (by kernel_rfl) (fun _ _ _ h => h) hHeld rfl ?_) | (refine takeH 3 16 (v := ?_) rfl rfl (by kernel_rfl) (by kernel_rfl) (by kernel_rfl) (fun _ _ _ h => h) hHeld rfl ?_ ?_; rotate_left; (focus (intro w' hSw; go_simp; try with_reducible rfl))))
    (try simp only [Act.put, List.setIfInBounds_toArray, List.set_cons_zero, List.set_cons_succ])
    (first | (refine skipH 4 17 rfl rfl (by kernel_rfl) (by kernel_rfl) (by kernel_rfl) (fun _ _ _ h => h) hHeld rfl ?_) | (refine takeH 4 17 (v := ?_) rfl rfl (by kernel_rfl) (by kernel_rfl) (by kernel_rfl) (fun _ _ _ h => h) hHeld rfl ?_ ?_; rotate_left; (focus (intro w' hSw; go_simp; try with_reducible rfl))))
    (try simp only [Act.put, List.setIfInBounds_toArray, List.set_cons_zero, List.set_cons_succ])
    (first | (refine skipH 5 18 rfl rfl (by kernel_rfl) (by kernel_rfl) (by kernel_rfl) (fun _ _ _ h => h) hHeld rfl ?_) | (refine takeH 5 18 (v := ?_) rfl rfl (by kernel_rfl) (by kernel_rfl) (by kernel_rfl) (fun _ _ _ h => h) hHeld rfl ?_ ?_; rotate_left; (focus (intro w' hSw; go_simp; try with_reducible rfl))))
    (try simp only [Act.put, List.setIfInBounds_toArray, List.set_cons_zero, List.set_cons_succ])
    (first | (refine skipH 6 19 rfl rfl (by kernel_rfl) (by kernel_rfl) (by kernel_rfl) (fun _ _ _ h => h) hHeld rfl ?_) | (refine takeH 6 19 (v := ?_) rfl rfl (by kernel_rfl) (by kernel_rfl) (by kernel_rfl) (fun _ _ _ h => h) hHeld rfl ?_ ?_; rotate_left; (focus (intro w' hSw; go_simp; try with_reducible rfl))))
    (try simp only [Act.put, List.setIfInBounds_toArray, List.set_cons_zero, List.set_cons_succ])
    (first | (refine skipH 7 20 rfl rfl (by kernel_rfl) (by kernel_rfl) (by kernel_rfl) (fun _ _ _ h => h) hHeld rfl ?_) | (refine takeH 7 20 (v := ?_) rfl rfl (by kernel_rfl) (by kernel_rfl) (by kernel_rfl) (fun _ _ _ h => h) hHeld rfl ?_ ?_; rotate_left; (focus (intro w' hSw; go_simp; try with_reducible rfl))))
    (try simp only [Act.put, List.setIfInBounds_toArray, List.set_cons_zero, List.set_cons_succ])
    (first | (refine skipH 8 21 rfl rfl (by kernel_rfl) (by kernel_rfl) (by kernel_rfl) (fun _ _ _ h => h) hHeld rfl ?_) | (refine takeH 8 21 (v := ?_) rfl rfl (by kernel_rfl) (by kernel_rfl) (by kernel_rfl) (fun _ _ _ h => h) hHeld rfl ?_ ?_; rotate_left; (focus (intro w' hSw; go_simp; try with_reducible rfl))))
    (try simp only [Act.put, List.setIfInBounds_toArray, List.set_cons_zero, List.set_cons_succ])
    (first | (refine skipH 9 22 rfl rfl (by kernel_rfl) (by kernel_rfl) (by kernel_rfl) (fun _ _ _ h => h) hHeld rfl ?_) | (refine takeH 9 22 (v := ?_) rfl rfl (by kernel_rfl) (by kernel_rfl) (by kernel_rfl) (fun _ _ _ h => h) hHeld rfl ?_ ?_; rotate_left; (focus (intro w' hSw; go_simp; try with_reducible rfl))))
    (try simp only [Act.put, List.setIfInBounds_toArray, List.set_cons_zero, List.set_cons_succ])
    (first | (refine skipH 10 23 rfl rfl (by kernel_rfl) (by kernel_rfl) (by kernel_rfl) (fun _ _ _ h => h) hHeld rfl ?_) | (refine takeH 10 23 (v := ?_) rfl rfl (by kernel_rfl) (by kernel_rfl) (by kernel_rfl) (fun _ _ _ h => h) hHeld rfl ?_ ?_; rotate_left; (focus (intro w' hSw; go_simp; try with_reducible rfl))))
    (try simp only [Act.put, List.setIfInBounds_toArray, List.set_cons_zero, List.set_cons_succ])
    (first | (refine skipH 11 24 rfl rfl (by kernel_rfl) (by kernel_rfl) (by kernel_rfl) (fun _ _ _ h => h) hHeld rfl ?_) | (refine takeH 11 24 (v := ?_) rfl rfl (by kernel_rfl) (by kernel_rfl) (by kernel_rfl) (fun _ _ _ h => h) hHeld rfl ?_ ?_; rotate_left; (focus (intro w' hSw; go_simp; try with_reducible rfl))))
    (try simp only [Act.put, List.setIfInBounds_toArray, List.set_cons_zero, List.set_cons_succ])
    (first | (refine skipH 12 25 rfl rfl (by kernel_rfl) (by kernel_rfl) (by kernel_rfl) (fun _ _ _ h => h) hHeld rfl ?_) | (refine takeH 12 25 (v := ?_) rfl rfl (by kernel_rfl) (by kernel_rfl) (by kernel_rfl) (fun _ _ _ h => h) hHeld rfl ?_ ?_; rotate_left; (focus (intro w' hSw; go_simp; try with_reducible rfl))))
    (try simp only [Act.put, List.setIfInBounds_toArray, List.set_cons_zero, List.set_cons_succ])
    (refine takeH 13 26 (v := ?_) rfl rfl (by kernel_rfl) (by kernel_rfl) (by kernel_rfl) (fun _ _ _ h => h) hHeld rfl ?_ ?_; rotate_left; (focus (intro w' hSw; go_simp; try with_reducible rfl)))
    (try simp only [Act.put, List.setIfInBounds_toArray, List.set_cons_zero, List.set_cons_succ])
    refine wpAnyH_done (by kernel_rfl) ?_ _
    refine NoPanic.normal ?_
    obtain ⟨wd, hD⟩ : ∃ wd, wd = World.drew w2 := ⟨_, rfl⟩
    rw [← hD]
    have HB2D : Aside0 (Below W0.heap.size W0 wd) := ⟨by rw [hD]; exact Below.then_ HB2.out (below_drew (Below.refl w2.heap.size w2)) (Nat.le_refl _)⟩
    clear hD hHeld
    have HXD := Aside0.mk (And.intro (HX.out.1.on HB2D.out) (HX.out.2.2.on HB2D.out))
    have HTD := Aside0.mk (HT0.out.below HB2D.out)
    obtain ⟨⟨x0, x1, x2, x3, x4, x5, x6⟩, _⟩ := seven HXD.out.1
    obtain ⟨⟨r0, r1, r2, r3, r4, r5, r6⟩, g0, g1, g2, g3, g4, g5, g6⟩ := seven HXD.out.2
    go_wp2
    generalize hW9 : World.setCell _ _ _ = W9
    have h9 := ret7 (W9 := W9) (Below.then_ HB0.out HB2D.out (Nat.le_refl _)) HXD.out.2 (by omega) HTD.out (ok := ok) (fun i hi => ⟨by have := hi.2; omega, .inl hi.1⟩) hW9
    clear hW9
    have H9 := Aside0.mk h9.2
    obtain ⟨z0, z1, z2, z3, z4, z5, z6⟩ := h9.1
    clear h9
    refine bodyPost_ret (v := .tuple #[.agg #[.int .i64 ra, .int .i64 rz, .int .i64 rc, .bool rd, .slice A l.length c, .slice B tok.length d, .int .i64 us], .bool false]) (by simp [results, Try.results52, go_sem, z0, z1, z2, z3, z4, z5, z6]; try rfl) rfl ?_
    unfold MadeV
    rw [HQ.out.1, HQ.out.2]
    exact ⟨A, c, B, d, rfl, H9.out.1, H9.out.2⟩
  · have hjl : j < l.length := (List.getElem?_eq_some_iff.1 hj).1
    have hjI : (j : Int) < (l.length : Int) := by omega
    obtain ⟨au, u', A5, c5, rfl, HU', y0, y1, y2, y3, y4, y5, y6, y7, y8, HFK⟩ := RTab.cell_at HT2.out.l (Below.refl _ _) j hjl
    obtain rfl : u' = u := Option.some.inj (HU'.out.symm.trans hj)
    obtain ⟨cv, hcv⟩ : ∃ cv, cv = cmpT u'.e.tag ⟨a1, a2, a3⟩ := ⟨_, rfl⟩
    have HCM : Aside0 (∀ w', Calls Try.prog 14 #[.agg #[.int .i64 u'.e.tag.seq, .int .i64 u'.e.tag.who, .int .i64 u'.e.tag.op], .agg #[.int .i64 a1, .int .i64 a2, .int .i64 a3]] w' fun r w'' => r = .returned (.int .i64 cv) ∧ Below w'.heap.size w' w'') := ⟨fun w' => by rw [hcv]; exact compareR_calls u'.e.tag ⟨a1, a2, a3⟩ w'⟩
    have HSA : Aside0 (0 < cv → cleanT ⟨⟨ra, rz, rc, rd⟩, l, tok, us⟩ k ⟨a1, a2, a3⟩ = ⟨⟨ra, rz, rc, rd⟩, l, tok, us⟩ ∧ (cleanOn ⟨⟨ra, rz, rc, rd⟩, l, tok, us⟩ k ⟨a1, a2, a3⟩).isSome = false) := ⟨fun h => HSN.out (HO2.out u' hf (hcv ▸ h))⟩
    have HSB : Aside0 (¬ 0 < cv → cleanT ⟨⟨ra, rz, rc, rd⟩, l, tok, us⟩ k ⟨a1, a2, a3⟩ = { (⟨⟨ra, rz, rc, rd⟩, l, tok, us⟩ : Tb) with l := put l { u' with clean := true } } ∧ (cleanOn ⟨⟨ra, rz, rc, rd⟩, l, tok, us⟩ k ⟨a1, a2, a3⟩).isSome = true) := ⟨fun h => HSS.out u' (HO3.out u' hf (by rw [← hcv]; omega))⟩
    have HUR : Aside0 (InR .i64 u'.used) := ⟨by obtain ⟨_, _, _, _, _, _, _, _, _, r8⟩ := Cell.open_ (Kd.FK_now HFK.out); exact r8⟩
    clear hf hj hcv
    obtain ⟨⟨x0, x1, x2, x3, x4, x5, x6⟩, _⟩ := seven HX2.out.1
    obtain ⟨⟨k1, k2, k3⟩, _⟩ := three HX2.out.2.1
    have HYS := Aside0.mk (And.intro y0 (And.intro y1 (And.intro y2 (And.intro y3 (And.intro y4 (And.intro y5 (And.intro y6 (And.intro y7 y8))))))))
    have hj0 : decide ((j : Int) < 0) = false := by simp
    have x4 := fun w' (h : Below w2.heap.size w2 w') => pw_cell_below h x4
    have y1 := fun w' (h : Below w2.heap.size w2 w') => pw_cell_below h y1
    have y2 := fun w' (h : Below w2.heap.size w2 w') => pw_cell_below h y2
    have y3 := fun w' (h : Below w2.heap.size w2 w') => pw_cell_below h y3
    have k1 := fun w' (h : Below w2.heap.size w2 w') => pw_cell_below h k1
    have k2 := fun w' (h : Below w2.heap.size w2 w') => pw_cell_below h k2
    have k3 := fun w' (h : Below w2.heap.size w2 w') => pw_cell_below h k3
    clear x0 x1 x2 x3 x5 x6 y0 y4 y5 y6 y7 y8
    refine wp_region_noPanic ?_
    refine wp_region_held_drew (S := Below w2.heap.size w2) (by kernel_rfl) (below_drew (Below.refl _ _)) (fun hHeld => ?_)
    (refine takeH 0 13 (v := ?_) rfl rfl (by kernel_rfl) (by kernel_rfl) (by kernel_rfl) (fun _ _ _ h => h) hHeld rfl ?_ ?_; rotate_left; (focus (intro w' hSw; go_simp; try with_reducible rfl)))
    (try simp only [Act.put, List.setIfInBounds_toArray, List.set_cons_zero, List.set_cons_succ])
    (refine takeH 1 14 (v := ?_) rfl rfl (by kernel_rfl) (by kernel_rfl) (by kernel_rfl) (fun _ _ _ h => h) hHeld rfl ?_ ?_; rotate_left; (focus (intro w' hSw; go_simp; try with_reducible rfl)))
    (try simp only [Act.put, List.setIfInBounds_toArray, List.set_cons_zero, List.set_cons_succ])
    (refine takeH 2 15 (v := ?_) rfl rfl (by kernel_rfl) (by kernel_rfl) (by kernel_rfl) (fun _ _ _ h => h) hHeld rfl ?_ ?_; rotate_left; (focus (intro w' hSw; go_simp; try with_reducible rfl)))
    (try simp only [Act.put, List.setIfInBounds_toArray, List.set_cons_zero, List.set_cons_succ])
    (first | (refine skipH 3 16 rfl rfl (by kernel_rfl) (by kernel_rfl) (by kernel_rfl) (fun _ _ _ h => h) hHeld rfl ?_) | (refine takeH 3 16 (v := ?_) rfl rfl (by kernel_rfl) (by kernel_rfl) (by kernel_rfl) (fun _ _ _ h => h) hHeld rfl ?_ ?_; rotate_left; (focus (intro w' hSw; go_simp; try with_reducible rfl))))
    (try simp only [Act.put, List.setIfInBounds_toArray, List.set_cons_zero, List.set_cons_succ])
    (first | (refine skipH 4 17 rfl rfl (by kernel_rfl) (by kernel_rfl) (by kernel_rfl) (fun _ _ _ h => h) hHeld rfl ?_) | (refine takeH 4 17 (v := ?_) rfl rfl (by kernel_rfl) (by kernel_rfl) (by kernel_rfl) (fun _ _ _ h => h) hHeld rfl ?_ ?_; rotate_left; (focus (intro w' hSw; go_simp; try with_reducible rfl))))
    (try simp only [Act.put, List.setIfInBounds_toArray, List.set_cons_zero, List.set_cons_succ])
    (first | (refine skipH 5 18 rfl rfl (by kernel_rfl) (by kernel_rfl) (by kernel_rfl) (fun _ _ _ h => h) hHeld rfl ?_) | (refine takeH 5 18 (v := ?_) rfl rfl (by kernel_rfl) (by kernel_rfl) (by kernel_rfl) (fun _ _ _ h => h) hHeld rfl ?_ ?_; rotate_left; (focus (intro w' hSw; go_simp; try with_reducible rfl))))
    (try simp only [Act.put, List.setIfInBounds_toArray, List.set_cons_zero, List.set_cons_succ])
    (first | (refine skipH 6 19 rfl rfl (by kernel_rfl) (by kernel_rfl) (by kernel_rfl) (fun _ _ _ h => h) hHeld rfl ?_) | (refine takeH 6 19 (v := ?_) rfl rfl (by kernel_rfl) (by kernel_rfl) (by kernel_rfl) (fun _ _ _ h => h) hHeld rfl ?_ ?_; rotate_left; (focus (intro w' hSw; go_simp; try with_reducible rfl))))
    (try simp only [Act.put, List.setIfInBounds_toArray, List.set_cons_zero, List.set_cons_succ])
    (first | (refine skipH 7 20 rfl rfl (by kernel_rfl) (by kernel_rfl) (by kernel_rfl) (fun _ _ _ h => h) hHeld rfl ?_) | (refine takeH 7 20 (v := ?_) rfl rfl (by kernel_rfl) (by kernel_rfl) (by kernel_rfl) (fun _ _ _ h => h) hHeld rfl ?_ ?_; rotate_left; (focus (intro w' hSw; go_simp; try with_reducible rfl))))
    (try simp only [Act.put, List.setIfInBounds_toArray, List.set_cons_zero, List.set_cons_succ])
    (first | (refine skipH 8 21 rfl rfl (by kernel_rfl) (by kernel_rfl) (by kernel_rfl) (fun _ _ _ h => h) hHeld rfl ?_) | (refine takeH 8 21 (v := ?_) rfl rfl (by kernel_rfl) (by kernel_rfl) (by kernel_rfl) (fun _ _ _ h => h) hHeld rfl ?_ ?_; rotate_left; (focus (intro w' hSw; go_simp; try with_reducible rfl))))
    (try simp only [Act.put, List.setIfInBounds_toArray, List.set_cons_zero, List.set_cons_succ])
    (first | (refine skipH 9 22 rfl rfl (by kernel_rfl) (by kernel_rfl) (by kernel_rfl) (fun _ _ _ h => h) hHeld rfl ?_) | (refine takeH 9 22 (v := ?_) rfl rfl (by kernel_rfl) (by kernel_rfl) (by kernel_rfl) (fun _ _ _ h => h) hHeld rfl ?_ ?_; rotate_left; (focus (intro w' hSw; go_simp; try with_reducible rfl))))
    (try simp only [Act.put, List.setIfInBounds_toArray, List.set_cons_zero, List.set_cons_succ])
    (first | (refine skipH 10 23 rfl rfl (by kernel_rfl) (by kernel_rfl) (by kernel_rfl) (fun _ _ _ h => h) hHeld rfl ?_) | (refine takeH 10 23 (v := ?_) rfl rfl (by kernel_rfl) (by kernel_rfl) (by kernel_rfl) (fun _ _ _ h => h) hHeld rfl ?_ ?_; rotate_left; (focus (intro w' hSw; go_simp; try with_reducible rfl))))
    (try simp only [Act.put, List.setIfInBounds_toArray, List.set_cons_zero, List.set_cons_succ])
    refine wpAnyH_ready (rs := [11]) (by kernel_rfl) (by simp) ?_
    refine AllReadyH.cons rfl (fun K hK => ?_) AllReadyH.nil
    go_simp
    refine (HCM.out _).mono ?_
    rintro r wm ⟨rfl, hb⟩
    have HBM := Aside0.mk (Below.then_ (below_drew (Below.refl w2.heap.size w2)) hb (Nat.le_refl _))
    clear hb
    refine hK.out _ _ (HBM.out) (fun hHeld => ?_)
    clear hK K
    (try simp only [Act.put, List.setIfInBounds_toArray, List.set_cons_zero, List.set_cons_succ])
    (first | (refine skipH 12 25 rfl rfl (by kernel_rfl) (by kernel_rfl) (by kernel_rfl) (fun _ _ _ h => h) hHeld rfl ?_) | (refine takeH 12 25 (v := ?_) rfl rfl (by kernel_rfl) (by kernel_rfl) (by kernel_rfl) (fun _ _ _ h => h) hHeld rfl ?_ ?_; rotate_left; (focus (intro w' hSw; go_simp; try with_reducible rfl))))
    (try simp only [Act.put, List.setIfInBounds_toArray, List.set_cons_zero, List.set_cons_succ])
    (refine takeH 13 26 (v := ?_) rfl rfl (by kernel_rfl) (by kernel_rfl) (by kernel_rfl) (fun _ _ _ h => h) hHeld rfl ?_ ?_; rotate_left; (focus (intro w' hSw; go_simp; try with_reducible rfl)))
    (try simp only [Act.put, List.setIfInBounds_toArray, List.set_cons_zero, List.set_cons_succ])
    refine wpAnyH_done (by kernel_rfl) ?_ _
    refine NoPanic.normal ?_
    clear x4 y1 y2 y3 k1 k2 k3
    obtain ⟨y0, y1, y2, y3, y4, y5, y6, y7, y8⟩ := HYS.out
    have y0 := pw_cell_below HBM.out y0
    have y1 := pw_cell_below HBM.out y1
    have y2 := pw_cell_below HBM.out y2
    have y3 := pw_cell_below HBM.out y3
    have y4 := pw_cell_below HBM.out y4
    have y5 := pw_cell_below HBM.out y5
    have y6 := pw_cell_below HBM.out y6
    have y7 := pw_cell_below HBM.out y7
    have y8 := pw_cell_below HBM.out y8
    have HTM := Aside0.mk (HT2.out.below HBM.out)
    have HXM := Aside0.mk (And.intro (HX2.out.1.on HBM.out) (HX2.out.2.2.on HBM.out))
    obtain ⟨x0, x1, x2, x3, x4, x5, x6⟩ := (seven HXM.out.1).1
    by_cases hc : 0 < cv
    · have HQ := Aside0.mk (HSA.out hc)
      have hcb : decide (cv > 0) = true := by simpa using hc
      obtain ⟨⟨r0, r1, r2, r3, r4, r5, r6⟩, g0, g1, g2, g3, g4, g5, g6⟩ := seven HXM.out.2
      go_wp2
      generalize hW9 : World.setCell _ _ _ = W9
      have h9 := ret7 (W9 := W9) (Below.then_ (Below.then_ HB0.out HB2.out (Nat.le_refl _)) HBM.out (Nat.le_refl _)) HXM.out.2 (by omega) HTM.out (ok := ok) (fun i hi => ⟨by have := hi.2; omega, .inl hi.1⟩) hW9
      clear hW9
      have H9 := Aside0.mk h9.2
      obtain ⟨z0, z1, z2, z3, z4, z5, z6⟩ := h9.1
      clear h9
      refine bodyPost_ret (v := .tuple #[.agg #[.int .i64 ra, .int .i64 rz, .int .i64 rc, .bool rd, .slice (some au) l.length c, .slice B tok.length d, .int .i64 us], .bool false]) (by simp [results, Try.results52, go_sem, z0, z1, z2, z3, z4, z5, z6]; try rfl) rfl ?_
      unfold MadeV
      rw [HQ.out.1, HQ.out.2]
      exact ⟨some au, c, B, d, rfl, H9.out.1, H9.out.2⟩
    · have hq := HSB.out hc
      obtain ⟨T8, hT8⟩ : ∃ T8 : Tb, T8 = { (⟨⟨ra, rz, rc, rd⟩, l, tok, us⟩ : Tb) with l := put l { u' with clean := true } } := ⟨_, rfl⟩
      have hq1 : cleanT ⟨⟨ra, rz, rc, rd⟩, l, tok, us⟩ k ⟨a1, a2, a3⟩ = T8 := hq.1.trans hT8.symm
      have HQ := Aside0.mk (And.intro hq1 hq.2)
      clear hq hq1
      have HFKM : Aside0 (Kd.FK Cell.k wm (fun i => ok i ∧ i < w.heap.size) u' (ccs u' A5 c5)) := ⟨Foot.step HFK.out (fun i _ hlt => HBM.out.block i hlt)⟩
      have hcb : decide (cv > 0) = false := by simpa using hc
      go_upto_region 6 with (fail)
      generalize hX6 : World.alloc _ _ = W6
      have HB6 : Aside0 (Below wm.heap.size wm W6) := ⟨by rw [← hX6]; exact below_alloc (Below.refl _ _) _⟩
      have HX6 : Aside0 (Blk W6 wm.heap.size (ccs { u' with clean := true } A5 c5)) := ⟨by rw [← hX6]; exact Blk.new_ _ _ _ rfl rfl⟩
      have HY6 := Aside0.mk (HXM.out.1.on HB6.out)
      have HUC : Aside0 (Calls Try.prog 71 #[.agg (rtc ⟨⟨ra, rz, rc, rd⟩, l, tok, us⟩ (some au) c B d).toArray, .agg (ccs { u' with clean := true } A5 c5).toArray] W6 (MadeT W6 (fun i => ok i ∧ i < w.heap.size) T8)) := ⟨by
        rw [hT8]
        exact with_calls ⟨⟨ra, rz, rc, rd⟩, l, tok, us⟩ (some au) c B d { u' with clean := true } A5 c5 _ W6 (HTM.out.below HB6.out) (fk_cell (fk_ent (Foot.step HFKM.out (fun i _ hlt => HB6.out.block i hlt))) u'.whole true HUR.out) (by dsimp only; omega)⟩
      have sm := HXM.out.2.lt
      clear hX6 hT8 x0 x1 x2 x3 x4 x5 x6 y0 y1 y2 y3 y4 y5 y6 y7 y8
      obtain ⟨x0, x1, x2, x3, x4, x5, x6⟩ := (seven HY6.out).1
      obtain ⟨⟨k0, k1, k2, k3, k4, k5, k6, k7, k8⟩, _⟩ := HX6.out.nine
      dsimp only [ccs] at HUC k0 k1 k2 k3 k4 k5 k6 k7 k8
      go_wp2_with (first | ((with_reducible refine HUC.out.mono ?_); rintro r w8 ⟨A8, c8, B8, d8, rfl, hR, hb⟩; have HR8 := Aside0.mk hR; have HB8 := Aside0.mk hb; have HZ8 := Aside0.mk (HXM.out.2.on (Below.then_ HB6.out hb (Nat.le_refl _))); clear hR hb; obtain ⟨⟨r0, r1, r2, r3, r4, r5, r6⟩, g0, g1, g2, g3, g4, g5, g6⟩ := seven HZ8.out))
      have s8 := HB8.out.size
      have s6 := HB6.out.size
      generalize hW9 : World.setCell _ _ _ = W9
      have h9 := ret7 (W9 := W9) (Below.then_ (Below.then_ (Below.then_ (Below.then_ HB0.out HB2.out (Nat.le_refl _)) HBM.out (Nat.le_refl _)) HB6.out (Nat.le_refl _)) HB8.out (Nat.le_refl _)) HZ8.out (by omega) HR8.out (ok := ok) (fun i hi => by rcases hi with hi | hi; exact ⟨by have := hi.2; omega, .inl hi.1⟩; exact ⟨by omega, .inr (by omega)⟩) hW9
      clear hW9
      have H9 := Aside0.mk h9.2
      obtain ⟨z0, z1, z2, z3, z4, z5, z6⟩ := h9.1
      clear h9
      refine bodyPost_ret (v := .tuple #[.agg (rtc T8 A8 c8 B8 d8).toArray, .bool true]) (by simp [results, Try.results52, go_sem, z0, z1, z2, z3, z4, z5, z6, rtc]; try rfl) rfl ?_
      unfold MadeV
      rw [HQ.out.1, HQ.out.2]
      exact ⟨A8, c8, B8, d8, rfl, H9.out.1, H9.out.2⟩
end RTab
end Go.Proofs.Ytgfjkpnaabiecaa
set_option linter.unusedVariables false
set_option linter.unusedSimpArgs false
namespace Go.Proofs.Ytgfjkpnaabiecaa
open Go.RowKit Go.Proofs.YtgfjkpnaabiecaaW.PrintWords
namespace RTab
open Tags Tab Cmp
set_option maxRecDepth 100000 in
set_option maxHeartbeats 2000000 in
theorem evictR_calls (T : Tb) (A : Option Addr) (c : Nat) (B : Option Addr) (d : Nat) (k : ByteArray) (n : Int) (ok : Nat → Prop) (w : World) (h : RT w ok T A c B d) (hw : Wf T n) (hn : n ≤ 1900000000000000000) :
    Calls Try.prog 54 #[.agg (rtc T A c B d).toArray, .string k] w (MadeV w ok (evictT T k) [.bool (evictB T k)]) := by
  have HT := Aside0.mk h.bound
  obtain ⟨fi, hfi⟩ : ∃ fi, fi = findI T.l k := ⟨_, rfl⟩
  have HFN : Aside0 (∀ A c B d w', Cell.k.C w' A T.l.length T.l → Calls Try.prog 67 #[.agg (rtc T A c B d).toArray, .string k] w' fun r w'' => r = .returned (.int .i64 fi) ∧ Below w'.heap.size w' w'') := ⟨fun A c B d w' h => by rw [hfi]; exact find_calls T A c B d k w' h⟩
  have HFI : Aside0 ((fi = -1 ∧ find T.l k = none) ∨ ∃ j u, fi = ((j : Nat) : Int) ∧ T.l[j]? = some u ∧ find T.l k = some u) := ⟨by
    rw [hfi]
    rcases hf : find T.l k with _ | u
    · exact .inl ⟨findI_none hf, rfl⟩
    · exact .inr ⟨_, u, findI_some hf, (idx_some hf).2, rfl⟩⟩
  have hTl : T.l.length ≤ 4096 := by have h1 := hw.len; have h2 := hw.rm.2.1; omega
  have HS1 : Aside0 (find T.l k = none → evictT T k = T ∧ evictB T k = false) := ⟨fun h1 => by unfold evictT evictB; rw [h1]; exact ⟨rfl, rfl⟩⟩
  have HS2 : Aside0 (∀ u, find T.l k = some u → evictT T k = (if u.clean then drop T k else T) ∧ evictB T k = u.clean) := ⟨fun u h1 => by unfold evictT evictB; rw [h1]; exact ⟨rfl, rfl⟩⟩
  have HGN : Aside0 (∀ j u A c B d w' okx, RT w' okx T A c B d → T.l[j]? = some u → find T.l k = some u → Calls Try.prog 72 #[.agg (rtc T A c B d).toArray, .int .i64 ((j : Nat) : Int)] w' (MadeT w' okx (drop T k))) := ⟨fun j u A c B d w' okx h1 hj hf => by
    have hm := find_mem hf
    have he := hw.ent u hm.1
    have := gone_calls T A c B d j u okx w' h1 hj hw.srt (by omega) (by have := he.2.1; omega) hw.rm.2.2.2.2.1 hw.rm.2.2.2.2.2 hw.tl (fun x hx => by have := hw.tk x hx; omega)
    rw [hm.2] at this
    exact this⟩
  clear hfi h hw
  obtain ⟨⟨ra, rz, rc, rd⟩, l, tok, us⟩ := T
  dsimp only [rtc] at *
  go_enter Try.func54, Try.ntmps54
  go_upto_region 1 with (fail)
  generalize hX : World.alloc _ _ = W0
  have HB0 : Aside0 (Below w.heap.size w W0) := ⟨by rw [← hX]; exact below_alloc (below_alloc (Below.refl _ _) _) _⟩
  have HX : Aside0 (Blk W0 w.heap.size [.int .i64 ra, .int .i64 rz, .int .i64 rc, .bool rd, .slice A l.length c, .slice B tok.length d, .int .i64 us] ∧ Blk W0 (w.heap.size + 1) [.int .i64 0, .int .i64 0, .int .i64 0, .bool false, .slice none 0 0, .slice none 0 0, .int .i64 0]) := ⟨by rw [← hX]; exact ⟨(Blk.new_ _ _ _ rfl rfl).alloc _, Blk.new_ _ _ _ (by simp) rfl⟩⟩
  have hs3 : w.heap.size + 2 ≤ W0.heap.size := by have := HX.out.2.lt; omega
  have HT0 := Aside0.mk (HT.out.below HB0.out)
  clear hX
  obtain ⟨⟨x0, x1, x2, x3, x4, x5, x6⟩, _⟩ := seven HX.out.1
  go_upto_region 2 with (first | ((with_reducible refine (HFN.out _ _ _ _ _ (Kd.F_now HT0.out.l)).mono ?_); rintro r w2 ⟨rfl, hb⟩; have HB2 := Aside0.mk hb; clear hb))
  have HX2 := Aside0.mk (And.intro (HX.out.1.on HB2.out) (HX.out.2.on HB2.out))
  have HT2 := Aside0.mk (HT0.out.below HB2.out)
  clear x0 x1 x2 x3 x4 x5 x6
  rcases HFI.out with ⟨rfl, hf⟩ | ⟨j, u, rfl, hj, hf⟩
  · have HQ := Aside0.mk (HS1.out hf)
    clear hf
    have HB2D := HB2
    have HXD := Aside0.mk (And.intro (HX.out.1.on HB2D.out) (HX.out.2.on HB2D.out))
    have HTD := Aside0.mk (HT0.out.below HB2D.out)
    obtain ⟨⟨x0, x1, x2, x3, x4, x5, x6⟩, _⟩ := seven HXD.out.1
    obtain ⟨⟨r0, r1, r2, r3, r4, r5, r6⟩, g0, g1, g2, g3, g4, g5, g6⟩ := seven HXD.out.2
    go_wp2
    generalize hW9 : World.setCell _ _ _ = W9
    have h9 := ret7 (W9 := W9) (Below.then_ HB0.out HB2D.out (Nat.le_refl _)) HXD.out.2 (by omega) HTD.out (ok := ok) (fun i hi => ⟨by have := hi.2; omega, .inl hi.1⟩) hW9
    clear hW9
    have H9 := Aside0.mk h9.2
    obtain ⟨z0, z1, z2, z3, z4, z5, z6⟩ := h9.1
    clear h9
    refine bodyPost_ret (v := .tuple #[.agg #[.int .i64 ra, .int .i64 rz, .int .i64 rc, .bool rd, .slice A l.length c, .slice B tok.length d, .int .i64 us], .bool false]) (by simp [results, Try.results54, go_sem, z0, z1, z2, z3, z4, z5, z6]; try rfl) rfl ?_
    unfold MadeV
    rw [HQ.out.1, HQ.out.2]
    exact ⟨A, c, B, d, rfl, H9.out.1, H9.out.2⟩
  · have hjl : j < l.length := (List.getElem?_eq_some_iff.1 hj).1
    have hjI : (j : Int) < (l.length : Int) := by omega
    obtain ⟨au, u', A5, c5, rfl, HU', y0, y1, y2, y3, y4, y5, y6, y7, y8, HFK⟩ := RTab.cell_at HT2.out.l (Below.refl _ _) j hjl
    obtain rfl : u' = u := Option.some.inj (HU'.out.symm.trans hj)
    have HGJ := Aside0.mk (fun A c B d w' okx h1 => HGN.out j u' A c B d w' okx h1 hj hf)
    have HQ := Aside0.mk (HS2.out u' hf)
    clear hf hj
    obtain ⟨⟨x0, x1, x2, x3, x4, x5, x6⟩, _⟩ := seven HX2.out.1
    have hj0 : decide ((j : Int) < 0) = false := by simp
    clear x0 x1 x2 x3 x5 x6 y0 y1 y2 y3 y4 y5 y6 y8
    obtain ⟨cl, hcl⟩ : ∃ cl, cl = u'.clean := ⟨_, rfl⟩
    rw [← hcl] at y7 HQ
    clear hcl
    clear x4
    have HB2D := HB2
    have HXD := Aside0.mk (And.intro (HX.out.1.on HB2D.out) (HX.out.2.on HB2D.out))
    have HTD := Aside0.mk (HT0.out.below HB2D.out)
    obtain ⟨⟨x0, x1, x2, x3, x4, x5, x6⟩, _⟩ := seven HXD.out.1
    obtain ⟨⟨r0, r1, r2, r3, r4, r5, r6⟩, g0, g1, g2, g3, g4, g5, g6⟩ := seven HXD.out.2
    cases cl with
    | false =>
      go_wp2
      generalize hW9 : World.setCell _ _ _ = W9
      have h9 := ret7 (W9 := W9) (Below.then_ HB0.out HB2D.out (Nat.le_refl _)) HXD.out.2 (by omega) HTD.out (ok := ok) (fun i hi => ⟨by have := hi.2; omega, .inl hi.1⟩) hW9
      clear hW9
      have H9 := Aside0.mk h9.2
      obtain ⟨z0, z1, z2, z3, z4, z5, z6⟩ := h9.1
      clear h9
      refine bodyPost_ret (v := .tuple #[.agg #[.int .i64 ra, .int .i64 rz, .int .i64 rc, .bool rd, .slice (some au) l.length c, .slice B tok.length d, .int .i64 us], .bool false]) (by simp [results, Try.results54, go_sem, z0, z1, z2, z3, z4, z5, z6]; try rfl) rfl ?_
      unfold MadeV
      rw [HQ.out.1, HQ.out.2]
      exact ⟨some au, c, B, d, rfl, H9.out.1, H9.out.2⟩
    | true =>
      obtain ⟨T8, hT8⟩ : ∃ T8 : Tb, T8 = drop ⟨⟨ra, rz, rc, rd⟩, l, tok, us⟩ k := ⟨_, rfl⟩
      have hq := HQ.out
      rw [if_pos rfl, ← hT8] at hq
      have HQ8 := Aside0.mk hq
      have HUC := Aside0.mk (HGJ.out _ _ _ _ _ _ HTD.out)
      rw [← hT8] at HUC
      clear hq hT8
      go_wp2_with (first | ((with_reducible refine HUC.out.mono ?_); rintro r w8 ⟨A8, c8, B8, d8, rfl, hR, hb⟩; have HR8 := Aside0.mk hR; have HB8 := Aside0.mk hb; have HZ8 := Aside0.mk (HXD.out.2.on hb); clear hR hb r0 r1 r2 r3 r4 r5 r6 g0 g1 g2 g3 g4 g5 g6; obtain ⟨⟨r0, r1, r2, r3, r4, r5, r6⟩, g0, g1, g2, g3, g4, g5, g6⟩ := seven HZ8.out))
      have s8 := HB8.out.size
      have s6 := HB2D.out.size
      generalize hW9 : World.setCell _ _ _ = W9
      have h9 := ret7 (W9 := W9) (Below.then_ (Below.then_ HB0.out HB2D.out (Nat.le_refl _)) HB8.out (Nat.le_refl _)) HZ8.out (by omega) HR8.out (ok := ok) (fun i hi => by rcases hi with hi | hi; exact ⟨by have := hi.2; omega, .inl hi.1⟩; exact ⟨by omega, .inr (by omega)⟩) hW9
      clear hW9
      have H9 := Aside0.mk h9.2
      obtain ⟨z0, z1, z2, z3, z4, z5, z6⟩ := h9.1
      clear h9
      refine bodyPost_ret (v := .tuple #[.agg (rtc T8 A8 c8 B8 d8).toArray, .bool true]) (by simp [results, Try.results54, go_sem, z0, z1, z2, z3, z4, z5, z6, rtc]; try rfl) rfl ?_
      unfold MadeV
      rw [HQ8.out.1, HQ8.out.2]
      exact ⟨A8, c8, B8, d8, rfl, H9.out.1, H9.out.2⟩
end RTab
end Go.Proofs.Ytgfjkpnaabiecaa
set_option linter.unusedVariables false
set_option linter.unusedSimpArgs false
namespace Go.Proofs.Ytgfjkpnaabiecaa
open Go.RowKit Go.Proofs.YtgfjkpnaabiecaaW.PrintWords
namespace Grow
variable {α : Type} {d : Kd α} {t : TypeId} {ok : Nat → Prop} {N : Nat} {w0 W W1 : World} {v : Value} {ds : List α} {y : α} {cs : List Value}
theorem ty (h : Grow d t ok N w0 W v ds) {k : Nat} (hk : v.ownBlock = some k) : Ty W t k := by
  obtain ⟨inner, ho, _⟩ := h.row
  obtain ⟨cells, hc⟩ := own_typed ho k hk
  exact ⟨cells, _, hc⟩
theorem ne (h : Grow d t ok N w0 W v ds) {t' : TypeId} {b : Nat} (hT : Ty W t' b) (hne : t ≠ t') : b ∉ v.ownBlock.toList := fun e => by
  rw [Option.mem_toList] at e
  exact (h.ty e).ne hne hT
theorem ne2 {α' : Type} {d' : Kd α'} {t' : TypeId} {ok' : Nat → Prop} {v' : Value} {ds' : List α'} (h : Grow d t ok N w0 W v ds) (h' : Grow d' t' ok' N w0 W v' ds') (hne : t ≠ t') : ∀ k ∈ v'.ownBlock.toList, v.ownBlock ≠ some k := fun k hk e => by
  rw [Option.mem_toList] at hk
  exact (h.ty e).ne hne (h'.ty hk)
theorem only {S : List Nat} (h : Grow d t ok N w0 W v ds) (o : Only S W W1) (hN : ∀ k ∈ S, N ≤ k) (hS : ∀ k ∈ S, v.ownBlock ≠ some k) : Grow d t ok N w0 W1 v ds := by
  obtain ⟨inner, ho, hr⟩ := h.row
  have hb : Below N W W1 := o.below hN h.hN
  exact ⟨⟨inner, own_move ho (fun k hk => o.block k (own_lt ho k hk) (fun hm => hS k hm hk)), hr.imp_ (fun _ _ hr => ro_step hr hb)⟩, h.bl.trans hb, Nat.le_trans h.hN hb.size⟩
theorem setCell (h : Grow d t ok N w0 W v ds) {t' : TypeId} {b i : Nat} {u : Value} (hT : Ty W t' b) (hne : t ≠ t') (hb : N ≤ b) : Grow d t ok N w0 (W.setCell ⟨b, i, none⟩ u) v ds :=
  h.only (S := [b]) ((Only.refl [b] W).set (p := ⟨b, i, none⟩) u (.inl (by simp))) (by simp [hb]) (fun k hk e => by
    have : k = b := by simpa using hk
    subst this
    exact h.ne hT hne (Option.mem_toList.2 e))
theorem own_ge (h : Grow d t ok N w0 W v ds) : ∀ k ∈ v.ownBlock.toList, N ≤ k := fun k hk => by
  rw [Option.mem_toList] at hk
  obtain ⟨inner, ho, _⟩ := h.row
  exact own_base ho k hk
section
variable {P : Program} {ops : Array Oper} {rest : List Oper} {o : Oper} {a : Act} {Q : Exit → Act → World → Prop}
/-- append(v, y): y lies in a block of its own; what else has turned. -/
theorem push3 (hgd : o.guard = none) (s x : Operand) (ts : TypeId) (z : Value) (bytes : Nat)
    (ho : o.op = .call { callee := .builtin .append, args := #[s, x], argTypes := #[ts, ts] })
    (ht : P.underlying ts = some (.slice t)) (hinfo : (P.info? t).map (fun i => (i.zero, i.size, i.bytes)) = some (some z, d.sz, bytes)) (hz : z.cells.size = d.sz) (hs0 : 0 < d.sz) (hb0 : 0 < bytes)
    (G : Grow d t ok N w0 W v ds) (cells : Array Value) (hy : RO d ok N W y cells.toList) (hs : a.eval s = v) (hx : a.eval x = .slice (some ⟨W.heap.size, 0, none⟩) 1 1)
    (hl : (ds.length + 1) * bytes ≤ 140737488355328)
    (h : ∀ v1 w1, Grow d t ok N w0 w1 v1 (ds ++ [y]) → Only v.ownBlock.toList W w1 → wpList P ops Q rest (a.put o.dst v1) w1) :
    wpList P ops Q (o :: rest) a (W.alloc (.cells cells t)) := by
  have hb := below_alloc (Below.refl W.heap.size W) (.cells cells t)
  have G' := G.below hb
  have hy' : RO d ok N (W.alloc (.cells cells t)) y cells.toList := ro_step hy (hb.mono G.hN)
  have hB := Blk.new_ W cells t rfl rfl
  have HR : ReadsRow (RO d ok N (W.alloc (.cells cells t))) d.sz (W.alloc (.cells cells t)) (some ⟨W.heap.size, 0, none⟩) 1 [y] := by
    refine ⟨rfl, by omega, fun _ => ⟨_, rfl, fun j p hj => ?_⟩⟩
    rcases j with _ | j
    · simp at hj
      subst hj
      exact ⟨cells.toList, d.K_len (Kd.FK_now hy'), hy', fun i u hu => by rw [add_plain]; simpa using hB.cell i hu⟩
    · simp at hj
  refine own_append_rows (w0 := w0) (R := RO d ok N (W.alloc (.cells cells t))) N hgd s x ts t z d.sz bytes ho ht hinfo hz hs0 hb0 v ds [y] (some ⟨W.heap.size, 0, none⟩) 1 1 hs hx G'.row HR (fun q cs hq => d.K_one (Kd.FK_now hq)) G'.bl G'.hN hl ?_
  intro v1 w1 hown hB1 hg hat
  have hb2 : Below N (W.alloc (.cells cells t)) w1 := (Below.refl N _).grown hg G'.hN (OwnRow.base_ G'.row)
  exact h v1 w1 ⟨OwnRow.imp_ hown (fun _ _ hr => ro_step hr hb2), hB1, Nat.le_trans G'.hN hb2.size⟩ (((Only.refl _ W).alloc _).grown hg (fun k hk => .inl (Option.mem_toList.2 hk)))
/-- The same as a step of a region that draws. -/
theorem step_push3 {K : Act → World → Prop} {E : Prop} (hgd : o.guard = none) (s x : Operand) (ts : TypeId) (z : Value) (bytes : Nat)
    (ho : o.op = .call { callee := .builtin .append, args := #[s, x], argTypes := #[ts, ts] })
    (ht : P.underlying ts = some (.slice t)) (hinfo : (P.info? t).map (fun i => (i.zero, i.size, i.bytes)) = some (some z, d.sz, bytes)) (hz : z.cells.size = d.sz) (hs0 : 0 < d.sz) (hb0 : 0 < bytes)
    (G : Grow d t ok N w0 W v ds) (cells : Array Value) (hy : RO d ok N W y cells.toList) (hs : a.eval s = v) (hx : a.eval x = .slice (some ⟨W.heap.size, 0, none⟩) 1 1)
    (hl : (ds.length + 1) * bytes ≤ 140737488355328)
    (h : ∀ v1 w1, Grow d t ok N w0 w1 v1 (ds ++ [y]) → Only v.ownBlock.toList W w1 → K (a.put o.dst v1) w1) :
    if Region.wanted o (yielded ops a.tmps) = true then Oper.wp P o a (W.alloc (.cells cells t)) K Q else E := by
  have hb := below_alloc (Below.refl W.heap.size W) (.cells cells t)
  have G' := G.below hb
  have hy' : RO d ok N (W.alloc (.cells cells t)) y cells.toList := ro_step hy (hb.mono G.hN)
  have hB := Blk.new_ W cells t rfl rfl
  have HR : ReadsRow (RO d ok N (W.alloc (.cells cells t))) d.sz (W.alloc (.cells cells t)) (some ⟨W.heap.size, 0, none⟩) 1 [y] := by
    refine ⟨rfl, by omega, fun _ => ⟨_, rfl, fun j p hj => ?_⟩⟩
    rcases j with _ | j
    · simp at hj
      subst hj
      exact ⟨cells.toList, d.K_len (Kd.FK_now hy'), hy', fun i u hu => by rw [add_plain]; simpa using hB.cell i hu⟩
    · simp at hj
  refine step_append_rows (R := RO d ok N (W.alloc (.cells cells t))) N hgd s x ts t z d.sz bytes ho ht hinfo hz hs0 hb0 v ds [y] (some ⟨W.heap.size, 0, none⟩) 1 1 hs hx G'.row HR (fun q cs hq => d.K_one (Kd.FK_now hq)) G'.hN hl ?_
  intro v1 w1 hown hg hat
  have hB1 := G'.bl.grown hg G'.hN (OwnRow.base_ G'.row)
  have hb2 : Below N (W.alloc (.cells cells t)) w1 := (Below.refl N _).grown hg G'.hN (OwnRow.base_ G'.row)
  exact h v1 w1 ⟨OwnRow.imp_ hown (fun _ _ hr => ro_step hr hb2), hB1, Nat.le_trans G'.hN hb2.size⟩ (((Only.refl _ W).alloc _).grown hg (fun k hk => .inl (Option.mem_toList.2 hk)))
end
end Grow
end Go.Proofs.Ytgfjkpnaabiecaa
set_option linter.unusedVariables false
set_option linter.unusedSimpArgs false
namespace Go.Proofs.Ytgfjkpnaabiecaa
open Go.RowKit Go.Proofs.YtgfjkpnaabiecaaW.PrintWords
namespace RTab
open Tags Tab Cmp
def zT : Tb := ⟨⟨0, 0, 0, false⟩, [], [], 0⟩
/-- A block that bears a table whose rows grow. -/
structure UB (W : World) (b : Nat) (r : Room) (v4 v5 : Value) (us : Int) : Prop where
  blk : Blk W b [.int .i64 r.cells, .int .i64 r.bytes, .int .i64 r.buckets, .bool r.fresh, v4, v5, .int .i64 us]
  ty : Ty W 69 b
namespace UB
variable {W W1 : World} {b : Nat} {r : Room} {v4 v5 : Value} {us : Int} {S : List Nat}
theorem only (h : UB W b r v4 v5 us) (o : Only S W W1) (hb : b ∉ S) : UB W1 b r v4 v5 us := ⟨h.blk.only o hb, h.ty.only o hb⟩
theorem below (h : UB W b r v4 v5 us) (o : Below W.heap.size W W1) : UB W1 b r v4 v5 us := h.only (S := []) (Only.of_below [] o) (by simp)
theorem new (W : World) (r : Room) (v4 v5 : Value) (us : Int) : UB (W.alloc (.cells #[.int .i64 r.cells, .int .i64 r.bytes, .int .i64 r.buckets, .bool r.fresh, v4, v5, .int .i64 us] 69)) W.heap.size r v4 v5 us := ⟨Blk.new_ _ _ _ rfl rfl, Ty.new _ _ _ _⟩
theorem set4 (h : UB W b r v4 v5 us) (v : Value) : UB (W.setCell ⟨b, 4, none⟩ v) b r v v5 us := ⟨(h.blk.set 4 v).cast rfl, h.ty.set _ _⟩
theorem set5 (h : UB W b r v4 v5 us) (v : Value) : UB (W.setCell ⟨b, 5, none⟩ v) b r v4 v us := ⟨(h.blk.set 5 v).cast rfl, h.ty.set _ _⟩
end UB
theorem int_one {w : World} {ok : Nat → Prop} {x : Int} (h : InR .i64 x) : Kd.FK (kInt .i64) w ok x [.int .i64 x] := fun W' _ => ⟨rfl, h⟩
theorem run_one (v : Int) (w : World) : (Instr.buildSlice 64 1 #[(0, Value.int .i64 v)]).run Try.prog w = .ok (.slice (some ⟨w.heap.size, 0, none⟩) 1 1) (w.alloc (.cells #[.int .i64 v] 3)) := by
  obtain ⟨ie, hi, hzz⟩ := Option.map_eq_some_iff.1 infoInt
  simp only [Prod.mk.injEq] at hzz
  obtain ⟨h1, h2, _⟩ := hzz
  simp [Instr.buildSlice, run_underlying Try.underlying64, sizeOf, typeInfo, zeroValue, hi, h1, h2, newRow, Instr.fill, Value.cells]
  rw [show Array.range 1 = #[0] from rfl]
  simp
theorem tIntT : (3 : TypeId) ≠ 69 := by decide
theorem tCellT : (47 : TypeId) ≠ 69 := by decide
theorem tCellInt : (47 : TypeId) ≠ 3 := by decide
set_option maxRecDepth 100000 in
set_option maxHeartbeats 2000000 in
theorem newR_bad (r : Room) (w : World) (hb : ¬ RoomOk r) :
    Calls Try.prog 29 #[.agg #[.int .i64 r.cells, .int .i64 r.bytes, .int .i64 r.buckets, .bool r.fresh]] w fun e w' => e = .returned (.tuple #[.agg (rtc zT none 0 none 0).toArray, .int .i64 2]) ∧ Below w.heap.size w w' := by
  obtain ⟨ra, rz, rc, rd⟩ := r
  have hb' : ra < 1 ∨ (1 ≤ ra ∧ 4096 < ra) ∨ (1 ≤ ra ∧ ra ≤ 4096 ∧ rz < 1) ∨ (1 ≤ ra ∧ ra ≤ 4096 ∧ 1 ≤ rz ∧ 4194304 < rz) ∨ (1 ≤ ra ∧ ra ≤ 4096 ∧ 1 ≤ rz ∧ rz ≤ 4194304 ∧ rc < 1) ∨ (1 ≤ ra ∧ ra ≤ 4096 ∧ 1 ≤ rz ∧ rz ≤ 4194304 ∧ 1 ≤ rc ∧ 256 < rc) := by
    unfold RoomOk at hb
    dsimp only at hb
    omega
  clear hb
  dsimp only
  rcases hb' with h1 | ⟨h1, h2⟩ | ⟨h1, h2, h3⟩ | ⟨h1, h2, h3, h4⟩ | ⟨h1, h2, h3, h4, h5⟩ | ⟨h1, h2, h3, h4, h5, h6⟩
  all_goals
    go_enter Try.func29, Try.ntmps29
    go_upto_region 2 with (fail)
    generalize hX : World.alloc _ _ = W0
    have HB0 : Aside0 (Below w.heap.size w W0) := ⟨by rw [← hX]; exact below_alloc (below_alloc (Below.refl _ _) _) _⟩
    have HX : Aside0 (Blk W0 (w.heap.size + 1) [.int .i64 0, .int .i64 0, .int .i64 0, .bool false, .slice none 0 0, .slice none 0 0, .int .i64 0]) := ⟨by rw [← hX]; exact Blk.new_ _ _ _ (by simp) rfl⟩
    obtain ⟨⟨r0, r1, r2, r3, r4, r5, r6⟩, g0, g1, g2, g3, g4, g5, g6⟩ := seven HX.out
    clear hX
    go_wp2
    generalize hW9 : World.setCell _ _ _ = W9
    have h9 := ret7 (W9 := W9) HB0.out HX.out (by omega) (T := zT) (A := none) (c := 0) (B := none) (d := 0) (okX := fun _ => False) ⟨fun W' _ => Kd.C_nil _ _, fun W' _ => Kd.C_nil _ _, Nat.le_refl _, Nat.le_refl _⟩ (ok := fun _ => False) (fun i hi => hi.elim) hW9
    clear hW9
    have H9 := Aside0.mk h9.2
    obtain ⟨z0, z1, z2, z3, z4, z5, z6⟩ := h9.1
    clear h9
    dsimp only [zT, List.length_nil] at z0 z1 z2 z3 z4 z5 z6
    refine bodyPost_ret (v := .tuple #[.agg #[.int .i64 0, .int .i64 0, .int .i64 0, .bool false, .slice none 0 0, .slice none 0 0, .int .i64 0], .int .i64 2]) (by simp [results, Try.results29, go_sem, z0, z1, z2, z3, z4, z5, z6]; try rfl) rfl ?_
    exact ⟨rfl, H9.out.2⟩
theorem rep_succ (n i : Nat) (x : Int) (h : i < n) : List.replicate i x ++ [x] = List.replicate (i + 1) x := by
  rw [← List.replicate_succ']
set_option maxRecDepth 100000 in
set_option maxHeartbeats 2000000 in
theorem newR_good (r : Room) (w : World) (hb : RoomOk r) :
    Calls Try.prog 29 #[.agg #[.int .i64 r.cells, .int .i64 r.bytes, .int .i64 r.buckets, .bool r.fresh]] w (MadeV w (fun _ => False) (newT r) [.int .i64 0]) := by
  obtain ⟨nb, hnb⟩ : ∃ nb : Nat, r.buckets = (nb : Int) := ⟨r.buckets.toNat, by unfold RoomOk at hb; omega⟩
  have HNT : Aside0 (newT r = ⟨r, [], List.replicate nb (if r.fresh then 0 else 1), 0⟩) := ⟨by unfold newT; rw [hnb, Int.toNat_natCast]⟩
  obtain ⟨k1, k2, k3, k4, k5, k6⟩ := hb
  obtain ⟨ra, rz, rc, rd⟩ := r
  dsimp only at *
  subst hnb
  obtain ⟨x, hx⟩ : ∃ x : Int, x = if rd then 0 else 1 := ⟨_, rfl⟩
  rw [← hx] at HNT
  have HXR : Aside0 (InR .i64 x) := ⟨by rw [hx]; split <;> exact InR.mk64 (by decide) (by decide)⟩
  have HXV : Aside0 (x = if rd then 0 else 1) := ⟨hx⟩
  clear hx
  have hone := run_one
  go_enter Try.func29, Try.ntmps29
  go_upto_region 3 with (fail)
  generalize hX : World.alloc _ _ = W0
  have HB0 : Aside0 (Below w.heap.size w W0) := ⟨by rw [← hX]; exact below_alloc (below_alloc (Below.refl _ _) _) _⟩
  have HX : Aside0 (Blk W0 w.heap.size [.int .i64 ra, .int .i64 rz, .int .i64 (nb : Int), .bool rd] ∧ Blk W0 (w.heap.size + 1) [.int .i64 0, .int .i64 0, .int .i64 0, .bool false, .slice none 0 0, .slice none 0 0, .int .i64 0]) := ⟨by rw [← hX]; exact ⟨(Blk.new_ _ _ _ rfl rfl).alloc _, Blk.new_ _ _ _ (by simp) rfl⟩⟩
  have hs0 : w.heap.size + 2 ≤ W0.heap.size := by have := HX.out.2.lt; omega
  have x0 := HX.out.1.cell 0 rfl
  have x1 := HX.out.1.cell 1 rfl
  have x2 := HX.out.1.cell 2 rfl
  have x3 := HX.out.1.cell 3 rfl
  clear hX
  go_upto_region 5 with (fail)
  generalize hX : World.alloc _ _ = W1
  have HG1 : Aside0 (Grow (kInt .i64) 3 (fun _ => False) W0.heap.size W0 W1 (.slice none 0 0) []) := ⟨by rw [← hX]; exact (Grow.start _ _ _ W0).below (below_alloc (Below.refl _ _) _)⟩
  have HU1 : Aside0 (UB W1 W0.heap.size ⟨ra, rz, nb, rd⟩ (.slice none 0 0) (.slice none 0 0) 0) := ⟨by rw [← hX]; exact UB.new W0 ⟨ra, rz, nb, rd⟩ _ _ 0⟩
  clear hX
  go_loopg [5] nb (fun gk v wr => ∃ (i : Nat) (v5 : Value), v = .int .i64 (i : Int) ∧ i ≤ nb ∧ Aside0 (gk + i = nb) ∧ Aside0 (Grow (kInt .i64) 3 (fun _ => False) W0.heap.size W0 wr v5 (List.replicate i x)) ∧ Aside0 (UB wr W0.heap.size ⟨ra, rz, nb, rd⟩ (.slice none 0 0) v5 0))
  case atStart => exact ⟨0, _, rfl, Nat.zero_le _, ⟨rfl⟩, HG1, HU1⟩
  case round =>
    obtain ⟨i, v5, rfl, hi, HG, HR, HU⟩ := hrel
    have HBW := Aside0.mk HR.out.bl
    have x0 := pw_cell_below HBW.out x0
    have x1 := pw_cell_below HBW.out x1
    have x2 := pw_cell_below HBW.out x2
    have x3 := pw_cell_below HBW.out x3
    by_cases hlt : i < nb
    · have hltI : (i : Int) < (nb : Int) := by omega
      obtain ⟨⟨y0, y1, y2, y3, y4, y5, y6⟩, f0, f1, f2, f3, f4, f5, f6⟩ := seven HU.out.blk
      have hbl := HU.out.blk.lt
      cases rd with
      | false =>
        obtain rfl : x = 1 := by simpa using HXV.out
        go_wp2_with (first | (at_builtin; refine Grow.push3 (cells := #[.int .i64 1]) rfl _ _ 64 _ 8 rfl Try.underlying64 infoInt rfl (by decide) (by omega) HR.out (int_one HXR.out) rfl rfl (by simp; omega) ?_; intro v1 w9 hG9 o9; obtain ⟨A1, c1, rfl, hc1⟩ := hG9.slice; simp only [List.length_append, List.length_replicate, List.length_singleton] at hG9; have HU9 := Aside0.mk (HU.out.only o9 (HR.out.ne HU.out.ty tIntT)); have HG9 := Aside0.mk hG9; clear hG9 o9 hc1 y0 y1 y2 y3 y4 y5 y6 f0 f1 f2 f3 f4 f5 f6; obtain ⟨⟨y0, y1, y2, y3, y4, y5, y6⟩, f0, f1, f2, f3, f4, f5, f6⟩ := seven HU9.out.blk))
        go_roundg (nb - (i + 1))
        case measure => have := HG.out; omega
        case rel => exact ⟨i + 1, _, by go_num, by omega, ⟨by omega⟩, ⟨by rw [← rep_succ nb i 1 hlt]; exact HG9.out.setCell HU9.out.ty tIntT (Nat.le_refl _)⟩, ⟨HU9.out.set5 _⟩⟩
      | true =>
        obtain rfl : x = 0 := by simpa using HXV.out
        go_wp2_with (first | (at_builtin; refine Grow.push3 (cells := #[.int .i64 0]) rfl _ _ 64 _ 8 rfl Try.underlying64 infoInt rfl (by decide) (by omega) HR.out (int_one HXR.out) rfl rfl (by simp; omega) ?_; intro v1 w9 hG9 o9; obtain ⟨A1, c1, rfl, hc1⟩ := hG9.slice; simp only [List.length_append, List.length_replicate, List.length_singleton] at hG9; have HU9 := Aside0.mk (HU.out.only o9 (HR.out.ne HU.out.ty tIntT)); have HG9 := Aside0.mk hG9; clear hG9 o9 hc1 y0 y1 y2 y3 y4 y5 y6 f0 f1 f2 f3 f4 f5 f6; obtain ⟨⟨y0, y1, y2, y3, y4, y5, y6⟩, f0, f1, f2, f3, f4, f5, f6⟩ := seven HU9.out.blk))
        go_roundg (nb - (i + 1))
        case measure => have := HG.out; omega
        case rel => exact ⟨i + 1, _, by go_num, by omega, ⟨by omega⟩, ⟨by rw [← rep_succ nb i 0 hlt]; exact HG9.out.setCell HU9.out.ty tIntT (Nat.le_refl _)⟩, ⟨HU9.out.set5 _⟩⟩
    · obtain rfl : i = nb := by omega
      obtain ⟨tk, htk⟩ : ∃ tk, tk = List.replicate i x := ⟨_, rfl⟩
      rw [← htk] at HR HNT
      clear htk
      obtain ⟨A', c', rfl, hc', hF⟩ := HR.out.foot
      have HFF := Aside0.mk (And.intro hc' hF)
      clear hc' hF
      obtain ⟨⟨y0, y1, y2, y3, y4, y5, y6⟩, _⟩ := seven HU.out.blk
      have HXW := Aside0.mk (HX.out.2.on HBW.out)
      obtain ⟨⟨r0, r1, r2, r3, r4, r5, r6⟩, g0, g1, g2, g3, g4, g5, g6⟩ := seven HXW.out
      clear x0 x1 x3
      have hrt : RT wr (fun j => False ∨ W0.heap.size ≤ j) ⟨⟨ra, rz, i, rd⟩, [], tk, 0⟩ none 0 A' c' := ⟨fun W' _ => Kd.C_nil _ _, HFF.out.2, Nat.le_refl _, HFF.out.1⟩
      have HRT := Aside0.mk hrt
      clear hrt
      go_wp2
      generalize hW9 : World.setCell _ _ _ = W9
      have h9 := ret7 (W9 := W9) (Below.then_ HB0.out HBW.out (Nat.le_refl _)) HXW.out (by omega) HRT.out (ok := fun _ => False) (fun j hj => by rcases hj with hj | hj; exact hj.elim; exact ⟨by omega, .inr (by omega)⟩) hW9
      clear hW9
      have H9 := Aside0.mk h9.2
      obtain ⟨z0, z1, z2, z3, z4, z5, z6⟩ := h9.1
      clear h9
      refine bodyPost_ret (v := .tuple #[.agg (rtc ⟨⟨ra, rz, i, rd⟩, [], tk, 0⟩ none 0 A' c').toArray, .int .i64 0]) (by simp [results, Try.results29, go_sem, z0, z1, z2, z3, z4, z5, z6, rtc]; try rfl) rfl ?_
      unfold MadeV
      rw [HNT.out]
      exact ⟨none, 0, A', c', rfl, H9.out.1, H9.out.2⟩
end RTab
end Go.Proofs.Ytgfjkpnaabiecaa
