/- Layer cells: Fill, walked. -/
import Derived.Test.YtgfjkpnaabiecaaTabD
set_option linter.unusedVariables false
set_option linter.unusedSimpArgs false
namespace Go.Proofs.Ytgfjkpnaabiecaa
open Go.RowKit Go.Proofs.YtgfjkpnaabiecaaW.PrintWords
namespace Tab
open Tags
def fillOld (T : Tb) (e : Entry) : Option Cell := (find T.l e.key).bind fun c => if 0 < cmpT c.e.tag e.tag then some c else none
def fillT (T : Tb) (e : Entry) (tk : Int) : Tb :=
  if EntOk e ∧ tokAt T e.key = tk then match fillOld T e with
    | some c => lay T { c with whole := true }
    | none => if makeE T e = 0 then lay (makeT T e) ⟨e, true, true, 0⟩ else T
  else T
def fillB (T : Tb) (e : Entry) (tk : Int) : Bool :=
  if EntOk e ∧ tokAt T e.key = tk then match fillOld T e with
    | some _ => true
    | none => makeE T e == 0
  else false
def fillE (T : Tb) (e : Entry) (tk : Int) : Int :=
  if EntOk e then if tokAt T e.key = tk then match fillOld T e with
    | some _ => 0
    | none => makeE T e
  else 0 else 2
theorem bk_whole {w : World} {c : Cell} {A : Option Addr} {cp : Nat} (b : Bool) (h : BK Cell.k w c (ccs c A cp)) : BK Cell.k w { c with whole := b } (ccs { c with whole := b } A cp) := by
  refine Foot.imp h (fun W' hK => ?_)
  obtain ⟨A5, c5, he, s0, r1, r2, r3, l5, g5, r8⟩ := Cell.open_ hK
  simp only [ccs, List.cons.injEq, Value.slice.injEq, true_and, and_true] at he
  obtain ⟨rfl, rfl⟩ := he
  exact Cell.mk_ W' { c with whole := b } s0 r1 r2 r3 l5 g5 r8
theorem bk_clean {w : World} {c : Cell} {A : Option Addr} {cp : Nat} (b : Bool) (h : BK Cell.k w c (ccs c A cp)) : BK Cell.k w { c with clean := b } (ccs { c with clean := b } A cp) := by
  refine Foot.imp h (fun W' hK => ?_)
  obtain ⟨A5, c5, he, s0, r1, r2, r3, l5, g5, r8⟩ := Cell.open_ hK
  simp only [ccs, List.cons.injEq, Value.slice.injEq, true_and, and_true] at he
  obtain ⟨rfl, rfl⟩ := he
  exact Cell.mk_ W' { c with clean := b } s0 r1 r2 r3 l5 g5 r8
set_option maxRecDepth 100000 in
set_option maxHeartbeats 1000000 in
theorem fill_calls (p mb tb : Nat) (T : Tb) (e : Entry) (tk : Int) (A : Option Addr) (cp : Nat) (n : Int) (w : World) (h : TbR w p mb tb T) (hN : Num T n) (hn : n ≤ 2000000000000000000)
    (hF : Kd.FK Entry.k w (fun k => k ∉ [p, mb, tb]) e [.string e.key, .int .i64 e.tag.seq, .int .i64 e.tag.who, .int .i64 e.tag.op, .bool e.val.has, .slice A e.val.b.length cp]) (hbl : e.val.b.length ≤ 140737488351232) :
    Calls Try.prog 15 #[.pointer (some ⟨p, 0, none⟩), .agg #[.string e.key, .int .i64 e.tag.seq, .int .i64 e.tag.who, .int .i64 e.tag.op, .bool e.val.has, .slice A e.val.b.length cp], .int .i64 tk] w (TabTold w p mb tb (fillT T e tk) (.tuple #[.bool (fillB T e tk), .int .i64 (fillE T e tk)])) := by
  have HT := Aside0.mk h
  have HN := Aside0.mk hN
  have HKE := Aside0.mk hF
  have hks : e.key.size ≤ 140737488351232 := by obtain ⟨_, _, _, hks, _⟩ := Entry.open_ (Kd.FK_now hF); exact hks
  have HR := Aside0.mk (fun w' => right_calls e.key e.tag.seq e.tag.who e.tag.op e.val.has A cp e.val.b w' hks hbl)
  obtain ⟨cap, hcap, hB⟩ := h.blk
  have hpl := h.lt.1
  have hml := h.lt.2.1
  obtain ⟨⟨p0, p1, p2, p3, p4, p5, p6, p7⟩, fx⟩ := hB.eight
  clear fx hB h hN hF
  by_cases ho : EntOk e
  · have HGOOD := Aside0.mk ho
    have hr0 := rgt_ok ho
    have hkz : e.key.size ≤ 250 := ho.2.1
    have hbz : e.val.b.length ≤ 60000 := ho.2.2.1
    obtain ⟨E, hE⟩ : ∃ E : Entry, E = e := ⟨_, rfl⟩
    rw [← hE] at HGOOD
    obtain ⟨ek, ⟨a1, a2, a3⟩, ⟨eh, eb⟩⟩ := e
    dsimp only at *
    rw [hr0] at HR
    rw [← hE]
    rw [← hE] at HKE
    have HE := Aside0.mk hE
    clear hE ho hr0
    obtain ⟨o, Ao, co, hoe, hbo, hlk⟩ := HT.out.map.look_or ek (by omega)
    obtain ⟨hasB, hhas⟩ : ∃ b, b = (find T.l ek).isSome := ⟨_, rfl⟩
    have rl : ∀ w', Below w.heap.size w w' → (Instr.lookup 81 (.map (some mb)) (.string ek) true).run Try.prog w' = .ok (.tuple #[.agg #[.string o.e.key, .int .i64 o.e.tag.seq, .int .i64 o.e.tag.who, .int .i64 o.e.tag.op, .bool o.e.val.has, .slice Ao o.e.val.b.length co, .bool o.whole, .bool o.clean, .int .i64 o.used], .bool hasB]) w' := fun w' h => by
      have := hlk true w' (h.block mb hml)
      rw [← hhas] at this
      exact this
    have HO := Aside0.mk (And.intro hoe (And.intro hbo hhas))
    clear hlk hoe hbo hhas
    obtain ⟨b0, b1⟩ := Hash.bkt_bd ek HN.out.bk.1
    obtain ⟨i, hi⟩ : ∃ i : Nat, Hash.bkt ek T.room.buckets = (i : Int) := ⟨_, (Int.toNat_of_nonneg b0).symm⟩
    rw [hi] at b1
    have HI := Aside0.mk hi
    clear hi b0
    have hil : i < T.tok.length := by have := HN.out.tl; omega
    obtain ⟨x, hx⟩ : ∃ x, x = T.tok[i] := ⟨_, rfl⟩
    have hxi : T.tok[i]? = some x := by rw [List.getElem?_eq_getElem hil, hx]
    have HTA : Aside0 (tokAt T E.key = x) := ⟨by unfold tokAt; rw [HE.out]; dsimp only; rw [HI.out, Int.toNat_natCast, List.getD_eq_getElem?_getD, hxi]; rfl⟩
    have hcx : w.cell? ⟨tb, i, none⟩ = some (.int .i64 x) := HT.out.tok.cell i (by rw [List.getElem?_map, hxi]; rfl)
    have hkk : ek.size ≤ 140737488351232 := by omega
    have Z3 : Aside0 (∀ w', Below w.heap.size w w' → Calls Try.prog 41 #[.pointer (some ⟨p, 0, none⟩), .string ek] w' fun e w'' => e = .returned (.int .i64 (i : Int)) ∧ Below w'.heap.size w' w'') := ⟨fun w' hb => by
      have := bucketT_calls p ek T.room.buckets w' (pw_cell_below hb p2) hkk HN.out.bk.1 HN.out.bk.2
      rw [HI.out] at this
      exact this⟩
    have i0 : (0 : Int) ≤ (i : Int) := by omega
    have i1 : (i : Int) < (T.tok.length : Int) := by omega
    clear hx hxi b1
    go_enter Try.func15, Try.ntmps15
    go_wp2_with (first | ((with_reducible refine (HR.out _).mono ?_); rintro e w1 ⟨rfl, hb1⟩; have HB1 := Aside0.mk hb1; clear hb1))
    have HW1 : Aside0 (Below w.heap.size w w1 ∧ Blk w1 w.heap.size [.string ek, .int .i64 a1, .int .i64 a2, .int .i64 a3, .bool eh, .slice A eb.length cp]) := ⟨Below.then_ (below_alloc (Below.refl _ w) _) HB1.out (Nat.le_refl _), (Blk.new w _ _).on HB1.out⟩
    clear HB1
    have r5 : ∀ w', Below w1.heap.size w1 w' → w'.cell? ⟨p, 5, none⟩ = some (.slice (some ⟨tb, 0, none⟩) T.tok.length cap) := fun w' h => pw_cell_below (Below.then_ HW1.out.1 h (Nat.le_refl _)) p5
    have rx : ∀ w', Below w1.heap.size w1 w' → w'.cell? ⟨tb, i, none⟩ = some (.int .i64 x) := fun w' h => pw_cell_below (Below.then_ HW1.out.1 h (Nat.le_refl _)) hcx
    have re0 : ∀ w', Below w1.heap.size w1 w' → w'.cell? ⟨w.heap.size, 0, none⟩ = some (.string ek) := fun w' h => pw_cell_below h (HW1.out.2.cell 0 rfl)
    refine region_calm 12 (Below w1.heap.size w1) (by kernel_rfl) (by kernel_rfl) (below_drew (Below.refl _ _)) ?_
    simp only [List.take_succ_cons, List.take_zero, List.drop_succ_cons, List.drop_zero]
    (refine wpCalm_val (v := ?_) rfl ?_ ?_; rotate_left; (focus (intro w' hSw; go_simp; try with_reducible rfl)))
    (try simp only [Act.put, List.setIfInBounds_toArray, List.set_cons_zero, List.set_cons_succ])
    (refine wpCalm_val (v := ?_) rfl ?_ ?_; rotate_left; (focus (intro w' hSw; go_simp; try with_reducible rfl)))
    (try simp only [Act.put, List.setIfInBounds_toArray, List.set_cons_zero, List.set_cons_succ])
    (refine wpCalm_val (v := ?_) rfl ?_ ?_; rotate_left; (focus (intro w' hSw; go_simp; try with_reducible rfl)))
    (try simp only [Act.put, List.setIfInBounds_toArray, List.set_cons_zero, List.set_cons_succ])
    (refine wpCalm_val (v := ?_) rfl ?_ ?_; rotate_left; (focus (intro w' hSw; go_simp; try with_reducible rfl)))
    (try simp only [Act.put, List.setIfInBounds_toArray, List.set_cons_zero, List.set_cons_succ])
    (refine wpCalm_val (v := ?_) rfl ?_ ?_; rotate_left; (focus (intro w' hSw; go_simp; try with_reducible rfl)))
    (try simp only [Act.put, List.setIfInBounds_toArray, List.set_cons_zero, List.set_cons_succ])
    (refine wpCalm_val (v := ?_) rfl ?_ ?_; rotate_left; (focus (intro w' hSw; go_simp; try with_reducible rfl)))
    (try simp only [Act.put, List.setIfInBounds_toArray, List.set_cons_zero, List.set_cons_succ])
    (refine wpCalm_val (v := ?_) rfl ?_ ?_; rotate_left; (focus (intro w' hSw; go_simp; try with_reducible rfl)))
    (try simp only [Act.put, List.setIfInBounds_toArray, List.set_cons_zero, List.set_cons_succ])
    (refine wpCalm_call (v := .int .i64 (i : Int)) (f := ?_) (args := ?_) rfl ?_ ?_ ?_; rotate_left 2; (focus (intro w' hSw; go_simp; constructor <;> with_reducible rfl)); (focus (intro w' hSw; exact (Z3.out w' (Below.then_ HW1.out.1 hSw (Nat.le_refl _))).mono fun e w1 ⟨h1, h2⟩ => ⟨h1, Below.then_ hSw h2 (Nat.le_refl _)⟩)))
    (try simp only [Act.put, List.setIfInBounds_toArray, List.set_cons_zero, List.set_cons_succ])
    (refine wpCalm_val (v := ?_) rfl ?_ ?_; rotate_left; (focus (intro w' hSw; go_simp; try with_reducible rfl)))
    (try simp only [Act.put, List.setIfInBounds_toArray, List.set_cons_zero, List.set_cons_succ])
    (refine wpCalm_val (v := ?_) rfl ?_ ?_; rotate_left; (focus (intro w' hSw; go_simp; try with_reducible rfl)))
    (try simp only [Act.put, List.setIfInBounds_toArray, List.set_cons_zero, List.set_cons_succ])
    (refine wpCalm_val (v := ?_) rfl ?_ ?_; rotate_left; (focus (intro w' hSw; go_simp; try with_reducible rfl)))
    (try simp only [Act.put, List.setIfInBounds_toArray, List.set_cons_zero, List.set_cons_succ])
    (refine wpCalm_val (v := ?_) rfl ?_ ?_; rotate_left; (focus (intro w' hSw; go_simp; try with_reducible rfl)))
    (try simp only [Act.put, List.setIfInBounds_toArray, List.set_cons_zero, List.set_cons_succ])
    refine wpCalm_nil ?_
    intro w2 hS2
    have HW2 : Aside0 (Below w.heap.size w w2 ∧ Blk w2 w.heap.size [.string ek, .int .i64 a1, .int .i64 a2, .int .i64 a3, .bool eh, .slice A eb.length cp]) := ⟨Below.then_ HW1.out.1 hS2 (Nat.le_refl _), HW1.out.2.on hS2⟩
    clear hS2 r5 rx re0 hcx HW1
    by_cases htk : x = tk
    · have hxb : (x != tk) = false := by simpa using htk
      have HTK : Aside0 (tokAt T E.key = tk) := ⟨HTA.out.trans htk⟩
      clear htk
      go_wp2
      have r4 : ∀ w', Below w2.heap.size w2 w' → w'.cell? ⟨p, 4, none⟩ = some (.map (some mb)) := fun w' h => pw_cell_below (Below.then_ HW2.out.1 h (Nat.le_refl _)) p4
      have re0 : ∀ w', Below w2.heap.size w2 w' → w'.cell? ⟨w.heap.size, 0, none⟩ = some (.string ek) := fun w' h => pw_cell_below h (HW2.out.2.cell 0 rfl)
      have rl1 := fun w' (h : Below w2.heap.size w2 w') => rl w' (Below.then_ HW2.out.1 h (Nat.le_refl _))
      clear rl
      refine wp_region_noPanic ?_
      refine wp_region_held_drew (S := Below w2.heap.size w2) (by kernel_rfl) (below_drew (Below.refl _ _)) (fun hHeld => ?_)
      (refine takeH 0 32 (v := ?_) rfl rfl (by kernel_rfl) (by kernel_rfl) (by kernel_rfl) (fun _ _ _ h => h) hHeld rfl ?_ ?_; rotate_left; (focus (intro w' hSw; go_simp; try with_reducible rfl)))
      (try simp only [Act.put, List.setIfInBounds_toArray, List.set_cons_zero, List.set_cons_succ])
      (refine takeH 1 33 (v := ?_) rfl rfl (by kernel_rfl) (by kernel_rfl) (by kernel_rfl) (fun _ _ _ h => h) hHeld rfl ?_ ?_; rotate_left; (focus (intro w' hSw; go_simp; try with_reducible rfl)))
      (try simp only [Act.put, List.setIfInBounds_toArray, List.set_cons_zero, List.set_cons_succ])
      (refine takeH 2 34 (v := ?_) rfl rfl (by kernel_rfl) (by kernel_rfl) (by kernel_rfl) (fun _ _ _ h => h) hHeld rfl ?_ ?_; rotate_left; (focus (intro w' hSw; go_simp; try with_reducible rfl)))
      (try simp only [Act.put, List.setIfInBounds_toArray, List.set_cons_zero, List.set_cons_succ])
      (refine takeH 3 35 (v := ?_) rfl rfl (by kernel_rfl) (by kernel_rfl) (by kernel_rfl) (fun _ _ _ h => h) hHeld rfl ?_ ?_; rotate_left; (focus (intro w' hSw; go_simp; try with_reducible rfl)))
      (try simp only [Act.put, List.setIfInBounds_toArray, List.set_cons_zero, List.set_cons_succ])
      (refine takeH 4 36 (v := ?_) rfl rfl (by kernel_rfl) (by kernel_rfl) (by kernel_rfl) (fun _ _ _ h => h) hHeld rfl ?_ ?_; rotate_left; (focus (intro w' hSw; go_simp; try with_reducible rfl)))
      (try simp only [Act.put, List.setIfInBounds_toArray, List.set_cons_zero, List.set_cons_succ])
      (refine takeH 5 37 (v := ?_) rfl rfl (by kernel_rfl) (by kernel_rfl) (by kernel_rfl) (fun _ _ _ h => h) hHeld rfl ?_ ?_; rotate_left; (focus (intro w' hSw; go_simp; try with_reducible rfl)))
      (try simp only [Act.put, List.setIfInBounds_toArray, List.set_cons_zero, List.set_cons_succ])
      (refine takeH 6 38 (v := ?_) rfl rfl (by kernel_rfl) (by kernel_rfl) (by kernel_rfl) (fun _ _ _ h => h) hHeld rfl ?_ ?_; rotate_left; (focus (intro w' hSw; go_simp; try with_reducible rfl)))
      (try simp only [Act.put, List.setIfInBounds_toArray, List.set_cons_zero, List.set_cons_succ])
      (refine takeH 7 31 (v := ?_) rfl rfl (by kernel_rfl) (by kernel_rfl) (by kernel_rfl) (fun _ _ _ h => h) hHeld rfl ?_ ?_; rotate_left; (focus (intro w' hSw; go_simp; try with_reducible rfl)))
      (try simp only [Act.put, List.setIfInBounds_toArray, List.set_cons_zero, List.set_cons_succ])
      (refine takeH 8 39 (v := ?_) rfl rfl (by kernel_rfl) (by kernel_rfl) (by kernel_rfl) (fun _ _ _ h => h) hHeld rfl ?_ ?_; rotate_left; (focus (intro w' hSw; go_simp; try with_reducible rfl)))
      (try simp only [Act.put, List.setIfInBounds_toArray, List.set_cons_zero, List.set_cons_succ])
      (refine takeH 9 40 (v := ?_) rfl rfl (by kernel_rfl) (by kernel_rfl) (by kernel_rfl) (fun _ _ _ h => h) hHeld rfl ?_ ?_; rotate_left; (focus (intro w' hSw; go_simp; try with_reducible rfl)))
      (try simp only [Act.put, List.setIfInBounds_toArray, List.set_cons_zero, List.set_cons_succ])
      refine wpAnyH_ready (rs := [10]) (by kernel_rfl) (by simp) ?_
      refine AllReadyH.cons rfl (fun K hK => ?_) AllReadyH.nil
      go_simp
      refine hK.out _ _ (below_alloc (by assumption) _) (fun hHeld => ?_)
      clear hK K
      (try simp only [Act.put, List.setIfInBounds_toArray, List.set_cons_zero, List.set_cons_succ])
      refine wpAnyH_ready (rs := [11]) (by kernel_rfl) (by simp) ?_
      refine AllReadyH.cons rfl (fun K hK => ?_) AllReadyH.nil
      go_simp
      refine hK.out _ _ (below_drew (below_alloc (Below.refl _ _) _)) (fun hHeld => ?_)
      clear hK K
      (try simp only [Act.put, List.setIfInBounds_toArray, List.set_cons_zero, List.set_cons_succ])
      (refine takeH 12 9 (v := ?_) rfl rfl (by kernel_rfl) (by kernel_rfl) (by kernel_rfl) (fun _ _ _ h => h) hHeld rfl ?_ ?_; rotate_left; (focus (intro w' hSw; go_simp; try with_reducible rfl)))
      (try simp only [Act.put, List.setIfInBounds_toArray, List.set_cons_zero, List.set_cons_succ])
      refine wpAnyH_done (by kernel_rfl) ?_ _
      refine NoPanic.normal ?_
      obtain ⟨W3, hW3⟩ : ∃ W3 : World, W3 = (w2.alloc (.cells #[.string o.e.key, .int .i64 o.e.tag.seq, .int .i64 o.e.tag.who, .int .i64 o.e.tag.op, .bool o.e.val.has, .slice Ao o.e.val.b.length co, .bool o.whole, .bool o.clean, .int .i64 o.used] 47)).drew := ⟨_, rfl⟩
      have HX3 : Aside0 (Blk W3 w2.heap.size [.string o.e.key, .int .i64 o.e.tag.seq, .int .i64 o.e.tag.who, .int .i64 o.e.tag.op, .bool o.e.val.has, .slice Ao o.e.val.b.length co, .bool o.whole, .bool o.clean, .int .i64 o.used] ∧ Below w2.heap.size w2 W3) := ⟨by rw [hW3]; exact ⟨(Blk.new w2 _ _).drew, below_drew (below_alloc (Below.refl _ _) _)⟩⟩
      go_upto_region 8 with (fail)
      rw [← hW3]
      clear hW3
      clear r4 re0 rl1 p0 p1 p2 p3 p4 p5 p6 p7
      have HB3 : Aside0 (Below w.heap.size w W3) := ⟨Below.then_ HW2.out.1 HX3.out.2 (Nat.le_refl _)⟩
      have HE3 := HW2.out.2.on HX3.out.2
      obtain ⟨⟨e0, e1, e2, e3, e4, e5⟩, fe⟩ := HE3.six
      obtain ⟨⟨x0, x1, x2, x3, x4, x5, x6, x7, x8⟩, fx⟩ := HX3.out.1.nine
      clear fe fx HE3
      have hc0 := fun w' => compareT_calls o.e.tag ⟨a1, a2, a3⟩ w'
      dsimp only at hc0
      have HC := Aside0.mk hc0
      clear hc0
      have HNE : Aside0 (w.heap.size ∉ [p, mb, tb] ∧ w2.heap.size ∉ [p, mb, tb]) := ⟨by
        have h1 := HT.out.lt
        have h2 := HW2.out.1.size
        simp
        omega⟩
      have hnn := HN.out.us
      have hnp := HN.out.pos
      have hm0 := fun w' (hb' : Below w.heap.size w w') => make_calls p mb tb T ⟨ek, ⟨a1, a2, a3⟩, ⟨eh, eb⟩⟩ A cp n w' (HT.out.below hb') HN.out (by omega) (by dsimp only; omega) (by dsimp only; omega)
      dsimp only at hm0
      rw [← HE.out] at hm0
      have HM := Aside0.mk hm0
      clear hm0
      cases hasB with
      | true =>
        have HFD : Aside0 (find T.l E.key = some o) := ⟨by
          rw [HE.out]
          have h1 := HO.out.1
          cases hf : find T.l ek with
          | none => have h2 := HO.out.2.2; rw [hf] at h2; cases h2
          | some c => rw [hf] at h1; rw [h1]; rfl⟩
        by_cases hcm : 0 < cmpT o.e.tag ⟨a1, a2, a3⟩
        · have hcb : decide (0 < cmpT o.e.tag ⟨a1, a2, a3⟩) = true := by simpa using hcm
          have HS : Aside0 (fillT T E tk = lay T { o with whole := true } ∧ fillB T E tk = true ∧ fillE T E tk = 0) := ⟨by
            have : fillOld T E = some o := by unfold fillOld; rw [HFD.out]; show (if 0 < cmpT o.e.tag E.tag then some o else none) = some o; rw [HE.out, if_pos hcm]
            exact ⟨by unfold fillT; rw [if_pos ⟨HGOOD.out, HTK.out⟩, this], by unfold fillB; rw [if_pos ⟨HGOOD.out, HTK.out⟩, this], by unfold fillE; rw [if_pos HGOOD.out, if_pos HTK.out, this]⟩⟩
          have hoT := (find_mem HFD.out).1
          have hky := HN.out.ky o hoT
          have hl0 := fun w' (hb' : Below w.heap.size w w') => lay_calls p mb tb T { o with whole := true } Ao co w' (HT.out.below hb') (bk_whole true (HO.out.2.1.below hb')) (by omega) (by have := HN.out.sz; omega) hky.1 hky.2
          dsimp only at hl0
          have HLY := Aside0.mk hl0
          clear hoT hky hcm hl0
          go_upto_region 9 with (first | ((with_reducible refine (HC.out _).mono ?_); rintro e w4 ⟨rfl, hb4⟩; have HB4 := Aside0.mk hb4; clear hb4))
          have HX4 := Aside0.mk (HX3.out.1.on HB4.out)
          have f6 := HX4.out.frozen 6 rfl
          have y6 := HX4.out.cell 6 rfl
          clear x0 x1 x2 x3 x4 x5 x6 x7 x8
          go_upto_region 10 with (fail)
          obtain ⟨W4, hW4⟩ : ∃ W4 : World, W4 = w4.setCell ⟨w2.heap.size, 6, none⟩ (.bool true) := ⟨_, rfl⟩
          rw [← hW4]
          have HBW : Aside0 (Below w.heap.size w W4) := ⟨by rw [hW4]; exact (Below.then_ HB3.out HB4.out (Nat.le_refl _)).setCell (p := ⟨w2.heap.size, 6, none⟩) HW2.out.1.size _⟩
          have hx4 : Blk W4 w2.heap.size [.string o.e.key, .int .i64 o.e.tag.seq, .int .i64 o.e.tag.who, .int .i64 o.e.tag.op, .bool o.e.val.has, .slice Ao o.e.val.b.length co, .bool true, .bool o.clean, .int .i64 o.used] := by rw [hW4]; exact HX4.out.set 6 (.bool true)
          obtain ⟨⟨x0, x1, x2, x3, x4, x5, x6, x7, x8⟩, fx⟩ := hx4.nine
          clear hW4 hx4 fx f6 y6
          go_wp2_with (first | ((with_reducible refine (HLY.out _ HBW.out).mono ?_); rintro e w5 ⟨rfl, h5, o5⟩; have H5 := Aside0.mk (And.intro h5 o5); clear h5 o5))
          refine bodyPost_ret (v := .tuple #[.bool true, .int .i64 0]) (by simp [results, Try.results15, go_sem]; try rfl) rfl ?_
          exact ⟨by rw [HS.out.2.1, HS.out.2.2], by rw [HS.out.1]; exact H5.out.1, (Only.of_below _ HBW.out).trans H5.out.2⟩
        · have hcb : decide (0 < cmpT o.e.tag ⟨a1, a2, a3⟩) = false := by simpa using hcm
          have HSO : Aside0 (fillOld T E = none) := ⟨by unfold fillOld; rw [HFD.out]; show (if 0 < cmpT o.e.tag E.tag then some o else none) = none; rw [HE.out, if_neg hcm]⟩
          clear hcm
          have hmk := makeE_cases T E
          go_wp2_with (first | ((with_reducible refine (HC.out _).mono ?_); rintro e w4 ⟨rfl, hb4⟩; have HB4 := Aside0.mk hb4; obtain ⟨⟨e0, e1, e2, e3, e4, e5⟩, fe⟩ := ((HW2.out.2.on HX3.out.2).on hb4).six; clear hb4 fe) | ((with_reducible refine (HM.out _ (Below.then_ HB3.out HB4.out (Nat.le_refl _))).mono ?_); rintro e w5 ⟨rfl, h5, o5⟩; have H5 := Aside0.mk (And.intro h5 o5); have HE5 := Aside0.mk (((HW2.out.2.on HX3.out.2).on HB4.out).only o5 HNE.out.1); clear e0 e1 e2 e3 e4 e5; obtain ⟨⟨e0, e1, e2, e3, e4, e5⟩, fe⟩ := HE5.out.six; clear fe h5 o5))
          · have hz : ¬ makeE T E = 0 := by
              have : (makeE T E != 0) = true := by assumption
              simpa using this
            have hme : makeE T E = 30 ∧ makeT T E = T := by
              rcases hmk with h | h
              · exact absurd h.1 hz
              · exact h
            have h1 : fillE T E tk = 30 ∧ fillB T E tk = false ∧ fillT T E tk = T := by
              refine ⟨by unfold fillE; rw [if_pos HGOOD.out, if_pos HTK.out, HSO.out]; exact hme.1, by unfold fillB; rw [if_pos ⟨HGOOD.out, HTK.out⟩, HSO.out, hme.1]; rfl, by unfold fillT; rw [if_pos ⟨HGOOD.out, HTK.out⟩, HSO.out]; dsimp only; rw [if_neg hz]⟩
            have h2 := H5.out.1
            rw [hme.2] at h2
            refine bodyPost_ret (v := .tuple #[.bool false, .int .i64 (makeE T E)]) (by simp [results, Try.results15, go_sem]; try rfl) rfl ?_
            exact ⟨by rw [h1.1, h1.2.1, hme.1], by rw [h1.2.2]; exact h2, (Only.of_below _ (Below.then_ HB3.out HB4.out (Nat.le_refl _))).trans H5.out.2⟩
          · have hz : makeE T E = 0 := by
              have : (makeE T E != 0) = false := by assumption
              simpa using this
            have HZ := Aside0.mk hz
            have hNM := HN.out.make E HT.out.srt (by omega)
            have HNM := Aside0.mk hNM
            clear hz hmk hNM
            have hFK5 : Kd.FK Entry.k w5 (fun k => k ∉ [p, mb, tb]) E [.string ek, .int .i64 a1, .int .i64 a2, .int .i64 a3, .bool eh, .slice A eb.length cp] := FK_only (FK_only HKE.out (Only.of_below [p, mb, tb] (Below.then_ HB3.out HB4.out (Nat.le_refl _))) (fun i hi => hi)) H5.out.2 (fun i hi => hi)
            have hcp0 := copy_calls E A cp w5 (by rw [HE.out]; have := Kd.FK_now hFK5; rw [HE.out] at this; exact this) (by rw [HE.out]; dsimp only; omega)
            rw [HE.out] at hcp0
            dsimp only at hcp0
            rw [← HE.out] at hcp0
            have HCP := Aside0.mk hcp0
            clear hcp0 hFK5
            refine HCP.out.mono ?_
            rintro e w6 ⟨cs, rfl, hbk, hfk, hb6⟩
            obtain ⟨A', c', he, _⟩ := Entry.open_ hbk.now
            have hcs : cs = #[.string ek, .int .i64 a1, .int .i64 a2, .int .i64 a3, .bool eh, .slice A' eb.length c'] := by
              have : cs = cs.toList.toArray := by simp
              rw [this, he, HE.out]
            rw [hcs] at hbk
            subst hcs
            have H6 := Aside0.mk (And.intro hbk hb6)
            clear he hfk hbk hb6 e0 e1 e2 e3 e4 e5
            have hbc : BK Cell.k w6 ⟨⟨ek, ⟨a1, a2, a3⟩, ⟨eh, eb⟩⟩, true, true, 0⟩ [.string ek, .int .i64 a1, .int .i64 a2, .int .i64 a3, .bool eh, .slice A' eb.length c', .bool true, .bool true, .int .i64 0] := bk_cell (by have := H6.out.1; rw [HE.out] at this; exact this)
            have hl := lay_calls p mb tb (makeT T E) ⟨⟨ek, ⟨a1, a2, a3⟩, ⟨eh, eb⟩⟩, true, true, 0⟩ A' c' w6 (H5.out.1.below H6.out.2) hbc (by have := HNM.out.us; omega) (by have := HNM.out.sz; omega) (by dsimp only; omega) (by dsimp only; omega)
            dsimp only at hl
            have HL := Aside0.mk hl
            clear hl hbc
            go_wp2_with (first | ((with_reducible refine HL.out.mono ?_); rintro e w7 ⟨rfl, h7, o7⟩; have H7 := Aside0.mk (And.intro h7 o7); clear h7 o7))
            have h1 : fillE T E tk = 0 ∧ fillB T E tk = true ∧ fillT T E tk = lay (makeT T E) ⟨E, true, true, 0⟩ := by
              refine ⟨by unfold fillE; rw [if_pos HGOOD.out, if_pos HTK.out, HSO.out]; exact HZ.out, by unfold fillB; rw [if_pos ⟨HGOOD.out, HTK.out⟩, HSO.out, HZ.out]; rfl, by unfold fillT; rw [if_pos ⟨HGOOD.out, HTK.out⟩, HSO.out]; dsimp only; rw [if_pos HZ.out]⟩
            refine bodyPost_ret (v := .tuple #[.bool true, .int .i64 0]) (by simp [results, Try.results15, go_sem]; try rfl) rfl ?_
            refine ⟨by rw [h1.1, h1.2.1], by rw [h1.2.2, HE.out]; rw [HE.out] at H7; exact H7.out.1, (((Only.of_below _ (Below.then_ HB3.out HB4.out (Nat.le_refl _))).trans H5.out.2).on H6.out.2).trans H7.out.2⟩
      | false =>
        have HSO : Aside0 (fillOld T E = none) := ⟨by
          have : find T.l E.key = none := by
            rw [HE.out]
            cases hf : find T.l ek with
            | none => rfl
            | some c => have h2 := HO.out.2.2; rw [hf] at h2; cases h2
          unfold fillOld; rw [this]; rfl⟩
        have hmk := makeE_cases T E
        go_wp2_with (first | ((with_reducible refine (HM.out _ HB3.out).mono ?_); rintro e w5 ⟨rfl, h5, o5⟩; have H5 := Aside0.mk (And.intro h5 o5); have HE5 := Aside0.mk ((HW2.out.2.on HX3.out.2).only o5 HNE.out.1); clear e0 e1 e2 e3 e4 e5; obtain ⟨⟨e0, e1, e2, e3, e4, e5⟩, fe⟩ := HE5.out.six; clear fe h5 o5))
        · have hz : ¬ makeE T E = 0 := by
            have : (makeE T E != 0) = true := by assumption
            simpa using this
          have hme : makeE T E = 30 ∧ makeT T E = T := by
            rcases hmk with h | h
            · exact absurd h.1 hz
            · exact h
          have h1 : fillE T E tk = 30 ∧ fillB T E tk = false ∧ fillT T E tk = T := by
            refine ⟨by unfold fillE; rw [if_pos HGOOD.out, if_pos HTK.out, HSO.out]; exact hme.1, by unfold fillB; rw [if_pos ⟨HGOOD.out, HTK.out⟩, HSO.out, hme.1]; rfl, by unfold fillT; rw [if_pos ⟨HGOOD.out, HTK.out⟩, HSO.out]; dsimp only; rw [if_neg hz]⟩
          have h2 := H5.out.1
          rw [hme.2] at h2
          refine bodyPost_ret (v := .tuple #[.bool false, .int .i64 (makeE T E)]) (by simp [results, Try.results15, go_sem]; try rfl) rfl ?_
          exact ⟨by rw [h1.1, h1.2.1, hme.1], by rw [h1.2.2]; exact h2, (Only.of_below _ HB3.out).trans H5.out.2⟩
        · have hz : makeE T E = 0 := by
            have : (makeE T E != 0) = false := by assumption
            simpa using this
          have HZ := Aside0.mk hz
          have hNM := HN.out.make E HT.out.srt (by omega)
          have HNM := Aside0.mk hNM
          clear hz hmk hNM
          have hFK5 : Kd.FK Entry.k w5 (fun k => k ∉ [p, mb, tb]) E [.string ek, .int .i64 a1, .int .i64 a2, .int .i64 a3, .bool eh, .slice A eb.length cp] := FK_only (FK_only HKE.out (Only.of_below [p, mb, tb] HB3.out) (fun i hi => hi)) H5.out.2 (fun i hi => hi)
          have hcp0 := copy_calls E A cp w5 (by rw [HE.out]; have := Kd.FK_now hFK5; rw [HE.out] at this; exact this) (by rw [HE.out]; dsimp only; omega)
          rw [HE.out] at hcp0
          dsimp only at hcp0
          rw [← HE.out] at hcp0
          have HCP := Aside0.mk hcp0
          clear hcp0 hFK5
          refine HCP.out.mono ?_
          rintro e w6 ⟨cs, rfl, hbk, hfk, hb6⟩
          obtain ⟨A', c', he, _⟩ := Entry.open_ hbk.now
          have hcs : cs = #[.string ek, .int .i64 a1, .int .i64 a2, .int .i64 a3, .bool eh, .slice A' eb.length c'] := by
            have : cs = cs.toList.toArray := by simp
            rw [this, he, HE.out]
          rw [hcs] at hbk
          subst hcs
          have H6 := Aside0.mk (And.intro hbk hb6)
          clear he hfk hbk hb6 e0 e1 e2 e3 e4 e5
          have hbc : BK Cell.k w6 ⟨⟨ek, ⟨a1, a2, a3⟩, ⟨eh, eb⟩⟩, true, true, 0⟩ [.string ek, .int .i64 a1, .int .i64 a2, .int .i64 a3, .bool eh, .slice A' eb.length c', .bool true, .bool true, .int .i64 0] := bk_cell (by have := H6.out.1; rw [HE.out] at this; exact this)
          have hl := lay_calls p mb tb (makeT T E) ⟨⟨ek, ⟨a1, a2, a3⟩, ⟨eh, eb⟩⟩, true, true, 0⟩ A' c' w6 (H5.out.1.below H6.out.2) hbc (by have := HNM.out.us; omega) (by have := HNM.out.sz; omega) (by dsimp only; omega) (by dsimp only; omega)
          dsimp only at hl
          have HL := Aside0.mk hl
          clear hl hbc
          go_wp2_with (first | ((with_reducible refine HL.out.mono ?_); rintro e w7 ⟨rfl, h7, o7⟩; have H7 := Aside0.mk (And.intro h7 o7); clear h7 o7))
          have h1 : fillE T E tk = 0 ∧ fillB T E tk = true ∧ fillT T E tk = lay (makeT T E) ⟨E, true, true, 0⟩ := by
            refine ⟨by unfold fillE; rw [if_pos HGOOD.out, if_pos HTK.out, HSO.out]; exact HZ.out, by unfold fillB; rw [if_pos ⟨HGOOD.out, HTK.out⟩, HSO.out, HZ.out]; rfl, by unfold fillT; rw [if_pos ⟨HGOOD.out, HTK.out⟩, HSO.out]; dsimp only; rw [if_pos HZ.out]⟩
          refine bodyPost_ret (v := .tuple #[.bool true, .int .i64 0]) (by simp [results, Try.results15, go_sem]; try rfl) rfl ?_
          refine ⟨by rw [h1.1, h1.2.1], by rw [h1.2.2, HE.out]; rw [HE.out] at H7; exact H7.out.1, (((Only.of_below _ HB3.out).trans H5.out.2).on H6.out.2).trans H7.out.2⟩
    · have hxb : (x != tk) = true := by simpa using htk
      have HS : Aside0 (fillT T E tk = T ∧ fillB T E tk = false ∧ fillE T E tk = 0) := ⟨by
        have hne : ¬ tokAt T E.key = tk := fun e => htk (HTA.out.symm.trans e)
        exact ⟨by unfold fillT; rw [if_neg (fun h => hne h.2)], by unfold fillB; rw [if_neg (fun h => hne h.2)], by unfold fillE; rw [if_pos HGOOD.out, if_neg hne]⟩⟩
      clear htk
      go_wp2
      refine bodyPost_ret (v := .tuple #[.bool false, .int .i64 0]) (by simp [results, Try.results15, go_sem]; try rfl) rfl ?_
      exact ⟨by rw [HS.out.2.1, HS.out.2.2], by rw [HS.out.1]; exact HT.out.below HW2.out.1, Only.of_below _ HW2.out.1⟩
  · have HBAD : Aside0 (fillT T e tk = T ∧ fillB T e tk = false ∧ fillE T e tk = 2) := ⟨by unfold fillT; rw [if_neg (fun h => ho h.1)], by unfold fillB; rw [if_neg (fun h => ho h.1)], by unfold fillE; rw [if_neg ho]⟩
    obtain ⟨ek, ⟨a1, a2, a3⟩, ⟨eh, eb⟩⟩ := e
    dsimp only at *
    have hr0 := rgt_no ho
    rw [hr0] at HR
    clear ho hr0
    go_enter Try.func15, Try.ntmps15
    go_wp2_with (first | ((with_reducible refine (HR.out _).mono ?_); rintro e w1 ⟨rfl, hb1⟩; have HB1 := Aside0.mk hb1; clear hb1))
    have hbf := Below.then_ (below_alloc (Below.refl _ w) _) HB1.out (Nat.le_refl _)
    refine bodyPost_ret (v := .tuple #[.bool false, .int .i64 2]) (by simp [results, Try.results15, go_sem]; try rfl) rfl ?_
    exact ⟨by rw [HBAD.out.2.1, HBAD.out.2.2], by rw [HBAD.out.1]; exact HT.out.below hbf, Only.of_below _ hbf⟩
end Tab
end Go.Proofs.Ytgfjkpnaabiecaa
