/- Lemmas for the row (words on memory, contracts of the program's functions): TabE, TabF, TabG, RowB, Iter, TabI, TabJ, TabH, TabK. -/
import Derived.Shelf.SlIter.Nil
import Derived.Shelf.SortM.Plain
import Derived.Shelf.SortM.SortNone
import Derived.Test.YtgfjkpnaabiecaaProg
import Derived.Deep.LoopGhost
import Derived.Deep.DeepCutAuto
import Derived.Test.YtgfjkpnaabiecaaZT2
set_option linter.unusedVariables false
set_option linter.unusedSimpArgs false
namespace Go.Proofs.Ytgfjkpnaabiecaa
open Go.RowKit Go.Proofs.YtgfjkpnaabiecaaW.PrintWords
namespace Tab
open Tags
def fillOld (T : Tb) (e : Entry) : Option Cell := (find T.l e.key).bind fun c => if 0 < cmpT c.e.tag e.tag then some c else none
def fillT (T : Tb) (e : Entry) (tk : Int) : Tb :=
  if EntOk e ∧ tokAt T e.key = tk then match fillOld T e with
    | some c => lay T { c with whole := true }
    | none => if makeE T e = 0 then lay (makeT T e) ⟨e, true, true, 0⟩ else T
  else T
def fillB (T : Tb) (e : Entry) (tk : Int) : Bool :=
  if EntOk e ∧ tokAt T e.key = tk then match fillOld T e with
    | some _ => true
    | none => makeE T e == 0
  else false
def fillE (T : Tb) (e : Entry) (tk : Int) : Int :=
  if EntOk e then if tokAt T e.key = tk then match fillOld T e with
    | some _ => 0
    | none => makeE T e
  else 0 else 2
theorem bk_whole {w : World} {c : Cell} {A : Option Addr} {cp : Nat} (b : Bool) (h : BK Cell.k w c (ccs c A cp)) : BK Cell.k w { c with whole := b } (ccs { c with whole := b } A cp) := by
  refine Foot.imp h (fun W' hK => ?_)
  obtain ⟨A5, c5, he, s0, r1, r2, r3, l5, g5, r8⟩ := Cell.open_ hK
  simp only [ccs, List.cons.injEq, Value.slice.injEq, true_and, and_true] at he
  obtain ⟨rfl, rfl⟩ := he
  exact Cell.mk_ W' { c with whole := b } s0 r1 r2 r3 l5 g5 r8
theorem bk_clean {w : World} {c : Cell} {A : Option Addr} {cp : Nat} (b : Bool) (h : BK Cell.k w c (ccs c A cp)) : BK Cell.k w { c with clean := b } (ccs { c with clean := b } A cp) := by
  refine Foot.imp h (fun W' hK => ?_)
  obtain ⟨A5, c5, he, s0, r1, r2, r3, l5, g5, r8⟩ := Cell.open_ hK
  simp only [ccs, List.cons.injEq, Value.slice.injEq, true_and, and_true] at he
  obtain ⟨rfl, rfl⟩ := he
  exact Cell.mk_ W' { c with clean := b } s0 r1 r2 r3 l5 g5 r8
set_option maxRecDepth 100000 in
set_option maxHeartbeats 1000000 in
theorem fill_calls (p mb tb : Nat) (T : Tb) (e : Entry) (tk : Int) (A : Option Addr) (cp : Nat) (n : Int) (w : World) (h : TbR w p mb tb T) (hN : Num T n) (hn : n ≤ 2000000000000000000)
    (hF : Kd.FK Entry.k w (fun k => k ∉ [p, mb, tb]) e [.string e.key, .int .i64 e.tag.seq, .int .i64 e.tag.who, .int .i64 e.tag.op, .bool e.val.has, .slice A e.val.b.length cp]) (hbl : e.val.b.length ≤ 140737488351232) :
    Calls Try.prog 15 #[.pointer (some ⟨p, 0, none⟩), .agg #[.string e.key, .int .i64 e.tag.seq, .int .i64 e.tag.who, .int .i64 e.tag.op, .bool e.val.has, .slice A e.val.b.length cp], .int .i64 tk] w (TabTold w p mb tb (fillT T e tk) (.tuple #[.bool (fillB T e tk), .int .i64 (fillE T e tk)])) := by
  have HT := Aside0.mk h
  have HN := Aside0.mk hN
  have HKE := Aside0.mk hF
  have hks : e.key.size ≤ 140737488351232 := by obtain ⟨_, _, _, hks, _⟩ := Entry.open_ (Kd.FK_now hF); exact hks
  have HR := Aside0.mk (fun w' => right_calls e.key e.tag.seq e.tag.who e.tag.op e.val.has A cp e.val.b w' hks hbl)
  obtain ⟨cap, hcap, hB⟩ := h.blk
  have hpl := h.lt.1
  have hml := h.lt.2.1
  obtain ⟨⟨p0, p1, p2, p3, p4, p5, p6, p7⟩, fx⟩ := hB.eight
  clear fx hB h hN hF
  by_cases ho : EntOk e
  · have HGOOD := Aside0.mk ho
    have hr0 := rgt_ok ho
    have hkz : e.key.size ≤ 250 := ho.2.1
    have hbz : e.val.b.length ≤ 60000 := ho.2.2.1
    obtain ⟨E, hE⟩ : ∃ E : Entry, E = e := ⟨_, rfl⟩
    rw [← hE] at HGOOD
    obtain ⟨ek, ⟨a1, a2, a3⟩, ⟨eh, eb⟩⟩ := e
    dsimp only at *
    rw [hr0] at HR
    rw [← hE]
    rw [← hE] at HKE
    have HE := Aside0.mk hE
    clear hE ho hr0
    obtain ⟨o, Ao, co, hoe, hbo, hlk⟩ := HT.out.map.look_or ek (by omega)
    obtain ⟨hasB, hhas⟩ : ∃ b, b = (find T.l ek).isSome := ⟨_, rfl⟩
    have rl : ∀ w', Below w.heap.size w w' → (Instr.lookup 81 (.map (some mb)) (.string ek) true).run Try.prog w' = .ok (.tuple #[.agg #[.string o.e.key, .int .i64 o.e.tag.seq, .int .i64 o.e.tag.who, .int .i64 o.e.tag.op, .bool o.e.val.has, .slice Ao o.e.val.b.length co, .bool o.whole, .bool o.clean, .int .i64 o.used], .bool hasB]) w' := fun w' h => by
      have := hlk true w' (h.block mb hml)
      rw [← hhas] at this
      exact this
    have HO := Aside0.mk (And.intro hoe (And.intro hbo hhas))
    clear hlk hoe hbo hhas
    obtain ⟨b0, b1⟩ := Hash.bkt_bd ek HN.out.bk.1
    obtain ⟨i, hi⟩ : ∃ i : Nat, Hash.bkt ek T.room.buckets = (i : Int) := ⟨_, (Int.toNat_of_nonneg b0).symm⟩
    rw [hi] at b1
    have HI := Aside0.mk hi
    clear hi b0
    have hil : i < T.tok.length := by have := HN.out.tl; omega
    obtain ⟨x, hx⟩ : ∃ x, x = T.tok[i] := ⟨_, rfl⟩
    have hxi : T.tok[i]? = some x := by rw [List.getElem?_eq_getElem hil, hx]
    have HTA : Aside0 (tokAt T E.key = x) := ⟨by unfold tokAt; rw [HE.out]; dsimp only; rw [HI.out, Int.toNat_natCast, List.getD_eq_getElem?_getD, hxi]; rfl⟩
    have hcx : w.cell? ⟨tb, i, none⟩ = some (.int .i64 x) := HT.out.tok.cell i (by rw [List.getElem?_map, hxi]; rfl)
    have hkk : ek.size ≤ 140737488351232 := by omega
    have Z3 : Aside0 (∀ w', Below w.heap.size w w' → Calls Try.prog 41 #[.pointer (some ⟨p, 0, none⟩), .string ek] w' fun e w'' => e = .returned (.int .i64 (i : Int)) ∧ Below w'.heap.size w' w'') := ⟨fun w' hb => by
      have := bucketT_calls p ek T.room.buckets w' (pw_cell_below hb p2) hkk HN.out.bk.1 HN.out.bk.2
      rw [HI.out] at this
      exact this⟩
    have i0 : (0 : Int) ≤ (i : Int) := by omega
    have i1 : (i : Int) < (T.tok.length : Int) := by omega
    clear hx hxi b1
    go_enter Try.func15, Try.ntmps15
    go_wp2_with (first | ((with_reducible refine (HR.out _).mono ?_); rintro e w1 ⟨rfl, hb1⟩; have HB1 := Aside0.mk hb1; clear hb1))
    have HW1 : Aside0 (Below w.heap.size w w1 ∧ Blk w1 w.heap.size [.string ek, .int .i64 a1, .int .i64 a2, .int .i64 a3, .bool eh, .slice A eb.length cp]) := ⟨Below.then_ (below_alloc (Below.refl _ w) _) HB1.out (Nat.le_refl _), (Blk.new w _ _).on HB1.out⟩
    clear HB1
    have r5 : ∀ w', Below w1.heap.size w1 w' → w'.cell? ⟨p, 5, none⟩ = some (.slice (some ⟨tb, 0, none⟩) T.tok.length cap) := fun w' h => pw_cell_below (Below.then_ HW1.out.1 h (Nat.le_refl _)) p5
    have rx : ∀ w', Below w1.heap.size w1 w' → w'.cell? ⟨tb, i, none⟩ = some (.int .i64 x) := fun w' h => pw_cell_below (Below.then_ HW1.out.1 h (Nat.le_refl _)) hcx
    have re0 : ∀ w', Below w1.heap.size w1 w' → w'.cell? ⟨w.heap.size, 0, none⟩ = some (.string ek) := fun w' h => pw_cell_below h (HW1.out.2.cell 0 rfl)
    refine region_calm 12 (Below w1.heap.size w1) (by kernel_rfl) (by kernel_rfl) (below_drew (Below.refl _ _)) ?_
    simp only [List.take_succ_cons, List.take_zero, List.drop_succ_cons, List.drop_zero]
    (refine wpCalm_val (v := ?_) rfl ?_ ?_; rotate_left; (focus (intro w' hSw; go_simp; try with_reducible rfl)))
    (try simp only [Act.put, List.setIfInBounds_toArray, List.set_cons_zero, List.set_cons_succ])
    (refine wpCalm_val (v := ?_) rfl ?_ ?_; rotate_left; (focus (intro w' hSw; go_simp; try with_reducible rfl)))
    (try simp only [Act.put, List.setIfInBounds_toArray, List.set_cons_zero, List.set_cons_succ])
    (refine wpCalm_val (v := ?_) rfl ?_ ?_; rotate_left; (focus (intro w' hSw; go_simp; try with_reducible rfl)))
    (try simp only [Act.put, List.setIfInBounds_toArray, List.set_cons_zero, List.set_cons_succ])
    (refine wpCalm_val (v := ?_) rfl ?_ ?_; rotate_left; (focus (intro w' hSw; go_simp; try with_reducible rfl)))
    (try simp only [Act.put, List.setIfInBounds_toArray, List.set_cons_zero, List.set_cons_succ])
    (refine wpCalm_val (v := ?_) rfl ?_ ?_; rotate_left; (focus (intro w' hSw; go_simp; try with_reducible rfl)))
    (try simp only [Act.put, List.setIfInBounds_toArray, List.set_cons_zero, List.set_cons_succ])
    (refine wpCalm_val (v := ?_) rfl ?_ ?_; rotate_left; (focus (intro w' hSw; go_simp; try with_reducible rfl)))
    (try simp only [Act.put, List.setIfInBounds_toArray, List.set_cons_zero, List.set_cons_succ])
    (refine wpCalm_val (v := ?_) rfl ?_ ?_; rotate_left; (focus (intro w' hSw; go_simp; try with_reducible rfl)))
    (try simp only [Act.put, List.setIfInBounds_toArray, List.set_cons_zero, List.set_cons_succ])
    (refine wpCalm_call (v := .int .i64 (i : Int)) (f := ?_) (args := ?_) rfl ?_ ?_ ?_; rotate_left 2; (focus (intro w' hSw; go_simp; constructor <;> with_reducible rfl)); (focus (intro w' hSw; exact (Z3.out w' (Below.then_ HW1.out.1 hSw (Nat.le_refl _))).mono fun e w1 ⟨h1, h2⟩ => ⟨h1, Below.then_ hSw h2 (Nat.le_refl _)⟩)))
    (try simp only [Act.put, List.setIfInBounds_toArray, List.set_cons_zero, List.set_cons_succ])
    (refine wpCalm_val (v := ?_) rfl ?_ ?_; rotate_left; (focus (intro w' hSw; go_simp; try with_reducible rfl)))
    (try simp only [Act.put, List.setIfInBounds_toArray, List.set_cons_zero, List.set_cons_succ])
    (refine wpCalm_val (v := ?_) rfl ?_ ?_; rotate_left; (focus (intro w' hSw; go_simp; try with_reducible rfl)))
    (try simp only [Act.put, List.setIfInBounds_toArray, List.set_cons_zero, List.set_cons_succ])
    (refine wpCalm_val (v := ?_) rfl ?_ ?_; rotate_left; (focus (intro w' hSw; go_simp; try with_reducible rfl)))
    (try simp only [Act.put, List.setIfInBounds_toArray, List.set_cons_zero, List.set_cons_succ])
    (refine wpCalm_val (v := ?_) rfl ?_ ?_; rotate_left; (focus (intro w' hSw; go_simp; try with_reducible rfl)))
    (try simp only [Act.put, List.setIfInBounds_toArray, List.set_cons_zero, List.set_cons_succ])
    refine wpCalm_nil ?_
    intro w2 hS2
    have HW2 : Aside0 (Below w.heap.size w w2 ∧ Blk w2 w.heap.size [.string ek, .int .i64 a1, .int .i64 a2, .int .i64 a3, .bool eh, .slice A eb.length cp]) := ⟨Below.then_ HW1.out.1 hS2 (Nat.le_refl _), HW1.out.2.on hS2⟩
    clear hS2 r5 rx re0 hcx HW1
    by_cases htk : x = tk
    · have hxb : (x != tk) = false := by simpa using htk
      have HTK : Aside0 (tokAt T E.key = tk) := ⟨HTA.out.trans htk⟩
      clear htk
      go_wp2
      have r4 : ∀ w', Below w2.heap.size w2 w' → w'.cell? ⟨p, 4, none⟩ = some (.map (some mb)) := fun w' h => pw_cell_below (Below.then_ HW2.out.1 h (Nat.le_refl _)) p4
      have re0 : ∀ w', Below w2.heap.size w2 w' → w'.cell? ⟨w.heap.size, 0, none⟩ = some (.string ek) := fun w' h => pw_cell_below h (HW2.out.2.cell 0 rfl)
      have rl1 := fun w' (h : Below w2.heap.size w2 w') => rl w' (Below.then_ HW2.out.1 h (Nat.le_refl _))
      clear rl
      refine wp_region_noPanic ?_
      refine wp_region_held_drew (S := Below w2.heap.size w2) (by kernel_rfl) (below_drew (Below.refl _ _)) (fun hHeld => ?_)
      (refine takeH 0 32 (v := ?_) rfl rfl (by kernel_rfl) (by kernel_rfl) (by kernel_rfl) (fun _ _ _ h => h) hHeld rfl ?_ ?_; rotate_left; (focus (intro w' hSw; go_simp; try with_reducible rfl)))
      (try simp only [Act.put, List.setIfInBounds_toArray, List.set_cons_zero, List.set_cons_succ])
      (refine takeH 1 33 (v := ?_) rfl rfl (by kernel_rfl) (by kernel_rfl) (by kernel_rfl) (fun _ _ _ h => h) hHeld rfl ?_ ?_; rotate_left; (focus (intro w' hSw; go_simp; try with_reducible rfl)))
      (try simp only [Act.put, List.setIfInBounds_toArray, List.set_cons_zero, List.set_cons_succ])
      (refine takeH 2 34 (v := ?_) rfl rfl (by kernel_rfl) (by kernel_rfl) (by kernel_rfl) (fun _ _ _ h => h) hHeld rfl ?_ ?_; rotate_left; (focus (intro w' hSw; go_simp; try with_reducible rfl)))
      (try simp only [Act.put, List.setIfInBounds_toArray, List.set_cons_zero, List.set_cons_succ])
      (refine takeH 3 35 (v := ?_) rfl rfl (by kernel_rfl) (by kernel_rfl) (by kernel_rfl) (fun _ _ _ h => h) hHeld rfl ?_ ?_; rotate_left; (focus (intro w' hSw; go_simp; try with_reducible rfl)))
      (try simp only [Act.put, List.setIfInBounds_toArray, List.set_cons_zero, List.set_cons_succ])
      (refine takeH 4 36 (v := ?_) rfl rfl (by kernel_rfl) (by kernel_rfl) (by kernel_rfl) (fun _ _ _ h => h) hHeld rfl ?_ ?_; rotate_left; (focus (intro w' hSw; go_simp; try with_reducible rfl)))
      (try simp only [Act.put, List.setIfInBounds_toArray, List.set_cons_zero, List.set_cons_succ])
      (refine takeH 5 37 (v := ?_) rfl rfl (by kernel_rfl) (by kernel_rfl) (by kernel_rfl) (fun _ _ _ h => h) hHeld rfl ?_ ?_; rotate_left; (focus (intro w' hSw; go_simp; try with_reducible rfl)))
      (try simp only [Act.put, List.setIfInBounds_toArray, List.set_cons_zero, List.set_cons_succ])
      (refine takeH 6 38 (v := ?_) rfl rfl (by kernel_rfl) (by kernel_rfl) (by kernel_rfl) (fun _ _ _ h => h) hHeld rfl ?_ ?_; rotate_left; (focus (intro w' hSw; go_simp; try with_reducible rfl)))
      (try simp only [Act.put, List.setIfInBounds_toArray, List.set_cons_zero, List.set_cons_succ])
      (refine takeH 7 31 (v := ?_) rfl rfl (by kernel_rfl) (by kernel_rfl) (by kernel_rfl) (fun _ _ _ h => h) hHeld rfl ?_ ?_; rotate_left; (focus (intro w' hSw; go_simp; try with_reducible rfl)))
      (try simp only [Act.put, List.setIfInBounds_toArray, List.set_cons_zero, List.set_cons_succ])
      (refine takeH 8 39 (v := ?_) rfl rfl (by kernel_rfl) (by kernel_rfl) (by kernel_rfl) (fun _ _ _ h => h) hHeld rfl ?_ ?_; rotate_left; (focus (intro w' hSw; go_simp; try with_reducible rfl)))
      (try simp only [Act.put, List.setIfInBounds_toArray, List.set_cons_zero, List.set_cons_succ])
      (refine takeH 9 40 (v := ?_) rfl rfl (by kernel_rfl) (by kernel_rfl) (by kernel_rfl) (fun _ _ _ h => h) hHeld rfl ?_ ?_; rotate_left; (focus (intro w' hSw; go_simp; try with_reducible rfl)))
      (try simp only [Act.put, List.setIfInBounds_toArray, List.set_cons_zero, List.set_cons_succ])
      refine wpAnyH_ready (rs := [10]) (by kernel_rfl) (by simp) ?_
      refine AllReadyH.cons rfl (fun K hK => ?_) AllReadyH.nil
      go_simp
      refine hK.out _ _ (below_alloc (by assumption) _) (fun hHeld => ?_)
      clear hK K
      (try simp only [Act.put, List.setIfInBounds_toArray, List.set_cons_zero, List.set_cons_succ])
      refine wpAnyH_ready (rs := [11]) (by kernel_rfl) (by simp) ?_
      refine AllReadyH.cons rfl (fun K hK => ?_) AllReadyH.nil
      go_simp
      refine hK.out _ _ (below_drew (below_alloc (Below.refl _ _) _)) (fun hHeld => ?_)
      clear hK K
      (try simp only [Act.put, List.setIfInBounds_toArray, List.set_cons_zero, List.set_cons_succ])
      (refine takeH 12 9 (v := ?_) rfl rfl (by kernel_rfl) (by kernel_rfl) (by kernel_rfl) (fun _ _ _ h => h) hHeld rfl ?_ ?_; rotate_left; (focus (intro w' hSw; go_simp; try with_reducible rfl)))
      (try simp only [Act.put, List.setIfInBounds_toArray, List.set_cons_zero, List.set_cons_succ])
      refine wpAnyH_done (by kernel_rfl) ?_ _
      refine NoPanic.normal ?_
      obtain ⟨W3, hW3⟩ : ∃ W3 : World, W3 = (w2.alloc (.cells #[.string o.e.key, .int .i64 o.e.tag.seq, .int .i64 o.e.tag.who, .int .i64 o.e.tag.op, .bool o.e.val.has, .slice Ao o.e.val.b.length co, .bool o.whole, .bool o.clean, .int .i64 o.used] 47)).drew := ⟨_, rfl⟩
      have HX3 : Aside0 (Blk W3 w2.heap.size [.string o.e.key, .int .i64 o.e.tag.seq, .int .i64 o.e.tag.who, .int .i64 o.e.tag.op, .bool o.e.val.has, .slice Ao o.e.val.b.length co, .bool o.whole, .bool o.clean, .int .i64 o.used] ∧ Below w2.heap.size w2 W3) := ⟨by rw [hW3]; exact ⟨(Blk.new w2 _ _).drew, below_drew (below_alloc (Below.refl _ _) _)⟩⟩
      go_upto_region 8 with (fail)
      rw [← hW3]
      clear hW3
      clear r4 re0 rl1 p0 p1 p2 p3 p4 p5 p6 p7
      have HB3 : Aside0 (Below w.heap.size w W3) := ⟨Below.then_ HW2.out.1 HX3.out.2 (Nat.le_refl _)⟩
      have HE3 := HW2.out.2.on HX3.out.2
      obtain ⟨⟨e0, e1, e2, e3, e4, e5⟩, fe⟩ := HE3.six
      obtain ⟨⟨x0, x1, x2, x3, x4, x5, x6, x7, x8⟩, fx⟩ := HX3.out.1.nine
      clear fe fx HE3
      have hc0 := fun w' => compareT_calls o.e.tag ⟨a1, a2, a3⟩ w'
      dsimp only at hc0
      have HC := Aside0.mk hc0
      clear hc0
      have HNE : Aside0 (w.heap.size ∉ [p, mb, tb] ∧ w2.heap.size ∉ [p, mb, tb]) := ⟨by
        have h1 := HT.out.lt
        have h2 := HW2.out.1.size
        simp
        omega⟩
      have hnn := HN.out.us
      have hnp := HN.out.pos
      have hm0 := fun w' (hb' : Below w.heap.size w w') => make_calls p mb tb T ⟨ek, ⟨a1, a2, a3⟩, ⟨eh, eb⟩⟩ A cp n w' (HT.out.below hb') HN.out (by omega) (by dsimp only; omega) (by dsimp only; omega)
      dsimp only at hm0
      rw [← HE.out] at hm0
      have HM := Aside0.mk hm0
      clear hm0
      cases hasB with
      | true =>
        have HFD : Aside0 (find T.l E.key = some o) := ⟨by
          rw [HE.out]
          have h1 := HO.out.1
          cases hf : find T.l ek with
          | none => have h2 := HO.out.2.2; rw [hf] at h2; cases h2
          | some c => rw [hf] at h1; rw [h1]; rfl⟩
        by_cases hcm : 0 < cmpT o.e.tag ⟨a1, a2, a3⟩
        · have hcb : decide (0 < cmpT o.e.tag ⟨a1, a2, a3⟩) = true := by simpa using hcm
          have HS : Aside0 (fillT T E tk = lay T { o with whole := true } ∧ fillB T E tk = true ∧ fillE T E tk = 0) := ⟨by
            have : fillOld T E = some o := by unfold fillOld; rw [HFD.out]; show (if 0 < cmpT o.e.tag E.tag then some o else none) = some o; rw [HE.out, if_pos hcm]
            exact ⟨by unfold fillT; rw [if_pos ⟨HGOOD.out, HTK.out⟩, this], by unfold fillB; rw [if_pos ⟨HGOOD.out, HTK.out⟩, this], by unfold fillE; rw [if_pos HGOOD.out, if_pos HTK.out, this]⟩⟩
          have hoT := (find_mem HFD.out).1
          have hky := HN.out.ky o hoT
          have hl0 := fun w' (hb' : Below w.heap.size w w') => lay_calls p mb tb T { o with whole := true } Ao co w' (HT.out.below hb') (bk_whole true (HO.out.2.1.below hb')) (by omega) (by have := HN.out.sz; omega) hky.1 hky.2
          dsimp only at hl0
          have HLY := Aside0.mk hl0
          clear hoT hky hcm hl0
          go_upto_region 9 with (first | ((with_reducible refine (HC.out _).mono ?_); rintro e w4 ⟨rfl, hb4⟩; have HB4 := Aside0.mk hb4; clear hb4))
          have HX4 := Aside0.mk (HX3.out.1.on HB4.out)
          have f6 := HX4.out.frozen 6 rfl
          have y6 := HX4.out.cell 6 rfl
          clear x0 x1 x2 x3 x4 x5 x6 x7 x8
          go_upto_region 10 with (fail)
          obtain ⟨W4, hW4⟩ : ∃ W4 : World, W4 = w4.setCell ⟨w2.heap.size, 6, none⟩ (.bool true) := ⟨_, rfl⟩
          rw [← hW4]
          have HBW : Aside0 (Below w.heap.size w W4) := ⟨by rw [hW4]; exact (Below.then_ HB3.out HB4.out (Nat.le_refl _)).setCell (p := ⟨w2.heap.size, 6, none⟩) HW2.out.1.size _⟩
          have hx4 : Blk W4 w2.heap.size [.string o.e.key, .int .i64 o.e.tag.seq, .int .i64 o.e.tag.who, .int .i64 o.e.tag.op, .bool o.e.val.has, .slice Ao o.e.val.b.length co, .bool true, .bool o.clean, .int .i64 o.used] := by rw [hW4]; exact HX4.out.set 6 (.bool true)
          obtain ⟨⟨x0, x1, x2, x3, x4, x5, x6, x7, x8⟩, fx⟩ := hx4.nine
          clear hW4 hx4 fx f6 y6
          go_wp2_with (first | ((with_reducible refine (HLY.out _ HBW.out).mono ?_); rintro e w5 ⟨rfl, h5, o5⟩; have H5 := Aside0.mk (And.intro h5 o5); clear h5 o5))
          refine bodyPost_ret (v := .tuple #[.bool true, .int .i64 0]) (by simp [results, Try.results15, go_sem]; try rfl) rfl ?_
          exact ⟨by rw [HS.out.2.1, HS.out.2.2], by rw [HS.out.1]; exact H5.out.1, (Only.of_below _ HBW.out).trans H5.out.2⟩
        · have hcb : decide (0 < cmpT o.e.tag ⟨a1, a2, a3⟩) = false := by simpa using hcm
          have HSO : Aside0 (fillOld T E = none) := ⟨by unfold fillOld; rw [HFD.out]; show (if 0 < cmpT o.e.tag E.tag then some o else none) = none; rw [HE.out, if_neg hcm]⟩
          clear hcm
          have hmk := makeE_cases T E
          go_wp2_with (first | ((with_reducible refine (HC.out _).mono ?_); rintro e w4 ⟨rfl, hb4⟩; have HB4 := Aside0.mk hb4; obtain ⟨⟨e0, e1, e2, e3, e4, e5⟩, fe⟩ := ((HW2.out.2.on HX3.out.2).on hb4).six; clear hb4 fe) | ((with_reducible refine (HM.out _ (Below.then_ HB3.out HB4.out (Nat.le_refl _))).mono ?_); rintro e w5 ⟨rfl, h5, o5⟩; have H5 := Aside0.mk (And.intro h5 o5); have HE5 := Aside0.mk (((HW2.out.2.on HX3.out.2).on HB4.out).only o5 HNE.out.1); clear e0 e1 e2 e3 e4 e5; obtain ⟨⟨e0, e1, e2, e3, e4, e5⟩, fe⟩ := HE5.out.six; clear fe h5 o5))
          · have hz : ¬ makeE T E = 0 := by
              have : (makeE T E != 0) = true := by assumption
              simpa using this
            have hme : makeE T E = 30 ∧ makeT T E = T := by
              rcases hmk with h | h
              · exact absurd h.1 hz
              · exact h
            have h1 : fillE T E tk = 30 ∧ fillB T E tk = false ∧ fillT T E tk = T := by
              refine ⟨by unfold fillE; rw [if_pos HGOOD.out, if_pos HTK.out, HSO.out]; exact hme.1, by unfold fillB; rw [if_pos ⟨HGOOD.out, HTK.out⟩, HSO.out, hme.1]; rfl, by unfold fillT; rw [if_pos ⟨HGOOD.out, HTK.out⟩, HSO.out]; dsimp only; rw [if_neg hz]⟩
            have h2 := H5.out.1
            rw [hme.2] at h2
            refine bodyPost_ret (v := .tuple #[.bool false, .int .i64 (makeE T E)]) (by simp [results, Try.results15, go_sem]; try rfl) rfl ?_
            exact ⟨by rw [h1.1, h1.2.1, hme.1], by rw [h1.2.2]; exact h2, (Only.of_below _ (Below.then_ HB3.out HB4.out (Nat.le_refl _))).trans H5.out.2⟩
          · have hz : makeE T E = 0 := by
              have : (makeE T E != 0) = false := by assumption
              simpa using this
            have HZ := Aside0.mk hz
            have hNM := HN.out.make E HT.out.srt (by omega)
            have HNM := Aside0.mk hNM
            clear hz hmk hNM
            have hFK5 : Kd.FK Entry.k w5 (fun k => k ∉ [p, mb, tb]) E [.string ek, .int .i64 a1, .int .i64 a2, .int .i64 a3, .bool eh, .slice A eb.length cp] := FK_only (FK_only HKE.out (Only.of_below [p, mb, tb] (Below.then_ HB3.out HB4.out (Nat.le_refl _))) (fun i hi => hi)) H5.out.2 (fun i hi => hi)
            have hcp0 := copy_calls E A cp w5 (by rw [HE.out]; have := Kd.FK_now hFK5; rw [HE.out] at this; exact this) (by rw [HE.out]; dsimp only; omega)
            rw [HE.out] at hcp0
            dsimp only at hcp0
            rw [← HE.out] at hcp0
            have HCP := Aside0.mk hcp0
            clear hcp0 hFK5
            refine HCP.out.mono ?_
            rintro e w6 ⟨cs, rfl, hbk, hfk, hb6⟩
            obtain ⟨A', c', he, _⟩ := Entry.open_ hbk.now
            have hcs : cs = #[.string ek, .int .i64 a1, .int .i64 a2, .int .i64 a3, .bool eh, .slice A' eb.length c'] := by
              have : cs = cs.toList.toArray := by simp
              rw [this, he, HE.out]
            rw [hcs] at hbk
            subst hcs
            have H6 := Aside0.mk (And.intro hbk hb6)
            clear he hfk hbk hb6 e0 e1 e2 e3 e4 e5
            have hbc : BK Cell.k w6 ⟨⟨ek, ⟨a1, a2, a3⟩, ⟨eh, eb⟩⟩, true, true, 0⟩ [.string ek, .int .i64 a1, .int .i64 a2, .int .i64 a3, .bool eh, .slice A' eb.length c', .bool true, .bool true, .int .i64 0] := bk_cell (by have := H6.out.1; rw [HE.out] at this; exact this)
            have hl := lay_calls p mb tb (makeT T E) ⟨⟨ek, ⟨a1, a2, a3⟩, ⟨eh, eb⟩⟩, true, true, 0⟩ A' c' w6 (H5.out.1.below H6.out.2) hbc (by have := HNM.out.us; omega) (by have := HNM.out.sz; omega) (by dsimp only; omega) (by dsimp only; omega)
            dsimp only at hl
            have HL := Aside0.mk hl
            clear hl hbc
            go_wp2_with (first | ((with_reducible refine HL.out.mono ?_); rintro e w7 ⟨rfl, h7, o7⟩; have H7 := Aside0.mk (And.intro h7 o7); clear h7 o7))
            have h1 : fillE T E tk = 0 ∧ fillB T E tk = true ∧ fillT T E tk = lay (makeT T E) ⟨E, true, true, 0⟩ := by
              refine ⟨by unfold fillE; rw [if_pos HGOOD.out, if_pos HTK.out, HSO.out]; exact HZ.out, by unfold fillB; rw [if_pos ⟨HGOOD.out, HTK.out⟩, HSO.out, HZ.out]; rfl, by unfold fillT; rw [if_pos ⟨HGOOD.out, HTK.out⟩, HSO.out]; dsimp only; rw [if_pos HZ.out]⟩
            refine bodyPost_ret (v := .tuple #[.bool true, .int .i64 0]) (by simp [results, Try.results15, go_sem]; try rfl) rfl ?_
            refine ⟨by rw [h1.1, h1.2.1], by rw [h1.2.2, HE.out]; rw [HE.out] at H7; exact H7.out.1, (((Only.of_below _ (Below.then_ HB3.out HB4.out (Nat.le_refl _))).trans H5.out.2).on H6.out.2).trans H7.out.2⟩
      | false =>
        have HSO : Aside0 (fillOld T E = none) := ⟨by
          have : find T.l E.key = none := by
            rw [HE.out]
            cases hf : find T.l ek with
            | none => rfl
            | some c => have h2 := HO.out.2.2; rw [hf] at h2; cases h2
          unfold fillOld; rw [this]; rfl⟩
        have hmk := makeE_cases T E
        go_wp2_with (first | ((with_reducible refine (HM.out _ HB3.out).mono ?_); rintro e w5 ⟨rfl, h5, o5⟩; have H5 := Aside0.mk (And.intro h5 o5); have HE5 := Aside0.mk ((HW2.out.2.on HX3.out.2).only o5 HNE.out.1); clear e0 e1 e2 e3 e4 e5; obtain ⟨⟨e0, e1, e2, e3, e4, e5⟩, fe⟩ := HE5.out.six; clear fe h5 o5))
        · have hz : ¬ makeE T E = 0 := by
            have : (makeE T E != 0) = true := by assumption
            simpa using this
          have hme : makeE T E = 30 ∧ makeT T E = T := by
            rcases hmk with h | h
            · exact absurd h.1 hz
            · exact h
          have h1 : fillE T E tk = 30 ∧ fillB T E tk = false ∧ fillT T E tk = T := by
            refine ⟨by unfold fillE; rw [if_pos HGOOD.out, if_pos HTK.out, HSO.out]; exact hme.1, by unfold fillB; rw [if_pos ⟨HGOOD.out, HTK.out⟩, HSO.out, hme.1]; rfl, by unfold fillT; rw [if_pos ⟨HGOOD.out, HTK.out⟩, HSO.out]; dsimp only; rw [if_neg hz]⟩
          have h2 := H5.out.1
          rw [hme.2] at h2
          refine bodyPost_ret (v := .tuple #[.bool false, .int .i64 (makeE T E)]) (by simp [results, Try.results15, go_sem]; try rfl) rfl ?_
          exact ⟨by rw [h1.1, h1.2.1, hme.1], by rw [h1.2.2]; exact h2, (Only.of_below _ HB3.out).trans H5.out.2⟩
        · have hz : makeE T E = 0 := by
            have : (makeE T E != 0) = false := by assumption
            simpa using this
          have HZ := Aside0.mk hz
          have hNM := HN.out.make E HT.out.srt (by omega)
          have HNM := Aside0.mk hNM
          clear hz hmk hNM
          have hFK5 : Kd.FK Entry.k w5 (fun k => k ∉ [p, mb, tb]) E [.string ek, .int .i64 a1, .int .i64 a2, .int .i64 a3, .bool eh, .slice A eb.length cp] := FK_only (FK_only HKE.out (Only.of_below [p, mb, tb] HB3.out) (fun i hi => hi)) H5.out.2 (fun i hi => hi)
          have hcp0 := copy_calls E A cp w5 (by rw [HE.out]; have := Kd.FK_now hFK5; rw [HE.out] at this; exact this) (by rw [HE.out]; dsimp only; omega)
          rw [HE.out] at hcp0
          dsimp only at hcp0
          rw [← HE.out] at hcp0
          have HCP := Aside0.mk hcp0
          clear hcp0 hFK5
          refine HCP.out.mono ?_
          rintro e w6 ⟨cs, rfl, hbk, hfk, hb6⟩
          obtain ⟨A', c', he, _⟩ := Entry.open_ hbk.now
          have hcs : cs = #[.string ek, .int .i64 a1, .int .i64 a2, .int .i64 a3, .bool eh, .slice A' eb.length c'] := by
            have : cs = cs.toList.toArray := by simp
            rw [this, he, HE.out]
          rw [hcs] at hbk
          subst hcs
          have H6 := Aside0.mk (And.intro hbk hb6)
          clear he hfk hbk hb6 e0 e1 e2 e3 e4 e5
          have hbc : BK Cell.k w6 ⟨⟨ek, ⟨a1, a2, a3⟩, ⟨eh, eb⟩⟩, true, true, 0⟩ [.string ek, .int .i64 a1, .int .i64 a2, .int .i64 a3, .bool eh, .slice A' eb.length c', .bool true, .bool true, .int .i64 0] := bk_cell (by have := H6.out.1; rw [HE.out] at this; exact this)
          have hl := lay_calls p mb tb (makeT T E) ⟨⟨ek, ⟨a1, a2, a3⟩, ⟨eh, eb⟩⟩, true, true, 0⟩ A' c' w6 (H5.out.1.below H6.out.2) hbc (by have := HNM.out.us; omega) (by have := HNM.out.sz; omega) (by dsimp only; omega) (by dsimp only; omega)
          dsimp only at hl
          have HL := Aside0.mk hl
          clear hl hbc
          go_wp2_with (first | ((with_reducible refine HL.out.mono ?_); rintro e w7 ⟨rfl, h7, o7⟩; have H7 := Aside0.mk (And.intro h7 o7); clear h7 o7))
          have h1 : fillE T E tk = 0 ∧ fillB T E tk = true ∧ fillT T E tk = lay (makeT T E) ⟨E, true, true, 0⟩ := by
            refine ⟨by unfold fillE; rw [if_pos HGOOD.out, if_pos HTK.out, HSO.out]; exact HZ.out, by unfold fillB; rw [if_pos ⟨HGOOD.out, HTK.out⟩, HSO.out, HZ.out]; rfl, by unfold fillT; rw [if_pos ⟨HGOOD.out, HTK.out⟩, HSO.out]; dsimp only; rw [if_pos HZ.out]⟩
          refine bodyPost_ret (v := .tuple #[.bool true, .int .i64 0]) (by simp [results, Try.results15, go_sem]; try rfl) rfl ?_
          refine ⟨by rw [h1.1, h1.2.1], by rw [h1.2.2, HE.out]; rw [HE.out] at H7; exact H7.out.1, (((Only.of_below _ HB3.out).trans H5.out.2).on H6.out.2).trans H7.out.2⟩
    · have hxb : (x != tk) = true := by simpa using htk
      have HS : Aside0 (fillT T E tk = T ∧ fillB T E tk = false ∧ fillE T E tk = 0) := ⟨by
        have hne : ¬ tokAt T E.key = tk := fun e => htk (HTA.out.symm.trans e)
        exact ⟨by unfold fillT; rw [if_neg (fun h => hne h.2)], by unfold fillB; rw [if_neg (fun h => hne h.2)], by unfold fillE; rw [if_pos HGOOD.out, if_neg hne]⟩⟩
      clear htk
      go_wp2
      refine bodyPost_ret (v := .tuple #[.bool false, .int .i64 0]) (by simp [results, Try.results15, go_sem]; try rfl) rfl ?_
      exact ⟨by rw [HS.out.2.1, HS.out.2.2], by rw [HS.out.1]; exact HT.out.below HW2.out.1, Only.of_below _ HW2.out.1⟩
  · have HBAD : Aside0 (fillT T e tk = T ∧ fillB T e tk = false ∧ fillE T e tk = 2) := ⟨by unfold fillT; rw [if_neg (fun h => ho h.1)], by unfold fillB; rw [if_neg (fun h => ho h.1)], by unfold fillE; rw [if_neg ho]⟩
    obtain ⟨ek, ⟨a1, a2, a3⟩, ⟨eh, eb⟩⟩ := e
    dsimp only at *
    have hr0 := rgt_no ho
    rw [hr0] at HR
    clear ho hr0
    go_enter Try.func15, Try.ntmps15
    go_wp2_with (first | ((with_reducible refine (HR.out _).mono ?_); rintro e w1 ⟨rfl, hb1⟩; have HB1 := Aside0.mk hb1; clear hb1))
    have hbf := Below.then_ (below_alloc (Below.refl _ w) _) HB1.out (Nat.le_refl _)
    refine bodyPost_ret (v := .tuple #[.bool false, .int .i64 2]) (by simp [results, Try.results15, go_sem]; try rfl) rfl ?_
    exact ⟨by rw [HBAD.out.2.1, HBAD.out.2.2], by rw [HBAD.out.1]; exact HT.out.below hbf, Only.of_below _ hbf⟩
end Tab
end Go.Proofs.Ytgfjkpnaabiecaa
set_option linter.unusedVariables false
set_option linter.unusedSimpArgs false
namespace Go.Proofs.Ytgfjkpnaabiecaa
open Go.RowKit Go.Proofs.YtgfjkpnaabiecaaW.PrintWords
namespace Tab
open Tags
def evictT (T : Tb) (k : ByteArray) : Tb := if ((find T.l k).getD Cell.z).clean then drop T k else T
def evictB (T : Tb) (k : ByteArray) : Bool := ((find T.l k).getD Cell.z).clean
set_option maxRecDepth 100000 in
theorem field_C (k : ByteArray) (a1 a2 a3 : Int) (h : Bool) (v : Value) (x y : Bool) (u : Int) (w : World) : (Instr.field 47 (.agg #[.string k, .int .i64 a1, .int .i64 a2, .int .i64 a3, .bool h, v, .bool x, .bool y, .int .i64 u]) 2).run Try.prog w = .ok (.bool y) w := by
  rfl
theorem getD_z {T : Tb} {k : ByteArray} (h : ((find T.l k).getD Cell.z).clean = true) : ∃ c, find T.l k = some c := by
  cases hf : find T.l k with
  | none => rw [hf] at h; cases h
  | some c => exact ⟨c, rfl⟩
set_option maxRecDepth 100000 in
theorem evict_calls (p mb tb : Nat) (T : Tb) (k : ByteArray) (n : Int) (w : World) (h : TbR w p mb tb T) (hN : Num T n) (hn : n ≤ 2000000000000000000) (hk : k.size ≤ 140737488351232) :
    Calls Try.prog 20 #[.pointer (some ⟨p, 0, none⟩), .string k] w (TabTold w p mb tb (evictT T k) (.bool (evictB T k))) := by
  have HT := Aside0.mk h
  have HN := Aside0.mk hN
  obtain ⟨cap, hcap, hB⟩ := h.blk
  have hml := h.lt.2.1
  have hpl := h.lt.1
  have p4 := hB.cell 4 rfl
  obtain ⟨o, Ao, co, hoe, hbo, hlk⟩ := h.map.look_or k hk
  have HO := Aside0.mk hoe
  have rl := hlk false w rfl
  simp only [ccs, Bool.false_eq_true, if_false, if_true] at rl
  clear hB h hN hoe hbo hlk
  by_cases hc : o.clean = true
  · have rf := fun w' => field_C o.e.key o.e.tag.seq o.e.tag.who o.e.tag.op o.e.val.has (.slice Ao o.e.val.b.length co) o.whole true o.used w'
    rw [hc] at rl
    have HS : Aside0 (evictT T k = drop T k ∧ evictB T k = true) := ⟨by unfold evictT evictB; rw [← HO.out, hc]; exact ⟨rfl, rfl⟩⟩
    have hD : k.size ≤ 1000000 := by
      obtain ⟨c, hf⟩ := getD_z (T := T) (k := k) (by rw [← HO.out]; exact hc)
      obtain ⟨h1, rfl⟩ := find_mem hf
      exact (HN.out.ky c h1).1
    clear hc
    have HD := Aside0.mk (drop_calls p mb tb T k w HT.out hD (by have := HN.out.sz; omega) HN.out.bk HN.out.tl (fun y hy => by have := HN.out.tk y hy; have := HN.out.pos; omega))
    go_enter Try.func20, Try.ntmps20
    go_wp2_with (first | ((with_reducible refine HD.out.mono ?_); rintro e w5 ⟨rfl, g1, g2⟩; have H5 := Aside0.mk (And.intro g1 g2); clear g1 g2))
    go_ret
    exact ⟨by rw [HS.out.2]; rfl, by rw [HS.out.1]; exact H5.out.1, H5.out.2⟩
  · have hc' : o.clean = false := by simpa using hc
    have HS : Aside0 (evictT T k = T ∧ evictB T k = false) := ⟨by unfold evictT evictB; rw [← HO.out, hc']; exact ⟨rfl, rfl⟩⟩
    have rf := fun w' => field_C o.e.key o.e.tag.seq o.e.tag.who o.e.tag.op o.e.val.has (.slice Ao o.e.val.b.length co) o.whole false o.used w'
    rw [hc'] at rl
    clear hc hc'
    go_enter Try.func20, Try.ntmps20
    go_wp2
    go_ret
    exact ⟨by rw [HS.out.2]; rfl, by rw [HS.out.1]; exact HT.out, Only.refl _ _⟩
def cleanOn (T : Tb) (k : ByteArray) (t : Tag) : Option Cell := (find T.l k).bind fun c => if 0 < cmpT c.e.tag t then none else some c
def cleanT (T : Tb) (k : ByteArray) (t : Tag) : Tb := match cleanOn T k t with
  | some c => { T with l := put T.l { c with clean := true } }
  | none => T
theorem szs_same {l : List Cell} {c d : Cell} (hs : Srt l) (hf : find l c.e.key = some c) (hd : d.e = c.e) : szs (put l d) = szs l := by
  rw [szs_put d hs, hd]
  have := szs_del' (l := l) c.e.key hs
  unfold szk at this
  rw [hf] at this
  exact this.symm
set_option maxRecDepth 100000 in
theorem clean_calls (p mb tb : Nat) (T : Tb) (k : ByteArray) (t1 t2 t3 : Int) (w : World) (h : TbR w p mb tb T) (hk : k.size ≤ 140737488351232) :
    Calls Try.prog 18 #[.pointer (some ⟨p, 0, none⟩), .string k, .agg #[.int .i64 t1, .int .i64 t2, .int .i64 t3]] w (TabTold w p mb tb (cleanT T k ⟨t1, t2, t3⟩) (.bool (cleanOn T k ⟨t1, t2, t3⟩).isSome)) := by
  have HT := Aside0.mk h
  obtain ⟨cap, hcap, hB⟩ := h.blk
  have hml := h.lt.2.1
  have hpl := h.lt.1
  have p4 := hB.cell 4 rfl
  obtain ⟨o, Ao, co, hoe, hbo, hlk⟩ := h.map.look_or k hk
  have HO := Aside0.mk (And.intro hoe hbo)
  obtain ⟨hasB, hhas⟩ : ∃ b, b = (find T.l k).isSome := ⟨_, rfl⟩
  have rl := hlk true (w.alloc (.cells #[.int .i64 t1, .int .i64 t2, .int .i64 t3] 32)) ((below_alloc (Below.refl _ w) _).block mb hml)
  rw [← hhas] at rl
  simp only [ccs, Bool.false_eq_true, if_false, if_true] at rl
  have HH := Aside0.mk hhas
  have hc0 := fun w' => compareT_calls o.e.tag ⟨t1, t2, t3⟩ w'
  dsimp only at hc0
  have HC := Aside0.mk hc0
  clear hB h hoe hbo hlk hhas hc0
  cases hasB with
  | false =>
    have HS : Aside0 (cleanOn T k ⟨t1, t2, t3⟩ = none) := ⟨by
      have h2 := HH.out
      unfold cleanOn
      cases hf : find T.l k with
      | none => rfl
      | some c => rw [hf] at h2; cases h2⟩
    go_enter Try.func18, Try.ntmps18
    go_wp2
    go_ret
    have hb := below_alloc (below_alloc (Below.refl w.heap.size w) (.cells #[.int .i64 t1, .int .i64 t2, .int .i64 t3] 32)) (.cells #[.string o.e.key, .int .i64 o.e.tag.seq, .int .i64 o.e.tag.who, .int .i64 o.e.tag.op, .bool o.e.val.has, .slice Ao o.e.val.b.length co, .bool o.whole, .bool o.clean, .int .i64 o.used] 47)
    exact ⟨by rw [HS.out]; rfl, by unfold cleanT; rw [HS.out]; exact HT.out.below hb, Only.of_below _ hb⟩
  | true =>
    have HFD : Aside0 (find T.l k = some o) := ⟨by
      have h1 := HO.out.1
      cases hf : find T.l k with
      | none => have h2 := HH.out; rw [hf] at h2; cases h2
      | some c => rw [hf] at h1; rw [h1]; rfl⟩
    by_cases hcm : 0 < cmpT o.e.tag ⟨t1, t2, t3⟩
    · have hcb : decide (0 < cmpT o.e.tag ⟨t1, t2, t3⟩) = true := by simpa using hcm
      have HS : Aside0 (cleanOn T k ⟨t1, t2, t3⟩ = none) := ⟨by unfold cleanOn; rw [HFD.out]; show (if 0 < cmpT o.e.tag ⟨t1, t2, t3⟩ then none else some o) = none; rw [if_pos hcm]⟩
      clear hcm
      go_enter Try.func18, Try.ntmps18
      go_wp2_with (first | ((with_reducible refine (HC.out _).mono ?_); rintro e w4 ⟨rfl, hb4⟩; have HB4 := Aside0.mk hb4; clear hb4))
      go_ret
      have hb := Below.then_ (below_alloc (below_alloc (Below.refl w.heap.size w) _) _) HB4.out (Nat.le_refl _)
      exact ⟨by rw [HS.out]; rfl, by unfold cleanT; rw [HS.out]; exact HT.out.below hb, Only.of_below _ hb⟩
    · have hcb : decide (0 < cmpT o.e.tag ⟨t1, t2, t3⟩) = false := by simpa using hcm
      have HS : Aside0 (cleanOn T k ⟨t1, t2, t3⟩ = some o) := ⟨by unfold cleanOn; rw [HFD.out]; show (if 0 < cmpT o.e.tag ⟨t1, t2, t3⟩ then none else some o) = some o; rw [if_neg hcm]⟩
      clear hcm
      go_enter Try.func18, Try.ntmps18
      go_upto_region 6 with (first | ((with_reducible refine (HC.out _).mono ?_); rintro e w4 ⟨rfl, hb4⟩; have HB4 := Aside0.mk hb4; clear hb4))
      have hX := (Blk.new_ (w.alloc (.cells #[.int .i64 t1, .int .i64 t2, .int .i64 t3] 32)) #[.string o.e.key, .int .i64 o.e.tag.seq, .int .i64 o.e.tag.who, .int .i64 o.e.tag.op, .bool o.e.val.has, .slice Ao o.e.val.b.length co, .bool o.whole, .bool o.clean, .int .i64 o.used] 47 (g := w.heap.size + 1) (by simp) rfl).on HB4.out
      have HW4 : Aside0 (Below w.heap.size w w4) := ⟨Below.then_ (below_alloc (below_alloc (Below.refl w.heap.size w) _) _) HB4.out (Nat.le_refl _)⟩
      have HX4 := Aside0.mk hX
      have y7 := hX.cell 7 rfl
      have f7 := hX.frozen 7 rfl
      clear hX
      go_upto_region 7 with (fail)
      obtain ⟨W5, hW5⟩ : ∃ W5 : World, W5 = w4.setCell ⟨w.heap.size + 1, 7, none⟩ (.bool true) := ⟨_, rfl⟩
      rw [← hW5]
      have HB5 : Aside0 (Below w.heap.size w W5) := ⟨by rw [hW5]; exact HW4.out.setCell (p := ⟨w.heap.size + 1, 7, none⟩) (by simp) _⟩
      have hX5 : Blk W5 (w.heap.size + 1) [.string o.e.key, .int .i64 o.e.tag.seq, .int .i64 o.e.tag.who, .int .i64 o.e.tag.op, .bool o.e.val.has, .slice Ao o.e.val.b.length co, .bool o.whole, .bool true, .int .i64 o.used] := by rw [hW5]; exact HX4.out.set 7 (.bool true)
      obtain ⟨⟨x0, x1, x2, x3, x4, x5, x6, x7, x8⟩, fx⟩ := hX5.nine
      have q4 := pw_cell_below HB5.out p4
      have hR5 := (HT.out.below HB5.out).below (below_drew (Below.refl _ W5))
      have hbk : BK Cell.k W5.drew { o with clean := true } (ccs { o with clean := true } Ao co) := bk_clean true ((HO.out.2.below HB5.out).below (below_drew (Below.refl _ W5)))
      have hko : o.e.key = k := (find_mem HFD.out).2
      obtain ⟨w6, hput, hM6, hg6⟩ := hR5.map.put hR5.srt (c := { o with clean := true }) (cs := (ccs { o with clean := true } Ao co).toArray) (by dsimp only; rw [hko]; exact hk) (by simpa using hbk)
      dsimp only [ccs] at hput
      rw [hko] at hput
      have hput2 : (Instr.mapUpdate 81 (.map (some mb)) (.string k) (.agg #[.string o.e.key, .int .i64 o.e.tag.seq, .int .i64 o.e.tag.who, .int .i64 o.e.tag.op, .bool o.e.val.has, .slice Ao o.e.val.b.length co, .bool o.whole, .bool true, .int .i64 o.used])).run Try.prog W5.drew = .ok () w6 := by rw [hko]; exact hput
      have H6 := Aside0.mk (And.intro hM6 (And.intro hg6 (And.intro hR5 hko)))
      clear hW5 hX5 fx y7 f7 hR5 hbk hko hput hM6 hg6
      refine Tags.region_tail 6 (by kernel_rfl) (by kernel_rfl) ?_
      simp only [List.take_succ_cons, List.take_zero, List.drop_succ_cons, List.drop_zero]
      still_step
      still_step
      still_step
      still_step
      still_step
      still_step
      refine wpStill_nil ?_
      go_wp2
      go_ret
      obtain ⟨hM6, hg6, hR5, hko⟩ := H6.out
      have o6 : Only [mb] W5.drew w6 := only_grown hg6 (by simp)
      obtain ⟨n1, n2, n3⟩ := hR5.ne
      refine ⟨by rw [HS.out]; rfl, ?_, (Only.of_below _ (Below.then_ HB5.out (below_drew (Below.refl _ W5)) (Nat.le_refl _))).trans (o6.mono (by simp))⟩
      have hct : cleanT T k ⟨t1, t2, t3⟩ = { T with l := put T.l { o with clean := true } } := by unfold cleanT; rw [HS.out]
      rw [hct]
      obtain ⟨cap', hcap', hb'⟩ := hR5.blk
      have hsz := szs_same (l := T.l) (c := o) (d := { o with clean := true }) HT.out.srt (by rw [hko]; exact HFD.out) rfl
      refine ⟨⟨cap', hcap', ?_⟩, hR5.pty.only o6 (by simp; exact n1), hR5.tok.only o6 (by simp; exact n3.symm), hR5.tty.only o6 (by simp; exact n3.symm), hM6, srt_put HT.out.srt⟩
      show Blk w6 p [_, _, _, _, _, _, _, .int .i64 ((szs (put T.l { o with clean := true }) : Nat) : Int)]
      rw [hsz]
      exact hb'.only o6 (by simp; exact n1)
end Tab
end Go.Proofs.Ytgfjkpnaabiecaa
set_option linter.unusedVariables false
set_option linter.unusedSimpArgs false
namespace Go.Proofs.Ytgfjkpnaabiecaa
open Go.RowKit Go.Proofs.YtgfjkpnaabiecaaW.PrintWords
namespace Tab
open Tags
def KeyOk (k : ByteArray) : Prop := 1 ≤ k.size ∧ k.size ≤ 250
instance (k : ByteArray) : Decidable (KeyOk k) := by unfold KeyOk; infer_instance
def queryT (T : Tb) (k : ByteArray) : Tb := if KeyOk k then match find T.l k with
  | some c => lay T c
  | none => T else T
def queryR (T : Tb) (k : ByteArray) : Reply := if KeyOk k then match find T.l k with
  | some c => ⟨c.e, c.whole, tokAt T k⟩
  | none => ⟨⟨k, Tag.z, Val.z⟩, tokAt T k == 0, tokAt T k⟩ else Reply.z
def queryE (k : ByteArray) : Int := if KeyOk k then 0 else 2
def QueryTold (w : World) (p mb tb : Nat) (T : Tb) (k : ByteArray) (e : Ending) (w' : World) : Prop :=
  ∃ cs, e = .returned (.tuple #[.agg cs, .int .i64 (queryE k)]) ∧ BK Reply.k w' (queryR T k) cs.toList ∧ TbR w' p mb tb (queryT T k) ∧ Only [p, mb, tb] w w'
theorem bk_reply {w : World} {e : Entry} {A : Option Addr} {c : Nat} {x : Bool} {u : Int} (h : BK Entry.k w e [.string e.key, .int .i64 e.tag.seq, .int .i64 e.tag.who, .int .i64 e.tag.op, .bool e.val.has, .slice A e.val.b.length c]) (hu : InR .i64 u) :
    BK Reply.k w ⟨e, x, u⟩ [.string e.key, .int .i64 e.tag.seq, .int .i64 e.tag.who, .int .i64 e.tag.op, .bool e.val.has, .slice A e.val.b.length c, .bool x, .int .i64 u] := by
  refine Foot.imp h (fun W' hK => ?_)
  obtain ⟨A5, c5, he, s0, r1, r2, r3, l5, g5⟩ := Entry.open_ hK
  simp only [List.cons.injEq, Value.slice.injEq, true_and, and_true] at he
  obtain ⟨rfl, rfl⟩ := he
  exact Reply.mk_ W' ⟨e, x, u⟩ s0 r1 r2 r3 l5 g5 hu
theorem izr : InR .i64 0 := InR.mk64 (by decide) (by decide)
theorem bk_entz (w : World) (k : ByteArray) (hk : k.size ≤ 140737488351232) : BK Entry.k w ⟨k, Tag.z, Val.z⟩ [.string k, .int .i64 0, .int .i64 0, .int .i64 0, .bool false, .slice none 0 0] :=
  fun W' _ => Entry.mk_ W' ⟨k, Tag.z, Val.z⟩ hk izr izr izr (Nat.le_refl _) (Kd.C_nil _ _)
theorem bk_repz (w : World) : BK Reply.k w Reply.z [.string ByteArray.empty, .int .i64 0, .int .i64 0, .int .i64 0, .bool false, .slice none 0 0, .bool false, .int .i64 0] :=
  fun W' _ => Reply.mk_ W' Reply.z (by decide) izr izr izr (Nat.le_refl _) (Kd.C_nil _ _) izr
theorem bk_ce {w : World} {c : Cell} {A : Option Addr} {cp : Nat} (h : BK Cell.k w c (ccs c A cp)) : BK Entry.k w c.e [.string c.e.key, .int .i64 c.e.tag.seq, .int .i64 c.e.tag.who, .int .i64 c.e.tag.op, .bool c.e.val.has, .slice A c.e.val.b.length cp] := by
  refine Foot.imp h (fun W' hK => ?_)
  obtain ⟨A5, c5, he, s0, r1, r2, r3, l5, g5, r8⟩ := Cell.open_ hK
  simp only [ccs, List.cons.injEq, Value.slice.injEq, true_and, and_true] at he
  obtain ⟨rfl, rfl⟩ := he
  exact Entry.mk_ W' c.e s0 r1 r2 r3 l5 g5
set_option maxRecDepth 100000 in
set_option maxHeartbeats 1000000 in
theorem query_calls (p mb tb : Nat) (T : Tb) (k : ByteArray) (n : Int) (w : World) (h : TbR w p mb tb T) (hN : Num T n) (hn : n ≤ 2000000000000000000) (hk : k.size ≤ 140737488351232) :
    Calls Try.prog 21 #[.pointer (some ⟨p, 0, none⟩), .string k] w (QueryTold w p mb tb T k) := by
  have HT := Aside0.mk h
  have HN := Aside0.mk hN
  obtain ⟨cap, hcap, hB⟩ := h.blk
  have hpl := h.lt.1
  have hml := h.lt.2.1
  have htl := h.lt.2.2
  have hzn : k.size = 0 ↔ k = ByteArray.empty := (size_zero k).symm
  by_cases hok : KeyOk k
  · have p2 := hB.cell 2 rfl
    have p4 := hB.cell 4 rfl
    have p5 := hB.cell 5 rfl
    obtain ⟨o, Ao, co, hoe, hbo, hlk⟩ := h.map.look_or k hk
    obtain ⟨hasB, hhas⟩ : ∃ b, b = (find T.l k).isSome := ⟨_, rfl⟩
    have rl : ∀ w', Below w.heap.size w w' → (Instr.lookup 81 (.map (some mb)) (.string k) true).run Try.prog w' = .ok (.tuple #[.agg #[.string o.e.key, .int .i64 o.e.tag.seq, .int .i64 o.e.tag.who, .int .i64 o.e.tag.op, .bool o.e.val.has, .slice Ao o.e.val.b.length co, .bool o.whole, .bool o.clean, .int .i64 o.used], .bool hasB]) w' := fun w' h => by
      have := hlk true w' (h.block mb hml)
      rw [← hhas] at this
      exact this
    have HO := Aside0.mk (And.intro hoe (And.intro hbo hhas))
    clear hlk hoe hbo hhas
    obtain ⟨b0, b1⟩ := Hash.bkt_bd k HN.out.bk.1
    obtain ⟨i, hi⟩ : ∃ i : Nat, Hash.bkt k T.room.buckets = (i : Int) := ⟨_, (Int.toNat_of_nonneg b0).symm⟩
    rw [hi] at b1
    have HI := Aside0.mk hi
    clear hi b0
    have hil : i < T.tok.length := by have := HN.out.tl; omega
    obtain ⟨x, hx⟩ : ∃ x, x = T.tok[i] := ⟨_, rfl⟩
    have hxi : T.tok[i]? = some x := by rw [List.getElem?_eq_getElem hil, hx]
    have HTA : Aside0 (tokAt T k = x) := ⟨by unfold tokAt; rw [HI.out, Int.toNat_natCast, List.getD_eq_getElem?_getD, hxi]; rfl⟩
    have HXR : Aside0 (InR .i64 x) := ⟨by
      have h1 := HN.out.tk x (List.mem_of_getElem? hxi)
      have h2 := HN.out.pos
      exact InR.mk64 (by omega) (by omega)⟩
    have hcx : w.cell? ⟨tb, i, none⟩ = some (.int .i64 x) := HT.out.tok.cell i (by rw [List.getElem?_map, hxi]; rfl)
    have Z3 : Aside0 (∀ w', Below w.heap.size w w' → Calls Try.prog 41 #[.pointer (some ⟨p, 0, none⟩), .string k] w' fun e w'' => e = .returned (.int .i64 (i : Int)) ∧ Below w'.heap.size w' w'') := ⟨fun w' hb => by
      have := bucketT_calls p k T.room.buckets w' (pw_cell_below hb p2) hk HN.out.bk.1 HN.out.bk.2
      rw [HI.out] at this
      exact this⟩
    have i0 : (0 : Int) ≤ (i : Int) := by omega
    have i1 : (i : Int) < (T.tok.length : Int) := by omega
    have HOK := Aside0.mk hok
    obtain ⟨hok1, hok2⟩ := hok
    have hk0 : ((k.size : Int) == 0) = false := by
      have : ¬ (k.size : Int) = 0 := by omega
      simpa using this
    have hk1 : decide ((250 : Int) < (k.size : Int)) = false := by
      have : ¬ (250 : Int) < (k.size : Int) := by omega
      simpa using this
    clear hx hxi b1 hB hzn h hN hok1 hok2
    go_enter Try.func21, Try.ntmps21
    go_wp2
    obtain ⟨W1, hW1⟩ : ∃ W1 : World, W1 = w.alloc (.cells #[.string ByteArray.empty, .int .i64 0, .int .i64 0, .int .i64 0, .bool false, .slice none 0 0, .bool false, .int .i64 0] 52) := ⟨_, rfl⟩
    have HX1 : Aside0 (Blk W1 w.heap.size (#[.string ByteArray.empty, .int .i64 0, .int .i64 0, .int .i64 0, .bool false, .slice none 0 0, .bool false, .int .i64 0] : Array Value).toList ∧ Below w.heap.size w W1 ∧ Ty W1 52 w.heap.size) := ⟨by rw [hW1]; exact ⟨Blk.new_ w _ _ rfl rfl, below_alloc (Below.refl _ _) _, Ty.new _ _ _ _⟩⟩
    have hww : W1 = w.alloc (.cells #[.string ⟨#[]⟩, .int .i64 0, .int .i64 0, .int .i64 0, .bool false, .slice none 0 0, .bool false, .int .i64 0] 52) := hW1
    rw [← hww]
    clear hW1 hww
    have W1B : ∀ w', Below W1.heap.size W1 w' → Below w.heap.size w w' := fun w' h => Below.then_ HX1.out.2.1 h (Nat.le_refl _)
    have r5 : ∀ w', Below W1.heap.size W1 w' → w'.cell? ⟨p, 5, none⟩ = some (.slice (some ⟨tb, 0, none⟩) T.tok.length cap) := fun w' h => pw_cell_below (W1B w' h) p5
    have rx : ∀ w', Below W1.heap.size W1 w' → w'.cell? ⟨tb, i, none⟩ = some (.int .i64 x) := fun w' h => pw_cell_below (W1B w' h) hcx
    refine region_calm 9 (Below W1.heap.size W1) (by kernel_rfl) (by kernel_rfl) (below_drew (Below.refl _ _)) ?_
    simp only [List.take_succ_cons, List.take_zero, List.drop_succ_cons, List.drop_zero]
    (refine wpCalm_val (v := ?_) rfl ?_ ?_; rotate_left; (focus (intro w' hSw; go_simp; try with_reducible rfl)))
    (try simp only [Act.put, List.setIfInBounds_toArray, List.set_cons_zero, List.set_cons_succ])
    (refine wpCalm_val (v := ?_) rfl ?_ ?_; rotate_left; (focus (intro w' hSw; go_simp; try with_reducible rfl)))
    (try simp only [Act.put, List.setIfInBounds_toArray, List.set_cons_zero, List.set_cons_succ])
    (refine wpCalm_val (v := ?_) rfl ?_ ?_; rotate_left; (focus (intro w' hSw; go_simp; try with_reducible rfl)))
    (try simp only [Act.put, List.setIfInBounds_toArray, List.set_cons_zero, List.set_cons_succ])
    (refine wpCalm_val (v := ?_) rfl ?_ ?_; rotate_left; (focus (intro w' hSw; go_simp; try with_reducible rfl)))
    (try simp only [Act.put, List.setIfInBounds_toArray, List.set_cons_zero, List.set_cons_succ])
    (refine wpCalm_val (v := ?_) rfl ?_ ?_; rotate_left; (focus (intro w' hSw; go_simp; try with_reducible rfl)))
    (try simp only [Act.put, List.setIfInBounds_toArray, List.set_cons_zero, List.set_cons_succ])
    (refine wpCalm_val (v := ?_) rfl ?_ ?_; rotate_left; (focus (intro w' hSw; go_simp; try with_reducible rfl)))
    (try simp only [Act.put, List.setIfInBounds_toArray, List.set_cons_zero, List.set_cons_succ])
    (refine wpCalm_call (v := .int .i64 (i : Int)) (f := ?_) (args := ?_) rfl ?_ ?_ ?_; rotate_left 2; (focus (intro w' hSw; go_simp; constructor <;> with_reducible rfl)); (focus (intro w' hSw; exact (Z3.out w' (W1B w' hSw)).mono fun e w1 ⟨h1, h2⟩ => ⟨h1, Below.then_ hSw h2 (Nat.le_refl _)⟩)))
    (try simp only [Act.put, List.setIfInBounds_toArray, List.set_cons_zero, List.set_cons_succ])
    (refine wpCalm_val (v := ?_) rfl ?_ ?_; rotate_left; (focus (intro w' hSw; go_simp; try with_reducible rfl)))
    (try simp only [Act.put, List.setIfInBounds_toArray, List.set_cons_zero, List.set_cons_succ])
    (refine wpCalm_val (v := ?_) rfl ?_ ?_; rotate_left; (focus (intro w' hSw; go_simp; try with_reducible rfl)))
    (try simp only [Act.put, List.setIfInBounds_toArray, List.set_cons_zero, List.set_cons_succ])
    refine wpCalm_nil ?_
    intro w2 hS2
    have HW2 : Aside0 (Below w.heap.size w w2 ∧ Ty w2 52 w.heap.size) := ⟨W1B w2 hS2, HX1.out.2.2.below hS2⟩
    have rl2 := rl w2 (W1B w2 hS2)
    have q4 := pw_cell_below (W1B w2 hS2) p4
    have hzl : w.heap.size < w2.heap.size := Nat.lt_of_lt_of_le HX1.out.1.lt hS2.size
    have hR2 := HX1.out.1.on hS2
    obtain ⟨⟨r0, r1, r2, r3, r4, r5', r6, r7⟩, g0, g1, g2, g3, g4, g5, g6, g7⟩ := hR2.eight
    have HR2 := Aside0.mk hR2
    clear hS2 r5 rx p2 p4 p5 rl hR2 hcx W1B
    cases hasB with
    | false =>
      have HS : Aside0 (queryE k = 0 ∧ queryR T k = ⟨⟨k, Tag.z, Val.z⟩, x == 0, x⟩ ∧ queryT T k = T) := ⟨by
        have hf : find T.l k = none := by
          cases hf : find T.l k with
          | none => rfl
          | some c => have h2 := HO.out.2.2; rw [hf] at h2; cases h2
        unfold queryE queryR queryT; rw [if_pos HOK.out, if_pos HOK.out, if_pos HOK.out, hf, HTA.out]; exact ⟨rfl, rfl, rfl⟩⟩
      go_wp2
      obtain ⟨W9, hW9⟩ : ∃ W9 : World, W9 = ((((((((w2.setCell ⟨w.heap.size, 0, none⟩ (.string k)).setCell ⟨w.heap.size, 1, none⟩ (.int .i64 0)).setCell ⟨w.heap.size, 2, none⟩ (.int .i64 0)).setCell ⟨w.heap.size, 3, none⟩ (.int .i64 0)).setCell ⟨w.heap.size, 4, none⟩ (.bool false)).setCell ⟨w.heap.size, 5, none⟩ (.slice none 0 0)).setCell ⟨w.heap.size, 6, none⟩ (.bool (x == 0))).setCell ⟨w.heap.size, 7, none⟩ (.int .i64 x)).alloc (.cells #[.string o.e.key, .int .i64 o.e.tag.seq, .int .i64 o.e.tag.who, .int .i64 o.e.tag.op, .bool o.e.val.has, .slice Ao o.e.val.b.length co, .bool o.whole, .bool o.clean, .int .i64 o.used] 47) := ⟨_, rfl⟩
      rw [← hW9]
      have h9 : Blk W9 w.heap.size [.string k, .int .i64 0, .int .i64 0, .int .i64 0, .bool false, .slice none 0 0, .bool (x == 0), .int .i64 x] := by rw [hW9]; exact (((((((((HR2.out.set 0 (.string k)).set 1 (.int .i64 0)).set 2 (.int .i64 0)).set 3 (.int .i64 0)).set 4 (.bool false)).set 5 (.slice none 0 0)).set 6 (.bool (x == 0))).set 7 (.int .i64 x)).alloc _).cast rfl
      have hb : Below w.heap.size w W9 := by rw [hW9]; exact below_alloc ((((((((HW2.out.1.setCell (p := ⟨w.heap.size, 0, none⟩) (Nat.le_refl _) (.string k)).setCell (p := ⟨w.heap.size, 1, none⟩) (Nat.le_refl _) (.int .i64 0)).setCell (p := ⟨w.heap.size, 2, none⟩) (Nat.le_refl _) (.int .i64 0)).setCell (p := ⟨w.heap.size, 3, none⟩) (Nat.le_refl _) (.int .i64 0)).setCell (p := ⟨w.heap.size, 4, none⟩) (Nat.le_refl _) (.bool false)).setCell (p := ⟨w.heap.size, 5, none⟩) (Nat.le_refl _) (.slice none 0 0)).setCell (p := ⟨w.heap.size, 6, none⟩) (Nat.le_refl _) (.bool (x == 0))).setCell (p := ⟨w.heap.size, 7, none⟩) (Nat.le_refl _) (.int .i64 x)) _
      clear hW9
      obtain ⟨⟨z0, z1, z2, z3, z4, z5, z6, z7⟩, _⟩ := h9.eight
      refine bodyPost_ret (v := .tuple #[.agg #[.string k, .int .i64 0, .int .i64 0, .int .i64 0, .bool false, .slice none 0 0, .bool (x == 0), .int .i64 x], .int .i64 0]) (by simp [results, Try.results21, go_sem, z0, z1, z2, z3, z4, z5, z6, z7]; try rfl) rfl ?_
      exact ⟨_, by rw [HS.out.1], by rw [HS.out.2.1]; exact bk_reply (bk_entz _ k hk) HXR.out, by rw [HS.out.2.2]; exact HT.out.below hb, Only.of_below _ hb⟩
    | true =>
      have HFD : Aside0 (find T.l k = some o) := ⟨by
        have h1 := HO.out.1
        cases hf : find T.l k with
        | none => have h2 := HO.out.2.2; rw [hf] at h2; cases h2
        | some c => rw [hf] at h1; rw [h1]; rfl⟩
      have HS : Aside0 (queryE k = 0 ∧ queryR T k = ⟨o.e, o.whole, x⟩ ∧ queryT T k = lay T o) := ⟨by
        unfold queryE queryR queryT; rw [if_pos HOK.out, if_pos HOK.out, if_pos HOK.out, HFD.out, HTA.out]; exact ⟨rfl, rfl, rfl⟩⟩
      have hoT := (find_mem HFD.out).1
      have hky := HN.out.ky o hoT
      have hus := HN.out.us
      have hps := HN.out.pos
      have HLY := Aside0.mk (fun w' (hb' : Below w.heap.size w w') => lay_calls p mb tb T o Ao co w' (HT.out.below hb') (HO.out.2.1.below hb') (by omega) (by have := HN.out.sz; omega) hky.1 hky.2)
      have hX3 := Blk.new_ w2 #[.string o.e.key, .int .i64 o.e.tag.seq, .int .i64 o.e.tag.who, .int .i64 o.e.tag.op, .bool o.e.val.has, .slice Ao o.e.val.b.length co, .bool o.whole, .bool o.clean, .int .i64 o.used] 47 rfl rfl
      have HX3 := Aside0.mk hX3
      have HNE : Aside0 (w.heap.size ∉ [p, mb, tb] ∧ w2.heap.size ∉ [p, mb, tb] ∧ w2.heap.size ≠ w.heap.size) := ⟨by
        refine ⟨by simp; omega, by simp; omega, by omega⟩⟩
      have HBW := Aside0.mk (below_alloc HW2.out.1 (.cells #[.string o.e.key, .int .i64 o.e.tag.seq, .int .i64 o.e.tag.who, .int .i64 o.e.tag.op, .bool o.e.val.has, .slice Ao o.e.val.b.length co, .bool o.whole, .bool o.clean, .int .i64 o.used] 47))
      clear hoT hX3
      go_wp2_with (first | ((with_reducible refine (HLY.out _ HBW.out).mono ?_); rintro e w5 ⟨rfl, h5, o5⟩; have H5 := Aside0.mk (And.intro h5 o5); clear h5 o5))
      have hX5 := HX3.out.only H5.out.2 HNE.out.2.1
      have hR5 := (HR2.out.alloc (.cells #[.string o.e.key, .int .i64 o.e.tag.seq, .int .i64 o.e.tag.who, .int .i64 o.e.tag.op, .bool o.e.val.has, .slice Ao o.e.val.b.length co, .bool o.whole, .bool o.clean, .int .i64 o.used] 47)).only H5.out.2 HNE.out.1
      have HR5 := Aside0.mk hR5
      clear r0 r1 r2 r3 r4 r5' r6 r7 g0 g1 g2 g3 g4 g5 g6 g7
      obtain ⟨⟨r0, r1, r2, r3, r4, r5', r6, r7⟩, g0, g1, g2, g3, g4, g5, g6, g7⟩ := hR5.eight
      obtain ⟨⟨x0, x1, x2, x3, x4, x5, x6, x7, x8⟩, fx⟩ := hX5.nine
      have rx : ∀ j v w', w5.cell? ⟨w2.heap.size, j, none⟩ = some v → Only [w.heap.size] w5 w' → w'.cell? ⟨w2.heap.size, j, none⟩ = some v := fun j v w' hv h => (h.cell (p := ⟨w2.heap.size, j, none⟩) (World.block_lt_of_cell? _ _ hv) (by simp; exact HNE.out.2.2)).trans hv
      have rx0 := fun w' h => rx 0 _ w' x0 h
      have rx1 := fun w' h => rx 1 _ w' x1 h
      have rx2 := fun w' h => rx 2 _ w' x2 h
      have rx3 := fun w' h => rx 3 _ w' x3 h
      have rx4 := fun w' h => rx 4 _ w' x4 h
      have rx5 := fun w' h => rx 5 _ w' x5 h
      have rx6 := fun w' h => rx 6 _ w' x6 h
      have HBE : Aside0 (BK Entry.k w5.drew o.e [.string o.e.key, .int .i64 o.e.tag.seq, .int .i64 o.e.tag.who, .int .i64 o.e.tag.op, .bool o.e.val.has, .slice Ao o.e.val.b.length co]) := ⟨((bk_ce (HO.out.2.1.below HBW.out)).only H5.out.2 (HT.out.below HBW.out).noB).below (below_drew (Below.refl _ w5))⟩
      have HCP := Aside0.mk (copy_calls o.e Ao co w5.drew HBE.out.now (by omega))
      clear hX5 hR5 fx rx x0 x1 x2 x3 x4 x5 x6 x7 x8
      refine wp_region_noPanic ?_
      refine wp_region_held_drew (S := Only [w.heap.size] w5) (by kernel_rfl) ((Only.refl [w.heap.size] w5).drew) (fun hHeld => ?_)
      (refine takeH 0 52 (v := ?_) rfl rfl (by kernel_rfl) (by kernel_rfl) (by kernel_rfl) (fun _ _ _ h => h) hHeld rfl ?_ ?_; rotate_left; (focus (intro w' hSw; go_simp; try with_reducible rfl)))
      (try simp only [Act.put, List.setIfInBounds_toArray, List.set_cons_zero, List.set_cons_succ])
      (refine takeH 1 53 (v := ?_) rfl rfl (by kernel_rfl) (by kernel_rfl) (by kernel_rfl) (fun _ _ _ h => h) hHeld rfl ?_ ?_; rotate_left; (focus (intro w' hSw; go_simp; try with_reducible rfl)))
      (try simp only [Act.put, List.setIfInBounds_toArray, List.set_cons_zero, List.set_cons_succ])
      (refine takeH 3 55 (v := ?_) rfl rfl (by kernel_rfl) (by kernel_rfl) (by kernel_rfl) (fun _ _ _ h => h) hHeld rfl ?_ ?_; rotate_left; (focus (intro w' hSw; go_simp; try with_reducible rfl)))
      (try simp only [Act.put, List.setIfInBounds_toArray, List.set_cons_zero, List.set_cons_succ])
      (refine takeH 4 56 (v := ?_) rfl rfl (by kernel_rfl) (by kernel_rfl) (by kernel_rfl) (fun _ _ _ h => h) hHeld rfl ?_ ?_; rotate_left; (focus (intro w' hSw; go_simp; try with_reducible rfl)))
      (try simp only [Act.put, List.setIfInBounds_toArray, List.set_cons_zero, List.set_cons_succ])
      (refine takeH 5 57 (v := ?_) rfl rfl (by kernel_rfl) (by kernel_rfl) (by kernel_rfl) (fun _ _ _ h => h) hHeld rfl ?_ ?_; rotate_left; (focus (intro w' hSw; go_simp; try with_reducible rfl)))
      (try simp only [Act.put, List.setIfInBounds_toArray, List.set_cons_zero, List.set_cons_succ])
      refine wpAnyH_ready (rs := [2]) (by kernel_rfl) (by simp) ?_
      refine AllReadyH.cons rfl (fun K hK => ?_) AllReadyH.nil
      go_simp
      refine HCP.out.mono ?_
      rintro e w6 ⟨cs, rfl, hbk, hfk, hb6⟩
      obtain ⟨A', c', he, _⟩ := Entry.open_ hbk.now
      have hcs : cs = #[.string o.e.key, .int .i64 o.e.tag.seq, .int .i64 o.e.tag.who, .int .i64 o.e.tag.op, .bool o.e.val.has, .slice A' o.e.val.b.length c'] := by
        have : cs = cs.toList.toArray := by simp
        rw [this, he]
      rw [hcs] at hbk
      subst hcs
      have H6 := Aside0.mk (And.intro hbk hb6)
      clear he hfk hbk
      refine hK.out _ _ ((Only.refl [w.heap.size] w5).drew.on hb6) (fun hHeld => ?_)
      clear hK K
      (try simp only [Act.put, List.setIfInBounds_toArray, List.set_cons_zero, List.set_cons_succ])
      (refine takeH 6 58 (v := ?_) rfl rfl (by kernel_rfl) (by kernel_rfl) (by kernel_rfl) (fun _ _ _ h => h) hHeld rfl ?_ ?_; rotate_left; (focus (intro w' hSw; go_simp; try with_reducible rfl)))
      (try simp only [Act.put, List.setIfInBounds_toArray, List.set_cons_zero, List.set_cons_succ])
      have hR6 := (HR5.out.drew).on hb6
      have HR6 := Aside0.mk hR6
      clear r0 r1 r2 r3 r4 r5' r6 r7 g0 g1 g2 g3 g4 g5 g6 g7
      obtain ⟨⟨r0, r1, r2, r3, r4, r5', r6, r7⟩, g0, g1, g2, g3, g4, g5, g6, g7⟩ := hR6.eight
      have HO9 : Aside0 (Only [w.heap.size] w5 ((((((((w6.setCell ⟨w.heap.size, 0, none⟩ (.string o.e.key)).setCell ⟨w.heap.size, 1, none⟩ (.int .i64 o.e.tag.seq)).setCell ⟨w.heap.size, 2, none⟩ (.int .i64 o.e.tag.who)).setCell ⟨w.heap.size, 3, none⟩ (.int .i64 o.e.tag.op)).setCell ⟨w.heap.size, 4, none⟩ (.bool o.e.val.has)).setCell ⟨w.heap.size, 5, none⟩ (.slice A' o.e.val.b.length c')).setCell ⟨w.heap.size, 6, none⟩ (.bool o.whole)).setCell ⟨w.heap.size, 7, none⟩ (.int .i64 x))) := ⟨((((((((((Only.refl [w.heap.size] w5).drew.on hb6).set (p := ⟨w.heap.size, 0, none⟩) (.string o.e.key) (.inl (by simp))).set (p := ⟨w.heap.size, 1, none⟩) (.int .i64 o.e.tag.seq) (.inl (by simp))).set (p := ⟨w.heap.size, 2, none⟩) (.int .i64 o.e.tag.who) (.inl (by simp))).set (p := ⟨w.heap.size, 3, none⟩) (.int .i64 o.e.tag.op) (.inl (by simp))).set (p := ⟨w.heap.size, 4, none⟩) (.bool o.e.val.has) (.inl (by simp))).set (p := ⟨w.heap.size, 5, none⟩) (.slice A' o.e.val.b.length c') (.inl (by simp))).set (p := ⟨w.heap.size, 6, none⟩) (.bool o.whole) (.inl (by simp))).set (p := ⟨w.heap.size, 7, none⟩) (.int .i64 x) (.inl (by simp)))⟩
      clear hR6 hb6
      refine wpAnyH_ready (rs := [7]) (by kernel_rfl) (by simp) ?_
      refine AllReadyH.cons rfl (fun K hK => ?_) AllReadyH.nil
      go_simp
      refine hK.out _ _ (HO9.out) (fun hHeld => ?_)
      clear hK K
      (try simp only [Act.put, List.setIfInBounds_toArray, List.set_cons_zero, List.set_cons_succ])
      (refine takeH 8 5 (v := ?_) rfl rfl (by kernel_rfl) (by kernel_rfl) (by kernel_rfl) (fun _ _ _ h => h) hHeld rfl ?_ ?_; rotate_left; (focus (intro w' hSw; go_simp; try with_reducible rfl)))
      (try simp only [Act.put, List.setIfInBounds_toArray, List.set_cons_zero, List.set_cons_succ])
      refine wpAnyH_done (by kernel_rfl) ?_ _
      refine NoPanic.normal ?_
      obtain ⟨W9, hW9⟩ : ∃ W9 : World, W9 = ((((((((w6.setCell ⟨w.heap.size, 0, none⟩ (.string o.e.key)).setCell ⟨w.heap.size, 1, none⟩ (.int .i64 o.e.tag.seq)).setCell ⟨w.heap.size, 2, none⟩ (.int .i64 o.e.tag.who)).setCell ⟨w.heap.size, 3, none⟩ (.int .i64 o.e.tag.op)).setCell ⟨w.heap.size, 4, none⟩ (.bool o.e.val.has)).setCell ⟨w.heap.size, 5, none⟩ (.slice A' o.e.val.b.length c')).setCell ⟨w.heap.size, 6, none⟩ (.bool o.whole)).setCell ⟨w.heap.size, 7, none⟩ (.int .i64 x)) := ⟨_, rfl⟩
      go_wp2
      rw [← hW9]
      have h9 : Blk W9 w.heap.size [.string o.e.key, .int .i64 o.e.tag.seq, .int .i64 o.e.tag.who, .int .i64 o.e.tag.op, .bool o.e.val.has, .slice A' o.e.val.b.length c', .bool o.whole, .int .i64 x] := by rw [hW9]; exact (((((((((HR6.out.set 0 (.string o.e.key)).set 1 (.int .i64 o.e.tag.seq)).set 2 (.int .i64 o.e.tag.who)).set 3 (.int .i64 o.e.tag.op)).set 4 (.bool o.e.val.has)).set 5 (.slice A' o.e.val.b.length c')).set 6 (.bool o.whole)).set 7 (.int .i64 x))).cast rfl
      have ho9 : Only [w.heap.size] w5 W9 := by rw [hW9]; exact HO9.out
      have ho69 : Only [w.heap.size] w6 W9 := by rw [hW9]; exact (((((((((Only.refl [w.heap.size] w6).set (p := ⟨w.heap.size, 0, none⟩) (.string o.e.key) (.inl (by simp))).set (p := ⟨w.heap.size, 1, none⟩) (.int .i64 o.e.tag.seq) (.inl (by simp))).set (p := ⟨w.heap.size, 2, none⟩) (.int .i64 o.e.tag.who) (.inl (by simp))).set (p := ⟨w.heap.size, 3, none⟩) (.int .i64 o.e.tag.op) (.inl (by simp))).set (p := ⟨w.heap.size, 4, none⟩) (.bool o.e.val.has) (.inl (by simp))).set (p := ⟨w.heap.size, 5, none⟩) (.slice A' o.e.val.b.length c') (.inl (by simp))).set (p := ⟨w.heap.size, 6, none⟩) (.bool o.whole) (.inl (by simp))).set (p := ⟨w.heap.size, 7, none⟩) (.int .i64 x) (.inl (by simp)))
      have hty5 : Ty w5 52 w.heap.size := (HW2.out.2.below (below_alloc (Below.refl _ _) _)).only H5.out.2 HNE.out.1
      have hty6 : Ty w6 52 w.heap.size := (Ty.drew hty5).below H6.out.2
      have hbr : BK Entry.k W9 o.e [.string o.e.key, .int .i64 o.e.tag.seq, .int .i64 o.e.tag.who, .int .i64 o.e.tag.op, .bool o.e.val.has, .slice A' o.e.val.b.length c'] := H6.out.1.only ho69 (fun i hi => by simp at hi; subst hi; exact hty6.ne (by decide))
      clear hW9
      obtain ⟨⟨z0, z1, z2, z3, z4, z5, z6, z7⟩, _⟩ := h9.eight
      refine bodyPost_ret (v := .tuple #[.agg #[.string o.e.key, .int .i64 o.e.tag.seq, .int .i64 o.e.tag.who, .int .i64 o.e.tag.op, .bool o.e.val.has, .slice A' o.e.val.b.length c', .bool o.whole, .int .i64 x], .int .i64 0]) (by simp [results, Try.results21, go_sem, z0, z1, z2, z3, z4, z5, z6, z7]; try rfl) rfl ?_
      refine ⟨_, by rw [HS.out.1], by rw [HS.out.2.1]; exact bk_reply hbr HXR.out, ?_, ?_⟩
      · rw [HS.out.2.2]
        obtain ⟨l1, l2, l3⟩ := HT.out.lt
        exact H5.out.1.only ho9 (by simp; omega) (by simp; omega) (by simp; omega) (fun i hi => by simp at hi; subst hi; exact hty5.ne (by decide))
      · exact ((Only.of_below _ HBW.out).trans H5.out.2).then_ ho9 (fun i hi => by simp at hi; right; omega)
  · have HS : Aside0 (queryE k = 2 ∧ queryR T k = Reply.z ∧ queryT T k = T) := ⟨by unfold queryE queryR queryT; rw [if_neg hok, if_neg hok, if_neg hok]; exact ⟨rfl, rfl, rfl⟩⟩
    by_cases h0 : k.size = 0
    · have hk0 : ((k.size : Int) == 0) = true := by simp [h0]
      clear h0 hzn hok hB
      go_enter Try.func21, Try.ntmps21
      go_wp2
      refine bodyPost_ret (v := .tuple #[.agg #[.string ByteArray.empty, .int .i64 0, .int .i64 0, .int .i64 0, .bool false, .slice none 0 0, .bool false, .int .i64 0], .int .i64 2]) (by simp [results, Try.results21, go_sem]; try rfl) rfl ?_
      have hb := below_alloc (Below.refl w.heap.size w) (.cells #[.string ByteArray.empty, .int .i64 0, .int .i64 0, .int .i64 0, .bool false, .slice none 0 0, .bool false, .int .i64 0] 52)
      exact ⟨_, by rw [HS.out.1], by rw [HS.out.2.1]; exact bk_repz _, by rw [HS.out.2.2]; exact HT.out.below hb, Only.of_below _ hb⟩
    · have hk0 : ((k.size : Int) == 0) = false := by simpa using h0
      have hk1 : decide ((250 : Int) < (k.size : Int)) = true := by
        have h1 : ¬ k.size ≤ 250 := fun h => hok ⟨by omega, h⟩
        have : (250 : Int) < (k.size : Int) := by omega
        simpa using this
      clear h0 hzn hok hB
      go_enter Try.func21, Try.ntmps21
      go_wp2
      refine bodyPost_ret (v := .tuple #[.agg #[.string ByteArray.empty, .int .i64 0, .int .i64 0, .int .i64 0, .bool false, .slice none 0 0, .bool false, .int .i64 0], .int .i64 2]) (by simp [results, Try.results21, go_sem]; try rfl) rfl ?_
      have hb := below_alloc (Below.refl w.heap.size w) (.cells #[.string ByteArray.empty, .int .i64 0, .int .i64 0, .int .i64 0, .bool false, .slice none 0 0, .bool false, .int .i64 0] 52)
      exact ⟨_, by rw [HS.out.1], by rw [HS.out.2.1]; exact bk_repz _, by rw [HS.out.2.2]; exact HT.out.below hb, Only.of_below _ hb⟩
end Tab
end Go.Proofs.Ytgfjkpnaabiecaa
set_option linter.unusedVariables false
set_option linter.unusedSimpArgs false
namespace Go.Proofs.Ytgfjkpnaabiecaa
open Go.RowKit Go.Proofs.YtgfjkpnaabiecaaW.PrintWords
/-- An element whose things lie elsewhere than in this row, from block B on. -/
def RFB {α : Type} (d : Kd α) (B : Nat) (W : World) (row : Option Nat) (x : α) (cs : List Value) : Prop := Kd.FK d W (fun k => some k ≠ row ∧ B ≤ k) x cs
namespace RFB
variable {α : Type} {d : Kd α} {B : Nat} {W W1 : World} {row : Option Nat} {v v1 : Value} {x : α} {cs : List Value} {ds : List α} {t : TypeId} {base size g : Nat}
theorem one (h : RFB d B W row x cs) : ∀ u ∈ cs, u.oneCell' = true := d.K_one (Kd.FK_now h)
theorem below (h : RFB d B W row x cs) (hb : Below W.heap.size W W1) : RFB d B W1 row x cs := Foot.step h (fun k _ hlt => hb.block k hlt)
theorem grown (h : RFB d B W v.ownBlock x cs) (hg : W.grownBy W1 v.ownBlock) (hat : v1.ownBlock = v.ownBlock ∨ ∃ b, v1.ownBlock = some b ∧ W.heap.size ≤ b) : RFB d B W1 v1.ownBlock x cs := by
  refine Foot.mono ((Foot.bound h).step (fun k hk hlt => hg.block k hlt hk.1.1)) (fun k hk => ⟨?_, hk.1.2⟩)
  rcases hat with hat | ⟨b, hat, hlt⟩
  · rw [hat]; exact hk.1.1
  · rw [hat]
    intro e
    injection e with e
    have := hk.2
    omega
theorem row_ (h : OwnRow (RFB d B W v.ownBlock) t size W base v ds) (hb : Below W.heap.size W W1) : OwnRow (RFB d B W1 v.ownBlock) t size W1 base v ds :=
  (h.imp_ (fun _ _ h => h.below hb)).below hb
theorem new_ {N : Nat} (h : Kd.FK d W (fun k => N ≤ k) x cs) (hN : B ≤ N) (hv : ∀ b, v.ownBlock = some b → b < N) : RFB d B W v.ownBlock x cs :=
  Foot.mono h (fun k hk => ⟨fun e => absurd (hv k e.symm) (Nat.not_lt_of_le hk), Nat.le_trans hN hk⟩)
theorem row_lt {R : α → List Value → Prop} (h : OwnRow R t size W base v ds) : ∀ b, v.ownBlock = some b → b < W.heap.size := by
  obtain ⟨inner, ho, _⟩ := h
  exact own_lt ho
theorem reads_one (h : RFB d B W row x cs) (hl : cs.length = size) (hB : Blk W g cs) : ReadsRow (RFB d B W row) size W (some ⟨g, 0, none⟩) 1 [x] := by
  refine ⟨rfl, by omega, fun _ => ⟨_, rfl, fun j p hj => ?_⟩⟩
  rcases j with _ | j
  · simp at hj
    subst hj
    exact ⟨cs, hl, h, fun i u hu => by rw [add_plain]; simpa using hB.cell i hu⟩
  · simp at hj
/-- What the row reads as lies from block B on. -/
theorem foot (h : OwnRow (RFB d B W v.ownBlock) t d.sz W B v ds) : ∃ A c, v = .slice A ds.length c ∧ ds.length ≤ c ∧ Kd.F d W (fun k => B ≤ k) A ds.length ds := by
  obtain ⟨A, c, rfl, hc⟩ := h.slice_
  refine ⟨A, c, rfl, hc, fun W' hW => ?_⟩
  obtain ⟨inner, ho, hr⟩ := h
  have h' : OwnRow (d.K W') t d.sz W' B (.slice A ds.length c) ds := ⟨inner, own_move ho (fun k hk => hW k (own_base ho k hk) (own_lt ho k hk)), hr.imp_ (fun p c hp => hp W' (fun k hk hlt => hW k hk.2 hlt))⟩
  obtain ⟨A', c', he, _, hr'⟩ := h'.reads
  injection he with h1 h2 h3
  subst h1
  exact hr'
end RFB
end Go.Proofs.Ytgfjkpnaabiecaa
namespace Go.Proofs
open Go.RowKit Go.Maps Go.Sort Go.Shelf
def Try.keys45_ren : Go.Shelf.Ren := ⟨fun | 7 => 45 | 10 => 65 | n => n, fun | 23 => 81 | 26 => 9 | 3 => 47 | 28 => 93 | 0 => 0 | 27 => 92 | 33 => 50 | 4 => 4 | n => n, fun | n => n⟩
theorem Try.keys45 : Go.Proofs.SlLaysZ.n7 Try.prog Try.keys45_ren := {
  mixed := by kernel_rfl
  f7 := ⟨Try.f45.name, by decide, Try.func45.trans (congrArg some (by kernel_rfl))⟩
  f10 := ⟨Try.f65.name, by decide, Try.func65.trans (congrArg some (by kernel_rfl))⟩
  t0 := Try.underlying0
  a0 := Try.isAgg0
  z0 := Try.sizeOf0
  v0 := Try.zeroValue0
  t4 := Try.underlying4
  a4 := Try.isAgg4
  z4 := Try.sizeOf4
  v4 := Try.zeroValue4
  t23 := Try.underlying81
  a23 := Try.isAgg81
  z23 := Try.sizeOf81
  v23 := Try.zeroValue81
  t26 := Try.underlying9
  a26 := Try.isAgg9
  z26 := Try.sizeOf9
  v26 := Try.zeroValue9
  t27 := Try.underlying92
  a27 := Try.isAgg92
  z27 := Try.sizeOf92
  v27 := Try.zeroValue92
  t28 := Try.underlying93
  a28 := Try.isAgg93
  z28 := Try.sizeOf93
  v28 := Try.zeroValue93
  t33 := Try.underlying50
  a33 := Try.isAgg50
  z33 := Try.sizeOf50
  v33 := Try.zeroValue50 }
def Try.sorted44_ren : Go.Shelf.Ren := ⟨fun | 6 => 44 | 8 => 63 | 9 => 64 | 11 => 77 | 13 => 79 | 12 => 78 | 23 => 95 | 24 => 96 | 14 => 86 | 15 => 87 | 16 => 88 | 17 => 89 | 18 => 90 | 19 => 91 | 20 => 92 | 21 => 93 | 22 => 94 | 25 => 101 | 26 => 102 | 27 => 103 | 28 => 104 | 29 => 105 | 30 => 106 | 31 => 109 | n => n, fun | 26 => 9 | 28 => 93 | 24 => 90 | 0 => 0 | 3 => 3 | 37 => 130 | 48 => 146 | 50 => 124 | 4 => 4 | 40 => 138 | 39 => 137 | 45 => 143 | 5 => 5 | 9 => 9 | 51 => 151 | 55 => 155 | 57 => 158 | 58 => 60 | 33 => 50 | n => n, fun | n => n⟩
theorem Try.sorted44 : Go.Proofs.SlLaysZ.n6 Try.prog Try.sorted44_ren := {
  mixed := by kernel_rfl
  f6 := ⟨Try.f44.name, by decide, Try.func44.trans (congrArg some (by kernel_rfl))⟩
  f8 := ⟨Try.f63.name, by decide, Try.func63.trans (congrArg some (by kernel_rfl))⟩
  f11 := ⟨Try.f77.name, by decide, Try.func77.trans (congrArg some (by kernel_rfl))⟩
  t0 := Try.underlying0
  a0 := Try.isAgg0
  z0 := Try.sizeOf0
  v0 := Try.zeroValue0
  t24 := Try.underlying90
  a24 := Try.isAgg90
  z24 := Try.sizeOf90
  v24 := Try.zeroValue90
  t26 := Try.underlying9
  a26 := Try.isAgg9
  z26 := Try.sizeOf9
  v26 := Try.zeroValue9
  t28 := Try.underlying93
  a28 := Try.isAgg93
  z28 := Try.sizeOf93
  v28 := Try.zeroValue93
  i26 := by kernel_rfl }
def Try.sort64_ren : Go.Shelf.Ren := ⟨fun | 6 => 64 | 8 => 79 | 9 => 78 | 19 => 95 | 20 => 96 | 21 => 86 | 22 => 87 | 23 => 88 | 24 => 89 | 25 => 90 | 26 => 91 | 27 => 92 | 28 => 93 | 29 => 94 | 36 => 101 | 31 => 102 | 32 => 103 | 37 => 104 | 38 => 105 | 39 => 106 | 41 => 109 | n => n, fun | 27 => 90 | 29 => 9 | 3 => 3 | 32 => 130 | 26 => 90 | 0 => 0 | 44 => 146 | 46 => 124 | 4 => 4 | 36 => 138 | 35 => 137 | 41 => 143 | 5 => 5 | 9 => 9 | 53 => 151 | 57 => 155 | 63 => 158 | 64 => 60 | n => n, fun | n => n⟩
theorem Try.sort64 : Go.Proofs.SlLaysM.n6 Try.prog Try.sort64_ren := {
  mixed := by kernel_rfl
  f6 := ⟨Try.f64.name, by decide, Try.func64.trans (congrArg some (by kernel_rfl))⟩
  f8 := Try.func79.trans (congrArg some (by kernel_rfl))
  f9 := ⟨Try.f78.name, by decide, Try.func78.trans (congrArg some (by kernel_rfl))⟩
  f19 := Try.func95.trans (congrArg some (by kernel_rfl))
  f20 := Try.func96.trans (congrArg some (by kernel_rfl))
  f21 := ⟨Try.f86.name, by decide, Try.func86.trans (congrArg some (by kernel_rfl))⟩
  f22 := ⟨Try.f87.name, by decide, Try.func87.trans (congrArg some (by kernel_rfl))⟩
  f23 := ⟨Try.f88.name, by decide, Try.func88.trans (congrArg some (by kernel_rfl))⟩
  f24 := ⟨Try.f89.name, by decide, Try.func89.trans (congrArg some (by kernel_rfl))⟩
  f25 := ⟨Try.f90.name, by decide, Try.func90.trans (congrArg some (by kernel_rfl))⟩
  f26 := ⟨Try.f91.name, by decide, Try.func91.trans (congrArg some (by kernel_rfl))⟩
  f27 := ⟨Try.f92.name, by decide, Try.func92.trans (congrArg some (by kernel_rfl))⟩
  f28 := ⟨Try.f93.name, by decide, Try.func93.trans (congrArg some (by kernel_rfl))⟩
  f29 := ⟨Try.f94.name, by decide, Try.func94.trans (congrArg some (by kernel_rfl))⟩
  f31 := Try.func102.trans (congrArg some (by kernel_rfl))
  f32 := Try.func103.trans (congrArg some (by kernel_rfl))
  f36 := ⟨Try.f101.name, by decide, Try.func101.trans (congrArg some (by kernel_rfl))⟩
  f37 := ⟨Try.f104.name, by decide, Try.func104.trans (congrArg some (by kernel_rfl))⟩
  f38 := ⟨Try.f105.name, by decide, Try.func105.trans (congrArg some (by kernel_rfl))⟩
  f39 := ⟨Try.f106.name, by decide, Try.func106.trans (congrArg some (by kernel_rfl))⟩
  f41 := ⟨Try.f109.name, by decide, Try.func109.trans (congrArg some (by kernel_rfl))⟩
  t0 := Try.underlying0
  a0 := Try.isAgg0
  z0 := Try.sizeOf0
  v0 := Try.zeroValue0
  t3 := Try.underlying3
  a3 := Try.isAgg3
  z3 := Try.sizeOf3
  v3 := Try.zeroValue3
  t4 := Try.underlying4
  a4 := Try.isAgg4
  z4 := Try.sizeOf4
  v4 := Try.zeroValue4
  t5 := Try.underlying5
  a5 := Try.isAgg5
  z5 := Try.sizeOf5
  v5 := Try.zeroValue5
  t9 := Try.underlying9
  a9 := Try.isAgg9
  z9 := Try.sizeOf9
  v9 := Try.zeroValue9
  t26 := Try.underlying90
  a26 := Try.isAgg90
  z26 := Try.sizeOf90
  v26 := Try.zeroValue90
  t27 := Try.underlying90
  a27 := Try.isAgg90
  z27 := Try.sizeOf90
  v27 := Try.zeroValue90
  t29 := Try.underlying9
  a29 := Try.isAgg9
  z29 := Try.sizeOf9
  v29 := Try.zeroValue9
  t32 := Try.underlying130
  a32 := Try.isAgg130
  z32 := Try.sizeOf130
  v32 := Try.zeroValue130
  t35 := Try.underlying137
  a35 := Try.isAgg137
  z35 := Try.sizeOf137
  v35 := Try.zeroValue137
  t36 := Try.underlying138
  a36 := Try.isAgg138
  z36 := Try.sizeOf138
  v36 := Try.zeroValue138
  t41 := Try.underlying143
  a41 := Try.isAgg143
  z41 := Try.sizeOf143
  v41 := Try.zeroValue143
  t44 := Try.underlying146
  a44 := Try.isAgg146
  z44 := Try.sizeOf146
  v44 := Try.zeroValue146
  t46 := Try.underlying124
  a46 := Try.isAgg124
  z46 := Try.sizeOf124
  v46 := Try.zeroValue124
  t53 := Try.underlying151
  a53 := Try.isAgg151
  z53 := Try.sizeOf151
  v53 := Try.zeroValue151
  t57 := Try.underlying155
  a57 := Try.isAgg155
  z57 := Try.sizeOf155
  v57 := Try.zeroValue155
  t63 := Try.underlying158
  a63 := Try.isAgg158
  z63 := Try.sizeOf158
  v63 := Try.zeroValue158
  t64 := Try.underlying60
  a64 := Try.isAgg60
  z64 := Try.sizeOf60
  v64 := Try.zeroValue60 }


theorem Try.sorts44 (m : Nat) : AnyZ.SortsIn Try.prog Try.sorted44_ren Fence.wide m :=
  ⟨fun blk off cap ss W hH hblk hsz => callsIn_wide.2 (AnyM.slices_Sort_string Try.sort64 blk off cap ss W hH hblk hsz),
   fun p cap W => callsIn_wide.2 (AnyM.slices_Sort_string_none Try.sort64 p cap W)⟩

theorem Try.maps_Keys_45 (mb : Option Nat) (W : World) : CallsIn Fence.wide 5 Try.prog 45 #[.map mb] W fun e w' => e = .returned (.func (.func 65) #[] #[.pointer (some ⟨W.heap.size, 0, none⟩)]) ∧ w' = W.alloc (.cells #[.map mb] 81) :=
  AnyZ.keys_in Try.keys45 Fence.wide 5 trivial rfl mb W

set_option maxHeartbeats 1000000 in
theorem Try.slices_Sorted_keys_44_45 {H : Type} (b nn : Nat) (D0 : DataW H) (R : Value → Option (DataW H × List MemPlace)) (w : World) (hown : w.ownsMap Try.prog 9 R b nn D0) (hmax : Maps.size D0 ≤ maxLen) (hbytes : Maps.size D0 * 16 ≤ 140737488355328) :
    CallsIn Fence.wide 5 Try.prog 44 #[.func (.func 65) #[] #[.pointer (some ⟨w.heap.size, 0, none⟩)]] (w.alloc (.cells #[.map (some b)] 81)) fun e w' => ∃ (v : Value) (ss : List (List UInt8)), e = .returned v ∧ ss.Perm (strKeys D0) ∧
      w'.ownsRow (w.alloc (.cells #[.map (some b)] 81)).heap.size 9 1 v ss.length ((ss.mergeSort (fun x y => decide (x ≤ y))).map encStr) ∧ (v = .slice none 0 0 ↔ ss = []) ∧ Below (w.alloc (.cells #[.map (some b)] 81)).heap.size (w.alloc (.cells #[.map (some b)] 81)) w' := by
  have hbl := hown.lt
  have hseq : SeqGives Fence.wide 2 Try.prog 65 #[.pointer (some ⟨w.heap.size, 0, none⟩)] encStr (fun ss => ss.Perm (strKeys D0)) (Maps.size D0) (w.alloc (.cells #[.map (some b)] 81)) :=
    AnyZ.keys_gives (ρ := Try.keys45_ren) { Try.keys45 with } Fence.wide _ trivial rfl (by omega) w.heap.size b nn D0 _ (by simp) (by simp) (by
      obtain ⟨es, clock, hb, Ft, hs, hD⟩ := hown
      exact ⟨es, clock, (Below.heap_alloc _ _ b hbl).trans hb, Ft, hs, hD⟩)
  exact AnyZ.sorted_in Try.sorted44 Fence.wide 5 trivial trivial trivial trivial rfl (by omega) (Try.sorts44 _) (enters_of Try.func64 (by kernel_rfl) rfl) 65 #[.pointer (some ⟨w.heap.size, 0, none⟩)] trivial (enters_of Try.func65 (by kernel_rfl) rfl) _ _ hmax hbytes _ hseq




end Go.Proofs
set_option linter.unusedVariables false
set_option linter.unusedSimpArgs false
namespace Go.Proofs.Ytgfjkpnaabiecaa
open Go.RowKit Go.Proofs.YtgfjkpnaabiecaaW.PrintWords
namespace Tab
open Tags
def nilR (v : Value) : Option (DataW Nat × List MemPlace) := some (.nil, [])
def keyB (v : Value) : List UInt8 := match v with
  | .string s => s.data.toList
  | _ => []
theorem keyB_of {v : Value} {kl : Lit} (h : keyOf Try.prog 9 v = some kl) : strOf kl = keyB v := by
  obtain ⟨x, rfl, rfl, _⟩ := Maps.keyOf_str Try.underlying9 h
  simp [strOf, keyB, encStr]
/-- A map block in the words of the kit. -/
theorem map_owns {w : World} {b : Nat} {E : List (Value × Value)} (h : MapL w 9 b E) (hE : E.length ≤ 1000000) :
    ∃ D : DataW Nat, w.ownsMap Try.prog 9 nilR b E.length D ∧ Maps.size D = E.length ∧ (strKeys D).Perm (E.map fun x => keyB x.1) := by
  obtain ⟨es, clock, hb, hs, hk, hp⟩ := h
  have hsz : es.size = E.length := by have := hp.length_eq; unfold ents at this; simpa using this
  have hrd : ∀ x ∈ es.toList, ∃ y, WideElems.rd Try.prog 9 nilR x = some y ∧ strOf y.1 = keyB x.key := by
    intro x hx
    obtain ⟨l, hl⟩ := hk x hx
    exact ⟨(l, .nil), by simp [WideElems.rd, hl, nilR], keyB_of hl⟩
  refine ⟨_, ⟨es, clock, hb, ⟨by unfold maxLen; omega, hs, fun x hx => let ⟨y, hy, _⟩ := hrd x hx; ⟨y, hy⟩⟩, Nat.le_of_eq hsz, rfl⟩, ?_, ?_⟩
  · rw [Maps.size_eq, length_sorted, List.length_map, Array.length_toList]
    exact hsz
  · show ((_ : List (Lit × DataW Nat)).map fun p => strOf p.1).Perm _
    refine ((WideShapes.sorted_perm _).map _).trans ?_
    rw [List.map_map]
    refine List.Perm.trans ?_ (hp.map _)
    unfold ents
    rw [List.map_map]
    rw [List.map_congr_left (f := (fun p : Lit × DataW Nat => strOf p.1) ∘ WideElems.rg Try.prog 9 nilR) (g := (fun x : Value × Value => keyB x.1) ∘ fun e : MapEntry => (e.key, e.val))]
    intro x hx
    obtain ⟨y, h1, h2⟩ := hrd x hx
    simp [WideElems.rg, h1, h2]
theorem kl_sorted {l : List Cell} (h : Srt l) : (l.map kl).mergeSort (fun x y => decide (x ≤ y)) = l.map kl := by
  refine List.mergeSort_of_pairwise ?_
  unfold Srt at h
  rw [List.pairwise_map]
  exact h.imp fun h => by simpa using List.le_of_lt h
/-- slices.Sorted(maps.Keys(m)): the keys, in order. -/
theorem sorted_c {w : World} {mb : Nat} {l : List Cell} (h : MapT w mb l) (hs : Srt l) (hl : l.length ≤ 1000000) :
    Calls Try.prog 45 #[.map (some mb)] w fun e w1 => e = .returned (.func (.func 65) #[] #[.pointer (some ⟨w.heap.size, 0, none⟩)]) ∧ Below w.heap.size w w1 ∧
      Calls Try.prog 44 #[.func (.func 65) #[] #[.pointer (some ⟨w.heap.size, 0, none⟩)]] w1 fun e w2 => ∃ v, e = .returned v ∧ w2.ownsRow w1.heap.size 9 1 v l.length ((l.map fun c => c.e.key).map Value.string) ∧ Below w1.heap.size w1 w2 := by
  obtain ⟨g, hm, hg⟩ := h
  obtain ⟨D, hown, hsz, hk⟩ := map_owns hm (by rw [List.length_map]; exact hl)
  rw [List.length_map] at hsz
  refine ((callsIn_wide (n := 5)).1 (Try.maps_Keys_45 (some mb) w)).mono ?_
  rintro e w1 ⟨rfl, rfl⟩
  refine ⟨rfl, below_alloc (Below.refl _ _) _, ?_⟩
  refine ((callsIn_wide (n := 5)).1 (Try.slices_Sorted_keys_44_45 mb _ D nilR w hown (by rw [hsz]; unfold maxLen; omega) (by rw [hsz]; omega))).mono ?_
  rintro e w2 ⟨v, ss, rfl, hp, hr, _, hb⟩
  have hkk : (l.map g).map (fun x => keyB x.1) = l.map kl := by
    rw [List.map_map]
    exact List.map_congr_left fun c hc => by show keyB (g c).1 = kl c; rw [(hg c hc).1]; rfl
  rw [hkk] at hk
  have hpp := hp.trans hk
  have hlen : ss.length = l.length := by rw [hpp.length_eq, List.length_map]
  have hms : ss.mergeSort (fun x y => decide (x ≤ y)) = l.map kl := (mergeSort_of_perm hpp).trans (kl_sorted hs)
  rw [hlen, hms, List.map_map] at hr
  refine ⟨v, rfl, ?_, hb⟩
  rw [List.map_map]
  rw [List.map_congr_left (f := Value.string ∘ fun c : Cell => c.e.key) (g := encStr ∘ kl)]
  · exact hr
  · intro c _
    simp [encStr, kl]
/-- What Cells tells: a row of its own. -/
def CellsTold (w : World) (l : List Cell) (r : Ending) (w' : World) : Prop :=
  ∃ A c, r = .returned (.slice A l.length c) ∧ l.length ≤ c ∧ Kd.F Cell.k w' (fun k => w.heap.size ≤ k) A l.length l ∧ Below w.heap.size w w'
theorem infoCell : (Try.prog.info? 47).map (fun i => (i.zero, i.size, i.bytes)) = some (some (.agg #[.string ByteArray.empty, .int .i64 0, .int .i64 0, .int .i64 0, .bool false, .slice none 0 0, .bool false, .bool false, .int .i64 0]), 9, 88) := by kernel_rfl
theorem fk_ce {w : World} {ok : Nat → Prop} {c : Cell} {A : Option Addr} {cp : Nat} (h : Kd.FK Entry.k w ok c.e [.string c.e.key, .int .i64 c.e.tag.seq, .int .i64 c.e.tag.who, .int .i64 c.e.tag.op, .bool c.e.val.has, .slice A c.e.val.b.length cp]) (hu : InR .i64 c.used) : Kd.FK Cell.k w ok c (ccs c A cp) := by
  refine Foot.imp h (fun W' hK => ?_)
  obtain ⟨A5, c5, he, s0, r1, r2, r3, l5, g5⟩ := Entry.open_ hK
  simp only [List.cons.injEq, Value.slice.injEq, true_and, and_true] at he
  obtain ⟨rfl, rfl⟩ := he
  exact Cell.mk_ W' c s0 r1 r2 r3 l5 g5 hu
set_option maxRecDepth 100000 in
set_option maxHeartbeats 1000000 in
theorem cells_calls (p mb tb : Nat) (T : Tb) (n : Int) (w : World) (h : TbR w p mb tb T) (hN : Num T n) :
    Calls Try.prog 16 #[.pointer (some ⟨p, 0, none⟩)] w (CellsTold w T.l) := by
  have HT := Aside0.mk h
  have HN := Aside0.mk hN
  obtain ⟨cap, hcap, hB⟩ := h.blk
  have hpl := h.lt.1
  have hml := h.lt.2.1
  have p4 := hB.cell 4 rfl
  have HS := Aside0.mk (sorted_c h.map h.srt hN.len)
  have hlen := hN.len
  clear hB h hN
  go_enter Try.func16, Try.ntmps16
  go_wp2_with (first | ((with_reducible refine HS.out.mono ?_); rintro e w1 ⟨rfl, hb1, hc1⟩; have HB1 := Aside0.mk hb1; have HC1 := Aside0.mk hc1; clear hb1 hc1) | ((with_reducible refine HC1.out.mono ?_); rintro e w2 ⟨v, rfl, ho2, hb2⟩; obtain ⟨A1, c1, rfl, hn1, hC2, hA2⟩ := StrRow.own_C (l := T.l.map fun c => c.e.key) (by rw [List.length_map]; exact ho2) (fun x hx => by obtain ⟨c, hc, rfl⟩ := List.mem_map.1 hx; have := (HN.out.ky c hc).1; omega); rw [List.length_map] at hn1 hC2 ⊢; have HB2 := Aside0.mk (Below.then_ HB1.out hb2 (Nat.le_refl _)); have HC2 := Aside0.mk hC2; clear hb2 ho2 hC2 hA2))
  go_loopg [3, 16] T.l.length (fun gk v3 v16 wr => ∃ k : Nat, v16 = .int .i64 (k : Int) ∧ k ≤ T.l.length ∧ Aside0 (gk + k = T.l.length) ∧ Aside0 (Below w2.heap.size w2 wr) ∧ Aside0 (OwnRow (RFB Cell.k w2.heap.size wr v3.ownBlock) 47 9 wr w2.heap.size v3 (T.l.take k)))
  case atStart => exact ⟨0, rfl, Nat.zero_le _, ⟨rfl⟩, ⟨Below.refl _ _⟩, ⟨OwnRow.none_ _ _ _ _ _⟩⟩
  case round =>
    obtain ⟨k, rfl, hk, HGK, HBR, HO⟩ := hrel
    have HB : Aside0 (Below w.heap.size w wr) := ⟨Below.then_ HB2.out HBR.out (Nat.le_refl _)⟩
    by_cases hlt : k < T.l.length
    · obtain ⟨ad, x, rfl, HX, hcx, hxs⟩ := StrRow.str_at (Kd.C_below HC2.out HBR.out) k hlt
      obtain ⟨c, hc⟩ : ∃ c, T.l[k]? = some c := ⟨_, List.getElem?_eq_getElem hlt⟩
      have hcm : c ∈ T.l := List.mem_of_getElem? hc
      have hxc : c.e.key = x := by have := HX.out; rw [List.getElem?_map, hc] at this; simpa using this
      have hky := HN.out.ky c hcm
      subst hxc
      have HTK : Aside0 (T.l.take (k + 1) = T.l.take k ++ [c]) := ⟨by rw [List.take_add_one, hc]; rfl⟩
      have HFD : Aside0 (find T.l c.e.key = some c) := ⟨find_of HT.out.srt hcm⟩
      have hbk0 := (HT.out.below HB.out).map
      obtain ⟨o, Ao, co, hoe, hbo, hlk⟩ := hbk0.look_or c.e.key (by omega)
      rw [HFD.out] at hoe hlk
      obtain rfl : o = c := hoe
      have rl := hlk false wr rfl
      have q4 := pw_cell_below HB.out p4
      have hpl2 : p < wr.heap.size := Nat.lt_of_lt_of_le hpl HB.out.size
      have HBO := Aside0.mk hbo
      have HIU : Aside0 (InR .i64 o.used) := ⟨by obtain ⟨A5, c5, he, s0, r1, r2, r3, l5, g5, r8⟩ := Cell.open_ hbo.now; exact r8⟩
      have HCP : Aside0 (∀ w', Below wr.heap.size wr w' → Calls Try.prog 43 #[.agg #[.string o.e.key, .int .i64 o.e.tag.seq, .int .i64 o.e.tag.who, .int .i64 o.e.tag.op, .bool o.e.val.has, .slice Ao o.e.val.b.length co]] w' (CopyTold w' o.e)) := ⟨fun w' hb => copy_calls o.e Ao co w' ((bk_ce HBO.out).below hb).now (by omega)⟩
      have HX3 := Aside0.mk (Blk.new_ wr #[.string o.e.key, .int .i64 o.e.tag.seq, .int .i64 o.e.tag.who, .int .i64 o.e.tag.op, .bool o.e.val.has, .slice Ao o.e.val.b.length co, .bool o.whole, .bool o.clean, .int .i64 o.used] 47 rfl rfl)
      clear hbo hlk hbk0 hcm hky
      simp only [ccs, Bool.false_eq_true, if_false] at rl
      go_upto_region 9 with (first | ((with_reducible refine (HCP.out _ (below_alloc (Below.refl _ _) _)).mono ?_); rintro e w6 ⟨cs, rfl, hbk, hfk, hb6⟩; obtain ⟨A', c', he, hn0⟩ := Entry.open_ hbk.now; clear hn0; rw [he] at hbk hfk; obtain rfl : cs = _ := (Array.toArray_toList).symm.trans (congrArg List.toArray he); clear he; have HFK := Aside0.mk hfk; have HB6 := Aside0.mk hb6; have hX6 := HX3.out.on hb6; have HX6 := Aside0.mk hX6; obtain ⟨⟨x0, x1, x2, x3, x4, x5, x6, x7, x8⟩, f0, f1, f2, f3, f4, f5, f6, f7, f8⟩ := hX6.nine; clear hfk hbk hb6 hX6))
      obtain ⟨W7, hW7⟩ : ∃ W7 : World, W7 = (((((w6.setCell ⟨wr.heap.size, 0, none⟩ (.string o.e.key)).setCell ⟨wr.heap.size, 1, none⟩ (.int .i64 o.e.tag.seq)).setCell ⟨wr.heap.size, 2, none⟩ (.int .i64 o.e.tag.who)).setCell ⟨wr.heap.size, 3, none⟩ (.int .i64 o.e.tag.op)).setCell ⟨wr.heap.size, 4, none⟩ (.bool o.e.val.has)).setCell ⟨wr.heap.size, 5, none⟩ (.slice A' o.e.val.b.length c') := ⟨_, rfl⟩
      rw [← hW7]
      have hX7 : Blk W7 wr.heap.size (ccs o A' c') := by rw [hW7]; exact ((((((HX6.out.set 0 (.string o.e.key)).set 1 (.int .i64 o.e.tag.seq)).set 2 (.int .i64 o.e.tag.who)).set 3 (.int .i64 o.e.tag.op)).set 4 (.bool o.e.val.has)).set 5 (.slice A' o.e.val.b.length c')).cast rfl
      have ho67 : Only [wr.heap.size] w6 W7 := by rw [hW7]; exact ((((((Only.refl [wr.heap.size] w6).set (p := ⟨wr.heap.size, 0, none⟩) (.string o.e.key) (.inl (by simp))).set (p := ⟨wr.heap.size, 1, none⟩) (.int .i64 o.e.tag.seq) (.inl (by simp))).set (p := ⟨wr.heap.size, 2, none⟩) (.int .i64 o.e.tag.who) (.inl (by simp))).set (p := ⟨wr.heap.size, 3, none⟩) (.int .i64 o.e.tag.op) (.inl (by simp))).set (p := ⟨wr.heap.size, 4, none⟩) (.bool o.e.val.has) (.inl (by simp))).set (p := ⟨wr.heap.size, 5, none⟩) (.slice A' o.e.val.b.length c') (.inl (by simp))
      clear hW7 x0 x1 x2 x3 x4 x5 x6 x7 x8 f0 f1 f2 f3 f4 f5 f6 f7 f8 rl q4 hcx
      obtain ⟨⟨x0, x1, x2, x3, x4, x5, x6, x7, x8⟩, fx⟩ := hX7.nine
      clear fx
      have HB7 : Aside0 (Below wr.heap.size wr W7) := ⟨((Only.of_below [wr.heap.size] (Below.then_ (below_alloc (Below.refl _ _) _) HB6.out (Nat.le_refl _))).trans ho67).below (by simp) (Nat.le_refl _)⟩
      have hfe : Kd.FK Entry.k W7 (fun k => wr.heap.size + 1 ≤ k) o.e [.string o.e.key, .int .i64 o.e.tag.seq, .int .i64 o.e.tag.who, .int .i64 o.e.tag.op, .bool o.e.val.has, .slice A' o.e.val.b.length c'] := Foot.only (Foot.mono HFK.out (fun k hk => by simpa using hk)) ho67 (fun i hi => by simp; omega)
      have HFC := Aside0.mk (fk_ce hfe HIU.out)
      have HB8 : Aside0 (∀ ob, Below wr.heap.size wr (W7.alloc ob)) := ⟨fun ob => below_alloc HB7.out ob⟩
      have hsz : w2.heap.size ≤ wr.heap.size := HBR.out.size
      have hlk : (T.l.take k).length = k := by rw [List.length_take]; omega
      have HLK := Aside0.mk hlk
      clear hlk hfe ho67 hX7
      go_wp2_with (first | (at_builtin; refine own_append_rows (w0 := w2) (R := RFB Cell.k w2.heap.size _ u3.ownBlock) w2.heap.size rfl _ _ 44 47 _ 9 88 rfl Try.underlying44 infoCell rfl (by omega) (by omega) u3 (T.l.take k) [o] (some ⟨W7.heap.size, 0, none⟩) 1 1 rfl (by show Value.slice _ 1 1 = _; simp) (RFB.row_ HO.out (HB8.out _)) (RFB.reads_one (RFB.below (RFB.new_ HFC.out (by omega) (fun b hb => by have := RFB.row_lt HO.out b hb; omega)) (below_alloc (Below.refl _ _) _)) rfl (Blk.new_ _ _ _ rfl rfl)) (fun _ _ h => h.one) (Below.then_ HBR.out (HB8.out _) (Nat.le_refl _)) (Below.then_ HBR.out (HB8.out _) (Nat.le_refl _)).size (by rw [HLK.out]; omega) ?_; intro v1 w9 hown hB9 hg9 hat9; have HOW := Aside0.mk (OwnRow.imp_ hown (fun _ _ h => RFB.grown h hg9 hat9)); have HB9 := Aside0.mk hB9; have HG9 := Aside0.mk hg9; clear hown hB9 hg9 hat9))
      go_roundg (T.l.length - (k + 1))
      case measure => have := HGK.out; omega
      case rel => exact ⟨k + 1, by go_num, by omega, ⟨by omega⟩, HB9, ⟨by rw [HTK.out]; exact HOW.out⟩⟩
    · obtain rfl : k = T.l.length := by omega
      go_wp2
      obtain ⟨A, c, rfl, h1, h2⟩ := RFB.foot (d := Cell.k) HO.out
      rw [List.take_length] at h1 h2 ⊢
      go_ret
      exact ⟨A, c, rfl, h1, Foot.mono h2 (fun i hi => Nat.le_trans HB2.out.size hi), HB.out⟩
end Tab
end Go.Proofs.Ytgfjkpnaabiecaa
set_option linter.unusedVariables false
set_option linter.unusedSimpArgs false
namespace Go.Proofs.Ytgfjkpnaabiecaa
open Go.RowKit Go.Proofs.YtgfjkpnaabiecaaW.PrintWords
namespace Tab
def RoomOk (r : Room) : Prop := 1 ≤ r.cells ∧ r.cells ≤ 4096 ∧ 1 ≤ r.bytes ∧ r.bytes ≤ 4194304 ∧ 1 ≤ r.buckets ∧ r.buckets ≤ 256
instance (r : Room) : Decidable (RoomOk r) := by unfold RoomOk; infer_instance
def newT (r : Room) : Tb := ⟨r, [], List.replicate r.buckets.toNat (if r.fresh then 0 else 1), 0⟩
def NewTold (w : World) (r : Room) (e : Ending) (w' : World) : Prop :=
  if RoomOk r then ∃ p mb tb, e = .returned (.tuple #[.pointer (some ⟨p, 0, none⟩), .int .i64 0]) ∧ TbR w' p mb tb (newT r) ∧ w.heap.size ≤ p ∧ w.heap.size ≤ mb ∧ w.heap.size ≤ tb ∧ Below w.heap.size w w'
  else e = .returned (.tuple #[.pointer none, .int .i64 2]) ∧ Below w.heap.size w w'
set_option maxRecDepth 100000 in
set_option maxHeartbeats 1000000 in
theorem new_bad (r : Room) (w : World) (h : ¬ RoomOk r) : Calls Try.prog 10 #[.agg #[.int .i64 r.cells, .int .i64 r.bytes, .int .i64 r.buckets, .bool r.fresh]] w (NewTold w r) := by
  have HH := Aside0.mk h
  have fin : ∀ w', Below w.heap.size w w' → NewTold w r (.returned (.tuple #[.pointer none, .int .i64 2])) w' := fun w' hb => by unfold NewTold; rw [if_neg HH.out]; exact ⟨rfl, hb⟩
  have FIN := Aside0.mk fin
  have hor : r.cells < 1 ∨ (1 ≤ r.cells ∧ 4096 < r.cells) ∨ (1 ≤ r.cells ∧ r.cells ≤ 4096 ∧ r.bytes < 1) ∨ (1 ≤ r.cells ∧ r.cells ≤ 4096 ∧ 1 ≤ r.bytes ∧ 4194304 < r.bytes) ∨ (1 ≤ r.cells ∧ r.cells ≤ 4096 ∧ 1 ≤ r.bytes ∧ r.bytes ≤ 4194304 ∧ r.buckets < 1) ∨ (1 ≤ r.cells ∧ r.cells ≤ 4096 ∧ 1 ≤ r.bytes ∧ r.bytes ≤ 4194304 ∧ 1 ≤ r.buckets ∧ 256 < r.buckets) := by
    unfold RoomOk at h; omega
  obtain ⟨a, b, c, d⟩ := r
  dsimp only at *
  clear h fin
  rcases hor with h | ⟨h1, h⟩ | ⟨h1, h2, h⟩ | ⟨h1, h2, h3, h⟩ | ⟨h1, h2, h3, h4, h⟩ | ⟨h1, h2, h3, h4, h5, h⟩ <;>
  · go_enter Try.func10, Try.ntmps10
    go_wp2
    go_ret2
    exact FIN.out _ (below_alloc (Below.refl _ _) _)
set_option maxRecDepth 100000 in
set_option maxHeartbeats 1000000 in
theorem size_calls (p mb tb : Nat) (T : Tb) (w : World) (h : TbR w p mb tb T) (hl : T.l.length ≤ 1000000) :
    Calls Try.prog 24 #[.pointer (some ⟨p, 0, none⟩)] w fun e w' => e = .returned (.tuple #[.int .i64 (T.l.length : Int), .int .i64 ((szs T.l : Nat) : Int)]) ∧ Below w.heap.size w w' := by
  have HT := Aside0.mk h
  obtain ⟨cap, hcap, hB⟩ := h.blk
  have hpl := h.lt.1
  have hml := h.lt.2.1
  have p4 := hB.cell 4 rfl
  have p7 := hB.cell 7 rfl
  obtain ⟨n0, hn0⟩ : ∃ n, n = szs T.l := ⟨_, rfl⟩
  obtain ⟨m0, hm0⟩ : ∃ n, n = T.l.length := ⟨_, rfl⟩
  rw [← hn0] at p7
  have hlen := fun w' (hb : Below w.heap.size w w') => h.map.len 3 w' (hb.block mb hml)
  rw [← hm0] at hlen
  have r4 : ∀ w', Below w.heap.size w w' → w'.cell? ⟨p, 4, none⟩ = some (.map (some mb)) := fun w' h => pw_cell_below h p4
  have r7 : ∀ w', Below w.heap.size w w' → w'.cell? ⟨p, 7, none⟩ = some (.int .i64 (n0 : Int)) := fun w' h => pw_cell_below h p7
  have HN := Aside0.mk (And.intro hn0 hm0)
  clear hB h hl hn0 hm0
  rw [← HN.out.1, ← HN.out.2]
  go_enter Try.func24, Try.ntmps24
  go_wp2
  refine wp_region_noPanic ?_
  refine wp_region_held_drew (S := Below w.heap.size w) (by kernel_rfl) (below_drew (Below.refl _ _)) (fun hHeld => ?_)
  (refine takeH 0 6 (v := ?_) rfl rfl (by kernel_rfl) (by kernel_rfl) (by kernel_rfl) (fun _ _ _ h => h) hHeld rfl ?_ ?_; rotate_left; (focus (intro w' hSw; go_simp; try with_reducible rfl)))
  (try simp only [Act.put, List.setIfInBounds_toArray, List.set_cons_zero, List.set_cons_succ])
  (refine takeH 1 7 (v := ?_) rfl rfl (by kernel_rfl) (by kernel_rfl) (by kernel_rfl) (fun _ _ _ h => h) hHeld rfl ?_ ?_; rotate_left; (focus (intro w' hSw; go_simp; try with_reducible rfl)))
  (try simp only [Act.put, List.setIfInBounds_toArray, List.set_cons_zero, List.set_cons_succ])
  (refine takeH 2 8 (v := ?_) rfl rfl (by kernel_rfl) (by kernel_rfl) (by kernel_rfl) (fun _ _ _ h => h) hHeld rfl ?_ ?_; rotate_left; (focus (intro w' hSw; go_simp; try with_reducible rfl)))
  (try simp only [Act.put, List.setIfInBounds_toArray, List.set_cons_zero, List.set_cons_succ])
  (refine takeH 3 9 (v := ?_) rfl rfl (by kernel_rfl) (by kernel_rfl) (by kernel_rfl) (fun _ _ _ h => h) hHeld rfl ?_ ?_; rotate_left; (focus (intro w' hSw; go_simp; try with_reducible rfl)))
  (try simp only [Act.put, List.setIfInBounds_toArray, List.set_cons_zero, List.set_cons_succ])
  (refine takeH 4 10 (v := ?_) rfl rfl (by kernel_rfl) (by kernel_rfl) (by kernel_rfl) (fun _ _ _ h => h) hHeld rfl ?_ ?_; rotate_left; (focus (intro w' hSw; go_simp; try with_reducible rfl)))
  (try simp only [Act.put, List.setIfInBounds_toArray, List.set_cons_zero, List.set_cons_succ])
  (refine takeH 5 11 (v := ?_) rfl rfl (by kernel_rfl) (by kernel_rfl) (by kernel_rfl) (fun _ _ _ h => h) hHeld rfl ?_ ?_; rotate_left; (focus (intro w' hSw; go_simp; try with_reducible rfl)))
  (try simp only [Act.put, List.setIfInBounds_toArray, List.set_cons_zero, List.set_cons_succ])
  (refine takeH 6 12 (v := ?_) rfl rfl (by kernel_rfl) (by kernel_rfl) (by kernel_rfl) (fun _ _ _ h => h) hHeld rfl ?_ ?_; rotate_left; (focus (intro w' hSw; go_simp; try with_reducible rfl)))
  (try simp only [Act.put, List.setIfInBounds_toArray, List.set_cons_zero, List.set_cons_succ])
  (refine takeH 7 13 (v := ?_) rfl rfl (by kernel_rfl) (by kernel_rfl) (by kernel_rfl) (fun _ _ _ h => h) hHeld rfl ?_ ?_; rotate_left; (focus (intro w' hSw; go_simp; try with_reducible rfl)))
  (try simp only [Act.put, List.setIfInBounds_toArray, List.set_cons_zero, List.set_cons_succ])
  (refine takeH 8 14 (v := ?_) rfl rfl (by kernel_rfl) (by kernel_rfl) (by kernel_rfl) (fun _ _ _ h => h) hHeld rfl ?_ ?_; rotate_left; (focus (intro w' hSw; go_simp; try with_reducible rfl)))
  (try simp only [Act.put, List.setIfInBounds_toArray, List.set_cons_zero, List.set_cons_succ])
  (refine takeH 9 2 (v := ?_) rfl rfl (by kernel_rfl) (by kernel_rfl) (by kernel_rfl) (fun _ _ _ h => h) hHeld rfl ?_ ?_; rotate_left; (focus (intro w' hSw; go_simp; try with_reducible rfl)))
  (try simp only [Act.put, List.setIfInBounds_toArray, List.set_cons_zero, List.set_cons_succ])
  (refine takeH 10 3 (v := ?_) rfl rfl (by kernel_rfl) (by kernel_rfl) (by kernel_rfl) (fun _ _ _ h => h) hHeld rfl ?_ ?_; rotate_left; (focus (intro w' hSw; go_simp; try with_reducible rfl)))
  (try simp only [Act.put, List.setIfInBounds_toArray, List.set_cons_zero, List.set_cons_succ])
  refine wpAnyH_done (by kernel_rfl) ?_ _
  refine NoPanic.normal ?_
  go_wp2
  go_ret2
  exact ⟨rfl, below_drew (Below.refl _ _)⟩
theorem infoI : (Try.prog.info? 3).map (fun i => (i.zero, i.size, i.bytes)) = some (some (.int .i64 0), 1, 8) := by kernel_rfl
/-- What New has made ahead of its loop. -/
def Made (W : World) (r : Room) (p mb tb : Nat) (xs : List Int) (w' : World) : Prop := TbR w' p mb tb ⟨r, [], xs, 0⟩ ∧ W.heap.size ≤ p ∧ W.heap.size ≤ mb ∧ W.heap.size ≤ tb ∧ Below W.heap.size W w'
theorem Made.mk_ {W w' : World} {ra rb : Int} {nb : Nat} {rd : Bool} {p mb tb : Nat} (hm : MapL w' 9 mb []) (ht : Blk w' tb (List.replicate nb (.int .i64 0))) (hty : Ty w' 3 tb)
    (hp : Blk w' p [.int .i64 ra, .int .i64 rb, .int .i64 (nb : Int), .bool rd, .map (some mb), .slice (some ⟨tb, 0, none⟩) nb nb, .int .i64 0, .int .i64 0]) (hpt : Ty w' 83 p)
    (h1 : W.heap.size ≤ p) (h2 : W.heap.size ≤ mb) (h3 : W.heap.size ≤ tb) (hb : Below W.heap.size W w') : Made W ⟨ra, rb, nb, rd⟩ p mb tb (List.replicate nb 0) w' := by
  refine ⟨⟨⟨nb, by simp, ?_⟩, hpt, ?_, hty, ⟨fun _ => (.map none, .map none), hm, by simp⟩, List.Pairwise.nil⟩, h1, h2, h3, hb⟩
  · simpa [szs] using hp
  · simpa using ht
def oneK (nb k : Nat) : List Value := (List.replicate k (1 : Int) ++ List.replicate (nb - k) 0).map (.int .i64)
theorem oneK_at {nb k : Nat} (h : k < nb) : (oneK nb k)[k]? = some (.int .i64 0) := by
  unfold oneK
  rw [List.getElem?_map, List.getElem?_append_right (by simp)]
  simp only [List.length_replicate, Nat.sub_self]
  rw [List.getElem?_replicate, if_pos (by omega)]
  rfl
theorem oneK_set {nb k : Nat} (h : k < nb) : (oneK nb k).set k (.int .i64 1) = oneK nb (k + 1) := by
  unfold oneK
  rw [← List.map_set, List.set_append_right _ _ (by simp)]
  simp only [List.length_replicate, Nat.sub_self]
  rw [show nb - k = (nb - (k + 1)) + 1 by omega, List.replicate_succ, List.set_cons_zero, List.replicate_succ', List.append_assoc]
  rfl
theorem ty_new {W : World} {cs : Array Value} {t : TypeId} {k : Nat} (h : k = W.heap.size) : Ty (W.alloc (.cells cs t)) t k := by subst h; exact Ty.new _ _ _ _
theorem ty_alloc {W : World} {t : TypeId} {k : Nat} (h : Ty W t k) (o : Obj) : Ty (W.alloc o) t k := h.below (below_alloc (Below.refl _ _) o)
theorem map_new {W : World} {k : Nat} (h : k = W.heap.size) : MapL (W.alloc (.map #[] 0)) 9 k [] := by subst h; exact MapL.made _ _
theorem map_alloc {W : World} {k : Nat} (h : MapL W 9 k []) (o : Obj) : MapL (W.alloc o) 9 k [] := h.only (Only.of_below [] (below_alloc (Below.refl _ _) o)) (by simp)
theorem made1 (W : World) (ra rb : Int) (nb : Nat) (rd : Bool) : Made W ⟨ra, rb, nb, rd⟩ (W.heap.size + 1 + 1) W.heap.size (W.heap.size + 1) (List.replicate nb 0)
    (((W.drew.alloc (.map #[] 0)).alloc (.cells (madeCells #[.int .i64 0] nb) 3)).alloc (.cells #[.int .i64 ra, .int .i64 rb, .int .i64 (nb : Int), .bool rd, .map (some W.heap.size), .slice (some ⟨W.heap.size + 1, 0, none⟩) nb nb, .int .i64 0, .int .i64 0] 83)) := by
  have e0 : W.drew.heap.size = W.heap.size := rfl
  refine Made.mk_ (map_alloc (map_alloc (map_new rfl) _) _) ((Blk.new_ _ _ _ (by simp [e0]) (toList_madeCells_one _ _)).alloc _) (ty_alloc (ty_new (by simp [e0])) _) (Blk.new_ _ _ _ (by simp [e0]) rfl) (ty_new (by simp [e0])) (by omega) (Nat.le_refl _) (by omega) (below_alloc (below_alloc (below_alloc (below_drew (Below.refl _ _)) _) _) _)
theorem made2 (W : World) (ra rb : Int) (nb : Nat) (rd : Bool) : Made W ⟨ra, rb, nb, rd⟩ (W.heap.size + 1 + 1) (W.heap.size + 1) W.heap.size (List.replicate nb 0)
    (((W.drew.alloc (.cells (madeCells #[.int .i64 0] nb) 3)).alloc (.map #[] 0)).alloc (.cells #[.int .i64 ra, .int .i64 rb, .int .i64 (nb : Int), .bool rd, .map (some (W.heap.size + 1)), .slice (some ⟨W.heap.size, 0, none⟩) nb nb, .int .i64 0, .int .i64 0] 83)) := by
  have e0 : W.drew.heap.size = W.heap.size := rfl
  refine Made.mk_ (map_alloc (map_new (by simp [e0])) _) (((Blk.new_ _ _ _ (by simp [e0]) (toList_madeCells_one _ _)).alloc _).alloc _) (ty_alloc (ty_alloc (ty_new (by simp [e0])) _) _) (Blk.new_ _ _ _ (by simp [e0]) rfl) (ty_new (by simp [e0])) (by omega) (by omega) (Nat.le_refl _) (below_alloc (below_alloc (below_alloc (below_drew (Below.refl _ _)) _) _) _)
set_option maxRecDepth 100000 in
set_option maxHeartbeats 1000000 in
theorem new_good (r : Room) (w : World) (h : RoomOk r) : Calls Try.prog 10 #[.agg #[.int .i64 r.cells, .int .i64 r.bytes, .int .i64 r.buckets, .bool r.fresh]] w (NewTold w r) := by
  have HH := Aside0.mk h
  obtain ⟨ra, rb, rc, rd⟩ := r
  obtain ⟨h1, h2, h3, h4, h5, h6⟩ := h
  dsimp only at *
  obtain ⟨nb, hnb⟩ : ∃ n : Nat, rc = (n : Int) := ⟨_, (Int.toNat_of_nonneg (by omega)).symm⟩
  subst hnb
  have hmm : ∀ W : World, (Instr.makeMap 81 none).run Try.prog W = .ok (.map (some W.heap.size)) (W.alloc (.map #[] 0)) := fun W => run_makeMap _ W
  have hms : ∀ W : World, (Instr.makeSlice 64 (.int .i64 (nb : Int)) (.int .i64 (nb : Int))).run Try.prog W = .ok (.slice (some ⟨W.heap.size, 0, none⟩) nb nb) (W.alloc (.cells (madeCells #[.int .i64 0] nb) 3)) :=
    fun W => run_make_row' 64 3 (.int .i64 0) 8 Try.underlying64 infoI rfl .i64 .i64 nb (by omega) (by omega) W
  go_enter Try.func10, Try.ntmps10
  go_upto_region 3 with (fail)
  obtain ⟨W0, hW0⟩ : ∃ W0 : World, W0 = w.alloc (.cells #[.int .i64 ra, .int .i64 rb, .int .i64 (nb : Int), .bool rd] 23) := ⟨_, rfl⟩
  rw [← hW0]
  have HX0 : Aside0 (Blk W0 w.heap.size [.int .i64 ra, .int .i64 rb, .int .i64 (nb : Int), .bool rd] ∧ Below w.heap.size w W0) := ⟨by rw [hW0]; exact ⟨Blk.new_ _ _ _ rfl rfl, below_alloc (Below.refl _ _) _⟩⟩
  clear hW0
  go_cut [4] (fun v4 wx => ∃ p mb tb, v4 = .pointer (some ⟨p, 0, none⟩) ∧ Aside0 (Made W0 ⟨ra, rb, (nb : Int), rd⟩ p mb tb (List.replicate nb 0) wx))
  case first =>
    have x0 := HX0.out.1.cell 0 rfl
    have x1 := HX0.out.1.cell 1 rfl
    have x2 := HX0.out.1.cell 2 rfl
    have x3 := HX0.out.1.cell 3 rfl
    have r0 : ∀ w', Below W0.heap.size W0 w' → w'.cell? ⟨w.heap.size, 0, none⟩ = some (.int .i64 ra) := fun w' h => pw_cell_below h x0
    have r1 : ∀ w', Below W0.heap.size W0 w' → w'.cell? ⟨w.heap.size, 1, none⟩ = some (.int .i64 rb) := fun w' h => pw_cell_below h x1
    have r2 : ∀ w', Below W0.heap.size W0 w' → w'.cell? ⟨w.heap.size, 2, none⟩ = some (.int .i64 (nb : Int)) := fun w' h => pw_cell_below h x2
    have r3 : ∀ w', Below W0.heap.size W0 w' → w'.cell? ⟨w.heap.size, 3, none⟩ = some (.bool rd) := fun w' h => pw_cell_below h x3
    refine wp_region_noPanic ?_
    refine wp_region_held_drew (S := Below W0.heap.size W0) (by kernel_rfl) (below_drew (Below.refl _ _)) (fun hHeld => ?_)
    (refine takeH 0 34 (v := ?_) rfl rfl (by kernel_rfl) (by kernel_rfl) (by kernel_rfl) (fun _ _ _ h => h) hHeld rfl ?_ ?_; rotate_left; (focus (intro w' hSw; go_simp; try with_reducible rfl)))
    (try simp only [Act.put, List.setIfInBounds_toArray, List.set_cons_zero, List.set_cons_succ])
    (refine takeH 2 36 (v := ?_) rfl rfl (by kernel_rfl) (by kernel_rfl) (by kernel_rfl) (fun _ _ _ h => h) hHeld rfl ?_ ?_; rotate_left; (focus (intro w' hSw; go_simp; try with_reducible rfl)))
    (try simp only [Act.put, List.setIfInBounds_toArray, List.set_cons_zero, List.set_cons_succ])
    (refine takeH 3 37 (v := ?_) rfl rfl (by kernel_rfl) (by kernel_rfl) (by kernel_rfl) (fun _ _ _ h => h) hHeld rfl ?_ ?_; rotate_left; (focus (intro w' hSw; go_simp; try with_reducible rfl)))
    (try simp only [Act.put, List.setIfInBounds_toArray, List.set_cons_zero, List.set_cons_succ])
    refine wpAnyH_ready (rs := [1, 4]) (by kernel_rfl) (by simp) ?_
    refine AllReadyH.cons rfl (fun K hK => ?_) (AllReadyH.cons rfl (fun K hK => ?_) AllReadyH.nil)
    · go_simp
      refine hK.out _ _ (below_alloc (below_drew (Below.refl _ _)) _) (fun hHeld => ?_)
      clear hK K
      (try simp only [Act.put, List.setIfInBounds_toArray, List.set_cons_zero, List.set_cons_succ])
      refine wpAnyH_ready (rs := [4]) (by kernel_rfl) (by simp) ?_
      refine AllReadyH.cons rfl (fun K hK => ?_) AllReadyH.nil
      go_simp
      refine hK.out _ _ (below_alloc (below_alloc (below_drew (Below.refl _ _)) _) _) (fun hHeld => ?_)
      clear hK K
      (try simp only [Act.put, List.setIfInBounds_toArray, List.set_cons_zero, List.set_cons_succ])
      (refine takeH 5 39 (v := ?_) rfl rfl (by kernel_rfl) (by kernel_rfl) (by kernel_rfl) (fun _ _ _ h => h) hHeld rfl ?_ ?_; rotate_left; (focus (intro w' hSw; go_simp; try with_reducible rfl)))
      (try simp only [Act.put, List.setIfInBounds_toArray, List.set_cons_zero, List.set_cons_succ])
      refine wpAnyH_ready (rs := [6]) (by kernel_rfl) (by simp) ?_
      refine AllReadyH.cons rfl (fun K hK => ?_) AllReadyH.nil
      go_simp
      refine hK.out _ _ (below_alloc (below_alloc (below_alloc (below_drew (Below.refl _ _)) _) _) _) (fun hHeld => ?_)
      clear hK K
      (try simp only [Act.put, List.setIfInBounds_toArray, List.set_cons_zero, List.set_cons_succ])
      (refine takeH 7 4 (v := ?_) rfl rfl (by kernel_rfl) (by kernel_rfl) (by kernel_rfl) (fun _ _ _ h => h) hHeld rfl ?_ ?_; rotate_left; (focus (intro w' hSw; go_simp; try with_reducible rfl)))
      (try simp only [Act.put, List.setIfInBounds_toArray, List.set_cons_zero, List.set_cons_succ])
      refine wpAnyH_done (by kernel_rfl) ?_ _
      refine NoPanic.normal ?_
      go_wp2
      go_meet
      exact ⟨_, _, _, rfl, ⟨made1 W0 ra rb nb rd⟩⟩
    · go_simp
      refine hK.out _ _ (below_alloc (below_drew (Below.refl _ _)) _) (fun hHeld => ?_)
      clear hK K
      (try simp only [Act.put, List.setIfInBounds_toArray, List.set_cons_zero, List.set_cons_succ])
      refine wpAnyH_ready (rs := [1]) (by kernel_rfl) (by simp) ?_
      refine AllReadyH.cons rfl (fun K hK => ?_) AllReadyH.nil
      go_simp
      refine hK.out _ _ (below_alloc (below_alloc (below_drew (Below.refl _ _)) _) _) (fun hHeld => ?_)
      clear hK K
      (try simp only [Act.put, List.setIfInBounds_toArray, List.set_cons_zero, List.set_cons_succ])
      (refine takeH 5 39 (v := ?_) rfl rfl (by kernel_rfl) (by kernel_rfl) (by kernel_rfl) (fun _ _ _ h => h) hHeld rfl ?_ ?_; rotate_left; (focus (intro w' hSw; go_simp; try with_reducible rfl)))
      (try simp only [Act.put, List.setIfInBounds_toArray, List.set_cons_zero, List.set_cons_succ])
      refine wpAnyH_ready (rs := [6]) (by kernel_rfl) (by simp) ?_
      refine AllReadyH.cons rfl (fun K hK => ?_) AllReadyH.nil
      go_simp
      refine hK.out _ _ (below_alloc (below_alloc (below_alloc (below_drew (Below.refl _ _)) _) _) _) (fun hHeld => ?_)
      clear hK K
      (try simp only [Act.put, List.setIfInBounds_toArray, List.set_cons_zero, List.set_cons_succ])
      (refine takeH 7 4 (v := ?_) rfl rfl (by kernel_rfl) (by kernel_rfl) (by kernel_rfl) (fun _ _ _ h => h) hHeld rfl ?_ ?_; rotate_left; (focus (intro w' hSw; go_simp; try with_reducible rfl)))
      (try simp only [Act.put, List.setIfInBounds_toArray, List.set_cons_zero, List.set_cons_succ])
      refine wpAnyH_done (by kernel_rfl) ?_ _
      refine NoPanic.normal ?_
      go_wp2
      go_meet
      exact ⟨_, _, _, rfl, ⟨made2 W0 ra rb nb rd⟩⟩
  case rest =>
    obtain ⟨p, mb, tb, rfl, HM⟩ := hcut
    obtain ⟨w4, rfl⟩ : ∃ w4, w4 = wc := ⟨_, rfl⟩
    have hb4 := HM.out.2.2.2.2
    have y3 := pw_cell_below hb4 (HX0.out.1.cell 3 rfl)
    have hpl := HM.out.1.lt.1
    obtain ⟨cap, hcap, hB⟩ := HM.out.1.blk
    have y5 := hB.cell 5 rfl
    simp only [List.length_replicate] at y5
    clear hb4 hB
    have FIN : Aside0 (∀ w', TbR w' p mb tb (newT ⟨ra, rb, (nb : Int), rd⟩) → Below w4.heap.size w4 w' ∨ Only [tb] w4 w' → NewTold w ⟨ra, rb, (nb : Int), rd⟩ (.returned (.tuple #[.pointer (some ⟨p, 0, none⟩), .int .i64 0])) w') := ⟨fun w' hT hb => by
      unfold NewTold
      rw [if_pos HH.out]
      obtain ⟨_, g1, g2, g3, g4⟩ := HM.out
      have g0 := HX0.out.2.size
      have hw4 : Below w.heap.size w w4 := Below.then_ HX0.out.2 g4 (Nat.le_refl _)
      refine ⟨p, mb, tb, rfl, hT, by omega, by omega, by omega, ?_⟩
      rcases hb with hb | hb
      · exact Below.then_ hw4 hb (Nat.le_refl _)
      · exact ((Only.of_below [tb] hw4).trans hb).below (by simp; omega) (Nat.le_refl _)⟩
    cases rd with
    | true =>
      go_wp2
      go_ret2
      exact FIN.out _ HM.out.1 (.inl (Below.refl _ _))
    | false =>
      go_wp2
      go_loopg [5, 49] nb (fun gk _ v49 wr => ∃ k : Nat, v49 = .int .i64 (k : Int) ∧ k ≤ nb ∧ Aside0 (gk + k = nb) ∧ Aside0 (Blk wr tb (oneK nb k) ∧ Ty wr 3 tb) ∧ Aside0 (Only [tb] w4 wr))
      case atStart => exact ⟨0, rfl, Nat.zero_le _, ⟨rfl⟩, ⟨by have := HM.out.1.tok; simpa [oneK] using this, HM.out.1.tty⟩, ⟨Only.refl _ _⟩⟩
      case round =>
        obtain ⟨k, rfl, hkl, HGK, HBK, HOW⟩ := hrel
        have r5 := (HOW.out.cell (p := ⟨p, 5, none⟩) hpl (by simp; exact HM.out.1.ne.2.1)).trans y5
        by_cases hlt : k < nb
        · have hc := HBK.out.1.cell k (oneK_at hlt)
          have hf := HBK.out.1.frozen k (oneK_at hlt)
          go_wp2
          go_roundg (nb - (k + 1))
          case measure => have := HGK.out; omega
          case rel => exact ⟨k + 1, by go_num, by omega, ⟨by omega⟩, ⟨by rw [← oneK_set hlt]; exact HBK.out.1.set k (.int .i64 1), HBK.out.2.set _ _⟩, ⟨HOW.out.set (p := ⟨tb, k, none⟩) _ (.inl (by simp))⟩⟩
        · obtain rfl : k = nb := by omega
          go_wp2
          go_ret2
          refine FIN.out _ ?_ (.inr HOW.out)
          obtain ⟨n1, n2, n3⟩ := HM.out.1.ne
          obtain ⟨cap', hcap', hB'⟩ := HM.out.1.blk
          refine ⟨⟨cap', by simpa [newT] using hcap', ?_⟩, HM.out.1.pty.only HOW.out (by simp; exact n2), ?_, HBK.out.2, HM.out.1.map.only HOW.out (by simp; exact n3) (by simp; exact HM.out.1.tty.ne (by decide)), List.Pairwise.nil⟩
          · have hB2 := hB'.only HOW.out (by simp; exact n2)
            simpa [newT] using hB2
          · have := HBK.out.1
            simpa [newT, oneK] using this
theorem new_calls (r : Room) (w : World) : Calls Try.prog 10 #[.agg #[.int .i64 r.cells, .int .i64 r.bytes, .int .i64 r.buckets, .bool r.fresh]] w (NewTold w r) := by
  by_cases h : RoomOk r
  · exact new_good r w h
  · exact new_bad r w h
end Tab
end Go.Proofs.Ytgfjkpnaabiecaa
set_option linter.unusedVariables false
set_option linter.unusedSimpArgs false
namespace Go.Proofs.Ytgfjkpnaabiecaa
open Go.RowKit Go.Proofs.YtgfjkpnaabiecaaW.PrintWords
open Go.Maps (Keyed)
open Go.ChangeMaps (setBlock heap_setBlock_same heap_setBlock_other)
open Go.MapKept
theorem one_by {α β : Type} {f : α → β} {l : List α} (h : l.Pairwise (fun x y => f x ≠ f y)) {x y : α} (hx : x ∈ l) (hy : y ∈ l) (e : f x = f y) : x = y := by
  induction l with
  | nil => cases hx
  | cons a r ih =>
    obtain ⟨h1, h2⟩ := List.pairwise_cons.1 h
    rcases List.mem_cons.1 hx with rfl | hx' <;> rcases List.mem_cons.1 hy with rfl | hy'
    · rfl
    · exact absurd e (h1 _ hy')
    · exact absurd e.symm (h1 _ hx')
    · exact ih h2 hx' hy'
/-- m[key] = val, of a key that has come. -/
theorem Rng.put {w : World} {k : TypeId} {b r : Nat} {D L : List (Value × Value)} (h : Rng w k b r D L) (K : Keyed Try.prog k) {t e : TypeId} (ht : Try.prog.underlying t = some (.map k e)) {key v0 : Value} (val : Value) (hkey : IsKey k key) {R : List (Value × Value)} (hR : D.Perm ((key, v0) :: R)) :
    ∃ w', (Instr.mapUpdate t (.map (some b)) key val).run Try.prog w = .ok () w' ∧ Rng w' k b r ((key, val) :: R) L ∧ w.grownBy w' (some b) := by
  have hne := h.ne
  obtain ⟨es, cl, since, seen, c0, hb, hs, hk, hr, hold, hsc, hsk, hD, hL⟩ := h
  have hkey' := hkey
  obtain ⟨l, hl⟩ := hkey
  have hmD : (key, v0) ∈ kvs (es.toList.filter fun e => seen.contains e.born) := (hD.trans hR).mem_iff.2 List.mem_cons_self
  obtain ⟨x, hx, hxe⟩ := List.mem_map.1 hmD
  obtain ⟨hx1, hx2⟩ := List.mem_filter.1 hx
  simp only [Prod.mk.injEq] at hxe
  rcases K.find w hl es.toList hk with ⟨h1, h2⟩ | ⟨j, e0, h1, h2, h3⟩
  · exact absurd hxe.1 (h2 x hx1)
  · obtain rfl : x = e0 := one_by (f := MapEntry.key) ((stamped_iff es cl).1 hs).2.2 hx1 (List.mem_of_getElem? h2) (hxe.1.trans h3.symm)
    have hj : es[j]? = some x := by simpa using h2
    have hlist := modify_list h2 (fun e' => { e' with key := key, val := val })
    obtain ⟨hjl, hje⟩ := List.getElem?_eq_some_iff.1 h2
    obtain ⟨s, t', hst, hsl⟩ : ∃ s t, es.toList = s ++ x :: t ∧ s.length = j := ⟨es.toList.take j, es.toList.drop (j + 1), by rw [← hje, ← List.drop_eq_getElem_cons hjl, List.take_append_drop], by rw [List.length_take]; omega⟩
    have hset : (es.modify j (fun e' => { e' with key := key, val := val })).toList = s ++ { x with key := key, val := val } :: t' := by
      rw [hlist, hst, ← hsl]
      simp
    refine ⟨setBlock w b (.map (es.modify j (fun e' => { e' with key := key, val := val })) cl), ?_, ⟨_, cl, since, seen, c0, heap_setBlock_same hb _, stamped_modify hs _ _ (fun _ _ => rfl) (fun e' _ he' => by rw [hj] at he'; cases he'; exact h3.symm), ?_, (heap_setBlock_other hb _ hne).trans hr, ?_, hsc, hsk, ?_, ?_⟩, grown_setBlock hb _⟩
    · simp [Instr.mapUpdate, run_underlying ht, MapKept.run_getObj_map hb, K.check w false hl, h1, hj, h3, K.stays w hl, MapKept.run_setObj_map _ hb, Result.andThen, setBlock]
    · intro y hy
      rw [hlist] at hy
      rcases List.mem_or_eq_of_mem_set hy with hy | rfl
      · exact hk y hy
      · exact hkey'
    · intro y hy
      rw [hlist] at hy
      rcases List.mem_or_eq_of_mem_set hy with hy | rfl
      · exact hold y hy
      · exact hold x hx1
    · rw [hset]
      have h0 := hD.trans hR
      rw [hst] at h0
      simp only [kvs, List.filter_append, List.filter_cons, hx2, if_true, List.map_append, List.map_cons] at h0 ⊢
      have h4 := List.perm_middle.symm.trans h0
      rw [show (x.key, x.val) = (key, v0) from by rw [hxe.1, hxe.2]] at h4
      exact List.perm_middle.trans (h4.cons_inv.cons _)
    · rw [hset]
      rw [hst] at hL
      simp only [kvs, List.filter_append, List.filter_cons, hx2, Bool.not_true, Bool.false_eq_true, if_false, List.map_append, List.map_cons] at hL ⊢
      exact hL
namespace Tab
def off (c : Cell) : Cell := { c with whole := false }
def forgetT (T : Tb) : Tb := { T with l := T.l.map off, tok := T.tok.map (· + 1) }
def setW (v : Value) : Value := match v with
  | .agg cs => .agg (cs.setIfInBounds 6 (.bool false))
  | v => v
def offV (x : Value × Value) : Value × Value := (x.1, setW x.2)
theorem offV_ccs (c : Cell) (A : Option Addr) (cp : Nat) : offV (.string c.e.key, .agg (ccs c A cp).toArray) = (.string (off c).e.key, .agg (ccs (off c) A cp).toArray) := rfl
theorem bk_off {w : World} {c : Cell} {A : Option Addr} {cp : Nat} (h : BK Cell.k w c (ccs c A cp)) : BK Cell.k w (off c) (ccs (off c) A cp) := by
  refine Foot.imp h (fun W' hK => ?_)
  obtain ⟨A5, c5, he, s0, r1, r2, r3, l5, g5, r8⟩ := Cell.open_ hK
  simp only [ccs, List.cons.injEq, Value.slice.injEq, true_and, and_true] at he
  obtain ⟨rfl, rfl⟩ := he
  exact Cell.mk_ W' (off c) s0 r1 r2 r3 l5 g5 r8
theorem srt_off {l : List Cell} (h : Srt l) : Srt (l.map off) := by
  unfold Srt at h ⊢
  rw [List.pairwise_map]
  exact h
theorem szs_off (l : List Cell) : szs (l.map off) = szs l := by
  unfold szs
  rw [List.map_map]
  rfl
/-- The map once all has been put. -/
theorem MapT.off {w : World} {b : Nat} {l l' : List Cell} {g : Cell → Value × Value} (hs : Srt l) (hp : l'.Perm l) (h : MapL w 9 b (l'.map fun c => offV (g c))) (hc : ∀ c ∈ l, CE w c (g c)) : MapT w b (l.map Tab.off) := by
  refine ⟨fun x => ((find l x.e.key).map fun c => offV (g c)).getD (x.e.key |> fun k => (.string k, .string k)), ?_, ?_⟩
  · rw [List.map_map]
    refine (h.perm (hp.map _)).perm ?_
    rw [List.map_congr_left (f := fun c => offV (g c)) (g := ((fun x : Cell => ((find l x.e.key).map fun c => offV (g c)).getD (.string x.e.key, .string x.e.key)) ∘ Tab.off))]
    intro c hcl
    show _ = ((find l c.e.key).map fun c => offV (g c)).getD _
    rw [find_of hs hcl]
    rfl
  · intro x hx
    obtain ⟨c, hcl, rfl⟩ := List.mem_map.1 hx
    show CE w (Tab.off c) (((find l c.e.key).map fun c => offV (g c)).getD _)
    rw [find_of hs hcl]
    obtain ⟨h1, cs, h2, h3⟩ := hc c hcl
    obtain ⟨A, cp, rfl, h4⟩ := ccs_of h3
    have hg : g c = (.string c.e.key, .agg (ccs c A cp).toArray) := by rw [← h1, ← h2]
    show CE w (Tab.off c) (offV (g c))
    rw [hg, offV_ccs]
    exact ⟨rfl, _, rfl, bk_off h4⟩
def tokK (tok : List Int) (k : Nat) : List Value := ((tok.take k).map (· + 1) ++ tok.drop k).map (.int .i64)
theorem tokK_at {tok : List Int} {k : Nat} (h : k < tok.length) : (tokK tok k)[k]? = some (.int .i64 tok[k]) := by
  unfold tokK
  rw [List.getElem?_map, List.getElem?_append_right (by simp; omega)]
  simp only [List.length_map, List.length_take, Nat.min_eq_left (Nat.le_of_lt h), Nat.sub_self, List.getElem?_drop, Nat.add_zero, List.getElem?_eq_getElem h, Option.map_some]
theorem tokK_set {tok : List Int} {k : Nat} (h : k < tok.length) : (tokK tok k).set k (.int .i64 (tok[k] + 1)) = tokK tok (k + 1) := by
  unfold tokK
  rw [← List.map_set, List.set_append_right _ _ (by simp; omega)]
  simp only [List.length_map, List.length_take, Nat.min_eq_left (Nat.le_of_lt h), Nat.sub_self]
  rw [List.drop_eq_getElem_cons h, List.set_cons_zero, List.take_add_one, List.getElem?_eq_getElem h]
  simp only [Option.toList, List.map_append, List.map_cons, List.map_nil, List.append_assoc, List.cons_append, List.nil_append]
theorem tokK_zero (tok : List Int) : tokK tok 0 = tok.map (.int .i64) := by simp [tokK]
theorem tokK_all (tok : List Int) : tokK tok tok.length = (tok.map (· + 1)).map (.int .i64) := by simp [tokK]
set_option maxRecDepth 100000 in
set_option maxHeartbeats 1000000 in
theorem forget_calls (p mb tb : Nat) (T : Tb) (n : Int) (w : World) (h : TbR w p mb tb T) (hN : Num T n) (hn : n ≤ 2000000000000000000) :
    Calls Try.prog 19 #[.pointer (some ⟨p, 0, none⟩)] w (TabTold w p mb tb (forgetT T) (.tuple #[])) := by
  have HT := Aside0.mk h
  have HN := Aside0.mk hN
  obtain ⟨cap, hcap, hB⟩ := h.blk
  have HBL := Aside0.mk hB
  obtain ⟨n1, n2, n3⟩ := h.ne
  have HNE := Aside0.mk (And.intro n1 (And.intro n2 n3))
  have hml := h.lt.2.1
  have hpl := h.lt.1
  have p4 := hB.cell 4 rfl
  have htl : T.tok.length ≤ 65536 := by have h1 := hN.bk.2; have h2 := hN.tl; omega
  obtain ⟨g, hmg, hce⟩ := h.map
  have HCE := Aside0.mk hce
  obtain ⟨wi, hrun, hrg, hbi, hsi⟩ := Rng.begin_ (t := 81) (e := 47) hmg Try.underlying81
  have HRG := Aside0.mk (And.intro hrg (And.intro hbi hsi))
  clear hB h hN hmg hce hrg hbi hsi n1 n2 n3
  go_enter Try.func19, Try.ntmps19
  go_wp2
  clear hrun
  go_loopg [2, 3] T.l.length (fun gk _ _ wx => ∃ (Dc Lc : List Cell), Aside0 (Rng wx 9 mb w.heap.size (Dc.map fun c => offV (g c)) (Lc.map g)) ∧ Aside0 ((Dc ++ Lc).Perm T.l) ∧ Aside0 (gk = Lc.length) ∧ Aside0 (Only [mb] w wx))
  case atStart => exact ⟨[], T.l, ⟨HRG.out.1⟩, ⟨List.Perm.refl _⟩, ⟨rfl⟩, ⟨Only.of_below _ HRG.out.2.1⟩⟩
  case round =>
    obtain ⟨Dc, Lc, HR, HP, HGL, HO⟩ := hrel
    go_wp2_with (first | (at_next; refine wpList_next_rng rfl _ rfl rfl HR.out ?_ ?_))
    · intro h0
      have hL : Lc = [] := by simpa using h0
      subst hL
      clear h0
      have hpd : Dc.Perm T.l := by have := HP.out; rwa [List.append_nil] at this
      have hrm : MapL wr 9 mb (Dc.map fun c => offV (g c)) := by have := HR.out.map; rwa [List.map_nil, List.append_nil] at this
      have hmt : MapT wr mb (T.l.map off) := MapT.off (l' := Dc) (g := g) HT.out.srt hpd hrm (fun c hc => (HCE.out c hc).only HO.out (by simp; exact HT.out.map.noTy _))
      have HM8 := Aside0.mk hmt
      have hb8 := HBL.out.only HO.out (by simp; exact HNE.out.1)
      have HT8 := Aside0.mk (And.intro hb8 (And.intro (HT.out.tok.only HO.out (by simp; exact HNE.out.2.2.symm)) (And.intro (HT.out.tty.only HO.out (by simp; exact HNE.out.2.2.symm)) (HT.out.pty.only HO.out (by simp; exact HNE.out.1)))))
      have q5 := hb8.cell 5 rfl
      clear hmt hb8 p4 hpd hrm
      obtain ⟨w8, rfl⟩ : ∃ w8, w8 = wr := ⟨_, rfl⟩
      have hpl8 : p < w8.heap.size := HT8.out.1.lt
      go_wp2
      go_loopg [4, 29] T.tok.length (fun gk _ v29 wx => ∃ k : Nat, v29 = .int .i64 (k : Int) ∧ k ≤ T.tok.length ∧ Aside0 (gk + k = T.tok.length) ∧ Aside0 (Blk wx tb (tokK T.tok k) ∧ Ty wx 3 tb) ∧ Aside0 (Only [tb] w8 wx))
      case atStart => exact ⟨0, rfl, Nat.zero_le _, ⟨rfl⟩, ⟨by rw [tokK_zero]; exact HT8.out.2.1, HT8.out.2.2.1⟩, ⟨Only.refl _ _⟩⟩
      case round =>
        obtain ⟨k, rfl, hkl, HGK, HBK, HOW⟩ := hrel
        have r5 := (HOW.out.cell (p := ⟨p, 5, none⟩) hpl8 (by simp; exact HNE.out.2.1)).trans q5
        by_cases hlt : k < T.tok.length
        · obtain ⟨x, hx⟩ : ∃ x, x = T.tok[k] := ⟨_, rfl⟩
          have hc := HBK.out.1.cell k (tokK_at hlt)
          have hf := HBK.out.1.frozen k (tokK_at hlt)
          have hx0 := HN.out.tk T.tok[k] (List.getElem_mem hlt)
          rw [← hx] at hc hx0
          have HX := Aside0.mk hx
          have s1 : IntKind.i64.wrap (x + 1) = x + 1 := IntWalk.i64_in _ (by have := HN.out.pos; omega)
          clear hx hx0
          go_wp2
          go_roundg (T.tok.length - (k + 1))
          case measure => have := HGK.out; omega
          case rel =>
            refine ⟨k + 1, by go_num, by omega, ⟨by omega⟩, ⟨?_, HBK.out.2.set _ _⟩, ⟨HOW.out.set (p := ⟨tb, k, none⟩) _ (.inl (by simp))⟩⟩
            have h1 := HBK.out.1.set k (.int .i64 (x + 1))
            rw [HX.out, tokK_set hlt] at h1
            rw [HX.out]
            exact h1
        · obtain rfl : k = T.tok.length := by omega
          go_wp2
          refine bodyPost_ret (v := .tuple #[]) (by simp [results, Try.results19, go_sem]; try rfl) rfl ?_
          have hb9 := HBK.out.1
          rw [tokK_all] at hb9
          refine ⟨rfl, ⟨⟨cap, by show (T.tok.map (· + 1)).length ≤ cap; rw [List.length_map]; exact hcap, ?_⟩, HT8.out.2.2.2.only HOW.out (by simp; exact HNE.out.2.1), hb9, ?_, ?_, srt_off HT.out.srt⟩, (HO.out.mono (by simp)).trans (HOW.out.mono (by simp))⟩
          · show Blk wr p [_, _, _, _, _, .slice (some ⟨tb, 0, none⟩) (T.tok.map (· + 1)).length cap, _, .int .i64 ((szs (T.l.map off) : Nat) : Int)]
            rw [List.length_map, szs_off]
            exact HT8.out.1.only HOW.out (by simp; exact HNE.out.2.1)
          · exact HBK.out.2
          · exact HM8.out.only HOW.out (by simp; exact HNE.out.2.2) (by simp; exact HT8.out.2.2.1.ne (by decide))
    · intro key v L' w5 hp hr5 ho5 hs5 hen
      obtain ⟨c, l', hp1, hkv, hp2⟩ := map_perm_cons hp
      have hc : c ∈ T.l := HP.out.mem_iff.1 (List.mem_append_right _ (hp1.mem_iff.2 List.mem_cons_self))
      obtain ⟨x1, cs, x2, x3⟩ := HCE.out c hc
      obtain ⟨Ac, ccp, rfl, hbk⟩ := ccs_of x3
      have hgc : g c = (.string c.e.key, .agg (ccs c Ac ccp).toArray) := by rw [← x1, ← x2]
      have hkv2 := hkv.trans hgc
      simp only [Prod.mk.injEq] at hkv2
      obtain ⟨rfl, rfl⟩ := hkv2
      have ho5' : Only [mb] w w5 := HO.out.then_ ho5 (fun i hi => by simp at hi; subst hi; exact .inr (Nat.le_refl _))
      have HR5 := Aside0.mk hr5
      have HO5 := Aside0.mk ho5'
      have HGC := Aside0.mk (And.intro hgc (And.intro hp1 hp2))
      have hck : c.e.key.size ≤ 140737488351232 := by have := (HN.out.ky c hc).1; omega
      have q4 : w5.cell? ⟨p, 4, none⟩ = some (.map (some mb)) := (ho5'.cell (p := ⟨p, 4, none⟩) hpl (by simp; exact HNE.out.1)).trans p4
      have hpl5 : p < w5.heap.size := Nat.lt_of_lt_of_le hpl ho5'.size
      have hml5 : mb < w5.heap.size := Nat.lt_of_lt_of_le hml ho5'.size
      clear hp hr5 ho5 hs5 hp1 hkv hp2 hc x1 x2 x3 hbk hgc ho5' HR HO p4
      obtain ⟨⟨ck, ⟨t1, t2, t3⟩, ⟨vh, vb⟩⟩, cw, cc, cu⟩ := c
      dsimp only [ccs] at hen hck
      go_upto_region 5 with (fail)
      obtain ⟨W7, hW7⟩ : ∃ W7 : World, W7 = w5.alloc (.cells #[.string ck, .int .i64 t1, .int .i64 t2, .int .i64 t3, .bool vh, .slice Ac vb.length ccp, .bool false, .bool cc, .int .i64 cu] 47) := ⟨_, rfl⟩
      rw [← hW7]
      have HB7 : Aside0 (Below w5.heap.size w5 W7) := ⟨by rw [hW7]; exact below_alloc (Below.refl _ _) _⟩
      have hX7 : Blk W7 w5.heap.size [.string ck, .int .i64 t1, .int .i64 t2, .int .i64 t3, .bool vh, .slice Ac vb.length ccp, .bool false, .bool cc, .int .i64 cu] := by rw [hW7]; exact Blk.new _ _ _
      obtain ⟨⟨x0, x1, x2, x3, x4, x5, x6, x7, x8⟩, fx⟩ := hX7.nine
      have r4 := pw_cell_below HB7.out q4
      have hR7 := (HR5.out.below HB7.out).below (below_drew (Below.refl _ W7))
      have HG1 := HGC.out.1
      dsimp only [ccs] at HG1
      obtain ⟨w6, hput, hR6, hg6⟩ := hR7.put lawK Try.underlying81 (.agg #[.string ck, .int .i64 t1, .int .i64 t2, .int .i64 t3, .bool vh, .slice Ac vb.length ccp, .bool false, .bool cc, .int .i64 cu]) (keyS hck) (R := Dc.map fun c => offV (g c)) (List.Perm.refl _)
      have H6 := Aside0.mk (And.intro hR6 hg6)
      have HG1 := Aside0.mk HG1
      clear hW7 hX7 fx q4 hen hR7 hR6 hg6
      refine Tags.region_tail 6 (by kernel_rfl) (by kernel_rfl) ?_
      simp only [List.take_succ_cons, List.take_zero, List.drop_succ_cons, List.drop_zero]
      still_step
      still_step
      still_step
      still_step
      still_step
      still_step
      refine wpStill_nil ?_
      go_wp2
      go_roundg l'.length
      case measure => have h1 := HGL.out; have h2 := HGC.out.2.1.length_eq; rw [List.length_cons] at h2; omega
      case rel =>
        refine ⟨⟨⟨ck, ⟨t1, t2, t3⟩, ⟨vh, vb⟩⟩, cw, cc, cu⟩ :: Dc, l', ⟨?_⟩, ⟨?_⟩, ⟨rfl⟩, ⟨(HO5.out.on HB7.out).drew.trans (only_grown H6.out.2 (by simp))⟩⟩
        · refine H6.out.1.perm ?_ HGC.out.2.2
          rw [List.map_cons, HG1.out]
          exact List.Perm.refl _
        · exact (List.Perm.trans (by rw [List.cons_append]; exact List.perm_middle.symm) ((HGC.out.2.1.symm).append_left Dc)).trans HP.out
end Tab
end Go.Proofs.Ytgfjkpnaabiecaa
set_option linter.unusedVariables false
set_option linter.unusedSimpArgs false
namespace Go.Proofs.Ytgfjkpnaabiecaa
open Go.RowKit Go.Proofs.YtgfjkpnaabiecaaW.PrintWords
namespace Tab
open Tags
def nth3 (a : Tag) (k : Nat) : Int := if k = 0 then a.seq else if k = 1 then a.who else a.op
def eqTo (a b : Tag) (k : Nat) : Prop := ∀ j, j < k → nth3 a j = nth3 b j
theorem or3_1 {x y z : Int} (h : x ≠ 0) : or3 x y z = x := by unfold or3; rw [if_pos h]
theorem or3_2 {y z : Int} (h : y ≠ 0) : or3 0 y z = y := by unfold or3; rw [if_neg (by simp), if_pos h]
theorem or3_3 (z : Int) : or3 0 0 z = z := by unfold or3; rw [if_neg (by simp), if_neg (by simp)]
theorem cmpT_at {a b : Tag} {k : Nat} (hk : k < 3) (h : eqTo a b k) (hn : cmp3 (nth3 a k) (nth3 b k) ≠ 0) : cmpT a b = cmp3 (nth3 a k) (nth3 b k) := by
  unfold cmpT
  rcases k with _ | _ | _ | k
  · exact or3_1 hn
  · have h0 : a.seq = b.seq := h 0 (by omega)
    rw [h0, cmp3_eq]
    exact or3_2 hn
  · have h0 : a.seq = b.seq := h 0 (by omega)
    have h1 : a.who = b.who := h 1 (by omega)
    rw [h0, cmp3_eq, h1, cmp3_eq]
    exact or3_3 _
  · omega
theorem cmpT_lt {a b : Tag} {k : Nat} (hk : k < 3) (h : eqTo a b k) (hl : nth3 a k < nth3 b k) : cmpT a b = -1 := by
  rw [cmpT_at hk h (by rw [cmp3_lt hl]; decide), cmp3_lt hl]
theorem cmpT_gt {a b : Tag} {k : Nat} (hk : k < 3) (h : eqTo a b k) (hl : nth3 b k < nth3 a k) : cmpT a b = 1 := by
  rw [cmpT_at hk h (by rw [cmp3_gt hl]; decide), cmp3_gt hl]
theorem cmpT_eq {a b : Tag} (h : eqTo a b 3) : cmpT a b = 0 := by
  have h0 : a.seq = b.seq := h 0 (by omega)
  have h1 : a.who = b.who := h 1 (by omega)
  have h2 : a.op = b.op := h 2 (by omega)
  unfold cmpT
  rw [h0, cmp3_eq, h1, cmp3_eq, h2, cmp3_eq]
  exact or3_3 _
set_option maxRecDepth 100000 in
set_option maxHeartbeats 1000000 in
theorem compareR_calls (a b : Tag) (w : World) : Calls Try.prog 14 #[.agg #[.int .i64 a.seq, .int .i64 a.who, .int .i64 a.op], .agg #[.int .i64 b.seq, .int .i64 b.who, .int .i64 b.op]] w fun e w' => e = .returned (.int .i64 (cmpT a b)) ∧ Below w.heap.size w w' := by
  have HA : Aside0 (∀ k, k < 3 → [Value.int .i64 a.seq, .int .i64 a.who, .int .i64 a.op][k]? = some (.int .i64 (nth3 a k))) := ⟨fun k hk => by rcases k with _ | _ | _ | k <;> first | rfl | omega⟩
  have HBB : Aside0 (∀ k, k < 3 → [Value.int .i64 b.seq, .int .i64 b.who, .int .i64 b.op][k]? = some (.int .i64 (nth3 b k))) := ⟨fun k hk => by rcases k with _ | _ | _ | k <;> first | rfl | omega⟩
  go_enter Try.func14, Try.ntmps14
  go_upto_region 3 with (fail)
  obtain ⟨W, hW⟩ : ∃ W : World, W = (((w.alloc (.cells #[.int .i64 a.seq, .int .i64 a.who, .int .i64 a.op] 32)).alloc (.cells #[.int .i64 b.seq, .int .i64 b.who, .int .i64 b.op] 32)).alloc (.cells #[.int .i64 a.seq, .int .i64 a.who, .int .i64 a.op] 3)).alloc (.cells #[.int .i64 b.seq, .int .i64 b.who, .int .i64 b.op] 3) := ⟨_, rfl⟩
  rw [← hW]
  have HX : Aside0 (Blk W (w.heap.size + 1 + 1) [.int .i64 a.seq, .int .i64 a.who, .int .i64 a.op] ∧ Blk W (w.heap.size + 1 + 1 + 1) [.int .i64 b.seq, .int .i64 b.who, .int .i64 b.op] ∧ Below w.heap.size w W) := ⟨by
    rw [hW]
    exact ⟨(Blk.new_ _ _ _ (by simp) rfl).alloc _, Blk.new_ _ _ _ (by simp) rfl, below_alloc (below_alloc (below_alloc (below_alloc (Below.refl _ _) _) _) _) _⟩⟩
  clear hW
  go_wp2
  go_loopg [7] 3 (fun gk v7 wr => ∃ k : Nat, v7 = .int .i64 (k : Int) ∧ k ≤ 3 ∧ Aside0 (gk + k = 3) ∧ Aside0 (eqTo a b k) ∧ Aside0 (Below W.heap.size W wr))
  case atStart => exact ⟨0, rfl, Nat.zero_le _, ⟨rfl⟩, ⟨fun j hj => absurd hj (by omega)⟩, ⟨Below.refl _ _⟩⟩
  case round =>
    obtain ⟨k, rfl, hk, HGK, HE, HB⟩ := hrel
    by_cases hlt : k < 3
    · have HE' := HE.out
      obtain ⟨x, hx⟩ : ∃ x, x = nth3 a k := ⟨_, rfl⟩
      obtain ⟨y, hy⟩ : ∃ y, y = nth3 b k := ⟨_, rfl⟩
      have rca : ∀ w', Below W.heap.size W w' → w'.cell? ⟨w.heap.size + 1 + 1, k, none⟩ = some (.int .i64 x) := fun w' h => pw_cell_below h (by rw [hx]; exact HX.out.1.cell k (HA.out k hlt))
      have rcb : ∀ w', Below W.heap.size W w' → w'.cell? ⟨w.heap.size + 1 + 1 + 1, k, none⟩ = some (.int .i64 y) := fun w' h => pw_cell_below h (by rw [hy]; exact HX.out.2.1.cell k (HBB.out k hlt))
      have HXY := Aside0.mk (And.intro hx hy)
      clear hx hy HE'
      have hb1 := below_drew HB.out
      have hb2 := below_drew hb1
      have k0 : (0 : Int) ≤ (k : Int) := by omega
      have k1 : (k : Int) < 3 := by omega
      have HBD := Aside0.mk (And.intro hb1 hb2)
      clear hb1 hb2
      rcases Int.lt_trichotomy x y with hl | hl | hl
      · have HL : Aside0 (cmpT a b = -1) := ⟨cmpT_lt hlt HE.out (by rw [← HXY.out.1, ← HXY.out.2]; exact hl)⟩
        have d1 : decide (x < y) = true := by simpa using hl
        clear hl
        go_upto_region 6 with (fail)
        refine wp_region_noPanic ?_
        refine wp_region_held_drew (S := Below W.heap.size W) (by kernel_rfl) HBD.out.1 (fun hHeld => ?_)
        (refine takeH 0 26 (v := ?_) rfl rfl (by kernel_rfl) (by kernel_rfl) (by kernel_rfl) (fun _ _ _ h => h) hHeld rfl ?_ ?_; rotate_left; (focus (intro w' hSw; go_simp; try with_reducible rfl)))
        (try simp only [Act.put, List.setIfInBounds_toArray, List.set_cons_zero, List.set_cons_succ])
        (refine takeH 1 27 (v := ?_) rfl rfl (by kernel_rfl) (by kernel_rfl) (by kernel_rfl) (fun _ _ _ h => h) hHeld rfl ?_ ?_; rotate_left; (focus (intro w' hSw; go_simp; try with_reducible rfl)))
        (try simp only [Act.put, List.setIfInBounds_toArray, List.set_cons_zero, List.set_cons_succ])
        (refine takeH 2 28 (v := ?_) rfl rfl (by kernel_rfl) (by kernel_rfl) (by kernel_rfl) (fun _ _ _ h => h) hHeld rfl ?_ ?_; rotate_left; (focus (intro w' hSw; go_simp; try with_reducible rfl)))
        (try simp only [Act.put, List.setIfInBounds_toArray, List.set_cons_zero, List.set_cons_succ])
        (refine takeH 3 29 (v := ?_) rfl rfl (by kernel_rfl) (by kernel_rfl) (by kernel_rfl) (fun _ _ _ h => h) hHeld rfl ?_ ?_; rotate_left; (focus (intro w' hSw; go_simp; try with_reducible rfl)))
        (try simp only [Act.put, List.setIfInBounds_toArray, List.set_cons_zero, List.set_cons_succ])
        (refine takeH 4 30 (v := ?_) rfl rfl (by kernel_rfl) (by kernel_rfl) (by kernel_rfl) (fun _ _ _ h => h) hHeld rfl ?_ ?_; rotate_left; (focus (intro w' hSw; go_simp; try with_reducible rfl)))
        (try simp only [Act.put, List.setIfInBounds_toArray, List.set_cons_zero, List.set_cons_succ])
        (refine takeH 5 31 (v := ?_) rfl rfl (by kernel_rfl) (by kernel_rfl) (by kernel_rfl) (fun _ _ _ h => h) hHeld rfl ?_ ?_; rotate_left; (focus (intro w' hSw; go_simp; try with_reducible rfl)))
        (try simp only [Act.put, List.setIfInBounds_toArray, List.set_cons_zero, List.set_cons_succ])
        (refine takeH 6 32 (v := ?_) rfl rfl (by kernel_rfl) (by kernel_rfl) (by kernel_rfl) (fun _ _ _ h => h) hHeld rfl ?_ ?_; rotate_left; (focus (intro w' hSw; go_simp; try with_reducible rfl)))
        (try simp only [Act.put, List.setIfInBounds_toArray, List.set_cons_zero, List.set_cons_succ])
        (refine takeH 7 33 (v := ?_) rfl rfl (by kernel_rfl) (by kernel_rfl) (by kernel_rfl) (fun _ _ _ h => h) hHeld rfl ?_ ?_; rotate_left; (focus (intro w' hSw; go_simp; try with_reducible rfl)))
        (try simp only [Act.put, List.setIfInBounds_toArray, List.set_cons_zero, List.set_cons_succ])
        (refine takeH 8 34 (v := ?_) rfl rfl (by kernel_rfl) (by kernel_rfl) (by kernel_rfl) (fun _ _ _ h => h) hHeld rfl ?_ ?_; rotate_left; (focus (intro w' hSw; go_simp; try with_reducible rfl)))
        (try simp only [Act.put, List.setIfInBounds_toArray, List.set_cons_zero, List.set_cons_succ])
        refine wpAnyH_done (by kernel_rfl) ?_ _
        refine NoPanic.normal ?_
        go_wp2
        try rw [Exit.noGoto_ret]
        go_ret
        exact ⟨by rw [HL.out]; rfl, Below.then_ HX.out.2.2 HBD.out.1 (Nat.le_refl _)⟩
      · have HL : Aside0 (eqTo a b (k + 1)) := ⟨fun j hj => by
          rcases Nat.lt_succ_iff_lt_or_eq.1 hj with h | rfl
          · exact HE.out j h
          · rw [← HXY.out.1, ← HXY.out.2]; exact hl⟩
        have d1 : decide (x < y) = false := by have : ¬ x < y := by omega
                                               simpa using this
        have d2 : decide (y < x) = false := by have : ¬ y < x := by omega
                                               simpa using this
        clear hl
        go_upto_region 6 with (fail)
        refine wp_region_noPanic ?_
        refine wp_region_held_drew (S := Below W.heap.size W) (by kernel_rfl) HBD.out.1 (fun hHeld => ?_)
        (refine takeH 0 26 (v := ?_) rfl rfl (by kernel_rfl) (by kernel_rfl) (by kernel_rfl) (fun _ _ _ h => h) hHeld rfl ?_ ?_; rotate_left; (focus (intro w' hSw; go_simp; try with_reducible rfl)))
        (try simp only [Act.put, List.setIfInBounds_toArray, List.set_cons_zero, List.set_cons_succ])
        (refine takeH 1 27 (v := ?_) rfl rfl (by kernel_rfl) (by kernel_rfl) (by kernel_rfl) (fun _ _ _ h => h) hHeld rfl ?_ ?_; rotate_left; (focus (intro w' hSw; go_simp; try with_reducible rfl)))
        (try simp only [Act.put, List.setIfInBounds_toArray, List.set_cons_zero, List.set_cons_succ])
        (refine takeH 2 28 (v := ?_) rfl rfl (by kernel_rfl) (by kernel_rfl) (by kernel_rfl) (fun _ _ _ h => h) hHeld rfl ?_ ?_; rotate_left; (focus (intro w' hSw; go_simp; try with_reducible rfl)))
        (try simp only [Act.put, List.setIfInBounds_toArray, List.set_cons_zero, List.set_cons_succ])
        (refine takeH 3 29 (v := ?_) rfl rfl (by kernel_rfl) (by kernel_rfl) (by kernel_rfl) (fun _ _ _ h => h) hHeld rfl ?_ ?_; rotate_left; (focus (intro w' hSw; go_simp; try with_reducible rfl)))
        (try simp only [Act.put, List.setIfInBounds_toArray, List.set_cons_zero, List.set_cons_succ])
        (refine takeH 4 30 (v := ?_) rfl rfl (by kernel_rfl) (by kernel_rfl) (by kernel_rfl) (fun _ _ _ h => h) hHeld rfl ?_ ?_; rotate_left; (focus (intro w' hSw; go_simp; try with_reducible rfl)))
        (try simp only [Act.put, List.setIfInBounds_toArray, List.set_cons_zero, List.set_cons_succ])
        (refine takeH 5 31 (v := ?_) rfl rfl (by kernel_rfl) (by kernel_rfl) (by kernel_rfl) (fun _ _ _ h => h) hHeld rfl ?_ ?_; rotate_left; (focus (intro w' hSw; go_simp; try with_reducible rfl)))
        (try simp only [Act.put, List.setIfInBounds_toArray, List.set_cons_zero, List.set_cons_succ])
        (refine takeH 6 32 (v := ?_) rfl rfl (by kernel_rfl) (by kernel_rfl) (by kernel_rfl) (fun _ _ _ h => h) hHeld rfl ?_ ?_; rotate_left; (focus (intro w' hSw; go_simp; try with_reducible rfl)))
        (try simp only [Act.put, List.setIfInBounds_toArray, List.set_cons_zero, List.set_cons_succ])
        (refine takeH 7 33 (v := ?_) rfl rfl (by kernel_rfl) (by kernel_rfl) (by kernel_rfl) (fun _ _ _ h => h) hHeld rfl ?_ ?_; rotate_left; (focus (intro w' hSw; go_simp; try with_reducible rfl)))
        (try simp only [Act.put, List.setIfInBounds_toArray, List.set_cons_zero, List.set_cons_succ])
        (refine takeH 8 34 (v := ?_) rfl rfl (by kernel_rfl) (by kernel_rfl) (by kernel_rfl) (fun _ _ _ h => h) hHeld rfl ?_ ?_; rotate_left; (focus (intro w' hSw; go_simp; try with_reducible rfl)))
        (try simp only [Act.put, List.setIfInBounds_toArray, List.set_cons_zero, List.set_cons_succ])
        refine wpAnyH_done (by kernel_rfl) ?_ _
        refine NoPanic.normal ?_
        go_upto_region 8 with (fail)
        refine wp_region_noPanic ?_
        refine wp_region_held_drew (S := Below W.heap.size W) (by kernel_rfl) HBD.out.2 (fun hHeld => ?_)
        (refine takeH 0 35 (v := ?_) rfl rfl (by kernel_rfl) (by kernel_rfl) (by kernel_rfl) (fun _ _ _ h => h) hHeld rfl ?_ ?_; rotate_left; (focus (intro w' hSw; go_simp; try with_reducible rfl)))
        (try simp only [Act.put, List.setIfInBounds_toArray, List.set_cons_zero, List.set_cons_succ])
        (refine takeH 1 36 (v := ?_) rfl rfl (by kernel_rfl) (by kernel_rfl) (by kernel_rfl) (fun _ _ _ h => h) hHeld rfl ?_ ?_; rotate_left; (focus (intro w' hSw; go_simp; try with_reducible rfl)))
        (try simp only [Act.put, List.setIfInBounds_toArray, List.set_cons_zero, List.set_cons_succ])
        (refine takeH 2 37 (v := ?_) rfl rfl (by kernel_rfl) (by kernel_rfl) (by kernel_rfl) (fun _ _ _ h => h) hHeld rfl ?_ ?_; rotate_left; (focus (intro w' hSw; go_simp; try with_reducible rfl)))
        (try simp only [Act.put, List.setIfInBounds_toArray, List.set_cons_zero, List.set_cons_succ])
        (refine takeH 3 38 (v := ?_) rfl rfl (by kernel_rfl) (by kernel_rfl) (by kernel_rfl) (fun _ _ _ h => h) hHeld rfl ?_ ?_; rotate_left; (focus (intro w' hSw; go_simp; try with_reducible rfl)))
        (try simp only [Act.put, List.setIfInBounds_toArray, List.set_cons_zero, List.set_cons_succ])
        (refine takeH 4 39 (v := ?_) rfl rfl (by kernel_rfl) (by kernel_rfl) (by kernel_rfl) (fun _ _ _ h => h) hHeld rfl ?_ ?_; rotate_left; (focus (intro w' hSw; go_simp; try with_reducible rfl)))
        (try simp only [Act.put, List.setIfInBounds_toArray, List.set_cons_zero, List.set_cons_succ])
        (refine takeH 5 40 (v := ?_) rfl rfl (by kernel_rfl) (by kernel_rfl) (by kernel_rfl) (fun _ _ _ h => h) hHeld rfl ?_ ?_; rotate_left; (focus (intro w' hSw; go_simp; try with_reducible rfl)))
        (try simp only [Act.put, List.setIfInBounds_toArray, List.set_cons_zero, List.set_cons_succ])
        (refine takeH 6 41 (v := ?_) rfl rfl (by kernel_rfl) (by kernel_rfl) (by kernel_rfl) (fun _ _ _ h => h) hHeld rfl ?_ ?_; rotate_left; (focus (intro w' hSw; go_simp; try with_reducible rfl)))
        (try simp only [Act.put, List.setIfInBounds_toArray, List.set_cons_zero, List.set_cons_succ])
        (refine takeH 7 42 (v := ?_) rfl rfl (by kernel_rfl) (by kernel_rfl) (by kernel_rfl) (fun _ _ _ h => h) hHeld rfl ?_ ?_; rotate_left; (focus (intro w' hSw; go_simp; try with_reducible rfl)))
        (try simp only [Act.put, List.setIfInBounds_toArray, List.set_cons_zero, List.set_cons_succ])
        (refine takeH 8 43 (v := ?_) rfl rfl (by kernel_rfl) (by kernel_rfl) (by kernel_rfl) (fun _ _ _ h => h) hHeld rfl ?_ ?_; rotate_left; (focus (intro w' hSw; go_simp; try with_reducible rfl)))
        (try simp only [Act.put, List.setIfInBounds_toArray, List.set_cons_zero, List.set_cons_succ])
        refine wpAnyH_done (by kernel_rfl) ?_ _
        refine NoPanic.normal ?_
        go_wp2
        go_roundg (3 - (k + 1))
        case measure => have := HGK.out; omega
        case rel => exact ⟨k + 1, by go_num, by omega, ⟨by omega⟩, HL, ⟨HBD.out.2⟩⟩
      · have HL : Aside0 (cmpT a b = 1) := ⟨cmpT_gt hlt HE.out (by rw [← HXY.out.1, ← HXY.out.2]; exact hl)⟩
        have d1 : decide (x < y) = false := by have : ¬ x < y := by omega
                                               simpa using this
        have d2 : decide (y < x) = true := by simpa using hl
        clear hl
        go_upto_region 6 with (fail)
        refine wp_region_noPanic ?_
        refine wp_region_held_drew (S := Below W.heap.size W) (by kernel_rfl) HBD.out.1 (fun hHeld => ?_)
        (refine takeH 0 26 (v := ?_) rfl rfl (by kernel_rfl) (by kernel_rfl) (by kernel_rfl) (fun _ _ _ h => h) hHeld rfl ?_ ?_; rotate_left; (focus (intro w' hSw; go_simp; try with_reducible rfl)))
        (try simp only [Act.put, List.setIfInBounds_toArray, List.set_cons_zero, List.set_cons_succ])
        (refine takeH 1 27 (v := ?_) rfl rfl (by kernel_rfl) (by kernel_rfl) (by kernel_rfl) (fun _ _ _ h => h) hHeld rfl ?_ ?_; rotate_left; (focus (intro w' hSw; go_simp; try with_reducible rfl)))
        (try simp only [Act.put, List.setIfInBounds_toArray, List.set_cons_zero, List.set_cons_succ])
        (refine takeH 2 28 (v := ?_) rfl rfl (by kernel_rfl) (by kernel_rfl) (by kernel_rfl) (fun _ _ _ h => h) hHeld rfl ?_ ?_; rotate_left; (focus (intro w' hSw; go_simp; try with_reducible rfl)))
        (try simp only [Act.put, List.setIfInBounds_toArray, List.set_cons_zero, List.set_cons_succ])
        (refine takeH 3 29 (v := ?_) rfl rfl (by kernel_rfl) (by kernel_rfl) (by kernel_rfl) (fun _ _ _ h => h) hHeld rfl ?_ ?_; rotate_left; (focus (intro w' hSw; go_simp; try with_reducible rfl)))
        (try simp only [Act.put, List.setIfInBounds_toArray, List.set_cons_zero, List.set_cons_succ])
        (refine takeH 4 30 (v := ?_) rfl rfl (by kernel_rfl) (by kernel_rfl) (by kernel_rfl) (fun _ _ _ h => h) hHeld rfl ?_ ?_; rotate_left; (focus (intro w' hSw; go_simp; try with_reducible rfl)))
        (try simp only [Act.put, List.setIfInBounds_toArray, List.set_cons_zero, List.set_cons_succ])
        (refine takeH 5 31 (v := ?_) rfl rfl (by kernel_rfl) (by kernel_rfl) (by kernel_rfl) (fun _ _ _ h => h) hHeld rfl ?_ ?_; rotate_left; (focus (intro w' hSw; go_simp; try with_reducible rfl)))
        (try simp only [Act.put, List.setIfInBounds_toArray, List.set_cons_zero, List.set_cons_succ])
        (refine takeH 6 32 (v := ?_) rfl rfl (by kernel_rfl) (by kernel_rfl) (by kernel_rfl) (fun _ _ _ h => h) hHeld rfl ?_ ?_; rotate_left; (focus (intro w' hSw; go_simp; try with_reducible rfl)))
        (try simp only [Act.put, List.setIfInBounds_toArray, List.set_cons_zero, List.set_cons_succ])
        (refine takeH 7 33 (v := ?_) rfl rfl (by kernel_rfl) (by kernel_rfl) (by kernel_rfl) (fun _ _ _ h => h) hHeld rfl ?_ ?_; rotate_left; (focus (intro w' hSw; go_simp; try with_reducible rfl)))
        (try simp only [Act.put, List.setIfInBounds_toArray, List.set_cons_zero, List.set_cons_succ])
        (refine takeH 8 34 (v := ?_) rfl rfl (by kernel_rfl) (by kernel_rfl) (by kernel_rfl) (fun _ _ _ h => h) hHeld rfl ?_ ?_; rotate_left; (focus (intro w' hSw; go_simp; try with_reducible rfl)))
        (try simp only [Act.put, List.setIfInBounds_toArray, List.set_cons_zero, List.set_cons_succ])
        refine wpAnyH_done (by kernel_rfl) ?_ _
        refine NoPanic.normal ?_
        go_upto_region 8 with (fail)
        refine wp_region_noPanic ?_
        refine wp_region_held_drew (S := Below W.heap.size W) (by kernel_rfl) HBD.out.2 (fun hHeld => ?_)
        (refine takeH 0 35 (v := ?_) rfl rfl (by kernel_rfl) (by kernel_rfl) (by kernel_rfl) (fun _ _ _ h => h) hHeld rfl ?_ ?_; rotate_left; (focus (intro w' hSw; go_simp; try with_reducible rfl)))
        (try simp only [Act.put, List.setIfInBounds_toArray, List.set_cons_zero, List.set_cons_succ])
        (refine takeH 1 36 (v := ?_) rfl rfl (by kernel_rfl) (by kernel_rfl) (by kernel_rfl) (fun _ _ _ h => h) hHeld rfl ?_ ?_; rotate_left; (focus (intro w' hSw; go_simp; try with_reducible rfl)))
        (try simp only [Act.put, List.setIfInBounds_toArray, List.set_cons_zero, List.set_cons_succ])
        (refine takeH 2 37 (v := ?_) rfl rfl (by kernel_rfl) (by kernel_rfl) (by kernel_rfl) (fun _ _ _ h => h) hHeld rfl ?_ ?_; rotate_left; (focus (intro w' hSw; go_simp; try with_reducible rfl)))
        (try simp only [Act.put, List.setIfInBounds_toArray, List.set_cons_zero, List.set_cons_succ])
        (refine takeH 3 38 (v := ?_) rfl rfl (by kernel_rfl) (by kernel_rfl) (by kernel_rfl) (fun _ _ _ h => h) hHeld rfl ?_ ?_; rotate_left; (focus (intro w' hSw; go_simp; try with_reducible rfl)))
        (try simp only [Act.put, List.setIfInBounds_toArray, List.set_cons_zero, List.set_cons_succ])
        (refine takeH 4 39 (v := ?_) rfl rfl (by kernel_rfl) (by kernel_rfl) (by kernel_rfl) (fun _ _ _ h => h) hHeld rfl ?_ ?_; rotate_left; (focus (intro w' hSw; go_simp; try with_reducible rfl)))
        (try simp only [Act.put, List.setIfInBounds_toArray, List.set_cons_zero, List.set_cons_succ])
        (refine takeH 5 40 (v := ?_) rfl rfl (by kernel_rfl) (by kernel_rfl) (by kernel_rfl) (fun _ _ _ h => h) hHeld rfl ?_ ?_; rotate_left; (focus (intro w' hSw; go_simp; try with_reducible rfl)))
        (try simp only [Act.put, List.setIfInBounds_toArray, List.set_cons_zero, List.set_cons_succ])
        (refine takeH 6 41 (v := ?_) rfl rfl (by kernel_rfl) (by kernel_rfl) (by kernel_rfl) (fun _ _ _ h => h) hHeld rfl ?_ ?_; rotate_left; (focus (intro w' hSw; go_simp; try with_reducible rfl)))
        (try simp only [Act.put, List.setIfInBounds_toArray, List.set_cons_zero, List.set_cons_succ])
        (refine takeH 7 42 (v := ?_) rfl rfl (by kernel_rfl) (by kernel_rfl) (by kernel_rfl) (fun _ _ _ h => h) hHeld rfl ?_ ?_; rotate_left; (focus (intro w' hSw; go_simp; try with_reducible rfl)))
        (try simp only [Act.put, List.setIfInBounds_toArray, List.set_cons_zero, List.set_cons_succ])
        (refine takeH 8 43 (v := ?_) rfl rfl (by kernel_rfl) (by kernel_rfl) (by kernel_rfl) (fun _ _ _ h => h) hHeld rfl ?_ ?_; rotate_left; (focus (intro w' hSw; go_simp; try with_reducible rfl)))
        (try simp only [Act.put, List.setIfInBounds_toArray, List.set_cons_zero, List.set_cons_succ])
        refine wpAnyH_done (by kernel_rfl) ?_ _
        refine NoPanic.normal ?_
        go_wp2
        try rw [Exit.noGoto_ret]
        go_ret
        exact ⟨by rw [HL.out]; rfl, Below.then_ HX.out.2.2 HBD.out.2 (Nat.le_refl _)⟩
    · obtain rfl : k = 3 := by omega
      go_wp2
      go_ret
      exact ⟨by rw [cmpT_eq HE.out]; rfl, Below.then_ HX.out.2.2 HB.out (Nat.le_refl _)⟩
end Tab
end Go.Proofs.Ytgfjkpnaabiecaa
