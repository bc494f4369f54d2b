/- Lemmas for the row (words on memory, contracts of the program's functions): TabK, TabL, TabN, TabO, TabP, LayC, CmpA, CmpB, TabTok, TabCopy, TabQ, TabR, TabS, TabU, TabT. -/
import Derived.Shelf.Slices.Clone
import Derived.Shelf.SlMaps.Clone
import Derived.Test.YtgfjkpnaabiecaaProg
import Derived.Deep.QuietTactic
import Derived.BigQuiet
import Derived.Test.YtgfjkpnaabiecaaZC3
set_option linter.unusedVariables false
set_option linter.unusedSimpArgs false
namespace Go.Proofs.Ytgfjkpnaabiecaa
open Go.RowKit Go.Proofs.YtgfjkpnaabiecaaW.PrintWords
namespace Tab
open Tags
def nth3 (a : Tag) (k : Nat) : Int := if k = 0 then a.seq else if k = 1 then a.who else a.op
def eqTo (a b : Tag) (k : Nat) : Prop := ∀ j, j < k → nth3 a j = nth3 b j
theorem or3_1 {x y z : Int} (h : x ≠ 0) : or3 x y z = x := by unfold or3; rw [if_pos h]
theorem or3_2 {y z : Int} (h : y ≠ 0) : or3 0 y z = y := by unfold or3; rw [if_neg (by simp), if_pos h]
theorem or3_3 (z : Int) : or3 0 0 z = z := by unfold or3; rw [if_neg (by simp), if_neg (by simp)]
theorem cmpT_at {a b : Tag} {k : Nat} (hk : k < 3) (h : eqTo a b k) (hn : cmp3 (nth3 a k) (nth3 b k) ≠ 0) : cmpT a b = cmp3 (nth3 a k) (nth3 b k) := by
  unfold cmpT
  rcases k with _ | _ | _ | k
  · exact or3_1 hn
  · have h0 : a.seq = b.seq := h 0 (by omega)
    rw [h0, cmp3_eq]
    exact or3_2 hn
  · have h0 : a.seq = b.seq := h 0 (by omega)
    have h1 : a.who = b.who := h 1 (by omega)
    rw [h0, cmp3_eq, h1, cmp3_eq]
    exact or3_3 _
  · omega
theorem cmpT_lt {a b : Tag} {k : Nat} (hk : k < 3) (h : eqTo a b k) (hl : nth3 a k < nth3 b k) : cmpT a b = -1 := by
  rw [cmpT_at hk h (by rw [cmp3_lt hl]; decide), cmp3_lt hl]
theorem cmpT_gt {a b : Tag} {k : Nat} (hk : k < 3) (h : eqTo a b k) (hl : nth3 b k < nth3 a k) : cmpT a b = 1 := by
  rw [cmpT_at hk h (by rw [cmp3_gt hl]; decide), cmp3_gt hl]
theorem cmpT_eq {a b : Tag} (h : eqTo a b 3) : cmpT a b = 0 := by
  have h0 : a.seq = b.seq := h 0 (by omega)
  have h1 : a.who = b.who := h 1 (by omega)
  have h2 : a.op = b.op := h 2 (by omega)
  unfold cmpT
  rw [h0, cmp3_eq, h1, cmp3_eq, h2, cmp3_eq]
  exact or3_3 _
set_option maxRecDepth 100000 in
set_option maxHeartbeats 1000000 in
theorem compareR_calls (a b : Tag) (w : World) : Calls Try.prog 14 #[.agg #[.int .i64 a.seq, .int .i64 a.who, .int .i64 a.op], .agg #[.int .i64 b.seq, .int .i64 b.who, .int .i64 b.op]] w fun e w' => e = .returned (.int .i64 (cmpT a b)) ∧ Below w.heap.size w w' := by
  have HA : Aside0 (∀ k, k < 3 → [Value.int .i64 a.seq, .int .i64 a.who, .int .i64 a.op][k]? = some (.int .i64 (nth3 a k))) := ⟨fun k hk => by rcases k with _ | _ | _ | k <;> first | rfl | omega⟩
  have HBB : Aside0 (∀ k, k < 3 → [Value.int .i64 b.seq, .int .i64 b.who, .int .i64 b.op][k]? = some (.int .i64 (nth3 b k))) := ⟨fun k hk => by rcases k with _ | _ | _ | k <;> first | rfl | omega⟩
  go_enter Try.func14, Try.ntmps14
  go_upto_region 3 with (fail)
  obtain ⟨W, hW⟩ : ∃ W : World, W = (((w.alloc (.cells #[.int .i64 a.seq, .int .i64 a.who, .int .i64 a.op] 32)).alloc (.cells #[.int .i64 b.seq, .int .i64 b.who, .int .i64 b.op] 32)).alloc (.cells #[.int .i64 a.seq, .int .i64 a.who, .int .i64 a.op] 3)).alloc (.cells #[.int .i64 b.seq, .int .i64 b.who, .int .i64 b.op] 3) := ⟨_, rfl⟩
  rw [← hW]
  have HX : Aside0 (Blk W (w.heap.size + 1 + 1) [.int .i64 a.seq, .int .i64 a.who, .int .i64 a.op] ∧ Blk W (w.heap.size + 1 + 1 + 1) [.int .i64 b.seq, .int .i64 b.who, .int .i64 b.op] ∧ Below w.heap.size w W) := ⟨by
    rw [hW]
    exact ⟨(Blk.new_ _ _ _ (by simp) rfl).alloc _, Blk.new_ _ _ _ (by simp) rfl, below_alloc (below_alloc (below_alloc (below_alloc (Below.refl _ _) _) _) _) _⟩⟩
  clear hW
  go_wp2
  go_loopg [7] 3 (fun gk v7 wr => ∃ k : Nat, v7 = .int .i64 (k : Int) ∧ k ≤ 3 ∧ Aside0 (gk + k = 3) ∧ Aside0 (eqTo a b k) ∧ Aside0 (Below W.heap.size W wr))
  case atStart => exact ⟨0, rfl, Nat.zero_le _, ⟨rfl⟩, ⟨fun j hj => absurd hj (by omega)⟩, ⟨Below.refl _ _⟩⟩
  case round =>
    obtain ⟨k, rfl, hk, HGK, HE, HB⟩ := hrel
    by_cases hlt : k < 3
    · have HE' := HE.out
      obtain ⟨x, hx⟩ : ∃ x, x = nth3 a k := ⟨_, rfl⟩
      obtain ⟨y, hy⟩ : ∃ y, y = nth3 b k := ⟨_, rfl⟩
      have rca : ∀ w', Below W.heap.size W w' → w'.cell? ⟨w.heap.size + 1 + 1, k, none⟩ = some (.int .i64 x) := fun w' h => pw_cell_below h (by rw [hx]; exact HX.out.1.cell k (HA.out k hlt))
      have rcb : ∀ w', Below W.heap.size W w' → w'.cell? ⟨w.heap.size + 1 + 1 + 1, k, none⟩ = some (.int .i64 y) := fun w' h => pw_cell_below h (by rw [hy]; exact HX.out.2.1.cell k (HBB.out k hlt))
      have HXY := Aside0.mk (And.intro hx hy)
      clear hx hy HE'
      have hb1 := below_drew HB.out
      have hb2 := below_drew hb1
      have k0 : (0 : Int) ≤ (k : Int) := by omega
      have k1 : (k : Int) < 3 := by omega
      have HBD := Aside0.mk (And.intro hb1 hb2)
      clear hb1 hb2
      rcases Int.lt_trichotomy x y with hl | hl | hl
      · have HL : Aside0 (cmpT a b = -1) := ⟨cmpT_lt hlt HE.out (by rw [← HXY.out.1, ← HXY.out.2]; exact hl)⟩
        have d1 : decide (x < y) = true := by simpa using hl
        clear hl
        go_upto_region 6 with (fail)
        refine wp_region_noPanic ?_
        refine wp_region_held_drew (S := Below W.heap.size W) (by kernel_rfl) HBD.out.1 (fun hHeld => ?_)
        (refine takeH 0 26 (v := ?_) rfl rfl (by kernel_rfl) (by kernel_rfl) (by kernel_rfl) (fun _ _ _ h => h) hHeld rfl ?_ ?_; rotate_left; (focus (intro w' hSw; go_simp; try with_reducible rfl)))
        (try simp only [Act.put, List.setIfInBounds_toArray, List.set_cons_zero, List.set_cons_succ])
        (refine takeH 1 27 (v := ?_) rfl rfl (by kernel_rfl) (by kernel_rfl) (by kernel_rfl) (fun _ _ _ h => h) hHeld rfl ?_ ?_; rotate_left; (focus (intro w' hSw; go_simp; try with_reducible rfl)))
        (try simp only [Act.put, List.setIfInBounds_toArray, List.set_cons_zero, List.set_cons_succ])
        (refine takeH 2 28 (v := ?_) rfl rfl (by kernel_rfl) (by kernel_rfl) (by kernel_rfl) (fun _ _ _ h => h) hHeld rfl ?_ ?_; rotate_left; (focus (intro w' hSw; go_simp; try with_reducible rfl)))
        (try simp only [Act.put, List.setIfInBounds_toArray, List.set_cons_zero, List.set_cons_succ])
        (refine takeH 3 29 (v := ?_) rfl rfl (by kernel_rfl) (by kernel_rfl) (by kernel_rfl) (fun _ _ _ h => h) hHeld rfl ?_ ?_; rotate_left; (focus (intro w' hSw; go_simp; try with_reducible rfl)))
        (try simp only [Act.put, List.setIfInBounds_toArray, List.set_cons_zero, List.set_cons_succ])
        (refine takeH 4 30 (v := ?_) rfl rfl (by kernel_rfl) (by kernel_rfl) (by kernel_rfl) (fun _ _ _ h => h) hHeld rfl ?_ ?_; rotate_left; (focus (intro w' hSw; go_simp; try with_reducible rfl)))
        (try simp only [Act.put, List.setIfInBounds_toArray, List.set_cons_zero, List.set_cons_succ])
        (refine takeH 5 31 (v := ?_) rfl rfl (by kernel_rfl) (by kernel_rfl) (by kernel_rfl) (fun _ _ _ h => h) hHeld rfl ?_ ?_; rotate_left; (focus (intro w' hSw; go_simp; try with_reducible rfl)))
        (try simp only [Act.put, List.setIfInBounds_toArray, List.set_cons_zero, List.set_cons_succ])
        (refine takeH 6 32 (v := ?_) rfl rfl (by kernel_rfl) (by kernel_rfl) (by kernel_rfl) (fun _ _ _ h => h) hHeld rfl ?_ ?_; rotate_left; (focus (intro w' hSw; go_simp; try with_reducible rfl)))
        (try simp only [Act.put, List.setIfInBounds_toArray, List.set_cons_zero, List.set_cons_succ])
        (refine takeH 7 33 (v := ?_) rfl rfl (by kernel_rfl) (by kernel_rfl) (by kernel_rfl) (fun _ _ _ h => h) hHeld rfl ?_ ?_; rotate_left; (focus (intro w' hSw; go_simp; try with_reducible rfl)))
        (try simp only [Act.put, List.setIfInBounds_toArray, List.set_cons_zero, List.set_cons_succ])
        (refine takeH 8 34 (v := ?_) rfl rfl (by kernel_rfl) (by kernel_rfl) (by kernel_rfl) (fun _ _ _ h => h) hHeld rfl ?_ ?_; rotate_left; (focus (intro w' hSw; go_simp; try with_reducible rfl)))
        (try simp only [Act.put, List.setIfInBounds_toArray, List.set_cons_zero, List.set_cons_succ])
        refine wpAnyH_done (by kernel_rfl) ?_ _
        refine NoPanic.normal ?_
        go_wp2
        try rw [Exit.noGoto_ret]
        go_ret
        exact ⟨by rw [HL.out]; rfl, Below.then_ HX.out.2.2 HBD.out.1 (Nat.le_refl _)⟩
      · have HL : Aside0 (eqTo a b (k + 1)) := ⟨fun j hj => by
          rcases Nat.lt_succ_iff_lt_or_eq.1 hj with h | rfl
          · exact HE.out j h
          · rw [← HXY.out.1, ← HXY.out.2]; exact hl⟩
        have d1 : decide (x < y) = false := by have : ¬ x < y := by omega
                                               simpa using this
        have d2 : decide (y < x) = false := by have : ¬ y < x := by omega
                                               simpa using this
        clear hl
        go_upto_region 6 with (fail)
        refine wp_region_noPanic ?_
        refine wp_region_held_drew (S := Below W.heap.size W) (by kernel_rfl) HBD.out.1 (fun hHeld => ?_)
        (refine takeH 0 26 (v := ?_) rfl rfl (by kernel_rfl) (by kernel_rfl) (by kernel_rfl) (fun _ _ _ h => h) hHeld rfl ?_ ?_; rotate_left; (focus (intro w' hSw; go_simp; try with_reducible rfl)))
        (try simp only [Act.put, List.setIfInBounds_toArray, List.set_cons_zero, List.set_cons_succ])
        (refine takeH 1 27 (v := ?_) rfl rfl (by kernel_rfl) (by kernel_rfl) (by kernel_rfl) (fun _ _ _ h => h) hHeld rfl ?_ ?_; rotate_left; (focus (intro w' hSw; go_simp; try with_reducible rfl)))
        (try simp only [Act.put, List.setIfInBounds_toArray, List.set_cons_zero, List.set_cons_succ])
        (refine takeH 2 28 (v := ?_) rfl rfl (by kernel_rfl) (by kernel_rfl) (by kernel_rfl) (fun _ _ _ h => h) hHeld rfl ?_ ?_; rotate_left; (focus (intro w' hSw; go_simp; try with_reducible rfl)))
        (try simp only [Act.put, List.setIfInBounds_toArray, List.set_cons_zero, List.set_cons_succ])
        (refine takeH 3 29 (v := ?_) rfl rfl (by kernel_rfl) (by kernel_rfl) (by kernel_rfl) (fun _ _ _ h => h) hHeld rfl ?_ ?_; rotate_left; (focus (intro w' hSw; go_simp; try with_reducible rfl)))
        (try simp only [Act.put, List.setIfInBounds_toArray, List.set_cons_zero, List.set_cons_succ])
        (refine takeH 4 30 (v := ?_) rfl rfl (by kernel_rfl) (by kernel_rfl) (by kernel_rfl) (fun _ _ _ h => h) hHeld rfl ?_ ?_; rotate_left; (focus (intro w' hSw; go_simp; try with_reducible rfl)))
        (try simp only [Act.put, List.setIfInBounds_toArray, List.set_cons_zero, List.set_cons_succ])
        (refine takeH 5 31 (v := ?_) rfl rfl (by kernel_rfl) (by kernel_rfl) (by kernel_rfl) (fun _ _ _ h => h) hHeld rfl ?_ ?_; rotate_left; (focus (intro w' hSw; go_simp; try with_reducible rfl)))
        (try simp only [Act.put, List.setIfInBounds_toArray, List.set_cons_zero, List.set_cons_succ])
        (refine takeH 6 32 (v := ?_) rfl rfl (by kernel_rfl) (by kernel_rfl) (by kernel_rfl) (fun _ _ _ h => h) hHeld rfl ?_ ?_; rotate_left; (focus (intro w' hSw; go_simp; try with_reducible rfl)))
        (try simp only [Act.put, List.setIfInBounds_toArray, List.set_cons_zero, List.set_cons_succ])
        (refine takeH 7 33 (v := ?_) rfl rfl (by kernel_rfl) (by kernel_rfl) (by kernel_rfl) (fun _ _ _ h => h) hHeld rfl ?_ ?_; rotate_left; (focus (intro w' hSw; go_simp; try with_reducible rfl)))
        (try simp only [Act.put, List.setIfInBounds_toArray, List.set_cons_zero, List.set_cons_succ])
        (refine takeH 8 34 (v := ?_) rfl rfl (by kernel_rfl) (by kernel_rfl) (by kernel_rfl) (fun _ _ _ h => h) hHeld rfl ?_ ?_; rotate_left; (focus (intro w' hSw; go_simp; try with_reducible rfl)))
        (try simp only [Act.put, List.setIfInBounds_toArray, List.set_cons_zero, List.set_cons_succ])
        refine wpAnyH_done (by kernel_rfl) ?_ _
        refine NoPanic.normal ?_
        go_upto_region 8 with (fail)
        refine wp_region_noPanic ?_
        refine wp_region_held_drew (S := Below W.heap.size W) (by kernel_rfl) HBD.out.2 (fun hHeld => ?_)
        (refine takeH 0 35 (v := ?_) rfl rfl (by kernel_rfl) (by kernel_rfl) (by kernel_rfl) (fun _ _ _ h => h) hHeld rfl ?_ ?_; rotate_left; (focus (intro w' hSw; go_simp; try with_reducible rfl)))
        (try simp only [Act.put, List.setIfInBounds_toArray, List.set_cons_zero, List.set_cons_succ])
        (refine takeH 1 36 (v := ?_) rfl rfl (by kernel_rfl) (by kernel_rfl) (by kernel_rfl) (fun _ _ _ h => h) hHeld rfl ?_ ?_; rotate_left; (focus (intro w' hSw; go_simp; try with_reducible rfl)))
        (try simp only [Act.put, List.setIfInBounds_toArray, List.set_cons_zero, List.set_cons_succ])
        (refine takeH 2 37 (v := ?_) rfl rfl (by kernel_rfl) (by kernel_rfl) (by kernel_rfl) (fun _ _ _ h => h) hHeld rfl ?_ ?_; rotate_left; (focus (intro w' hSw; go_simp; try with_reducible rfl)))
        (try simp only [Act.put, List.setIfInBounds_toArray, List.set_cons_zero, List.set_cons_succ])
        (refine takeH 3 38 (v := ?_) rfl rfl (by kernel_rfl) (by kernel_rfl) (by kernel_rfl) (fun _ _ _ h => h) hHeld rfl ?_ ?_; rotate_left; (focus (intro w' hSw; go_simp; try with_reducible rfl)))
        (try simp only [Act.put, List.setIfInBounds_toArray, List.set_cons_zero, List.set_cons_succ])
        (refine takeH 4 39 (v := ?_) rfl rfl (by kernel_rfl) (by kernel_rfl) (by kernel_rfl) (fun _ _ _ h => h) hHeld rfl ?_ ?_; rotate_left; (focus (intro w' hSw; go_simp; try with_reducible rfl)))
        (try simp only [Act.put, List.setIfInBounds_toArray, List.set_cons_zero, List.set_cons_succ])
        (refine takeH 5 40 (v := ?_) rfl rfl (by kernel_rfl) (by kernel_rfl) (by kernel_rfl) (fun _ _ _ h => h) hHeld rfl ?_ ?_; rotate_left; (focus (intro w' hSw; go_simp; try with_reducible rfl)))
        (try simp only [Act.put, List.setIfInBounds_toArray, List.set_cons_zero, List.set_cons_succ])
        (refine takeH 6 41 (v := ?_) rfl rfl (by kernel_rfl) (by kernel_rfl) (by kernel_rfl) (fun _ _ _ h => h) hHeld rfl ?_ ?_; rotate_left; (focus (intro w' hSw; go_simp; try with_reducible rfl)))
        (try simp only [Act.put, List.setIfInBounds_toArray, List.set_cons_zero, List.set_cons_succ])
        (refine takeH 7 42 (v := ?_) rfl rfl (by kernel_rfl) (by kernel_rfl) (by kernel_rfl) (fun _ _ _ h => h) hHeld rfl ?_ ?_; rotate_left; (focus (intro w' hSw; go_simp; try with_reducible rfl)))
        (try simp only [Act.put, List.setIfInBounds_toArray, List.set_cons_zero, List.set_cons_succ])
        (refine takeH 8 43 (v := ?_) rfl rfl (by kernel_rfl) (by kernel_rfl) (by kernel_rfl) (fun _ _ _ h => h) hHeld rfl ?_ ?_; rotate_left; (focus (intro w' hSw; go_simp; try with_reducible rfl)))
        (try simp only [Act.put, List.setIfInBounds_toArray, List.set_cons_zero, List.set_cons_succ])
        refine wpAnyH_done (by kernel_rfl) ?_ _
        refine NoPanic.normal ?_
        go_wp2
        go_roundg (3 - (k + 1))
        case measure => have := HGK.out; omega
        case rel => exact ⟨k + 1, by go_num, by omega, ⟨by omega⟩, HL, ⟨HBD.out.2⟩⟩
      · have HL : Aside0 (cmpT a b = 1) := ⟨cmpT_gt hlt HE.out (by rw [← HXY.out.1, ← HXY.out.2]; exact hl)⟩
        have d1 : decide (x < y) = false := by have : ¬ x < y := by omega
                                               simpa using this
        have d2 : decide (y < x) = true := by simpa using hl
        clear hl
        go_upto_region 6 with (fail)
        refine wp_region_noPanic ?_
        refine wp_region_held_drew (S := Below W.heap.size W) (by kernel_rfl) HBD.out.1 (fun hHeld => ?_)
        (refine takeH 0 26 (v := ?_) rfl rfl (by kernel_rfl) (by kernel_rfl) (by kernel_rfl) (fun _ _ _ h => h) hHeld rfl ?_ ?_; rotate_left; (focus (intro w' hSw; go_simp; try with_reducible rfl)))
        (try simp only [Act.put, List.setIfInBounds_toArray, List.set_cons_zero, List.set_cons_succ])
        (refine takeH 1 27 (v := ?_) rfl rfl (by kernel_rfl) (by kernel_rfl) (by kernel_rfl) (fun _ _ _ h => h) hHeld rfl ?_ ?_; rotate_left; (focus (intro w' hSw; go_simp; try with_reducible rfl)))
        (try simp only [Act.put, List.setIfInBounds_toArray, List.set_cons_zero, List.set_cons_succ])
        (refine takeH 2 28 (v := ?_) rfl rfl (by kernel_rfl) (by kernel_rfl) (by kernel_rfl) (fun _ _ _ h => h) hHeld rfl ?_ ?_; rotate_left; (focus (intro w' hSw; go_simp; try with_reducible rfl)))
        (try simp only [Act.put, List.setIfInBounds_toArray, List.set_cons_zero, List.set_cons_succ])
        (refine takeH 3 29 (v := ?_) rfl rfl (by kernel_rfl) (by kernel_rfl) (by kernel_rfl) (fun _ _ _ h => h) hHeld rfl ?_ ?_; rotate_left; (focus (intro w' hSw; go_simp; try with_reducible rfl)))
        (try simp only [Act.put, List.setIfInBounds_toArray, List.set_cons_zero, List.set_cons_succ])
        (refine takeH 4 30 (v := ?_) rfl rfl (by kernel_rfl) (by kernel_rfl) (by kernel_rfl) (fun _ _ _ h => h) hHeld rfl ?_ ?_; rotate_left; (focus (intro w' hSw; go_simp; try with_reducible rfl)))
        (try simp only [Act.put, List.setIfInBounds_toArray, List.set_cons_zero, List.set_cons_succ])
        (refine takeH 5 31 (v := ?_) rfl rfl (by kernel_rfl) (by kernel_rfl) (by kernel_rfl) (fun _ _ _ h => h) hHeld rfl ?_ ?_; rotate_left; (focus (intro w' hSw; go_simp; try with_reducible rfl)))
        (try simp only [Act.put, List.setIfInBounds_toArray, List.set_cons_zero, List.set_cons_succ])
        (refine takeH 6 32 (v := ?_) rfl rfl (by kernel_rfl) (by kernel_rfl) (by kernel_rfl) (fun _ _ _ h => h) hHeld rfl ?_ ?_; rotate_left; (focus (intro w' hSw; go_simp; try with_reducible rfl)))
        (try simp only [Act.put, List.setIfInBounds_toArray, List.set_cons_zero, List.set_cons_succ])
        (refine takeH 7 33 (v := ?_) rfl rfl (by kernel_rfl) (by kernel_rfl) (by kernel_rfl) (fun _ _ _ h => h) hHeld rfl ?_ ?_; rotate_left; (focus (intro w' hSw; go_simp; try with_reducible rfl)))
        (try simp only [Act.put, List.setIfInBounds_toArray, List.set_cons_zero, List.set_cons_succ])
        (refine takeH 8 34 (v := ?_) rfl rfl (by kernel_rfl) (by kernel_rfl) (by kernel_rfl) (fun _ _ _ h => h) hHeld rfl ?_ ?_; rotate_left; (focus (intro w' hSw; go_simp; try with_reducible rfl)))
        (try simp only [Act.put, List.setIfInBounds_toArray, List.set_cons_zero, List.set_cons_succ])
        refine wpAnyH_done (by kernel_rfl) ?_ _
        refine NoPanic.normal ?_
        go_upto_region 8 with (fail)
        refine wp_region_noPanic ?_
        refine wp_region_held_drew (S := Below W.heap.size W) (by kernel_rfl) HBD.out.2 (fun hHeld => ?_)
        (refine takeH 0 35 (v := ?_) rfl rfl (by kernel_rfl) (by kernel_rfl) (by kernel_rfl) (fun _ _ _ h => h) hHeld rfl ?_ ?_; rotate_left; (focus (intro w' hSw; go_simp; try with_reducible rfl)))
        (try simp only [Act.put, List.setIfInBounds_toArray, List.set_cons_zero, List.set_cons_succ])
        (refine takeH 1 36 (v := ?_) rfl rfl (by kernel_rfl) (by kernel_rfl) (by kernel_rfl) (fun _ _ _ h => h) hHeld rfl ?_ ?_; rotate_left; (focus (intro w' hSw; go_simp; try with_reducible rfl)))
        (try simp only [Act.put, List.setIfInBounds_toArray, List.set_cons_zero, List.set_cons_succ])
        (refine takeH 2 37 (v := ?_) rfl rfl (by kernel_rfl) (by kernel_rfl) (by kernel_rfl) (fun _ _ _ h => h) hHeld rfl ?_ ?_; rotate_left; (focus (intro w' hSw; go_simp; try with_reducible rfl)))
        (try simp only [Act.put, List.setIfInBounds_toArray, List.set_cons_zero, List.set_cons_succ])
        (refine takeH 3 38 (v := ?_) rfl rfl (by kernel_rfl) (by kernel_rfl) (by kernel_rfl) (fun _ _ _ h => h) hHeld rfl ?_ ?_; rotate_left; (focus (intro w' hSw; go_simp; try with_reducible rfl)))
        (try simp only [Act.put, List.setIfInBounds_toArray, List.set_cons_zero, List.set_cons_succ])
        (refine takeH 4 39 (v := ?_) rfl rfl (by kernel_rfl) (by kernel_rfl) (by kernel_rfl) (fun _ _ _ h => h) hHeld rfl ?_ ?_; rotate_left; (focus (intro w' hSw; go_simp; try with_reducible rfl)))
        (try simp only [Act.put, List.setIfInBounds_toArray, List.set_cons_zero, List.set_cons_succ])
        (refine takeH 5 40 (v := ?_) rfl rfl (by kernel_rfl) (by kernel_rfl) (by kernel_rfl) (fun _ _ _ h => h) hHeld rfl ?_ ?_; rotate_left; (focus (intro w' hSw; go_simp; try with_reducible rfl)))
        (try simp only [Act.put, List.setIfInBounds_toArray, List.set_cons_zero, List.set_cons_succ])
        (refine takeH 6 41 (v := ?_) rfl rfl (by kernel_rfl) (by kernel_rfl) (by kernel_rfl) (fun _ _ _ h => h) hHeld rfl ?_ ?_; rotate_left; (focus (intro w' hSw; go_simp; try with_reducible rfl)))
        (try simp only [Act.put, List.setIfInBounds_toArray, List.set_cons_zero, List.set_cons_succ])
        (refine takeH 7 42 (v := ?_) rfl rfl (by kernel_rfl) (by kernel_rfl) (by kernel_rfl) (fun _ _ _ h => h) hHeld rfl ?_ ?_; rotate_left; (focus (intro w' hSw; go_simp; try with_reducible rfl)))
        (try simp only [Act.put, List.setIfInBounds_toArray, List.set_cons_zero, List.set_cons_succ])
        (refine takeH 8 43 (v := ?_) rfl rfl (by kernel_rfl) (by kernel_rfl) (by kernel_rfl) (fun _ _ _ h => h) hHeld rfl ?_ ?_; rotate_left; (focus (intro w' hSw; go_simp; try with_reducible rfl)))
        (try simp only [Act.put, List.setIfInBounds_toArray, List.set_cons_zero, List.set_cons_succ])
        refine wpAnyH_done (by kernel_rfl) ?_ _
        refine NoPanic.normal ?_
        go_wp2
        try rw [Exit.noGoto_ret]
        go_ret
        exact ⟨by rw [HL.out]; rfl, Below.then_ HX.out.2.2 HBD.out.2 (Nat.le_refl _)⟩
    · obtain rfl : k = 3 := by omega
      go_wp2
      go_ret
      exact ⟨by rw [cmpT_eq HE.out]; rfl, Below.then_ HX.out.2.2 HB.out (Nat.le_refl _)⟩
theorem newer_calls (a b : Entry) (A B : Option Addr) (ca cb : Nat) (w : World) :
    Calls Try.prog 17 #[.agg #[.string a.key, .int .i64 a.tag.seq, .int .i64 a.tag.who, .int .i64 a.tag.op, .bool a.val.has, .slice A a.val.b.length ca], .agg #[.string b.key, .int .i64 b.tag.seq, .int .i64 b.tag.who, .int .i64 b.tag.op, .bool b.val.has, .slice B b.val.b.length cb]] w fun e w' =>
      e = .returned (if cmpT a.tag b.tag < 0 then .agg #[.string b.key, .int .i64 b.tag.seq, .int .i64 b.tag.who, .int .i64 b.tag.op, .bool b.val.has, .slice B b.val.b.length cb] else .agg #[.string a.key, .int .i64 a.tag.seq, .int .i64 a.tag.who, .int .i64 a.tag.op, .bool a.val.has, .slice A a.val.b.length ca]) ∧ Below w.heap.size w w' := by
  obtain ⟨ak, ⟨a1, a2, a3⟩, ⟨ah, ab⟩⟩ := a
  obtain ⟨bk, ⟨b1, b2, b3⟩, ⟨bh, bb⟩⟩ := b
  have hc0 := fun w' => compareR_calls ⟨a1, a2, a3⟩ ⟨b1, b2, b3⟩ w'
  dsimp only at hc0 ⊢
  have HC := Aside0.mk hc0
  clear hc0
  obtain ⟨W, hW⟩ : ∃ W : World, W = ((w.alloc (.cells #[.string ak, .int .i64 a1, .int .i64 a2, .int .i64 a3, .bool ah, .slice A ab.length ca] 37)).alloc (.cells #[.string bk, .int .i64 b1, .int .i64 b2, .int .i64 b3, .bool bh, .slice B bb.length cb] 37)).alloc (.cells #[.string ByteArray.empty, .int .i64 0, .int .i64 0, .int .i64 0, .bool false, .slice none 0 0] 37) := ⟨_, rfl⟩
  have hX : Blk W w.heap.size [.string ak, .int .i64 a1, .int .i64 a2, .int .i64 a3, .bool ah, .slice A ab.length ca] ∧ Blk W (w.heap.size + 1) [.string bk, .int .i64 b1, .int .i64 b2, .int .i64 b3, .bool bh, .slice B bb.length cb] ∧ Blk W (w.heap.size + 1 + 1) [.string ByteArray.empty, .int .i64 0, .int .i64 0, .int .i64 0, .bool false, .slice none 0 0] ∧ Below w.heap.size w W := by
    rw [hW]
    exact ⟨((Blk.new_ _ _ _ rfl rfl).alloc _).alloc _, (Blk.new_ _ _ _ (by simp) rfl).alloc _, Blk.new_ _ _ _ (by simp) rfl, below_alloc (below_alloc (below_alloc (Below.refl _ _) _) _) _⟩
  have HX := Aside0.mk hX
  have HW : Aside0 (W = ((w.alloc (.cells #[.string ak, .int .i64 a1, .int .i64 a2, .int .i64 a3, .bool ah, .slice A ab.length ca] 37)).alloc (.cells #[.string bk, .int .i64 b1, .int .i64 b2, .int .i64 b3, .bool bh, .slice B bb.length cb] 37)).alloc (.cells #[.string ⟨#[]⟩, .int .i64 0, .int .i64 0, .int .i64 0, .bool false, .slice none 0 0] 37)) := ⟨hW⟩
  clear hX hW
  by_cases hl : cmpT ⟨a1, a2, a3⟩ ⟨b1, b2, b3⟩ < 0
  · rw [if_pos hl]
    have d1 : decide (cmpT ⟨a1, a2, a3⟩ ⟨b1, b2, b3⟩ < 0) = true := by simpa using hl
    clear hl
    go_enter Try.func17, Try.ntmps17
    go_wp2_with (first | ((with_reducible refine (HC.out _).mono ?_); rintro e w4 ⟨rfl, hb4⟩; rw [← HW.out] at hb4; have H4 := Aside0.mk (And.intro (HX.out.1.on hb4) (And.intro (HX.out.2.1.on hb4) (And.intro (HX.out.2.2.1.on hb4) (Below.then_ HX.out.2.2.2 hb4 (Nat.le_refl _))))); obtain ⟨⟨x0, x1, x2, x3, x4, x5⟩, fx⟩ := H4.out.1.six; obtain ⟨⟨y0, y1, y2, y3, y4, y5⟩, fy⟩ := H4.out.2.1.six; obtain ⟨⟨z0, z1, z2, z3, z4, z5⟩, g0, g1, g2, g3, g4, g5⟩ := H4.out.2.2.1.six; clear hb4 fx fy))
    obtain ⟨W9, hW9⟩ : ∃ W9 : World, W9 = ((((((w4.setCell ⟨w.heap.size + 1 + 1, 0, none⟩ (.string bk)).setCell ⟨w.heap.size + 1 + 1, 1, none⟩ (.int .i64 b1)).setCell ⟨w.heap.size + 1 + 1, 2, none⟩ (.int .i64 b2)).setCell ⟨w.heap.size + 1 + 1, 3, none⟩ (.int .i64 b3)).setCell ⟨w.heap.size + 1 + 1, 4, none⟩ (.bool bh)).setCell ⟨w.heap.size + 1 + 1, 5, none⟩ (.slice B bb.length cb)) := ⟨_, rfl⟩
    rw [← hW9]
    have h9 : Blk W9 (w.heap.size + 1 + 1) [.string bk, .int .i64 b1, .int .i64 b2, .int .i64 b3, .bool bh, .slice B bb.length cb] := by rw [hW9]; exact (((((((H4.out.2.2.1.set 0 (.string bk)).set 1 (.int .i64 b1)).set 2 (.int .i64 b2)).set 3 (.int .i64 b3)).set 4 (.bool bh)).set 5 (.slice B bb.length cb))).cast rfl
    have hb9 : Below w.heap.size w W9 := by rw [hW9]; exact ((((((H4.out.2.2.2.setCell (p := ⟨w.heap.size + 1 + 1, 0, none⟩) (by simp; omega) (.string bk)).setCell (p := ⟨w.heap.size + 1 + 1, 1, none⟩) (by simp; omega) (.int .i64 b1)).setCell (p := ⟨w.heap.size + 1 + 1, 2, none⟩) (by simp; omega) (.int .i64 b2)).setCell (p := ⟨w.heap.size + 1 + 1, 3, none⟩) (by simp; omega) (.int .i64 b3)).setCell (p := ⟨w.heap.size + 1 + 1, 4, none⟩) (by simp; omega) (.bool bh)).setCell (p := ⟨w.heap.size + 1 + 1, 5, none⟩) (by simp; omega) (.slice B bb.length cb))
    clear hW9 z0 z1 z2 z3 z4 z5
    obtain ⟨⟨z0, z1, z2, z3, z4, z5⟩, _⟩ := h9.six
    refine bodyPost_ret (v := .agg #[.string bk, .int .i64 b1, .int .i64 b2, .int .i64 b3, .bool bh, .slice B bb.length cb]) (by simp [results, Try.results17, go_sem, z0, z1, z2, z3, z4, z5]; try rfl) rfl ?_
    exact ⟨rfl, hb9⟩
  · rw [if_neg hl]
    have d1 : decide (cmpT ⟨a1, a2, a3⟩ ⟨b1, b2, b3⟩ < 0) = false := by simpa using hl
    clear hl
    go_enter Try.func17, Try.ntmps17
    go_wp2_with (first | ((with_reducible refine (HC.out _).mono ?_); rintro e w4 ⟨rfl, hb4⟩; rw [← HW.out] at hb4; have H4 := Aside0.mk (And.intro (HX.out.1.on hb4) (And.intro (HX.out.2.1.on hb4) (And.intro (HX.out.2.2.1.on hb4) (Below.then_ HX.out.2.2.2 hb4 (Nat.le_refl _))))); obtain ⟨⟨x0, x1, x2, x3, x4, x5⟩, fx⟩ := H4.out.1.six; obtain ⟨⟨y0, y1, y2, y3, y4, y5⟩, fy⟩ := H4.out.2.1.six; obtain ⟨⟨z0, z1, z2, z3, z4, z5⟩, g0, g1, g2, g3, g4, g5⟩ := H4.out.2.2.1.six; clear hb4 fx fy))
    obtain ⟨W9, hW9⟩ : ∃ W9 : World, W9 = ((((((w4.setCell ⟨w.heap.size + 1 + 1, 0, none⟩ (.string ak)).setCell ⟨w.heap.size + 1 + 1, 1, none⟩ (.int .i64 a1)).setCell ⟨w.heap.size + 1 + 1, 2, none⟩ (.int .i64 a2)).setCell ⟨w.heap.size + 1 + 1, 3, none⟩ (.int .i64 a3)).setCell ⟨w.heap.size + 1 + 1, 4, none⟩ (.bool ah)).setCell ⟨w.heap.size + 1 + 1, 5, none⟩ (.slice A ab.length ca)) := ⟨_, rfl⟩
    rw [← hW9]
    have h9 : Blk W9 (w.heap.size + 1 + 1) [.string ak, .int .i64 a1, .int .i64 a2, .int .i64 a3, .bool ah, .slice A ab.length ca] := by rw [hW9]; exact (((((((H4.out.2.2.1.set 0 (.string ak)).set 1 (.int .i64 a1)).set 2 (.int .i64 a2)).set 3 (.int .i64 a3)).set 4 (.bool ah)).set 5 (.slice A ab.length ca))).cast rfl
    have hb9 : Below w.heap.size w W9 := by rw [hW9]; exact ((((((H4.out.2.2.2.setCell (p := ⟨w.heap.size + 1 + 1, 0, none⟩) (by simp; omega) (.string ak)).setCell (p := ⟨w.heap.size + 1 + 1, 1, none⟩) (by simp; omega) (.int .i64 a1)).setCell (p := ⟨w.heap.size + 1 + 1, 2, none⟩) (by simp; omega) (.int .i64 a2)).setCell (p := ⟨w.heap.size + 1 + 1, 3, none⟩) (by simp; omega) (.int .i64 a3)).setCell (p := ⟨w.heap.size + 1 + 1, 4, none⟩) (by simp; omega) (.bool ah)).setCell (p := ⟨w.heap.size + 1 + 1, 5, none⟩) (by simp; omega) (.slice A ab.length ca))
    clear hW9 z0 z1 z2 z3 z4 z5
    obtain ⟨⟨z0, z1, z2, z3, z4, z5⟩, _⟩ := h9.six
    refine bodyPost_ret (v := .agg #[.string ak, .int .i64 a1, .int .i64 a2, .int .i64 a3, .bool ah, .slice A ab.length ca]) (by simp [results, Try.results17, go_sem, z0, z1, z2, z3, z4, z5]; try rfl) rfl ?_
    exact ⟨rfl, hb9⟩
end Tab
end Go.Proofs.Ytgfjkpnaabiecaa
set_option linter.unusedVariables false
set_option linter.unusedSimpArgs false
namespace Go.Proofs.Ytgfjkpnaabiecaa
open Go.RowKit Go.Proofs.YtgfjkpnaabiecaaW.PrintWords
namespace Tab
open Tags
set_option maxRecDepth 100000 in
set_option maxHeartbeats 1000000 in
theorem long_calls (A : Option Addr) (c : Nat) (xs : List Do) (w : World) (hr : Do.k.C w A xs.length xs) (hn : xs.length ≤ 1600000000000) :
    Calls Try.prog 11 #[.slice A xs.length c] w fun e w' => ∃ n : Int, e = .returned (.int .i64 n) ∧ Below w.heap.size w w' := by
  have HR := Aside0.mk hr
  clear hr
  go_enter Try.func11, Try.ntmps11
  go_wp2
  go_loopg [3, 4] xs.length (fun gk v3 v4 wr => ∃ (n : Int) (k : Nat), v3 = .int .i64 n ∧ v4 = .int .i64 (k : Int) ∧ k ≤ xs.length ∧ Aside0 (gk + k = xs.length) ∧ Aside0 (Below w.heap.size w wr))
  case atStart => exact ⟨0, 0, rfl, rfl, Nat.zero_le _, ⟨rfl⟩, ⟨Below.refl _ _⟩⟩
  case round =>
    obtain ⟨n, k, rfl, rfl, hk, HGK, HB⟩ := hrel
    by_cases hlt : k < xs.length
    · obtain ⟨ad, x, A6, c6, rfl, HX, x0, x1, x2, x3, x4, x5, x6, x7, x8⟩ := Do.at_ (Kd.C_below HR.out HB.out) k hlt
      have r1 : ∀ w', Below wr.heap.size wr w' → w'.cell? ⟨(ad.add (k * 8)).block, (ad.add (k * 8)).off + 1, none⟩ = some (.string x.e.key) := fun w' h => pw_cell_below h x1
      have r6 : ∀ w', Below wr.heap.size wr w' → w'.cell? ⟨(ad.add (k * 8)).block, (ad.add (k * 8)).off + 6, none⟩ = some (.slice A6 x.e.val.b.length c6) := fun w' h => pw_cell_below h x6
      have k0 : (0 : Int) ≤ (k : Int) := by omega
      have k1 : (k : Int) < (xs.length : Int) := by omega
      clear x0 x1 x2 x3 x4 x5 x6 x7 x8
      go_upto_region 5 with (fail)
      refine wp_region_noPanic ?_
      refine wp_region_held_drew (S := Below wr.heap.size wr) (by kernel_rfl) (below_drew (Below.refl _ _)) (fun hHeld => ?_)
      (refine takeH 0 11 (v := ?_) rfl rfl (by kernel_rfl) (by kernel_rfl) (by kernel_rfl) (fun _ _ _ h => h) hHeld rfl ?_ ?_; rotate_left; (focus (intro w' hSw; go_simp; try with_reducible rfl)))
      (try simp only [Act.put, List.setIfInBounds_toArray, List.set_cons_zero, List.set_cons_succ])
      (refine takeH 1 12 (v := ?_) rfl rfl (by kernel_rfl) (by kernel_rfl) (by kernel_rfl) (fun _ _ _ h => h) hHeld rfl ?_ ?_; rotate_left; (focus (intro w' hSw; go_simp; try with_reducible rfl)))
      (try simp only [Act.put, List.setIfInBounds_toArray, List.set_cons_zero, List.set_cons_succ])
      (refine takeH 2 13 (v := ?_) rfl rfl (by kernel_rfl) (by kernel_rfl) (by kernel_rfl) (fun _ _ _ h => h) hHeld rfl ?_ ?_; rotate_left; (focus (intro w' hSw; go_simp; try with_reducible rfl)))
      (try simp only [Act.put, List.setIfInBounds_toArray, List.set_cons_zero, List.set_cons_succ])
      (refine takeH 3 14 (v := ?_) rfl rfl (by kernel_rfl) (by kernel_rfl) (by kernel_rfl) (fun _ _ _ h => h) hHeld rfl ?_ ?_; rotate_left; (focus (intro w' hSw; go_simp; try with_reducible rfl)))
      (try simp only [Act.put, List.setIfInBounds_toArray, List.set_cons_zero, List.set_cons_succ])
      (refine takeH 4 15 (v := ?_) rfl rfl (by kernel_rfl) (by kernel_rfl) (by kernel_rfl) (fun _ _ _ h => h) hHeld rfl ?_ ?_; rotate_left; (focus (intro w' hSw; go_simp; try with_reducible rfl)))
      (try simp only [Act.put, List.setIfInBounds_toArray, List.set_cons_zero, List.set_cons_succ])
      (refine takeH 5 16 (v := ?_) rfl rfl (by kernel_rfl) (by kernel_rfl) (by kernel_rfl) (fun _ _ _ h => h) hHeld rfl ?_ ?_; rotate_left; (focus (intro w' hSw; go_simp; try with_reducible rfl)))
      (try simp only [Act.put, List.setIfInBounds_toArray, List.set_cons_zero, List.set_cons_succ])
      (refine takeH 6 17 (v := ?_) rfl rfl (by kernel_rfl) (by kernel_rfl) (by kernel_rfl) (fun _ _ _ h => h) hHeld rfl ?_ ?_; rotate_left; (focus (intro w' hSw; go_simp; try with_reducible rfl)))
      (try simp only [Act.put, List.setIfInBounds_toArray, List.set_cons_zero, List.set_cons_succ])
      (refine takeH 7 18 (v := ?_) rfl rfl (by kernel_rfl) (by kernel_rfl) (by kernel_rfl) (fun _ _ _ h => h) hHeld rfl ?_ ?_; rotate_left; (focus (intro w' hSw; go_simp; try with_reducible rfl)))
      (try simp only [Act.put, List.setIfInBounds_toArray, List.set_cons_zero, List.set_cons_succ])
      (refine takeH 8 19 (v := ?_) rfl rfl (by kernel_rfl) (by kernel_rfl) (by kernel_rfl) (fun _ _ _ h => h) hHeld rfl ?_ ?_; rotate_left; (focus (intro w' hSw; go_simp; try with_reducible rfl)))
      (try simp only [Act.put, List.setIfInBounds_toArray, List.set_cons_zero, List.set_cons_succ])
      (refine takeH 9 20 (v := ?_) rfl rfl (by kernel_rfl) (by kernel_rfl) (by kernel_rfl) (fun _ _ _ h => h) hHeld rfl ?_ ?_; rotate_left; (focus (intro w' hSw; go_simp; try with_reducible rfl)))
      (try simp only [Act.put, List.setIfInBounds_toArray, List.set_cons_zero, List.set_cons_succ])
      (refine takeH 10 21 (v := ?_) rfl rfl (by kernel_rfl) (by kernel_rfl) (by kernel_rfl) (fun _ _ _ h => h) hHeld rfl ?_ ?_; rotate_left; (focus (intro w' hSw; go_simp; try with_reducible rfl)))
      (try simp only [Act.put, List.setIfInBounds_toArray, List.set_cons_zero, List.set_cons_succ])
      (refine takeH 11 22 (v := ?_) rfl rfl (by kernel_rfl) (by kernel_rfl) (by kernel_rfl) (fun _ _ _ h => h) hHeld rfl ?_ ?_; rotate_left; (focus (intro w' hSw; go_simp; try with_reducible rfl)))
      (try simp only [Act.put, List.setIfInBounds_toArray, List.set_cons_zero, List.set_cons_succ])
      (refine takeH 12 23 (v := ?_) rfl rfl (by kernel_rfl) (by kernel_rfl) (by kernel_rfl) (fun _ _ _ h => h) hHeld rfl ?_ ?_; rotate_left; (focus (intro w' hSw; go_simp; try with_reducible rfl)))
      (try simp only [Act.put, List.setIfInBounds_toArray, List.set_cons_zero, List.set_cons_succ])
      (refine takeH 13 24 (v := ?_) rfl rfl (by kernel_rfl) (by kernel_rfl) (by kernel_rfl) (fun _ _ _ h => h) hHeld rfl ?_ ?_; rotate_left; (focus (intro w' hSw; go_simp; try with_reducible rfl)))
      (try simp only [Act.put, List.setIfInBounds_toArray, List.set_cons_zero, List.set_cons_succ])
      (refine takeH 14 25 (v := ?_) rfl rfl (by kernel_rfl) (by kernel_rfl) (by kernel_rfl) (fun _ _ _ h => h) hHeld rfl ?_ ?_; rotate_left; (focus (intro w' hSw; go_simp; try with_reducible rfl)))
      (try simp only [Act.put, List.setIfInBounds_toArray, List.set_cons_zero, List.set_cons_succ])
      (refine takeH 15 26 (v := ?_) rfl rfl (by kernel_rfl) (by kernel_rfl) (by kernel_rfl) (fun _ _ _ h => h) hHeld rfl ?_ ?_; rotate_left; (focus (intro w' hSw; go_simp; try with_reducible rfl)))
      (try simp only [Act.put, List.setIfInBounds_toArray, List.set_cons_zero, List.set_cons_succ])
      (refine takeH 16 27 (v := ?_) rfl rfl (by kernel_rfl) (by kernel_rfl) (by kernel_rfl) (fun _ _ _ h => h) hHeld rfl ?_ ?_; rotate_left; (focus (intro w' hSw; go_simp; try with_reducible rfl)))
      (try simp only [Act.put, List.setIfInBounds_toArray, List.set_cons_zero, List.set_cons_succ])
      (refine takeH 17 28 (v := ?_) rfl rfl (by kernel_rfl) (by kernel_rfl) (by kernel_rfl) (fun _ _ _ h => h) hHeld rfl ?_ ?_; rotate_left; (focus (intro w' hSw; go_simp; try with_reducible rfl)))
      (try simp only [Act.put, List.setIfInBounds_toArray, List.set_cons_zero, List.set_cons_succ])
      (refine takeH 18 29 (v := ?_) rfl rfl (by kernel_rfl) (by kernel_rfl) (by kernel_rfl) (fun _ _ _ h => h) hHeld rfl ?_ ?_; rotate_left; (focus (intro w' hSw; go_simp; try with_reducible rfl)))
      (try simp only [Act.put, List.setIfInBounds_toArray, List.set_cons_zero, List.set_cons_succ])
      (refine takeH 19 3 (v := ?_) rfl rfl (by kernel_rfl) (by kernel_rfl) (by kernel_rfl) (fun _ _ _ h => h) hHeld rfl ?_ ?_; rotate_left; (focus (intro w' hSw; go_simp; try with_reducible rfl)))
      (try simp only [Act.put, List.setIfInBounds_toArray, List.set_cons_zero, List.set_cons_succ])
      refine wpAnyH_done (by kernel_rfl) ?_ _
      refine NoPanic.normal ?_
      go_wp2
      go_roundg (xs.length - (k + 1))
      case measure => have := HGK.out; omega
      case rel => exact ⟨_, k + 1, rfl, by go_num, by omega, ⟨by omega⟩, ⟨below_drew HB.out⟩⟩
    · obtain rfl : k = xs.length := by omega
      go_wp2
      go_ret
      exact ⟨n, rfl, HB.out⟩
theorem ent_calls (k : ByteArray) (n : Int) (w : World) : Calls Try.prog 36 #[.string k, .int .i64 n] w fun e w' => e = .returned (.agg #[.string k, .int .i64 n, .int .i64 0, .int .i64 0, .bool false, .slice none 0 0]) ∧ Below w.heap.size w w' := by
  go_enter Try.func36, Try.ntmps36
  go_wp2
  refine bodyPost_ret (v := .agg #[.string k, .int .i64 n, .int .i64 0, .int .i64 0, .bool false, .slice none 0 0]) (by simp [results, Try.results36, go_sem]; try rfl) rfl ?_
  exact ⟨rfl, below_alloc (Below.refl _ _) _⟩
theorem store_nil (w : World) : Calls Try.prog 13 #[.pointer none, .agg #[.string ByteArray.empty, .int .i64 0, .int .i64 0, .int .i64 0, .bool false, .slice none 0 0]] w fun e w' => e = .returned (.int .i64 1) ∧ Below w.heap.size w w' := by
  go_enter Try.func13, Try.ntmps13
  go_wp2
  go_ret
  exact ⟨rfl, below_alloc (Below.refl _ _) _⟩
end Tab
end Go.Proofs.Ytgfjkpnaabiecaa
set_option linter.unusedVariables false
set_option linter.unusedSimpArgs false
namespace Go.Proofs.Ytgfjkpnaabiecaa
open Go.RowKit Go.Proofs.YtgfjkpnaabiecaaW.PrintWords
namespace Tab
open Tags
namespace Kn
def kB : ByteArray := ⟨#[107]⟩
def jB : ByteArray := ⟨#[106]⟩
theorem kj : kB ≠ jB := by decide
theorem jk : jB ≠ kB := by decide
def R0 : Room := ⟨1, 99, 1, true⟩
def eK : Entry := ⟨kB, ⟨1, 0, 0⟩, ⟨false, []⟩⟩
def eJ : Entry := ⟨jB, ⟨1, 0, 0⟩, ⟨false, []⟩⟩
def T0 : Tb := ⟨R0, [], [0], 0⟩
def T1 : Tb := ⟨R0, [⟨eK, true, false, 1⟩], [0], 1⟩
def T2 : Tb := ⟨R0, [⟨eK, true, true, 1⟩], [0], 1⟩
def T3 : Tb := ⟨R0, [⟨eJ, true, false, 2⟩], [1], 2⟩
theorem tok0 (l : List Cell) (t u : Int) (k : ByteArray) : tokAt ⟨R0, l, [t], u⟩ k = t := by
  unfold tokAt
  show [t].getD (Hash.bkt k 1).toNat 0 = t
  rw [Hash.bkt_one]; rfl
theorem drop0 (l : List Cell) (t u : Int) (k : ByteArray) : drop ⟨R0, l, [t], u⟩ k = ⟨R0, del l k, [t + 1], u⟩ := by
  unfold drop
  show (⟨R0, del l k, bump [t] (Hash.bkt k 1).toNat, u⟩ : Tb) = _
  rw [Hash.bkt_one]; rfl
theorem okK : EntOk eK ∧ eK.tag.seq ≠ 0 := by decide
theorem okJ : EntOk eJ ∧ eJ.tag.seq ≠ 0 := by decide
theorem new0 : newT R0 = T0 := rfl
theorem fits0 (t u : Int) (e : Entry) (h : e = eK ∨ e = eJ) : fits ⟨R0, [], [t], u⟩ e = true := by
  rcases h with rfl | rfl <;> rfl
theorem s1 : storeT T0 eK = T1 ∧ storeE T0 eK = 0 := by
  have hv : vict T0 eK = ([], true) := by
    unfold vict victF
    rw [if_pos (show fits T0 eK = true from fits0 0 0 eK (.inl rfl))]
  have hE : makeE T0 eK = 0 := by unfold makeE; rw [hv]; rfl
  have hT : makeT T0 eK = T0 := by unfold makeT; rw [hv]; rfl
  have hO : storeOld T0 eK = none := rfl
  have hW : wholeT T0 eK.key = true := by
    show (tokAt T0 eK.key == 0) = true
    rw [show tokAt T0 eK.key = 0 from tok0 _ _ _ _]; rfl
  unfold storeT storeE
  rw [if_pos okK, if_pos okK, hO]
  dsimp only
  rw [hE, if_pos rfl, hT, hW]
  exact ⟨rfl, rfl⟩
theorem s2 : storeT T1 eJ = T1 ∧ storeE T1 eJ = 30 := by
  have hf : find T1.l jB = none := by simp [find, T1, eK, kj]
  have hn : newL T1 eJ = [⟨eJ, false, false, 0⟩, ⟨eK, true, false, 1⟩] := by
    simp only [newL, T1, put]
    rw [if_neg (by exact kj), if_pos (by decide)]
  have hv : vict T1 eJ = ([], false) := by
    have h1 : fits T1 eJ = false := by
      unfold fits; rw [hn]; rfl
    have h2 : pick T1.l eJ.key = none := rfl
    show victF 2 T1 eJ = _
    unfold victF
    rw [if_neg (by rw [h1]; decide), h2]
  have hE : makeE T1 eJ = 30 := by unfold makeE; rw [hv]; rfl
  have hO : storeOld T1 eJ = none := by unfold storeOld; rw [show find T1.l eJ.key = none from hf]; rfl
  unfold storeT storeE
  rw [if_pos okJ, if_pos okJ, hO]
  dsimp only
  rw [hE]
  exact ⟨rfl, rfl⟩
theorem c1 : cleanT T1 kB ⟨1, 0, 0⟩ = T2 ∧ cleanOn T1 kB ⟨1, 0, 0⟩ = some ⟨eK, true, false, 1⟩ := by
  have hf : find T1.l kB = some ⟨eK, true, false, 1⟩ := by simp [find, T1, eK]
  have ho : cleanOn T1 kB ⟨1, 0, 0⟩ = some ⟨eK, true, false, 1⟩ := by
    unfold cleanOn; rw [hf]; rfl
  refine ⟨?_, ho⟩
  unfold cleanT
  rw [ho]
  simp [T1, T2, put]
theorem s3 : storeT T2 eJ = T3 ∧ storeE T2 eJ = 0 := by
  have hf : find T2.l jB = none := by simp [find, T2, eK, kj]
  have hn : newL T2 eJ = [⟨eJ, false, false, 0⟩, ⟨eK, true, true, 1⟩] := by
    simp only [newL, T2, put]
    rw [if_neg (by exact kj), if_pos (by decide)]
  have hd : drop T2 kB = ⟨R0, [], [1], 1⟩ := by
    show drop ⟨R0, _, [0], 1⟩ kB = _
    rw [drop0]
    simp [del, eK]
  have hv : vict T2 eJ = ([kB], true) := by
    have h1 : fits T2 eJ = false := by
      unfold fits; rw [hn]; rfl
    have h2 : pick T2.l eJ.key = some ⟨eK, true, true, 1⟩ := by
      simp [pick, T2, cand, eK, eJ, kj, least]
    show victF 2 T2 eJ = _
    unfold victF
    rw [if_neg (by rw [h1]; decide), h2]
    dsimp only
    rw [show drop T2 eK.key = ⟨R0, [], [1], 1⟩ from hd]
    unfold victF
    rw [if_pos (fits0 1 1 eJ (.inr rfl))]
    rfl
  have hE : makeE T2 eJ = 0 := by unfold makeE; rw [hv]; rfl
  have hT : makeT T2 eJ = ⟨R0, [], [1], 1⟩ := by
    unfold makeT; rw [hv]; exact hd
  have hO : storeOld T2 eJ = none := by unfold storeOld; rw [show find T2.l eJ.key = none from hf]; rfl
  have hW : wholeT T2 eJ.key = true := by
    unfold wholeT
    rw [show find T2.l eJ.key = none from hf]
    show (tokAt T2 eJ.key == 0) = true
    rw [show tokAt T2 eJ.key = 0 from tok0 _ _ _ _]; rfl
  unfold storeT storeE
  rw [if_pos okJ, if_pos okJ, hO]
  dsimp only
  rw [hE, if_pos rfl, hT, hW]
  exact ⟨rfl, rfl⟩
theorem q1 : queryR T3 kB = ⟨⟨kB, Tag.z, Val.z⟩, false, 1⟩ ∧ queryE kB = 0 := by
  have hf : find T3.l kB = none := by simp [find, T3, eJ, jk]
  have ht : tokAt T3 kB = 1 := tok0 _ _ _ _
  have hk : KeyOk kB := by decide
  unfold queryR queryE
  rw [if_pos hk, if_pos hk, hf, ht]
  exact ⟨rfl, rfl⟩
theorem num (l : List Cell) (t u : Int) (ht : 0 ≤ t ∧ t ≤ 9) (hu : 0 ≤ u ∧ u ≤ 9) (hl : l = [] ∨ ∃ c, l = [c] ∧ c.e.key.size ≤ 9 ∧ c.e.val.b.length ≤ 9 ∧ 1 ≤ c.used) : Num ⟨R0, l, [t], u⟩ 9 := by
  refine ⟨by omega, ⟨by show (1 : Int) ≤ 1; omega, by show (1 : Int) ≤ 65536; omega⟩, rfl, ?_, ?_, ?_, ?_, by dsimp only; omega, ?_, ?_⟩
  · intro x hx; simp at hx; omega
  all_goals
    rcases hl with rfl | ⟨c, rfl, h1, h2, h3⟩
    · simp [szs, Own1]
    · simp [szs, Own1, csz]; try omega
end Kn
end Tab
end Go.Proofs.Ytgfjkpnaabiecaa
set_option linter.unusedVariables false
set_option linter.unusedSimpArgs false
namespace Go.Proofs.Ytgfjkpnaabiecaa
open Go.RowKit Go.Proofs.YtgfjkpnaabiecaaW.PrintWords
namespace Tab
open Tags
/-- A table that was made since w. -/
def KS (w : World) (p mb tb : Nat) (T : Tb) (w' : World) : Prop := TbR w' p mb tb T ∧ Below w.heap.size w w' ∧ w.heap.size ≤ p ∧ w.heap.size ≤ mb ∧ w.heap.size ≤ tb
theorem KS.below {w w1 w2 : World} {p mb tb : Nat} {T : Tb} (h : KS w p mb tb T w1) (k : Below w1.heap.size w1 w2) : KS w p mb tb T w2 := ⟨h.1.below k, Below.then_ h.2.1 k (Nat.le_refl _), h.2.2⟩
theorem KS.told {w w1 w2 : World} {p mb tb : Nat} {T T' : Tb} (h : KS w p mb tb T w1) (h1 : TbR w2 p mb tb T') (o : Only [p, mb, tb] w1 w2) : KS w p mb tb T' w2 :=
  ⟨h1, ((Only.of_below [p, mb, tb] h.2.1).trans o).below (by intro i hi; obtain ⟨g1, g2, g3⟩ := h.2.2; simp at hi; rcases hi with rfl | rfl | rfl <;> assumption) (Nat.le_refl _), h.2.2⟩
namespace Kn
theorem one64 : InR .i64 1 := InR.mk64 (by decide) (by decide)
theorem fk (w : World) (ok : Nat → Prop) (k : ByteArray) (hk : k.size ≤ 9) : Kd.FK Entry.k w ok ⟨k, ⟨1, 0, 0⟩, ⟨false, []⟩⟩ [.string k, .int .i64 1, .int .i64 0, .int .i64 0, .bool false, .slice none 0 0] :=
  fun W' _ => Entry.mk_ W' ⟨k, ⟨1, 0, 0⟩, ⟨false, []⟩⟩ (by dsimp only; omega) one64 izr izr (Nat.le_refl _) (Kd.C_nil _ _)
theorem n0 : Num T0 9 := num [] 0 0 (by omega) (by omega) (.inl rfl)
theorem n1 : Num T1 9 := num _ 0 1 (by omega) (by omega) (.inr ⟨_, rfl, by decide, by decide, by decide⟩)
theorem n2 : Num T2 9 := num _ 0 1 (by omega) (by omega) (.inr ⟨_, rfl, by decide, by decide, by decide⟩)
theorem n3 : Num T3 9 := num _ 1 2 (by omega) (by omega) (.inr ⟨_, rfl, by decide, by decide, by decide⟩)
theorem new_c (w : World) : Calls Try.prog 10 #[.agg #[.int .i64 1, .int .i64 99, .int .i64 1, .bool true]] w fun e w' => ∃ p mb tb, e = .returned (.tuple #[.pointer (some ⟨p, 0, none⟩), .int .i64 0]) ∧ KS w p mb tb T0 w' := by
  refine (new_calls R0 w).mono ?_
  intro e w' h
  unfold NewTold at h
  rw [if_pos (by decide)] at h
  obtain ⟨p, mb, tb, rfl, h1, h2, h3, h4, h5⟩ := h
  exact ⟨p, mb, tb, rfl, h1, h5, h2, h3, h4⟩
theorem st1 {w w1 : World} {p mb tb : Nat} (h : KS w p mb tb T0 w1) : Calls Try.prog 13 #[.pointer (some ⟨p, 0, none⟩), .agg #[.string ⟨#[107]⟩, .int .i64 1, .int .i64 0, .int .i64 0, .bool false, .slice none 0 0]] w1 fun e w' => e = .returned (.int .i64 0) ∧ KS w p mb tb T1 w' := by
  refine (store_calls p mb tb T0 eK none 0 9 w1 h.1 n0 (by omega) (fk _ _ kB (by decide)) (by decide)).mono ?_
  rintro e w' ⟨rfl, h1, h2⟩
  rw [s1.1] at h1
  rw [s1.2]
  exact ⟨rfl, h.told h1 h2⟩
theorem st2 {w w1 : World} {p mb tb : Nat} (h : KS w p mb tb T1 w1) : Calls Try.prog 13 #[.pointer (some ⟨p, 0, none⟩), .agg #[.string ⟨#[106]⟩, .int .i64 1, .int .i64 0, .int .i64 0, .bool false, .slice none 0 0]] w1 fun e w' => e = .returned (.int .i64 30) ∧ KS w p mb tb T1 w' := by
  refine (store_calls p mb tb T1 eJ none 0 9 w1 h.1 n1 (by omega) (fk _ _ jB (by decide)) (by decide)).mono ?_
  rintro e w' ⟨rfl, h1, h2⟩
  rw [s2.1] at h1
  rw [s2.2]
  exact ⟨rfl, h.told h1 h2⟩
theorem st3 {w w1 : World} {p mb tb : Nat} (h : KS w p mb tb T2 w1) : Calls Try.prog 13 #[.pointer (some ⟨p, 0, none⟩), .agg #[.string ⟨#[106]⟩, .int .i64 1, .int .i64 0, .int .i64 0, .bool false, .slice none 0 0]] w1 fun e w' => e = .returned (.int .i64 0) ∧ KS w p mb tb T3 w' := by
  refine (store_calls p mb tb T2 eJ none 0 9 w1 h.1 n2 (by omega) (fk _ _ jB (by decide)) (by decide)).mono ?_
  rintro e w' ⟨rfl, h1, h2⟩
  rw [s3.1] at h1
  rw [s3.2]
  exact ⟨rfl, h.told h1 h2⟩
theorem cl1 {w w1 : World} {p mb tb : Nat} (h : KS w p mb tb T1 w1) : Calls Try.prog 18 #[.pointer (some ⟨p, 0, none⟩), .string ⟨#[107]⟩, .agg #[.int .i64 1, .int .i64 0, .int .i64 0]] w1 fun e w' => e = .returned (.bool true) ∧ KS w p mb tb T2 w' := by
  refine (clean_calls p mb tb T1 kB 1 0 0 w1 h.1 (by decide)).mono ?_
  rintro e w' ⟨rfl, h1, h2⟩
  rw [c1.1] at h1
  rw [c1.2]
  exact ⟨rfl, h.told h1 h2⟩
theorem qu1 {w w1 : World} {p mb tb : Nat} (h : KS w p mb tb T3 w1) : Calls Try.prog 21 #[.pointer (some ⟨p, 0, none⟩), .string ⟨#[107]⟩] w1 fun e w' => ∃ A c, e = .returned (.tuple #[.agg #[.string ⟨#[107]⟩, .int .i64 0, .int .i64 0, .int .i64 0, .bool false, .slice A 0 c, .bool false, .int .i64 1], .int .i64 0]) ∧ Below w.heap.size w w' := by
  refine (query_calls p mb tb T3 kB 9 w1 h.1 n3 (by omega) (by decide)).mono ?_
  rintro e w' ⟨cs, rfl, h1, h2, h3⟩
  rw [q1.1] at h1
  rw [q1.2]
  obtain ⟨A, c, he, _⟩ := Reply.open_ h1.now
  refine ⟨A, c, ?_, (h.told h2 h3).2.1⟩
  have : cs = cs.toList.toArray := by simp
  rw [this, he]
  rfl
end Kn
theorem store_nil2 (w : World) : Calls Try.prog 13 #[.pointer none, .agg #[.string ⟨#[]⟩, .int .i64 0, .int .i64 0, .int .i64 0, .bool false, .slice none 0 0]] w fun e w' => e = .returned (.int .i64 1) ∧ Below w.heap.size w w' := store_nil w
set_option maxRecDepth 100000 in
set_option maxHeartbeats 1000000 in
theorem known_true (w : World) : Calls Try.prog 12 #[] w fun e w' => e = .returned (.bool true) ∧ Below w.heap.size w w' := by
  go_enter Try.func12, Try.ntmps12
  go_wp2_with (first
    | ((with_reducible refine (Kn.new_c _).mono ?_); rintro e w1 ⟨p, mb, tb, rfl, h⟩; have HK := Aside0.mk h; clear h)
    | ((with_reducible refine (ent_calls _ _ _).mono ?_); rintro e w1 ⟨rfl, h⟩; have HK := Aside0.mk (KS.below HK.out h); clear h)
    | ((with_reducible refine (Kn.st1 HK.out).mono ?_); rintro e w1 ⟨rfl, h⟩; have HK := Aside0.mk h; clear h)
    | ((with_reducible refine (Kn.st2 HK.out).mono ?_); rintro e w1 ⟨rfl, h⟩; have HK := Aside0.mk h; clear h)
    | ((with_reducible refine (Kn.st3 HK.out).mono ?_); rintro e w1 ⟨rfl, h⟩; have HK := Aside0.mk h; clear h)
    | ((with_reducible refine (Kn.cl1 HK.out).mono ?_); rintro e w1 ⟨rfl, h⟩; have HK := Aside0.mk h; clear h)
    | ((with_reducible refine (Kn.qu1 HK.out).mono ?_); rintro e w1 ⟨A, c, rfl, h⟩; have HQ := Aside0.mk h; clear h)
    | ((with_reducible refine (store_nil2 _).mono ?_); rintro e w1 ⟨rfl, h⟩; have HE := Aside0.mk h; clear h))
  go_ret
  exact ⟨rfl, Below.then_ (below_alloc HQ.out _) HE.out (Nat.le_refl _)⟩
end Tab
end Go.Proofs.Ytgfjkpnaabiecaa
set_option linter.unusedVariables false
set_option linter.unusedSimpArgs false
namespace Go.Proofs.Ytgfjkpnaabiecaa
open Go.RowKit Go.Proofs.YtgfjkpnaabiecaaW.PrintWords
namespace Tab
open Tags
structure Wf (T : Tb) (n : Int) : Prop where
  rm : RoomOk T.room
  srt : Srt T.l
  tl : T.room.buckets = T.tok.length
  tk : TokOk T n
  ent : ∀ c ∈ T.l, EntOk c.e
  len : (T.l.length : Int) ≤ T.room.cells
  sz : ((szs T.l : Nat) : Int) ≤ T.room.bytes
  us : 0 ≤ T.uses ∧ T.uses ≤ n
  u1 : ∀ c ∈ T.l, 1 ≤ c.used ∧ c.used ≤ T.uses
  ow : Own1 T.l
namespace Wf
variable {T : Tb} {n m : Int}
theorem pos (h : Wf T n) : 0 ≤ n := by have := h.us; omega
theorem num (h : Wf T n) (hn : n ≤ 4000000000000000000) : Num T n := by
  obtain ⟨r1, r2, r3, r4, r5, r6⟩ := h.rm
  refine ⟨⟨h.pos, hn⟩, ⟨r5, by omega⟩, h.tl, h.tk, by have := h.len; omega, by have := h.sz; omega, fun c hc => ?_, h.us, fun c hc => (h.u1 c hc).1, h.ow⟩
  obtain ⟨e1, e2, e3, _⟩ := h.ent c hc
  exact ⟨by omega, by omega⟩
theorem mono (h : Wf T n) (hm : n ≤ m) : Wf T m := { h with tk := fun x hx => by have := h.tk x hx; omega, us := by have := h.us; omega }
theorem new_ {r : Room} (h : RoomOk r) : Wf (newT r) 1 := by
  obtain ⟨r1, r2, r3, r4, r5, r6⟩ := h
  refine ⟨⟨r1, r2, r3, r4, r5, r6⟩, List.Pairwise.nil, ?_, ?_, fun c hc => by simp [newT] at hc, by show (0 : Int) ≤ r.cells; omega, by show (0 : Int) ≤ r.bytes; omega, by show (0 : Int) ≤ 0 ∧ (0 : Int) ≤ 1; omega, fun c hc => by simp [newT] at hc, List.Pairwise.nil⟩
  · show r.buckets = ((List.replicate r.buckets.toNat _).length : Int)
    rw [List.length_replicate]; omega
  · intro x hx
    have : x = if r.fresh = true then 0 else 1 := (List.mem_replicate.1 hx).2
    rw [this]; split <;> omega
theorem lay_ (h : Wf T n) {c : Cell} (he : EntOk c.e) (hl : ((put T.l c).length : Int) ≤ T.room.cells) (hz : ((szs (put T.l c) : Nat) : Int) ≤ T.room.bytes) : Wf (lay T c) (n + 1) := by
  have hp := put_perm (l := T.l) (c := { c with used := T.uses + 1 }) h.srt
  have hs1 : szs (put T.l { c with used := T.uses + 1 }) = szs (put T.l c) := by rw [szs_put _ h.srt, szs_put _ h.srt]
  have hl1 : (put T.l { c with used := T.uses + 1 }).length = (put T.l c).length := by rw [len_put _ h.srt, len_put _ h.srt]
  have hu := h.us
  refine ⟨h.rm, srt_put h.srt, h.tl, fun x hx => by have := h.tk x hx; omega, fun x hx => ?_, by show ((put T.l _).length : Int) ≤ _; rw [hl1]; exact hl, by show ((szs (put T.l _) : Nat) : Int) ≤ _; rw [hs1]; exact hz, by show 0 ≤ T.uses + 1 ∧ T.uses + 1 ≤ n + 1; omega, fun x hx => ?_, ?_⟩
  · rcases (mem_put h.srt).1 hx with rfl | ⟨hx, _⟩
    · exact he
    · exact h.ent x hx
  · show 1 ≤ x.used ∧ x.used ≤ T.uses + 1
    rcases (mem_put h.srt).1 hx with rfl | ⟨hx, _⟩
    · dsimp only; omega
    · have := h.u1 x hx; omega
  · refine own1_perm ?_ hp.symm
    refine List.pairwise_cons.2 ⟨fun d hd => ?_, List.Pairwise.sublist List.filter_sublist h.ow⟩
    have := h.u1 d (mem_del.1 hd).1
    show T.uses + 1 ≠ d.used
    omega
theorem put_same {l : List Cell} (hs : Srt l) {c d : Cell} (hf : find l c.e.key = some c) (hd : d.e = c.e) : (put l d).length = l.length ∧ szs (put l d) = szs l := by
  refine ⟨?_, szs_same hs hf hd⟩
  rw [len_put _ hs, hd]
  have := (del_perm hs hf).length_eq
  rw [this, List.length_cons]
theorem lay_old (h : Wf T n) {c d : Cell} (hf : find T.l c.e.key = some c) (hd : d.e = c.e) : Wf (lay T d) (n + 1) := by
  obtain ⟨h1, h2⟩ := put_same h.srt hf hd
  exact h.lay_ (by rw [hd]; exact h.ent c (find_mem hf).1) (by rw [h1]; exact h.len) (by rw [h2]; exact h.sz)
theorem drop_ (h : Wf T n) (k : ByteArray) : Wf (drop T k) (n + 1) := by
  have hsub : List.Sublist (del T.l k) T.l := List.filter_sublist
  refine ⟨h.rm, srt_del k h.srt, by show T.room.buckets = ((bump T.tok (Hash.bkt k T.room.buckets).toNat).length : Int); rw [bump_len]; exact h.tl, tok_bump h.tk h.pos _, fun c hc => h.ent c (mem_del.1 hc).1, ?_, ?_, by show 0 ≤ T.uses ∧ T.uses ≤ n + 1; have := h.us; omega, fun c hc => h.u1 c (mem_del.1 hc).1, List.Pairwise.sublist hsub h.ow⟩
  · show ((del T.l k).length : Int) ≤ T.room.cells
    have := hsub.length_le; have := h.len; omega
  · show ((szs (del T.l k) : Nat) : Int) ≤ T.room.bytes
    have h1 : szs (del T.l k) ≤ szs T.l := szs_filter _ _
    have := h.sz; omega
theorem drops_ (h : Wf T n) (out : List ByteArray) : Wf (drops T out) (n + out.length) := by
  induction out generalizing T n with
  | nil => exact h.mono (by simp)
  | cons k r ih => exact (ih (h.drop_ k)).mono (by rw [List.length_cons]; omega)
theorem victF_fits (e : Entry) : ∀ (f : Nat) (T : Tb), T.l.length < f → Srt T.l → (victF f T e).2 = true → fits (drops T (victF f T e).1) e = true
  | 0, T, hl, _, _ => absurd hl (by omega)
  | f + 1, T, hl, hs, hv => by
    unfold victF at hv ⊢
    by_cases hf : fits T e = true
    · rw [if_pos hf]; exact hf
    · rw [if_neg hf] at hv ⊢
      cases hp : pick T.l e.key with
      | none => rw [hp] at hv; cases hv
      | some c =>
        rw [hp] at hv
        dsimp only at hv ⊢
        exact victF_fits e f (drop T c.e.key) (by have := len_drop hs (pick_mem hp).1; omega) (srt_drop _ hs) hv
theorem make_ (h : Wf T n) {e : Entry} (he : EntOk e) (h0 : makeE T e = 0) (x y : Bool) (u : Int) :
    Wf (makeT T e) (n + 4096) ∧ ((put (makeT T e).l ⟨e, x, y, u⟩).length : Int) ≤ (makeT T e).room.cells ∧ ((szs (put (makeT T e).l ⟨e, x, y, u⟩) : Nat) : Int) ≤ (makeT T e).room.bytes := by
  have hv : (vict T e).2 = true := by unfold makeE at h0; cases hb : (vict T e).2 <;> simp [hb] at h0 ⊢
  have hT : makeT T e = drops T (vict T e).1 := by unfold makeT; rw [if_pos hv]
  have hl := (vict_len (T := T) e h.srt).1
  have hlen := h.len
  have hrm := h.rm.2.1
  have hw : Wf (makeT T e) (n + 4096) := by rw [hT]; exact (h.drops_ _).mono (by omega)
  have hf := victF_fits e _ T (Nat.lt_succ_self _) h.srt hv
  rw [show victF (T.l.length + 1) T e = vict T e from rfl, ← hT] at hf
  have hf2 := fits_iff.1 hf
  unfold newL at hf2
  have hs := hw.srt
  refine ⟨hw, ?_, ?_⟩
  · rw [len_put _ hs]; rw [len_put _ hs] at hf2; exact hf2.1
  · rw [szs_put _ hs]; rw [szs_put _ hs] at hf2; exact hf2.2
theorem store_ (h : Wf T n) (e : Entry) : Wf (storeT T e) (n + 5000) := by
  unfold storeT
  split
  · rename_i ho
    split
    · rename_i c hc
      unfold storeOld at hc
      obtain ⟨d, hd, hc⟩ := Option.bind_eq_some_iff.1 hc
      split at hc
      · injection hc with hc
        subst hc
        exact (h.lay_old (c := d) (by rw [(find_mem hd).2]; exact hd) rfl).mono (by omega)
      · cases hc
    · split
      · rename_i h0
        obtain ⟨h1, h2, h3⟩ := h.make_ ho.1 h0 (wholeT T e.key) false 0
        exact (h1.lay_ ho.1 h2 h3).mono (by omega)
      · exact h.mono (by omega)
  · exact h.mono (by omega)
theorem fill_ (h : Wf T n) (e : Entry) (tk : Int) : Wf (fillT T e tk) (n + 5000) := by
  unfold fillT
  split
  · rename_i ho
    split
    · rename_i c hc
      unfold fillOld at hc
      obtain ⟨d, hd, hc⟩ := Option.bind_eq_some_iff.1 hc
      split at hc
      · injection hc with hc
        subst hc
        exact (h.lay_old (c := d) (d := { d with whole := true }) (by rw [(find_mem hd).2]; exact hd) rfl).mono (by omega)
      · cases hc
    · split
      · rename_i h0
        obtain ⟨h1, h2, h3⟩ := h.make_ ho.1 h0 true true 0
        exact (h1.lay_ ho.1 h2 h3).mono (by omega)
      · exact h.mono (by omega)
  · exact h.mono (by omega)
theorem query_ (h : Wf T n) (k : ByteArray) : Wf (queryT T k) (n + 5000) := by
  unfold queryT
  split
  · split
    · rename_i c hc
      exact (h.lay_old (c := c) (by rw [(find_mem hc).2]; exact hc) rfl).mono (by omega)
    · exact h.mono (by omega)
  · exact h.mono (by omega)
theorem evict_ (h : Wf T n) (k : ByteArray) : Wf (evictT T k) (n + 5000) := by
  unfold evictT
  split
  · exact (h.drop_ k).mono (by omega)
  · exact h.mono (by omega)
theorem forget_ (h : Wf T n) : Wf (forgetT T) (n + 5000) := by
  refine ⟨h.rm, srt_off h.srt, by show T.room.buckets = ((T.tok.map (· + 1)).length : Int); rw [List.length_map]; exact h.tl, fun x hx => ?_, fun c hc => ?_, by show ((T.l.map off).length : Int) ≤ _; rw [List.length_map]; exact h.len, by show ((szs (T.l.map off) : Nat) : Int) ≤ _; rw [szs_off]; exact h.sz, by show 0 ≤ T.uses ∧ T.uses ≤ n + 5000; have := h.us; omega, fun c hc => ?_, ?_⟩
  · obtain ⟨y, hy, rfl⟩ := List.mem_map.1 hx
    have := h.tk y hy; omega
  · obtain ⟨d, hd, rfl⟩ := List.mem_map.1 hc
    exact h.ent d hd
  · obtain ⟨d, hd, rfl⟩ := List.mem_map.1 hc
    exact h.u1 d hd
  · show Own1 (T.l.map off)
    unfold Own1
    rw [List.pairwise_map]
    exact h.ow
theorem clean_ (h : Wf T n) (k : ByteArray) (t : Tag) : Wf (cleanT T k t) n := by
  unfold cleanT
  split
  · rename_i c hc
    unfold cleanOn at hc
    obtain ⟨d, hd, hc⟩ := Option.bind_eq_some_iff.1 hc
    split at hc
    · cases hc
    · injection hc with hc
      subst hc
      have hf : find T.l d.e.key = some d := by rw [(find_mem hd).2]; exact hd
      obtain ⟨h1, h2⟩ := put_same (d := { d with clean := true }) h.srt hf rfl
      have hdm := (find_mem hd).1
      refine ⟨h.rm, srt_put h.srt, h.tl, h.tk, fun x hx => ?_, by show ((put T.l _).length : Int) ≤ _; rw [h1]; exact h.len, by show ((szs (put T.l _) : Nat) : Int) ≤ _; rw [h2]; exact h.sz, by show 0 ≤ T.uses ∧ T.uses ≤ n; have := h.us; omega, fun x hx => ?_, ?_⟩
      · rcases (mem_put h.srt).1 hx with rfl | ⟨hx, _⟩
        · exact h.ent d hdm
        · exact h.ent x hx
      · rcases (mem_put h.srt).1 hx with rfl | ⟨hx, _⟩
        · exact h.u1 d hdm
        · exact h.u1 x hx
      · refine own1_perm ?_ (put_perm h.srt).symm
        refine List.pairwise_cons.2 ⟨fun x hx => ?_, List.Pairwise.sublist List.filter_sublist h.ow⟩
        intro e
        have hx' := mem_del.1 hx
        have := own1_eq h.ow hdm hx'.1 e
        exact hx'.2 (by rw [← this])
  · exact h
end Wf
end Tab
end Go.Proofs.Ytgfjkpnaabiecaa
namespace Go.Proofs
open Go.Shelf
def Try.cloneI_ren : Go.Shelf.Ren := ⟨fun | 15 => 48 | n => n, fun | 22 => 64 | 3 => 3 | 4 => 4 | n => n, fun | n => n⟩
theorem Try.cloneI : Go.Proofs.Lays2.n15 Try.prog Try.cloneI_ren := {
  mixed := by kernel_rfl
  f15 := Try.func48.trans (congrArg some (by kernel_rfl))
  t3 := Try.underlying3
  a3 := Try.isAgg3
  z3 := Try.sizeOf3
  v3 := Try.zeroValue3
  t4 := Try.underlying4
  a4 := Try.isAgg4
  z4 := Try.sizeOf4
  v4 := Try.zeroValue4
  t22 := Try.underlying64
  a22 := Try.isAgg64
  z22 := Try.sizeOf64
  v22 := Try.zeroValue64
  i3 := by kernel_rfl }
def Try.cloneM_ren : Go.Shelf.Ren := ⟨fun | 5 => 56 | 7 => 73 | n => n, fun | 23 => 81 | 25 => 9 | 3 => 47 | 4 => 4 | 20 => 20 | n => n, fun | n => n⟩
theorem Try.cloneM : Go.Proofs.SlLaysW.n5 Try.prog Try.cloneM_ren := {
  mixed := by kernel_rfl
  f5 := ⟨Try.f56.name, by decide, Try.func56.trans (congrArg some (by kernel_rfl))⟩
  f7 := Try.func73.trans (congrArg some (by kernel_rfl))
  t4 := Try.underlying4
  a4 := Try.isAgg4
  z4 := Try.sizeOf4
  v4 := Try.zeroValue4
  t20 := Try.underlying20
  a20 := Try.isAgg20
  z20 := Try.sizeOf20
  v20 := Try.zeroValue20
  t23 := Try.underlying81
  a23 := Try.isAgg81
  z23 := Try.sizeOf81
  v23 := Try.zeroValue81 }
end Go.Proofs
set_option linter.unusedVariables false
set_option linter.unusedSimpArgs false
namespace Go.Proofs.Ytgfjkpnaabiecaa
open Go.RowKit Go.Proofs.YtgfjkpnaabiecaaW.PrintWords
namespace Cmp
/-- True, and nothing that was there has turned. -/
def Yes (w : World) (e : Ending) (w' : World) : Prop := e = .returned (.bool true) ∧ Below w.heap.size w w'
set_option maxRecDepth 100000 in
theorem sameVal_refl (v : Val) (A B : Option Addr) (c d : Nat) (w : World) (ha : kU8.C w A v.b.length v.b) (hb : kU8.C w B v.b.length v.b) :
    Calls Try.prog 47 #[.agg #[.bool v.has, .slice A v.b.length c], .agg #[.bool v.has, .slice B v.b.length d]] w (Yes w) := by
  have HA := Aside0.mk ha
  have HB := Aside0.mk hb
  have hl : v.b.length ≤ 9223372036854775807 := ha.2.1
  obtain ⟨h, b⟩ := v
  dsimp only at *
  clear ha hb
  cases h with
  | false =>
    go_enter Try.func47, Try.ntmps47
    go_wp2
    go_ret
    exact ⟨rfl, below_alloc (below_alloc (Below.refl _ _) _) _⟩
  | true =>
    go_enter Try.func47, Try.ntmps47
    go_upto_region 8 with (fail)
    obtain ⟨W0, hW0⟩ : ∃ W, W = (w.alloc (.cells #[.bool true, .slice A b.length c] 35)).alloc (.cells #[.bool true, .slice B b.length d] 35) := ⟨_, rfl⟩
    rw [← hW0]
    have HW : Aside0 (Below w.heap.size w W0) := ⟨by rw [hW0]; exact below_alloc (below_alloc (Below.refl _ _) _) _⟩
    have hx : Blk W0 w.heap.size [.bool true, .slice A b.length c] := by rw [hW0]; exact (Blk.new_ w _ _ rfl rfl).alloc _
    have hy : Blk W0 (w.heap.size + 1) [.bool true, .slice B b.length d] := by rw [hW0]; exact Blk.new_ _ _ _ (by simp) rfl
    have HA : Aside0 (kU8.C W0 A b.length b) := ⟨Kd.C_below HA.out HW.out⟩
    have HB : Aside0 (kU8.C W0 B b.length b) := ⟨Kd.C_below HB.out HW.out⟩
    have x1 := hx.cell 1 rfl
    have y1 := hy.cell 1 rfl
    clear hx hy hW0
    go_loopg [5] b.length (fun gk v wr => ∃ k : Nat, v = .int .i64 (k : Int) ∧ k ≤ b.length ∧ Aside0 (gk + k = b.length) ∧ Aside0 (Below W0.heap.size W0 wr))
    case atStart => exact ⟨0, rfl, Nat.zero_le _, ⟨rfl⟩, ⟨Below.refl _ _⟩⟩
    case round =>
      obtain ⟨k, rfl, hk, HG, HR⟩ := hrel
      have x1 := pw_cell_below HR.out x1
      have y1 := pw_cell_below HR.out y1
      by_cases hlt : k < b.length
      · obtain ⟨a1, u, rfl, HU, z⟩ := Hash.u8_at (Kd.C_below HA.out HR.out) k hlt
        obtain ⟨a2, u', rfl, HU', z'⟩ := Hash.u8_at (Kd.C_below HB.out HR.out) k hlt
        obtain rfl : u' = u := Option.some.inj (HU'.out.symm.trans HU.out)
        have hltI : (k : Int) < (b.length : Int) := by omega
        go_upto_region 10 with (fail)
        go_quiet (fail)
        go_wp2
        go_roundg (b.length - (k + 1))
        case measure => have := HG.out; omega
        case rel => exact ⟨k + 1, by go_num, by omega, ⟨by omega⟩, ⟨pw_below_drewN HR.out _⟩⟩
      · obtain rfl : k = b.length := by omega
        go_wp2
        go_ret
        exact ⟨rfl, Below.then_ HW.out HR.out (Nat.le_refl _)⟩
theorem txt_refl (a : ByteArray) : (a.toList == a.toList) = true := by simp
set_option maxRecDepth 100000 in
theorem same_refl (e : Entry) (A B : Option Addr) (c d : Nat) (w : World) (ha : kU8.C w A e.val.b.length e.val.b) (hb : kU8.C w B e.val.b.length e.val.b) :
    Calls Try.prog 25 #[.agg #[.string e.key, .int .i64 e.tag.seq, .int .i64 e.tag.who, .int .i64 e.tag.op, .bool e.val.has, .slice A e.val.b.length c], .agg #[.string e.key, .int .i64 e.tag.seq, .int .i64 e.tag.who, .int .i64 e.tag.op, .bool e.val.has, .slice B e.val.b.length d]] w (Yes w) := by
  have HC := Aside0.mk (fun w' (hb' : Below w.heap.size w w') => sameVal_refl e.val A B c d w' (Kd.C_below ha hb') (Kd.C_below hb hb'))
  obtain ⟨k, ⟨s1, s2, s3⟩, ⟨h, b⟩⟩ := e
  dsimp only at *
  clear ha hb
  have hk := txt_refl k
  go_enter Try.func25, Try.ntmps25
  go_wp2_with (first | ((with_reducible refine (HC.out _ (below_alloc (below_alloc (Below.refl _ _) _) _)).mono ?_); rintro e w1 ⟨rfl, h1⟩; have H1 := Aside0.mk h1; clear h1))
  go_ret
  exact ⟨rfl, Below.then_ (below_alloc (below_alloc (Below.refl _ _) _) _) H1.out (Nat.le_refl _)⟩
set_option maxRecDepth 100000 in
theorem sameReply_refl (r : Reply) (A B : Option Addr) (c d : Nat) (w : World) (ha : kU8.C w A r.e.val.b.length r.e.val.b) (hb : kU8.C w B r.e.val.b.length r.e.val.b) :
    Calls Try.prog 26 #[.agg #[.string r.e.key, .int .i64 r.e.tag.seq, .int .i64 r.e.tag.who, .int .i64 r.e.tag.op, .bool r.e.val.has, .slice A r.e.val.b.length c, .bool r.whole, .int .i64 r.token], .agg #[.string r.e.key, .int .i64 r.e.tag.seq, .int .i64 r.e.tag.who, .int .i64 r.e.tag.op, .bool r.e.val.has, .slice B r.e.val.b.length d, .bool r.whole, .int .i64 r.token]] w (Yes w) := by
  have HC := Aside0.mk (fun w' (hb' : Below w.heap.size w w') => same_refl r.e A B c d w' (Kd.C_below ha hb') (Kd.C_below hb hb'))
  obtain ⟨⟨k, ⟨s1, s2, s3⟩, ⟨h, b⟩⟩, x, t⟩ := r
  dsimp only at *
  clear ha hb
  go_enter Try.func26, Try.ntmps26
  go_upto_region 1 with (fail)
  obtain ⟨W0, hW0⟩ : ∃ W, W = (w.alloc (.cells #[.string k, .int .i64 s1, .int .i64 s2, .int .i64 s3, .bool h, .slice A b.length c, .bool x, .int .i64 t] 52)).alloc (.cells #[.string k, .int .i64 s1, .int .i64 s2, .int .i64 s3, .bool h, .slice B b.length d, .bool x, .int .i64 t] 52) := ⟨_, rfl⟩
  rw [← hW0]
  have HW : Aside0 (Below w.heap.size w W0) := ⟨by rw [hW0]; exact below_alloc (below_alloc (Below.refl _ _) _) _⟩
  have hx : Blk W0 w.heap.size [.string k, .int .i64 s1, .int .i64 s2, .int .i64 s3, .bool h, .slice A b.length c, .bool x, .int .i64 t] := by rw [hW0]; exact (Blk.new_ w _ _ rfl rfl).alloc _
  have hy : Blk W0 (w.heap.size + 1) [.string k, .int .i64 s1, .int .i64 s2, .int .i64 s3, .bool h, .slice B b.length d, .bool x, .int .i64 t] := by rw [hW0]; exact Blk.new_ _ _ _ (by simp) rfl
  have HXY := Aside0.mk (And.intro hx hy)
  obtain ⟨⟨x0, x1, x2, x3, x4, x5, x6, x7⟩, _⟩ := hx.eight
  obtain ⟨⟨y0, y1, y2, y3, y4, y5, y6, y7⟩, _⟩ := hy.eight
  clear hx hy hW0
  go_wp2_with (first | ((with_reducible refine (HC.out _ HW.out).mono ?_); rintro e w1 ⟨rfl, h1⟩; have H1 := Aside0.mk h1; obtain ⟨⟨_, _, _, _, _, _, x6, x7⟩, _⟩ := (HXY.out.1.on h1).eight; obtain ⟨⟨_, _, _, _, _, _, y6, y7⟩, _⟩ := (HXY.out.2.on h1).eight; clear h1))
  go_ret
  exact ⟨rfl, Below.then_ HW.out H1.out (Nat.le_refl _)⟩
end Cmp
end Go.Proofs.Ytgfjkpnaabiecaa
set_option linter.unusedVariables false
set_option linter.unusedSimpArgs false
namespace Go.Proofs.Ytgfjkpnaabiecaa
open Go.RowKit Go.Proofs.YtgfjkpnaabiecaaW.PrintWords
namespace Cmp
set_option maxRecDepth 100000 in
set_option maxHeartbeats 1000000 in
theorem sameCells_refl (l : List Cell) (A B : Option Addr) (c d : Nat) (w : World) (ha : Cell.k.C w A l.length l) (hb : Cell.k.C w B l.length l) :
    Calls Try.prog 23 #[.slice A l.length c, .slice B l.length d] w (Yes w) := by
  have HA := Aside0.mk ha
  have HB := Aside0.mk hb
  have hl : l.length ≤ 9223372036854775807 := ha.2.1
  clear ha hb
  go_enter Try.func23, Try.ntmps23
  go_wp2
  go_loopg [5] l.length (fun gk v wr => ∃ k : Nat, v = .int .i64 (k : Int) ∧ k ≤ l.length ∧ Aside0 (gk + k = l.length) ∧ Aside0 (Below w.heap.size w wr))
  case atStart => exact ⟨0, rfl, Nat.zero_le _, ⟨rfl⟩, ⟨Below.refl _ _⟩⟩
  case round =>
    obtain ⟨k, rfl, hk, HG, HR⟩ := hrel
    by_cases hlt : k < l.length
    · obtain ⟨a1, u, A5, c5, rfl, HU, x0, x1, x2, x3, x4, x5, x6, x7, x8, HK⟩ := Cell.at_ (Kd.C_below HA.out HR.out) k hlt
      obtain ⟨a2, u', B5, d5, rfl, HU', y0, y1, y2, y3, y4, y5, y6, y7, y8, HK'⟩ := Cell.at_ (Kd.C_below HB.out HR.out) k hlt
      obtain rfl : u' = u := Option.some.inj (HU'.out.symm.trans HU.out)
      have hltI : (k : Int) < (l.length : Int) := by omega
      have HSM : Aside0 (∀ w', Below wr.heap.size wr w' → Calls Try.prog 25 #[.agg #[.string u'.e.key, .int .i64 u'.e.tag.seq, .int .i64 u'.e.tag.who, .int .i64 u'.e.tag.op, .bool u'.e.val.has, .slice A5 u'.e.val.b.length c5], .agg #[.string u'.e.key, .int .i64 u'.e.tag.seq, .int .i64 u'.e.tag.who, .int .i64 u'.e.tag.op, .bool u'.e.val.has, .slice B5 u'.e.val.b.length d5]] w' (Yes w')) := ⟨fun w' hb => by
        obtain ⟨A6, c6, he, _, _, _, _, _, g5, _⟩ := Cell.open_ HK.out
        obtain ⟨B6, d6, he', _, _, _, _, _, g5', _⟩ := Cell.open_ HK'.out
        simp only [List.cons.injEq, Value.slice.injEq, true_and, and_true] at he he'
        obtain ⟨rfl, rfl⟩ := he
        obtain ⟨rfl, rfl⟩ := he'
        exact same_refl u'.e A5 B5 c5 d5 w' (Kd.C_below g5 hb) (Kd.C_below g5' hb)⟩
      obtain ⟨⟨uk, ⟨t1, t2, t3⟩, ⟨uh, ub⟩⟩, uw, uc, uu⟩ := u'
      dsimp only at x0 x1 x2 x3 x4 x5 x6 x7 x8 y0 y1 y2 y3 y4 y5 y6 y7 y8 HSM
      have x0 := fun w' (h : Below wr.heap.size wr w') => pw_cell_below h x0
      have x1 := fun w' (h : Below wr.heap.size wr w') => pw_cell_below h x1
      have x2 := fun w' (h : Below wr.heap.size wr w') => pw_cell_below h x2
      have x3 := fun w' (h : Below wr.heap.size wr w') => pw_cell_below h x3
      have x4 := fun w' (h : Below wr.heap.size wr w') => pw_cell_below h x4
      have x5 := fun w' (h : Below wr.heap.size wr w') => pw_cell_below h x5
      have x6 := fun w' (h : Below wr.heap.size wr w') => pw_cell_below h x6
      have x7 := fun w' (h : Below wr.heap.size wr w') => pw_cell_below h x7
      have x8 := fun w' (h : Below wr.heap.size wr w') => pw_cell_below h x8
      have y0 := fun w' (h : Below wr.heap.size wr w') => pw_cell_below h y0
      have y1 := fun w' (h : Below wr.heap.size wr w') => pw_cell_below h y1
      have y2 := fun w' (h : Below wr.heap.size wr w') => pw_cell_below h y2
      have y3 := fun w' (h : Below wr.heap.size wr w') => pw_cell_below h y3
      have y4 := fun w' (h : Below wr.heap.size wr w') => pw_cell_below h y4
      have y5 := fun w' (h : Below wr.heap.size wr w') => pw_cell_below h y5
      have y6 := fun w' (h : Below wr.heap.size wr w') => pw_cell_below h y6
      have y7 := fun w' (h : Below wr.heap.size wr w') => pw_cell_below h y7
      have y8 := fun w' (h : Below wr.heap.size wr w') => pw_cell_below h y8
      go_upto_region 6 with (fail)
      refine wp_region_noPanic ?_
      refine wp_region_held_drew (S := Below wr.heap.size wr) (by kernel_rfl) (below_drew (Below.refl _ _)) (fun hHeld => ?_)
      (refine takeH 0 17 (v := ?_) rfl rfl (by kernel_rfl) (by kernel_rfl) (by kernel_rfl) (fun _ _ _ h => h) hHeld rfl ?_ ?_; rotate_left; (focus (intro w' hSw; go_simp; try with_reducible rfl)))
      (try simp only [Act.put, List.setIfInBounds_toArray, List.set_cons_zero, List.set_cons_succ])
      (refine takeH 1 18 (v := ?_) rfl rfl (by kernel_rfl) (by kernel_rfl) (by kernel_rfl) (fun _ _ _ h => h) hHeld rfl ?_ ?_; rotate_left; (focus (intro w' hSw; go_simp; try with_reducible rfl)))
      (try simp only [Act.put, List.setIfInBounds_toArray, List.set_cons_zero, List.set_cons_succ])
      (refine takeH 2 19 (v := ?_) rfl rfl (by kernel_rfl) (by kernel_rfl) (by kernel_rfl) (fun _ _ _ h => h) hHeld rfl ?_ ?_; rotate_left; (focus (intro w' hSw; go_simp; try with_reducible rfl)))
      (try simp only [Act.put, List.setIfInBounds_toArray, List.set_cons_zero, List.set_cons_succ])
      (refine takeH 3 20 (v := ?_) rfl rfl (by kernel_rfl) (by kernel_rfl) (by kernel_rfl) (fun _ _ _ h => h) hHeld rfl ?_ ?_; rotate_left; (focus (intro w' hSw; go_simp; try with_reducible rfl)))
      (try simp only [Act.put, List.setIfInBounds_toArray, List.set_cons_zero, List.set_cons_succ])
      (refine takeH 4 21 (v := ?_) rfl rfl (by kernel_rfl) (by kernel_rfl) (by kernel_rfl) (fun _ _ _ h => h) hHeld rfl ?_ ?_; rotate_left; (focus (intro w' hSw; go_simp; try with_reducible rfl)))
      (try simp only [Act.put, List.setIfInBounds_toArray, List.set_cons_zero, List.set_cons_succ])
      (refine takeH 5 22 (v := ?_) rfl rfl (by kernel_rfl) (by kernel_rfl) (by kernel_rfl) (fun _ _ _ h => h) hHeld rfl ?_ ?_; rotate_left; (focus (intro w' hSw; go_simp; try with_reducible rfl)))
      (try simp only [Act.put, List.setIfInBounds_toArray, List.set_cons_zero, List.set_cons_succ])
      (refine takeH 6 23 (v := ?_) rfl rfl (by kernel_rfl) (by kernel_rfl) (by kernel_rfl) (fun _ _ _ h => h) hHeld rfl ?_ ?_; rotate_left; (focus (intro w' hSw; go_simp; try with_reducible rfl)))
      (try simp only [Act.put, List.setIfInBounds_toArray, List.set_cons_zero, List.set_cons_succ])
      (refine takeH 7 24 (v := ?_) rfl rfl (by kernel_rfl) (by kernel_rfl) (by kernel_rfl) (fun _ _ _ h => h) hHeld rfl ?_ ?_; rotate_left; (focus (intro w' hSw; go_simp; try with_reducible rfl)))
      (try simp only [Act.put, List.setIfInBounds_toArray, List.set_cons_zero, List.set_cons_succ])
      (refine takeH 8 25 (v := ?_) rfl rfl (by kernel_rfl) (by kernel_rfl) (by kernel_rfl) (fun _ _ _ h => h) hHeld rfl ?_ ?_; rotate_left; (focus (intro w' hSw; go_simp; try with_reducible rfl)))
      (try simp only [Act.put, List.setIfInBounds_toArray, List.set_cons_zero, List.set_cons_succ])
      (refine takeH 9 26 (v := ?_) rfl rfl (by kernel_rfl) (by kernel_rfl) (by kernel_rfl) (fun _ _ _ h => h) hHeld rfl ?_ ?_; rotate_left; (focus (intro w' hSw; go_simp; try with_reducible rfl)))
      (try simp only [Act.put, List.setIfInBounds_toArray, List.set_cons_zero, List.set_cons_succ])
      refine wpAnyH_ready (rs := [10]) (by kernel_rfl) (by simp) ?_
      refine AllReadyH.cons rfl (fun K hK => ?_) AllReadyH.nil
      go_simp
      refine (HSM.out _ (below_drew (Below.refl _ _))).mono ?_
      rintro e w1 ⟨rfl, h1⟩
      have H1 := Aside0.mk (Below.then_ (below_drew (Below.refl wr.heap.size wr)) h1 (Nat.le_refl _))
      clear h1
      refine hK.out _ _ (H1.out) (fun hHeld => ?_)
      clear hK K
      (try simp only [Act.put, List.setIfInBounds_toArray, List.set_cons_zero, List.set_cons_succ])
      (refine takeH 11 28 (v := ?_) rfl rfl (by kernel_rfl) (by kernel_rfl) (by kernel_rfl) (fun _ _ _ h => h) hHeld rfl ?_ ?_; rotate_left; (focus (intro w' hSw; go_simp; try with_reducible rfl)))
      (try simp only [Act.put, List.setIfInBounds_toArray, List.set_cons_zero, List.set_cons_succ])
      (refine takeH 12 29 (v := ?_) rfl rfl (by kernel_rfl) (by kernel_rfl) (by kernel_rfl) (fun _ _ _ h => h) hHeld rfl ?_ ?_; rotate_left; (focus (intro w' hSw; go_simp; try with_reducible rfl)))
      (try simp only [Act.put, List.setIfInBounds_toArray, List.set_cons_zero, List.set_cons_succ])
      (first | (refine skipH 13 30 rfl rfl (by kernel_rfl) (by kernel_rfl) (by kernel_rfl) (fun _ _ _ h => h) hHeld rfl ?_) | (refine takeH 13 30 (v := ?_) rfl rfl (by kernel_rfl) (by kernel_rfl) (by kernel_rfl) (fun _ _ _ h => h) hHeld rfl ?_ ?_; rotate_left; (focus (intro w' hSw; go_simp; try with_reducible rfl))))
      (try simp only [Act.put, List.setIfInBounds_toArray, List.set_cons_zero, List.set_cons_succ])
      (first | (refine skipH 14 31 rfl rfl (by kernel_rfl) (by kernel_rfl) (by kernel_rfl) (fun _ _ _ h => h) hHeld rfl ?_) | (refine takeH 14 31 (v := ?_) rfl rfl (by kernel_rfl) (by kernel_rfl) (by kernel_rfl) (fun _ _ _ h => h) hHeld rfl ?_ ?_; rotate_left; (focus (intro w' hSw; go_simp; try with_reducible rfl))))
      (try simp only [Act.put, List.setIfInBounds_toArray, List.set_cons_zero, List.set_cons_succ])
      (first | (refine skipH 15 32 rfl rfl (by kernel_rfl) (by kernel_rfl) (by kernel_rfl) (fun _ _ _ h => h) hHeld rfl ?_) | (refine takeH 15 32 (v := ?_) rfl rfl (by kernel_rfl) (by kernel_rfl) (by kernel_rfl) (fun _ _ _ h => h) hHeld rfl ?_ ?_; rotate_left; (focus (intro w' hSw; go_simp; try with_reducible rfl))))
      (try simp only [Act.put, List.setIfInBounds_toArray, List.set_cons_zero, List.set_cons_succ])
      (first | (refine skipH 16 33 rfl rfl (by kernel_rfl) (by kernel_rfl) (by kernel_rfl) (fun _ _ _ h => h) hHeld rfl ?_) | (refine takeH 16 33 (v := ?_) rfl rfl (by kernel_rfl) (by kernel_rfl) (by kernel_rfl) (fun _ _ _ h => h) hHeld rfl ?_ ?_; rotate_left; (focus (intro w' hSw; go_simp; try with_reducible rfl))))
      (try simp only [Act.put, List.setIfInBounds_toArray, List.set_cons_zero, List.set_cons_succ])
      (first | (refine skipH 17 34 rfl rfl (by kernel_rfl) (by kernel_rfl) (by kernel_rfl) (fun _ _ _ h => h) hHeld rfl ?_) | (refine takeH 17 34 (v := ?_) rfl rfl (by kernel_rfl) (by kernel_rfl) (by kernel_rfl) (fun _ _ _ h => h) hHeld rfl ?_ ?_; rotate_left; (focus (intro w' hSw; go_simp; try with_reducible rfl))))
      (try simp only [Act.put, List.setIfInBounds_toArray, List.set_cons_zero, List.set_cons_succ])
      (first | (refine skipH 18 35 rfl rfl (by kernel_rfl) (by kernel_rfl) (by kernel_rfl) (fun _ _ _ h => h) hHeld rfl ?_) | (refine takeH 18 35 (v := ?_) rfl rfl (by kernel_rfl) (by kernel_rfl) (by kernel_rfl) (fun _ _ _ h => h) hHeld rfl ?_ ?_; rotate_left; (focus (intro w' hSw; go_simp; try with_reducible rfl))))
      (try simp only [Act.put, List.setIfInBounds_toArray, List.set_cons_zero, List.set_cons_succ])
      (first | (refine skipH 19 36 rfl rfl (by kernel_rfl) (by kernel_rfl) (by kernel_rfl) (fun _ _ _ h => h) hHeld rfl ?_) | (refine takeH 19 36 (v := ?_) rfl rfl (by kernel_rfl) (by kernel_rfl) (by kernel_rfl) (fun _ _ _ h => h) hHeld rfl ?_ ?_; rotate_left; (focus (intro w' hSw; go_simp; try with_reducible rfl))))
      (try simp only [Act.put, List.setIfInBounds_toArray, List.set_cons_zero, List.set_cons_succ])
      (first | (refine skipH 20 37 rfl rfl (by kernel_rfl) (by kernel_rfl) (by kernel_rfl) (fun _ _ _ h => h) hHeld rfl ?_) | (refine takeH 20 37 (v := ?_) rfl rfl (by kernel_rfl) (by kernel_rfl) (by kernel_rfl) (fun _ _ _ h => h) hHeld rfl ?_ ?_; rotate_left; (focus (intro w' hSw; go_simp; try with_reducible rfl))))
      (try simp only [Act.put, List.setIfInBounds_toArray, List.set_cons_zero, List.set_cons_succ])
      (first | (refine skipH 21 38 rfl rfl (by kernel_rfl) (by kernel_rfl) (by kernel_rfl) (fun _ _ _ h => h) hHeld rfl ?_) | (refine takeH 21 38 (v := ?_) rfl rfl (by kernel_rfl) (by kernel_rfl) (by kernel_rfl) (fun _ _ _ h => h) hHeld rfl ?_ ?_; rotate_left; (focus (intro w' hSw; go_simp; try with_reducible rfl))))
      (try simp only [Act.put, List.setIfInBounds_toArray, List.set_cons_zero, List.set_cons_succ])
      (first | (refine skipH 22 39 rfl rfl (by kernel_rfl) (by kernel_rfl) (by kernel_rfl) (fun _ _ _ h => h) hHeld rfl ?_) | (refine takeH 22 39 (v := ?_) rfl rfl (by kernel_rfl) (by kernel_rfl) (by kernel_rfl) (fun _ _ _ h => h) hHeld rfl ?_ ?_; rotate_left; (focus (intro w' hSw; go_simp; try with_reducible rfl))))
      (try simp only [Act.put, List.setIfInBounds_toArray, List.set_cons_zero, List.set_cons_succ])
      (first | (refine skipH 23 40 rfl rfl (by kernel_rfl) (by kernel_rfl) (by kernel_rfl) (fun _ _ _ h => h) hHeld rfl ?_) | (refine takeH 23 40 (v := ?_) rfl rfl (by kernel_rfl) (by kernel_rfl) (by kernel_rfl) (fun _ _ _ h => h) hHeld rfl ?_ ?_; rotate_left; (focus (intro w' hSw; go_simp; try with_reducible rfl))))
      (try simp only [Act.put, List.setIfInBounds_toArray, List.set_cons_zero, List.set_cons_succ])
      (refine takeH 24 41 (v := ?_) rfl rfl (by kernel_rfl) (by kernel_rfl) (by kernel_rfl) (fun _ _ _ h => h) hHeld rfl ?_ ?_; rotate_left; (focus (intro w' hSw; go_simp; try with_reducible rfl)))
      (try simp only [Act.put, List.setIfInBounds_toArray, List.set_cons_zero, List.set_cons_succ])
      (refine takeH 25 42 (v := ?_) rfl rfl (by kernel_rfl) (by kernel_rfl) (by kernel_rfl) (fun _ _ _ h => h) hHeld rfl ?_ ?_; rotate_left; (focus (intro w' hSw; go_simp; try with_reducible rfl)))
      (try simp only [Act.put, List.setIfInBounds_toArray, List.set_cons_zero, List.set_cons_succ])
      (first | (refine skipH 26 43 rfl rfl (by kernel_rfl) (by kernel_rfl) (by kernel_rfl) (fun _ _ _ h => h) hHeld rfl ?_) | (refine takeH 26 43 (v := ?_) rfl rfl (by kernel_rfl) (by kernel_rfl) (by kernel_rfl) (fun _ _ _ h => h) hHeld rfl ?_ ?_; rotate_left; (focus (intro w' hSw; go_simp; try with_reducible rfl))))
      (try simp only [Act.put, List.setIfInBounds_toArray, List.set_cons_zero, List.set_cons_succ])
      (first | (refine skipH 27 44 rfl rfl (by kernel_rfl) (by kernel_rfl) (by kernel_rfl) (fun _ _ _ h => h) hHeld rfl ?_) | (refine takeH 27 44 (v := ?_) rfl rfl (by kernel_rfl) (by kernel_rfl) (by kernel_rfl) (fun _ _ _ h => h) hHeld rfl ?_ ?_; rotate_left; (focus (intro w' hSw; go_simp; try with_reducible rfl))))
      (try simp only [Act.put, List.setIfInBounds_toArray, List.set_cons_zero, List.set_cons_succ])
      (first | (refine skipH 28 45 rfl rfl (by kernel_rfl) (by kernel_rfl) (by kernel_rfl) (fun _ _ _ h => h) hHeld rfl ?_) | (refine takeH 28 45 (v := ?_) rfl rfl (by kernel_rfl) (by kernel_rfl) (by kernel_rfl) (fun _ _ _ h => h) hHeld rfl ?_ ?_; rotate_left; (focus (intro w' hSw; go_simp; try with_reducible rfl))))
      (try simp only [Act.put, List.setIfInBounds_toArray, List.set_cons_zero, List.set_cons_succ])
      (first | (refine skipH 29 46 rfl rfl (by kernel_rfl) (by kernel_rfl) (by kernel_rfl) (fun _ _ _ h => h) hHeld rfl ?_) | (refine takeH 29 46 (v := ?_) rfl rfl (by kernel_rfl) (by kernel_rfl) (by kernel_rfl) (fun _ _ _ h => h) hHeld rfl ?_ ?_; rotate_left; (focus (intro w' hSw; go_simp; try with_reducible rfl))))
      (try simp only [Act.put, List.setIfInBounds_toArray, List.set_cons_zero, List.set_cons_succ])
      (first | (refine skipH 30 47 rfl rfl (by kernel_rfl) (by kernel_rfl) (by kernel_rfl) (fun _ _ _ h => h) hHeld rfl ?_) | (refine takeH 30 47 (v := ?_) rfl rfl (by kernel_rfl) (by kernel_rfl) (by kernel_rfl) (fun _ _ _ h => h) hHeld rfl ?_ ?_; rotate_left; (focus (intro w' hSw; go_simp; try with_reducible rfl))))
      (try simp only [Act.put, List.setIfInBounds_toArray, List.set_cons_zero, List.set_cons_succ])
      (first | (refine skipH 31 48 rfl rfl (by kernel_rfl) (by kernel_rfl) (by kernel_rfl) (fun _ _ _ h => h) hHeld rfl ?_) | (refine takeH 31 48 (v := ?_) rfl rfl (by kernel_rfl) (by kernel_rfl) (by kernel_rfl) (fun _ _ _ h => h) hHeld rfl ?_ ?_; rotate_left; (focus (intro w' hSw; go_simp; try with_reducible rfl))))
      (try simp only [Act.put, List.setIfInBounds_toArray, List.set_cons_zero, List.set_cons_succ])
      (first | (refine skipH 32 49 rfl rfl (by kernel_rfl) (by kernel_rfl) (by kernel_rfl) (fun _ _ _ h => h) hHeld rfl ?_) | (refine takeH 32 49 (v := ?_) rfl rfl (by kernel_rfl) (by kernel_rfl) (by kernel_rfl) (fun _ _ _ h => h) hHeld rfl ?_ ?_; rotate_left; (focus (intro w' hSw; go_simp; try with_reducible rfl))))
      (try simp only [Act.put, List.setIfInBounds_toArray, List.set_cons_zero, List.set_cons_succ])
      (first | (refine skipH 33 50 rfl rfl (by kernel_rfl) (by kernel_rfl) (by kernel_rfl) (fun _ _ _ h => h) hHeld rfl ?_) | (refine takeH 33 50 (v := ?_) rfl rfl (by kernel_rfl) (by kernel_rfl) (by kernel_rfl) (fun _ _ _ h => h) hHeld rfl ?_ ?_; rotate_left; (focus (intro w' hSw; go_simp; try with_reducible rfl))))
      (try simp only [Act.put, List.setIfInBounds_toArray, List.set_cons_zero, List.set_cons_succ])
      (first | (refine skipH 34 51 rfl rfl (by kernel_rfl) (by kernel_rfl) (by kernel_rfl) (fun _ _ _ h => h) hHeld rfl ?_) | (refine takeH 34 51 (v := ?_) rfl rfl (by kernel_rfl) (by kernel_rfl) (by kernel_rfl) (fun _ _ _ h => h) hHeld rfl ?_ ?_; rotate_left; (focus (intro w' hSw; go_simp; try with_reducible rfl))))
      (try simp only [Act.put, List.setIfInBounds_toArray, List.set_cons_zero, List.set_cons_succ])
      (first | (refine skipH 35 52 rfl rfl (by kernel_rfl) (by kernel_rfl) (by kernel_rfl) (fun _ _ _ h => h) hHeld rfl ?_) | (refine takeH 35 52 (v := ?_) rfl rfl (by kernel_rfl) (by kernel_rfl) (by kernel_rfl) (fun _ _ _ h => h) hHeld rfl ?_ ?_; rotate_left; (focus (intro w' hSw; go_simp; try with_reducible rfl))))
      (try simp only [Act.put, List.setIfInBounds_toArray, List.set_cons_zero, List.set_cons_succ])
      (first | (refine skipH 36 53 rfl rfl (by kernel_rfl) (by kernel_rfl) (by kernel_rfl) (fun _ _ _ h => h) hHeld rfl ?_) | (refine takeH 36 53 (v := ?_) rfl rfl (by kernel_rfl) (by kernel_rfl) (by kernel_rfl) (fun _ _ _ h => h) hHeld rfl ?_ ?_; rotate_left; (focus (intro w' hSw; go_simp; try with_reducible rfl))))
      (try simp only [Act.put, List.setIfInBounds_toArray, List.set_cons_zero, List.set_cons_succ])
      (refine takeH 37 54 (v := ?_) rfl rfl (by kernel_rfl) (by kernel_rfl) (by kernel_rfl) (fun _ _ _ h => h) hHeld rfl ?_ ?_; rotate_left; (focus (intro w' hSw; go_simp; try with_reducible rfl)))
      (try simp only [Act.put, List.setIfInBounds_toArray, List.set_cons_zero, List.set_cons_succ])
      (refine takeH 38 55 (v := ?_) rfl rfl (by kernel_rfl) (by kernel_rfl) (by kernel_rfl) (fun _ _ _ h => h) hHeld rfl ?_ ?_; rotate_left; (focus (intro w' hSw; go_simp; try with_reducible rfl)))
      (try simp only [Act.put, List.setIfInBounds_toArray, List.set_cons_zero, List.set_cons_succ])
      (first | (refine skipH 39 56 rfl rfl (by kernel_rfl) (by kernel_rfl) (by kernel_rfl) (fun _ _ _ h => h) hHeld rfl ?_) | (refine takeH 39 56 (v := ?_) rfl rfl (by kernel_rfl) (by kernel_rfl) (by kernel_rfl) (fun _ _ _ h => h) hHeld rfl ?_ ?_; rotate_left; (focus (intro w' hSw; go_simp; try with_reducible rfl))))
      (try simp only [Act.put, List.setIfInBounds_toArray, List.set_cons_zero, List.set_cons_succ])
      (first | (refine skipH 40 57 rfl rfl (by kernel_rfl) (by kernel_rfl) (by kernel_rfl) (fun _ _ _ h => h) hHeld rfl ?_) | (refine takeH 40 57 (v := ?_) rfl rfl (by kernel_rfl) (by kernel_rfl) (by kernel_rfl) (fun _ _ _ h => h) hHeld rfl ?_ ?_; rotate_left; (focus (intro w' hSw; go_simp; try with_reducible rfl))))
      (try simp only [Act.put, List.setIfInBounds_toArray, List.set_cons_zero, List.set_cons_succ])
      (first | (refine skipH 41 58 rfl rfl (by kernel_rfl) (by kernel_rfl) (by kernel_rfl) (fun _ _ _ h => h) hHeld rfl ?_) | (refine takeH 41 58 (v := ?_) rfl rfl (by kernel_rfl) (by kernel_rfl) (by kernel_rfl) (fun _ _ _ h => h) hHeld rfl ?_ ?_; rotate_left; (focus (intro w' hSw; go_simp; try with_reducible rfl))))
      (try simp only [Act.put, List.setIfInBounds_toArray, List.set_cons_zero, List.set_cons_succ])
      (first | (refine skipH 42 59 rfl rfl (by kernel_rfl) (by kernel_rfl) (by kernel_rfl) (fun _ _ _ h => h) hHeld rfl ?_) | (refine takeH 42 59 (v := ?_) rfl rfl (by kernel_rfl) (by kernel_rfl) (by kernel_rfl) (fun _ _ _ h => h) hHeld rfl ?_ ?_; rotate_left; (focus (intro w' hSw; go_simp; try with_reducible rfl))))
      (try simp only [Act.put, List.setIfInBounds_toArray, List.set_cons_zero, List.set_cons_succ])
      (first | (refine skipH 43 60 rfl rfl (by kernel_rfl) (by kernel_rfl) (by kernel_rfl) (fun _ _ _ h => h) hHeld rfl ?_) | (refine takeH 43 60 (v := ?_) rfl rfl (by kernel_rfl) (by kernel_rfl) (by kernel_rfl) (fun _ _ _ h => h) hHeld rfl ?_ ?_; rotate_left; (focus (intro w' hSw; go_simp; try with_reducible rfl))))
      (try simp only [Act.put, List.setIfInBounds_toArray, List.set_cons_zero, List.set_cons_succ])
      (first | (refine skipH 44 61 rfl rfl (by kernel_rfl) (by kernel_rfl) (by kernel_rfl) (fun _ _ _ h => h) hHeld rfl ?_) | (refine takeH 44 61 (v := ?_) rfl rfl (by kernel_rfl) (by kernel_rfl) (by kernel_rfl) (fun _ _ _ h => h) hHeld rfl ?_ ?_; rotate_left; (focus (intro w' hSw; go_simp; try with_reducible rfl))))
      (try simp only [Act.put, List.setIfInBounds_toArray, List.set_cons_zero, List.set_cons_succ])
      (first | (refine skipH 45 62 rfl rfl (by kernel_rfl) (by kernel_rfl) (by kernel_rfl) (fun _ _ _ h => h) hHeld rfl ?_) | (refine takeH 45 62 (v := ?_) rfl rfl (by kernel_rfl) (by kernel_rfl) (by kernel_rfl) (fun _ _ _ h => h) hHeld rfl ?_ ?_; rotate_left; (focus (intro w' hSw; go_simp; try with_reducible rfl))))
      (try simp only [Act.put, List.setIfInBounds_toArray, List.set_cons_zero, List.set_cons_succ])
      (first | (refine skipH 46 63 rfl rfl (by kernel_rfl) (by kernel_rfl) (by kernel_rfl) (fun _ _ _ h => h) hHeld rfl ?_) | (refine takeH 46 63 (v := ?_) rfl rfl (by kernel_rfl) (by kernel_rfl) (by kernel_rfl) (fun _ _ _ h => h) hHeld rfl ?_ ?_; rotate_left; (focus (intro w' hSw; go_simp; try with_reducible rfl))))
      (try simp only [Act.put, List.setIfInBounds_toArray, List.set_cons_zero, List.set_cons_succ])
      (first | (refine skipH 47 64 rfl rfl (by kernel_rfl) (by kernel_rfl) (by kernel_rfl) (fun _ _ _ h => h) hHeld rfl ?_) | (refine takeH 47 64 (v := ?_) rfl rfl (by kernel_rfl) (by kernel_rfl) (by kernel_rfl) (fun _ _ _ h => h) hHeld rfl ?_ ?_; rotate_left; (focus (intro w' hSw; go_simp; try with_reducible rfl))))
      (try simp only [Act.put, List.setIfInBounds_toArray, List.set_cons_zero, List.set_cons_succ])
      (first | (refine skipH 48 65 rfl rfl (by kernel_rfl) (by kernel_rfl) (by kernel_rfl) (fun _ _ _ h => h) hHeld rfl ?_) | (refine takeH 48 65 (v := ?_) rfl rfl (by kernel_rfl) (by kernel_rfl) (by kernel_rfl) (fun _ _ _ h => h) hHeld rfl ?_ ?_; rotate_left; (focus (intro w' hSw; go_simp; try with_reducible rfl))))
      (try simp only [Act.put, List.setIfInBounds_toArray, List.set_cons_zero, List.set_cons_succ])
      (first | (refine skipH 49 66 rfl rfl (by kernel_rfl) (by kernel_rfl) (by kernel_rfl) (fun _ _ _ h => h) hHeld rfl ?_) | (refine takeH 49 66 (v := ?_) rfl rfl (by kernel_rfl) (by kernel_rfl) (by kernel_rfl) (fun _ _ _ h => h) hHeld rfl ?_ ?_; rotate_left; (focus (intro w' hSw; go_simp; try with_reducible rfl))))
      (try simp only [Act.put, List.setIfInBounds_toArray, List.set_cons_zero, List.set_cons_succ])
      (refine takeH 50 67 (v := ?_) rfl rfl (by kernel_rfl) (by kernel_rfl) (by kernel_rfl) (fun _ _ _ h => h) hHeld rfl ?_ ?_; rotate_left; (focus (intro w' hSw; go_simp; try with_reducible rfl)))
      (try simp only [Act.put, List.setIfInBounds_toArray, List.set_cons_zero, List.set_cons_succ])
      refine wpAnyH_done (by kernel_rfl) ?_ _
      refine NoPanic.normal ?_
      go_wp2
      go_roundg (l.length - (k + 1))
      case measure => have := HG.out; omega
      case rel => exact ⟨k + 1, by go_num, by omega, ⟨by omega⟩, ⟨Below.then_ HR.out H1.out (Nat.le_refl _)⟩⟩
    · obtain rfl : k = l.length := by omega
      go_wp2
      go_ret
      exact ⟨rfl, HR.out⟩
theorem int_at {w : World} {A : Option Addr} {n : Nat} {xs : List Int} (h : (kInt .i64).C w A n xs) (k : Nat) (h1 : k < n) : ∃ ad x, A = some ad ∧ Aside0 (xs[k]? = some x) ∧ w.cell? (ad.add k) = some (.int .i64 x) ∧ Aside0 (InR .i64 x) := by
  have hl : xs.length = n := h.1
  obtain ⟨ad, c, e, _, hK, hc0⟩ := Kd.C_get h 0 (k : Int) (by omega) (by omega)
  have hc : ∀ j u, c[j]? = some u → w.cell? (ad.add (k * 1 + j)) = some u := hc0
  have hx : xs[k]? = some (xs.getD k 0) := by simp [List.getD_eq_getElem?_getD, show k < xs.length by omega]
  have hK' : (kInt .i64).K w (xs.getD k 0) c := hK
  generalize xs.getD k 0 = x at hK' hx
  obtain ⟨rfl, hr⟩ : c = [.int .i64 x] ∧ InR .i64 x := hK'
  exact ⟨ad, x, e, ⟨hx⟩, by have := hc 0 _ rfl; simpa using this, ⟨hr⟩⟩
def Is (b : Bool) (w : World) (e : Ending) (w' : World) : Prop := e = .returned (.bool b) ∧ Below w.heap.size w w'
set_option maxRecDepth 100000 in
theorem sameInts_calls (xs ys : List Int) (A B : Option Addr) (c d : Nat) (w : World) (ha : (kInt .i64).C w A xs.length xs) (hb : (kInt .i64).C w B ys.length ys) :
    Calls Try.prog 28 #[.slice A xs.length c, .slice B ys.length d] w (Is (decide (xs = ys)) w) := by
  have HA := Aside0.mk ha
  have HB := Aside0.mk hb
  have hl : xs.length ≤ 9223372036854775807 := ha.2.1
  clear ha hb
  by_cases hlen : xs.length = ys.length
  · rw [← hlen] at HB ⊢
    have HLN := Aside0.mk hlen
    clear hlen
    go_enter Try.func28, Try.ntmps28
    go_wp2
    go_loopg [5] xs.length (fun gk v wr => ∃ k : Nat, v = .int .i64 (k : Int) ∧ k ≤ xs.length ∧ Aside0 (gk + k = xs.length) ∧ Aside0 (Below w.heap.size w wr) ∧ Aside0 (xs.take k = ys.take k))
    case atStart => exact ⟨0, rfl, Nat.zero_le _, ⟨rfl⟩, ⟨Below.refl _ _⟩, ⟨rfl⟩⟩
    case round =>
      obtain ⟨k, rfl, hk, HG, HR, HT⟩ := hrel
      by_cases hlt : k < xs.length
      · obtain ⟨a1, u, rfl, HU, z, _⟩ := int_at (Kd.C_below HA.out HR.out) k hlt
        obtain ⟨a2, u', rfl, HU', z', _⟩ := int_at (Kd.C_below HB.out HR.out) k hlt
        have hltI : (k : Int) < (xs.length : Int) := by omega
        by_cases he : u = u'
        · subst he
          go_upto_region 6 with (fail)
          go_quiet (fail)
          go_wp2
          go_roundg (xs.length - (k + 1))
          case measure => have := HG.out; omega
          case rel => exact ⟨k + 1, by go_num, by omega, ⟨by omega⟩, ⟨pw_below_drewN HR.out _⟩, ⟨by rw [List.take_add_one, List.take_add_one, HU.out, HU'.out, HT.out]⟩⟩
        · have HN : Aside0 (decide (xs = ys) = false) := ⟨by
            refine decide_eq_false (fun e => he ?_)
            have h1 := HU.out
            rw [e, HU'.out] at h1
            exact (Option.some.inj h1).symm⟩
          have hd : (u == u') = false := by simpa using he
          have hd2 : (u != u') = true := by simpa using he
          clear he
          go_upto_region 6 with (fail)
          go_quiet (fail)
          go_wp2
          go_ret
          exact ⟨by rw [HN.out]; rfl, pw_below_drewN HR.out _⟩
      · obtain rfl : k = xs.length := by omega
        have HN : Aside0 (decide (xs = ys) = true) := ⟨by
          have h := HT.out
          rw [List.take_length, HLN.out, List.take_length] at h
          exact decide_eq_true h⟩
        go_wp2
        go_ret
        exact ⟨by rw [HN.out]; rfl, HR.out⟩
  · have HN : Aside0 (decide (xs = ys) = false) := ⟨decide_eq_false (fun e => hlen (by rw [e]))⟩
    have hlb : ((xs.length : Int) != (ys.length : Int)) = true := by
      have : ¬ (xs.length : Int) = (ys.length : Int) := by omega
      simpa using this
    have hlc : ((xs.length : Int) == (ys.length : Int)) = false := by
      have : ¬ (xs.length : Int) = (ys.length : Int) := by omega
      simpa using this
    go_enter Try.func28, Try.ntmps28
    go_wp2
    go_ret
    exact ⟨by rw [HN.out]; rfl, Below.refl _ _⟩
end Cmp
end Go.Proofs.Ytgfjkpnaabiecaa
set_option linter.unusedVariables false
set_option linter.unusedSimpArgs false
namespace Go.Proofs.Ytgfjkpnaabiecaa
open Go.RowKit Go.Proofs.YtgfjkpnaabiecaaW.PrintWords
namespace Tab
theorem own_ints {w : World} {base n : Nat} {v : Value} {xs : List Int} (h : w.ownsRow base 3 1 v n (xs.map (Value.int .i64))) (h0 : 0 < n) :
    ∃ g cap, v = .slice (some ⟨g, 0, none⟩) n cap ∧ base ≤ g ∧ n ≤ cap ∧ n = xs.length ∧ Blk w g (xs.map (Value.int .i64)) ∧ Ty w 3 g := by
  obtain ⟨hl, h⟩ := h
  have hn : n = xs.length := by simpa using hl.symm
  rcases h with ⟨_, h⟩ | ⟨g, cap, cur, rfl, hb, hg, hc, _, hs, ht⟩
  · omega
  · refine ⟨g, cap, rfl, hb, hc, hn, ⟨(Array.getElem?_eq_some_iff.1 hg).1, fun i u hu => ?_⟩, cur, _, hg⟩
    rw [← ht] at hu
    rw [List.getElem?_take] at hu
    split at hu
    · rw [Array.getElem?_toList] at hu
      exact ⟨by unfold World.cell?; rw [hg]; simp [hu], by unfold World.frozen?; rw [hg]; simp⟩
    · cases hu
theorem blk_ints {w : World} {g : Nat} {xs : List Int} (h : Blk w g (xs.map (Value.int .i64))) (hr : ∀ x ∈ xs, InR .i64 x) (hl : xs.length ≤ 1000000) : (kInt .i64).C w (some ⟨g, 0, none⟩) xs.length xs := by
  refine ⟨rfl, by omega, fun _ => ⟨_, rfl, fun j p hj => ⟨[.int .i64 p], rfl, ⟨rfl, hr p (List.mem_of_getElem? hj)⟩, fun i u hu => ?_⟩⟩⟩
  rcases i with _ | i
  · simp at hu
    subst hu
    have := h.cell j (v := .int .i64 p) (by rw [List.getElem?_map, hj]; rfl)
    rw [add_plain]
    simpa [kInt, scalarP] using this
  · simp at hu
/-- What Tokens hands out: a row of its own. -/
def TokTold (w : World) (tok : List Int) (e : Ending) (w' : World) : Prop :=
  ∃ g cap, e = .returned (.slice (some ⟨g, 0, none⟩) tok.length cap) ∧ w.heap.size ≤ g ∧ tok.length ≤ cap ∧ Blk w' g (tok.map (.int .i64)) ∧ Ty w' 3 g ∧ Below w.heap.size w w'
theorem clone_tok (tb cap : Nat) (tok : List Int) (w : World) (h : Blk w tb (tok.map (.int .i64))) (h0 : 0 < tok.length) (hl : tok.length ≤ 1000000) :
    Calls Try.prog 48 #[.slice (some ⟨tb, 0, none⟩) tok.length cap] w (TokTold w tok) := by
  refine (Any.slices_Clone_int Try.cloneI tb 0 tok.length cap tok w (Nat.le_refl _) (by omega) (fun j hj => ?_)).mono ?_
  · have := h.cell j (v := .int .i64 (tok.getD j 0)) (by rw [List.getElem?_map, List.getElem?_eq_getElem hj]; simp [List.getD_eq_getElem?_getD, List.getElem?_eq_getElem hj])
    simpa using this
  · rintro e w' ⟨v, rfl, ho, _, hb⟩
    rw [List.take_length] at ho
    obtain ⟨g, cp, rfl, h1, h2, _, h4, h5⟩ := own_ints ho h0
    exact ⟨g, cp, rfl, h1, h2, h4, h5, hb⟩
set_option maxRecDepth 100000 in
theorem tokens_calls (p mb tb : Nat) (T : Tb) (w : World) (h : TbR w p mb tb T) (h0 : 0 < T.tok.length) (hl : T.tok.length ≤ 1000000) :
    Calls Try.prog 27 #[.pointer (some ⟨p, 0, none⟩)] w (TokTold w T.tok) := by
  obtain ⟨cap, hcap, hB⟩ := h.blk
  have HC := Aside0.mk (clone_tok tb cap T.tok w h.tok h0 hl)
  have p5 := hB.cell 5 rfl
  clear hB h
  go_enter Try.func27, Try.ntmps27
  go_wp2_with (first | ((with_reducible refine HC.out.mono ?_); rintro e w1 ⟨g, cp, rfl, h1⟩; have H1 := Aside0.mk h1; clear h1))
  go_ret
  exact ⟨g, cp, rfl, H1.out⟩
end Tab
end Go.Proofs.Ytgfjkpnaabiecaa
set_option linter.unusedVariables false
set_option linter.unusedSimpArgs false
namespace Go.Proofs.Ytgfjkpnaabiecaa
open Go.RowKit Go.Proofs.YtgfjkpnaabiecaaW.PrintWords
namespace Tab
/-- A copy's block: the same entries, stamps and clock. -/
theorem MapT.clone {w w1 : World} {b b1 : Nat} {l : List Cell} (h : MapT w b l) (ho : Below w.heap.size w w1) (hb : w1.heap[b1]? = w.heap[b]?) : MapT w1 b1 l := by
  obtain ⟨g, ⟨es, cl, h1, h2, h3, h4⟩, h5⟩ := h
  exact ⟨g, ⟨es, cl, hb.trans h1, h2, h3, h4⟩, fun c hc => (h5 c hc).only (S := []) (Only.of_below [] ho) (by simp)⟩
theorem clone_map (mb : Nat) (l : List Cell) (w : World) (h : MapT w mb l) :
    Calls Try.prog 56 #[.map (some mb)] w fun e w' => e = .returned (.map (some w.heap.size)) ∧ MapT w' w.heap.size l ∧ Below w.heap.size w w' := by
  have h' := h
  obtain ⟨g, ⟨es, cl, hb, _⟩, _⟩ := h
  refine (AnyW.maps_Clone Try.cloneM mb es cl w hb).mono ?_
  rintro e w' ⟨rfl, rfl⟩
  have hB := below_alloc (Below.refl w.heap.size w) (.map es cl)
  exact ⟨rfl, h'.clone hB ((heap_alloc_new w _).trans hb.symm), hB⟩
def CopyT (w : World) (T : Tb) (e : Ending) (w' : World) : Prop :=
  ∃ p mb tb, e = .returned (.pointer (some ⟨p, 0, none⟩)) ∧ TbR w' p mb tb T ∧ (w.heap.size ≤ p ∧ w.heap.size ≤ mb ∧ w.heap.size ≤ tb) ∧ Below w.heap.size w w'
set_option maxRecDepth 100000 in
set_option maxHeartbeats 1000000 in
theorem copyT_calls (p mb tb : Nat) (T : Tb) (w : World) (h : TbR w p mb tb T) (h0 : 0 < T.tok.length) (hl : T.tok.length ≤ 1000000) :
    Calls Try.prog 35 #[.pointer (some ⟨p, 0, none⟩)] w (CopyT w T) := by
  obtain ⟨cap, hcap, hB⟩ := h.blk
  have HT := Aside0.mk h
  have H0 := Aside0.mk (And.intro h0 hl)
  obtain ⟨⟨p0, p1, p2, p3, p4, p5, p6, p7⟩, _⟩ := hB.eight
  clear hB h h0 hl
  obtain ⟨rm, l, tok, us⟩ := T
  obtain ⟨ra, rb, rc, rd⟩ := rm
  dsimp only at *
  go_enter Try.func35, Try.ntmps35
  go_upto_region 4 with (fail)
  obtain ⟨W0, hW0⟩ : ∃ W, W = w.alloc (.cells #[.int .i64 ra, .int .i64 rb, .int .i64 rc, .bool rd, .map (some mb), .slice (some ⟨tb, 0, none⟩) tok.length cap, .int .i64 us, .int .i64 ((szs l : Nat) : Int)] 83) := ⟨_, rfl⟩
  rw [← hW0]
  have HW : Aside0 (Below w.heap.size w W0) := ⟨by rw [hW0]; exact below_alloc (Below.refl _ _) _⟩
  have HX : Aside0 (Blk W0 w.heap.size [.int .i64 ra, .int .i64 rb, .int .i64 rc, .bool rd, .map (some mb), .slice (some ⟨tb, 0, none⟩) tok.length cap, .int .i64 us, .int .i64 ((szs l : Nat) : Int)] ∧ Ty W0 83 w.heap.size) := ⟨by rw [hW0]; exact ⟨Blk.new_ _ _ _ rfl rfl, ty_new rfl⟩⟩
  have HR0 := Aside0.mk (HT.out.below HW.out)
  have q4 := pw_cell_below HW.out p4
  have q5 := pw_cell_below HW.out p5
  clear hW0 p0 p1 p2 p3 p4 p5 p6 p7
  have hpl : p < w.heap.size := HT.out.pty.lt
  have hps : w.heap.size < W0.heap.size := HX.out.1.lt
  have hne : p ∉ [w.heap.size] := by simp; omega
  have HNE : Aside0 (w.heap.size ∉ [p, mb, tb]) := ⟨by have h1 := HT.out.map.lt; have h2 := HT.out.tty.lt; simp; omega⟩
  have q4 := fun w' (h : Only [w.heap.size] W0 w') => (h.cell (p := ⟨p, 4, none⟩) (by show p < _; omega) hne).trans q4
  have q5 := fun w' (h : Only [w.heap.size] W0 w') => (h.cell (p := ⟨p, 5, none⟩) (by show p < _; omega) hne).trans q5
  refine wp_region_noPanic ?_
  refine wp_region_held_drew (S := Only [w.heap.size] W0) (by kernel_rfl) ((Only.refl _ _).drew) (fun hHeld => ?_)
  (refine takeH 0 9 (v := ?_) rfl rfl (by kernel_rfl) (by kernel_rfl) (by kernel_rfl) (fun _ _ _ h => h) hHeld rfl ?_ ?_; rotate_left; (focus (intro w' hSw; go_simp; try with_reducible rfl)))
  (try simp only [Act.put, List.setIfInBounds_toArray, List.set_cons_zero, List.set_cons_succ])
  (refine takeH 1 10 (v := ?_) rfl rfl (by kernel_rfl) (by kernel_rfl) (by kernel_rfl) (fun _ _ _ h => h) hHeld rfl ?_ ?_; rotate_left; (focus (intro w' hSw; go_simp; try with_reducible rfl)))
  (try simp only [Act.put, List.setIfInBounds_toArray, List.set_cons_zero, List.set_cons_succ])
  (refine takeH 2 11 (v := ?_) rfl rfl (by kernel_rfl) (by kernel_rfl) (by kernel_rfl) (fun _ _ _ h => h) hHeld rfl ?_ ?_; rotate_left; (focus (intro w' hSw; go_simp; try with_reducible rfl)))
  (try simp only [Act.put, List.setIfInBounds_toArray, List.set_cons_zero, List.set_cons_succ])
  (refine takeH 3 12 (v := ?_) rfl rfl (by kernel_rfl) (by kernel_rfl) (by kernel_rfl) (fun _ _ _ h => h) hHeld rfl ?_ ?_; rotate_left; (focus (intro w' hSw; go_simp; try with_reducible rfl)))
  (try simp only [Act.put, List.setIfInBounds_toArray, List.set_cons_zero, List.set_cons_succ])
  (refine takeH 5 14 (v := ?_) rfl rfl (by kernel_rfl) (by kernel_rfl) (by kernel_rfl) (fun _ _ _ h => h) hHeld rfl ?_ ?_; rotate_left; (focus (intro w' hSw; go_simp; try with_reducible rfl)))
  (try simp only [Act.put, List.setIfInBounds_toArray, List.set_cons_zero, List.set_cons_succ])
  (refine takeH 6 15 (v := ?_) rfl rfl (by kernel_rfl) (by kernel_rfl) (by kernel_rfl) (fun _ _ _ h => h) hHeld rfl ?_ ?_; rotate_left; (focus (intro w' hSw; go_simp; try with_reducible rfl)))
  (try simp only [Act.put, List.setIfInBounds_toArray, List.set_cons_zero, List.set_cons_succ])
  (refine takeH 7 16 (v := ?_) rfl rfl (by kernel_rfl) (by kernel_rfl) (by kernel_rfl) (fun _ _ _ h => h) hHeld rfl ?_ ?_; rotate_left; (focus (intro w' hSw; go_simp; try with_reducible rfl)))
  (try simp only [Act.put, List.setIfInBounds_toArray, List.set_cons_zero, List.set_cons_succ])
  (refine takeH 8 17 (v := ?_) rfl rfl (by kernel_rfl) (by kernel_rfl) (by kernel_rfl) (fun _ _ _ h => h) hHeld rfl ?_ ?_; rotate_left; (focus (intro w' hSw; go_simp; try with_reducible rfl)))
  (try simp only [Act.put, List.setIfInBounds_toArray, List.set_cons_zero, List.set_cons_succ])
  refine wpAnyH_ready (rs := [4]) (by kernel_rfl) (by simp) ?_
  refine AllReadyH.cons rfl (fun K hK => ?_) AllReadyH.nil
  go_simp
  refine (clone_map mb l _ (HR0.out.below (below_drew (Below.refl _ _))).map).mono ?_
  rintro e w1 ⟨rfl, hm1, hb1⟩
  have HB1 := Aside0.mk (Below.then_ (below_drew (Below.refl W0.heap.size W0)) hb1 (Nat.le_refl _))
  have HM1 := Aside0.mk hm1
  clear hm1 hb1
  refine hK.out _ _ (Only.of_below _ HB1.out) (fun hHeld => ?_)
  clear hK K
  (try simp only [Act.put, List.setIfInBounds_toArray, List.set_cons_zero, List.set_cons_succ])
  refine wpAnyH_ready (rs := [9]) (by kernel_rfl) (by simp) ?_
  refine AllReadyH.cons rfl (fun K hK => ?_) AllReadyH.nil
  go_simp
  refine (clone_tok tb cap tok w1 (HR0.out.tok.on HB1.out) H0.out.1 H0.out.2).mono ?_
  rintro e w2 ⟨g, cp, rfl, h1, h2, h3, h4, h5⟩
  have HB2 := Aside0.mk (Below.then_ HB1.out h5 (Nat.le_refl _))
  have HM2 := Aside0.mk (HM1.out.only (S := []) (Only.of_below [] h5) (by simp) (by simp))
  have HG := Aside0.mk (And.intro h1 (And.intro h2 (And.intro h3 (And.intro h4 HB1.out.size))))
  clear h1 h2 h3 h4 h5
  refine hK.out _ _ (Only.of_below _ HB2.out) (fun hHeld => ?_)
  clear hK K
  (try simp only [Act.put, List.setIfInBounds_toArray, List.set_cons_zero, List.set_cons_succ])
  (refine takeH 10 19 (v := ?_) rfl rfl (by kernel_rfl) (by kernel_rfl) (by kernel_rfl) (fun _ _ _ h => h) hHeld rfl ?_ ?_; rotate_left; (focus (intro w' hSw; go_simp; try with_reducible rfl)))
  (try simp only [Act.put, List.setIfInBounds_toArray, List.set_cons_zero, List.set_cons_succ])
  have HX2 := Aside0.mk (HX.out.1.on HB2.out)
  obtain ⟨⟨x0, x1, x2, x3, x4, x5, x6, x7⟩, f0, f1, f2, f3, f4, f5, f6, f7⟩ := HX2.out.eight
  refine wpAnyH_ready (rs := [11]) (by kernel_rfl) (by simp) ?_
  refine AllReadyH.cons rfl (fun K hK => ?_) AllReadyH.nil
  go_simp
  refine hK.out _ _ ((Only.of_below _ HB2.out).set _ (.inl (by simp))) (fun hHeld => ?_)
  clear hK K
  (try simp only [Act.put, List.setIfInBounds_toArray, List.set_cons_zero, List.set_cons_succ])
  (refine takeH 12 20 (v := ?_) rfl rfl (by kernel_rfl) (by kernel_rfl) (by kernel_rfl) (fun _ _ _ h => h) hHeld rfl ?_ ?_; rotate_left; (focus (intro w' hSw; go_simp; try with_reducible rfl)))
  (try simp only [Act.put, List.setIfInBounds_toArray, List.set_cons_zero, List.set_cons_succ])
  refine wpAnyH_ready (rs := [13]) (by kernel_rfl) (by simp) ?_
  refine AllReadyH.cons rfl (fun K hK => ?_) AllReadyH.nil
  go_simp
  refine hK.out _ _ (((Only.of_below _ HB2.out).set _ (.inl (by simp))).set _ (.inl (by simp))) (fun hHeld => ?_)
  clear hK K
  (try simp only [Act.put, List.setIfInBounds_toArray, List.set_cons_zero, List.set_cons_succ])
  refine wpAnyH_done (by kernel_rfl) ?_ _
  refine NoPanic.normal ?_
  obtain ⟨W4, hW4⟩ : ∃ W, W = (w2.setCell ⟨w.heap.size, 4, none⟩ (.map (some W0.heap.size))).setCell ⟨w.heap.size, 5, none⟩ (.slice (some ⟨g, 0, none⟩) tok.length cp) := ⟨_, rfl⟩
  have hO : Only [w.heap.size] w2 W4 := by rw [hW4]; exact ((Only.refl _ _).set _ (.inl (by simp))).set _ (.inl (by simp))
  have hB4 : Blk W4 w.heap.size [.int .i64 ra, .int .i64 rb, .int .i64 rc, .bool rd, .map (some W0.heap.size), .slice (some ⟨g, 0, none⟩) tok.length cp, .int .i64 us, .int .i64 ((szs l : Nat) : Int)] := by rw [hW4]; exact (HX2.out.set 4 _).set 5 _
  go_wp2
  go_ret
  obtain ⟨g1, g2, g3, g4, g5⟩ := HG.out
  have n1 : W0.heap.size ≠ w.heap.size := by omega
  have n2 : g ≠ w.heap.size := by omega
  have hty : Ty w2 83 w.heap.size := HX.out.2.below HB2.out
  refine ⟨w.heap.size, W0.heap.size, g, rfl, ?_, ⟨Nat.le_refl _, by omega, by omega⟩, ?_⟩
  · rw [← hW4]
    exact ⟨⟨cp, g2, hB4⟩, by rw [hW4]; exact (hty.set _ _).set _ _, g3.only hO (by simpa using n2), g4.only hO (by simpa using n2), HM2.out.only hO (by simpa using n1) (fun i hi => by simp at hi; subst hi; exact hty.ne (by decide)), HT.out.srt⟩
  · rw [← hW4]
    exact ((Only.of_below [w.heap.size] (Below.then_ HW.out HB2.out (Nat.le_refl _))).trans hO).below (by simp) (Nat.le_refl _)
end Tab
end Go.Proofs.Ytgfjkpnaabiecaa
set_option linter.unusedVariables false
set_option linter.unusedSimpArgs false
namespace Go.Proofs.Ytgfjkpnaabiecaa
open Go.RowKit Go.Proofs.YtgfjkpnaabiecaaW.PrintWords
namespace Tab
open Tags
def tle (a b : Tag) : Prop := a.seq < b.seq ∨ (a.seq = b.seq ∧ (a.who < b.who ∨ (a.who = b.who ∧ a.op ≤ b.op)))
theorem cmp3_cases (x y : Int) : (x < y ∧ cmp3 x y = -1) ∨ (x = y ∧ cmp3 x y = 0) ∨ (y < x ∧ cmp3 x y = 1) := by
  rcases Int.lt_trichotomy x y with h | h | h
  · exact .inl ⟨h, cmp3_lt h⟩
  · exact .inr (.inl ⟨h, by rw [h, cmp3_eq]⟩)
  · exact .inr (.inr ⟨h, cmp3_gt h⟩)
theorem or3_cases (x y z : Int) : (x ≠ 0 ∧ or3 x y z = x) ∨ (x = 0 ∧ y ≠ 0 ∧ or3 x y z = y) ∨ (x = 0 ∧ y = 0 ∧ or3 x y z = z) := by
  unfold or3
  by_cases hx : x = 0
  · by_cases hy : y = 0
    · exact .inr (.inr ⟨hx, hy, by rw [if_neg (by simp [hx]), if_neg (by simp [hy])]⟩)
    · exact .inr (.inl ⟨hx, hy, by rw [if_neg (by simp [hx]), if_pos hy]⟩)
  · exact .inl ⟨hx, if_pos hx⟩
theorem cmpT_ge {a b : Tag} : 0 ≤ cmpT a b ↔ tle b a := by
  unfold cmpT tle
  have h0 := or3_cases (cmp3 a.seq b.seq) (cmp3 a.who b.who) (cmp3 a.op b.op)
  have h1 := cmp3_cases a.seq b.seq
  have h2 := cmp3_cases a.who b.who
  have h3 := cmp3_cases a.op b.op
  omega
theorem cmpT_le {a b : Tag} : ¬ 0 < cmpT a b ↔ tle a b := by
  unfold cmpT tle
  have h0 := or3_cases (cmp3 a.seq b.seq) (cmp3 a.who b.who) (cmp3 a.op b.op)
  have h1 := cmp3_cases a.seq b.seq
  have h2 := cmp3_cases a.who b.who
  have h3 := cmp3_cases a.op b.op
  omega
theorem tle_refl (a : Tag) : tle a a := by unfold tle; omega
theorem tle_tr {a b c : Tag} (h : tle a b) (k : tle b c) : tle a c := by unfold tle at *; omega
theorem tle_tot (a b : Tag) : tle a b ∨ tle b a := by unfold tle; omega
theorem find_put {l : List Cell} {c : Cell} (hs : Srt l) (k : ByteArray) : find (put l c) k = if c.e.key = k then some c else find l k := by
  split
  · rename_i h
    subst h
    exact find_of (srt_put hs) ((mem_put hs).2 (.inl rfl))
  · rename_i h
    cases hf : find l k with
    | some d =>
      obtain ⟨h1, rfl⟩ := find_mem hf
      exact find_of (srt_put hs) ((mem_put hs).2 (.inr ⟨h1, fun e => h e.symm⟩))
    | none =>
      refine find_no fun x hx => ?_
      rcases (mem_put hs).1 hx with rfl | ⟨hx, _⟩
      · exact h
      · exact find_none hf x hx
theorem find_del_same (l : List Cell) (k : ByteArray) : find (del l k) k = none := find_no fun x hx => (mem_del.1 hx).2
/-- What is known of the one key. -/
structure KInv (T : Tb) (key : ByteArray) (best : Tag) (kept : Entry) : Prop where
  kk : kept.key = key
  up : ∀ c, find T.l key = some c → tle best kept.tag ∨ tle best c.e.tag
  no : find T.l key = none → tle best kept.tag
  cl : ∀ c, find T.l key = some c → c.clean = true → tle c.e.tag kept.tag
  wh : ∀ c, find T.l key = some c → c.whole = true → tle best c.e.tag
  zr : find T.l key = none → tokAt T key = 0 → best = Tag.z
namespace KInv
variable {T T' : Tb} {n : Int} {key : ByteArray} {best : Tag} {kept : Entry}
theorem same (h : KInv T key best kept) (hf : find T'.l key = find T.l key) (ht : tokAt T' key = 0 → tokAt T key = 0) : KInv T' key best kept :=
  ⟨h.kk, fun c hc => h.up c (hf ▸ hc), fun hc => h.no (hf ▸ hc), fun c hc => h.cl c (hf ▸ hc), fun c hc => h.wh c (hf ▸ hc), fun hc h0 => h.zr (hf ▸ hc) (ht h0)⟩
theorem lay_far (h : KInv T key best kept) (hs : Srt T.l) {c : Cell} (hk : c.e.key ≠ key) : KInv (lay T c) key best kept :=
  h.same (by show find (put T.l _) key = _; rw [find_put hs, if_neg hk]) (fun h => h)
/-- A cell of the key is laid. -/
theorem lay_at (h : KInv T key best kept) (hs : Srt T.l) {c : Cell} {best' : Tag} {kept' : Entry} (hk : c.e.key = key) (hkk : kept'.key = key) (h1 : tle best' kept'.tag ∨ tle best' c.e.tag) (h2 : c.clean = true → tle c.e.tag kept'.tag) (h3 : c.whole = true → tle best' c.e.tag) : KInv (lay T c) key best' kept' := by
  have hf : find (lay T c).l key = some { c with used := T.uses + 1 } := by show find (put T.l _) key = _; rw [find_put hs, if_pos hk]
  refine ⟨hkk, fun d hd => ?_, fun hd => ?_, fun d hd => ?_, fun d hd => ?_, fun hd => ?_⟩ <;> rw [hf] at hd
  · injection hd with hd; subst hd; exact h1
  · cases hd
  · injection hd with hd; subst hd; exact h2
  · injection hd with hd; subst hd; exact h3
  · cases hd
theorem tok_in (w : Wf T n) (k : ByteArray) : (Hash.bkt k T.room.buckets).toNat < T.tok.length := by
  obtain ⟨b0, b1⟩ := Hash.bkt_bd k (n := T.room.buckets) w.rm.2.2.2.2.1
  have := w.tl
  generalize Hash.bkt k T.room.buckets = b at *
  omega
theorem tok_ge (w : Wf T n) (k : ByteArray) : 0 ≤ tokAt T k := by
  unfold tokAt
  have hi := tok_in w k
  generalize (Hash.bkt k T.room.buckets).toNat = i at *
  rw [List.getD_eq_getElem?_getD, List.getElem?_eq_getElem hi]
  exact (w.tk _ (List.getElem_mem hi)).1
theorem tok_drop (w : Wf T n) (j k : ByteArray) : tokAt T k ≤ tokAt (drop T j) k ∧ (j = k → 1 ≤ tokAt (drop T j) k) := by
  have h0 := tok_ge w k
  have hi := tok_in w k
  have hj := tok_in w j
  unfold tokAt at *
  show _ ≤ (bump T.tok (Hash.bkt j T.room.buckets).toNat).getD (Hash.bkt k T.room.buckets).toNat 0 ∧ (j = k → 1 ≤ (bump T.tok (Hash.bkt j T.room.buckets).toNat).getD (Hash.bkt k T.room.buckets).toNat 0)
  have he : j = k → (Hash.bkt j T.room.buckets).toNat = (Hash.bkt k T.room.buckets).toNat := fun e => by rw [e]
  generalize (Hash.bkt k T.room.buckets).toNat = i at *
  generalize (Hash.bkt j T.room.buckets).toNat = i' at *
  rw [bump_get _ _ hj]
  simp only [List.getD_eq_getElem?_getD, List.getElem?_set] at *
  by_cases e : i' = i
  · subst e
    simp only [if_true, hi, List.getElem?_eq_getElem hi, Option.getD_some] at *
    omega
  · rw [if_neg e]
    exact ⟨Int.le_refl _, fun h => absurd (he h) e⟩
/-- What is clean is dropped. -/
theorem drop_ (h : KInv T key best kept) (w : Wf T n) {j : ByteArray} (hc : ∀ c, find T.l j = some c → c.clean = true) : KInv (drop T j) key best kept := by
  obtain ⟨t1, t2⟩ := tok_drop w j key
  have h0 := tok_ge w key
  by_cases e : j = key
  · subst e
    have hf : find (drop T j).l j = none := find_del_same _ _
    have h1 := t2 rfl
    refine ⟨h.kk, fun d hd => ?_, fun _ => ?_, fun d hd => ?_, fun d hd => ?_, fun _ h2 => by omega⟩
    · rw [hf] at hd; cases hd
    · cases hc0 : find T.l j with
      | none => exact h.no hc0
      | some c =>
        rcases h.up c hc0 with h3 | h3
        · exact h3
        · exact tle_tr h3 (h.cl c hc0 (hc c hc0))
    · rw [hf] at hd; cases hd
    · rw [hf] at hd; cases hd
  · exact h.same (find_del (fun e' => e e'.symm)) (fun h2 => by omega)
theorem vict_ (e : Entry) : ∀ (f : Nat) (T : Tb) (n : Int), KInv T key best kept → Wf T n → KInv (drops T (victF f T e).1) key best kept
  | 0, T, n, h, w => h
  | f + 1, T, n, h, w => by
    unfold victF
    split
    · exact h
    · cases hp : pick T.l e.key with
      | none => exact h
      | some c =>
        obtain ⟨p1, p2, p3⟩ := pick_mem hp
        refine vict_ e f (drop T c.e.key) (n + 1) (h.drop_ w (fun d hd => ?_)) (w.drop_ _)
        have := find_of w.srt p1
        rw [this] at hd
        injection hd with hd
        rw [← hd]; exact p2
theorem make_ (h : KInv T key best kept) (w : Wf T n) (e : Entry) : KInv (makeT T e) key best kept := by
  unfold makeT
  split
  · exact vict_ e _ T n h w
  · exact h
end KInv
end Tab
end Go.Proofs.Ytgfjkpnaabiecaa
set_option linter.unusedVariables false
set_option linter.unusedSimpArgs false
namespace Go.Proofs.Ytgfjkpnaabiecaa
open Go.RowKit Go.Proofs.YtgfjkpnaabiecaaW.PrintWords
namespace Tab
open Tags
def bestS (T : Tb) (e : Entry) (key : ByteArray) (best : Tag) : Tag := if storeE T e = 0 ∧ e.key = key ∧ 0 < cmpT e.tag best then e.tag else best
def newerE (a b : Entry) : Entry := if cmpT a.tag b.tag < 0 then b else a
theorem newerE_le (a b : Entry) : tle a.tag (newerE a b).tag ∧ tle b.tag (newerE a b).tag := by
  unfold newerE
  by_cases h : cmpT a.tag b.tag < 0
  · rw [if_pos h]; exact ⟨cmpT_le.1 (by omega), tle_refl _⟩
  · rw [if_neg h]; exact ⟨tle_refl _, cmpT_ge.1 (by omega)⟩
theorem find_off (l : List Cell) (k : ByteArray) : find (l.map off) k = (find l k).map off := by
  unfold find
  rw [List.find?_map]
  rfl
namespace KInv
variable {T : Tb} {n : Int} {key : ByteArray} {best : Tag} {kept : Entry}
theorem start {r : Room} (key : ByteArray) : KInv (newT r) key Tag.z ⟨key, Tag.z, Val.z⟩ :=
  ⟨rfl, fun c hc => (by cases hc), fun _ => tle_refl _, fun c hc => (by cases hc), fun c hc => (by cases hc), fun _ _ => rfl⟩
theorem evict_ (h : KInv T key best kept) (w : Wf T n) (j : ByteArray) : KInv (evictT T j) key best kept := by
  unfold evictT
  split
  · rename_i hc
    exact h.drop_ w (fun c hf => by rw [hf] at hc; exact hc)
  · exact h
theorem query_ (h : KInv T key best kept) (hs : Srt T.l) (k : ByteArray) : KInv (queryT T k) key best kept := by
  unfold queryT
  split
  · split
    · rename_i c hc
      have hk := (find_mem hc).2
      by_cases e : k = key
      · subst e
        exact h.lay_at hs hk h.kk (h.up c hc) (h.cl c hc) (h.wh c hc)
      · exact h.lay_far hs (fun e' => e (hk.symm.trans e'))
    · exact h
  · exact h
theorem forget_ (h : KInv T key best kept) (w : Wf T n) : KInv (forgetT T) key best kept := by
  have hf : find (forgetT T).l key = (find T.l key).map off := find_off _ _
  refine ⟨h.kk, fun c hc => ?_, fun hc => ?_, fun c hc => ?_, fun c hc => ?_, fun hc h0 => ?_⟩ <;> rw [hf] at hc
  · obtain ⟨d, hd, rfl⟩ := Option.map_eq_some_iff.1 hc
    exact h.up d hd
  · exact h.no (Option.map_eq_none_iff.1 hc)
  · obtain ⟨d, hd, rfl⟩ := Option.map_eq_some_iff.1 hc
    exact h.cl d hd
  · obtain ⟨d, hd, rfl⟩ := Option.map_eq_some_iff.1 hc
    exact fun hw => by cases hw
  · have hi := tok_in w key
    have hg := tok_ge w key
    have h1 : tokAt (forgetT T) key = tokAt T key + 1 := by
      unfold tokAt
      show (T.tok.map (· + 1)).getD (Hash.bkt key T.room.buckets).toNat 0 = _
      generalize (Hash.bkt key T.room.buckets).toNat = i at *
      simp [List.getD_eq_getElem?_getD, List.getElem?_eq_getElem hi]
    omega
theorem fill_ (h : KInv T key best kept) (w : Wf T n) (tk : Int) : KInv (fillT T kept tk) key best kept := by
  unfold fillT
  split
  · rename_i ho
    split
    · rename_i c hc
      unfold fillOld at hc
      obtain ⟨d, hd, hc⟩ := Option.bind_eq_some_iff.1 hc
      split at hc
      · rename_i hlt
        injection hc with hc
        subst hc
        rw [h.kk] at hd
        have hkd : tle kept.tag d.e.tag := cmpT_ge.1 (by omega)
        refine h.lay_at w.srt (find_mem hd).2 h.kk (h.up d hd) (h.cl d hd) (fun _ => ?_)
        rcases h.up d hd with h1 | h1
        · exact tle_tr h1 hkd
        · exact h1
      · cases hc
    · rename_i hc
      have hb : tle best kept.tag := by
        unfold fillOld at hc
        rw [h.kk] at hc
        cases hf : find T.l key with
        | none => exact h.no hf
        | some d =>
          rw [hf] at hc
          simp only [Option.bind_some] at hc
          split at hc
          · cases hc
          · rename_i hlt
            rcases h.up d hf with h1 | h1
            · exact h1
            · exact tle_tr h1 (cmpT_le.1 hlt)
      split
      · rename_i h0
        obtain ⟨w1, _, _⟩ := w.make_ ho.1 h0 true true 0
        exact (h.make_ w kept).lay_at w1.srt h.kk h.kk (.inl hb) (fun _ => tle_refl _) (fun _ => hb)
      · exact h
  · exact h
theorem store_ (h : KInv T key best kept) (w : Wf T n) (e : Entry) : KInv (storeT T e) key (bestS T e key best) kept := by
  unfold bestS storeT storeE
  by_cases ho : EntOk e ∧ e.tag.seq ≠ 0
  · rw [if_pos ho, if_pos ho]
    cases hc : storeOld T e with
    | some c =>
      dsimp only
      unfold storeOld at hc
      obtain ⟨d, hd, hc⟩ := Option.bind_eq_some_iff.1 hc
      split at hc
      · rename_i hge
        injection hc with hc
        subst hc
        have hed : tle e.tag d.e.tag := cmpT_ge.1 hge
        have hdk := (find_mem hd).2
        by_cases ek : e.key = key
        · rw [ek] at hd
          have hg := h.up d hd
          have hw := h.wh d hd
          split
          · exact h.lay_at w.srt (hdk.trans ek) h.kk (.inr hed) (h.cl d hd) (fun _ => hed)
          · exact h.lay_at w.srt (hdk.trans ek) h.kk hg (h.cl d hd) hw
        · rw [if_neg (fun hx => ek hx.2.1)]
          exact h.lay_far w.srt (fun e' => ek (hdk.symm.trans e'))
      · cases hc
    | none =>
      dsimp only
      by_cases h0 : makeE T e = 0
      · rw [if_pos h0]
        obtain ⟨w1, _, _⟩ := w.make_ ho.1 h0 true true 0
        have hm := h.make_ w e
        by_cases ek : e.key = key
        · have hold : ∀ d, find T.l key = some d → tle d.e.tag e.tag := fun d hd => by
            unfold storeOld at hc
            rw [ek, hd] at hc
            simp only [Option.bind_some] at hc
            split at hc
            · cases hc
            · exact cmpT_le.1 (by omega)
          have hwh : wholeT T e.key = true → tle best e.tag := fun hw => by
            unfold wholeT at hw
            rw [ek] at hw
            cases hf : find T.l key with
            | some d =>
              rw [hf] at hw
              exact tle_tr (h.wh d hf hw) (hold d hf)
            | none =>
              rw [hf] at hw
              have hz := h.zr hf (by simpa using hw)
              rw [hz]
              obtain ⟨_, _, _, _, ht, _⟩ := ho.1
              obtain ⟨t1, _⟩ := ht
              have := ho.2
              unfold tle Tag.z
              left
              show (0 : Int) < e.tag.seq
              omega
          have hup : tle best kept.tag ∨ tle best e.tag := by
            cases hf : find T.l key with
            | none => exact .inl (h.no hf)
            | some d =>
              rcases h.up d hf with h1 | h1
              · exact .inl h1
              · exact .inr (tle_tr h1 (hold d hf))
          split
          · exact hm.lay_at w1.srt ek h.kk (.inr (tle_refl _)) (fun hx => by cases hx) (fun _ => tle_refl _)
          · exact hm.lay_at w1.srt ek h.kk hup (fun hx => by cases hx) hwh
        · rw [if_neg (fun hx => ek hx.2.1)]
          exact hm.lay_far w1.srt ek
      · rw [if_neg h0, if_neg (fun hx => h0 hx.1)]
        exact h
  · rw [if_neg ho, if_neg ho, if_neg (fun hx => by have := hx.1; omega)]
    exact h
theorem clean_far (h : KInv T key best kept) (hs : Srt T.l) {j : ByteArray} (t : Tag) (hj : j ≠ key) : KInv (cleanT T j t) key best kept := by
  unfold cleanT
  split
  · rename_i c hc
    unfold cleanOn at hc
    obtain ⟨d, hd, hc⟩ := Option.bind_eq_some_iff.1 hc
    split at hc
    · cases hc
    · injection hc with hc
      subst hc
      exact h.same (by show find (put T.l _) key = _; rw [find_put hs, if_neg (fun e => hj ((find_mem hd).2.symm.trans e))]) (fun h => h)
  · exact h
theorem clean_at (h : KInv T key best kept) (hs : Srt T.l) {c : Cell} (hf : find T.l key = some c) : KInv (cleanT T key c.e.tag) key best (newerE kept c.e) := by
  have hk := (find_mem hf).2
  have ho : cleanOn T key c.e.tag = some c := by
    unfold cleanOn
    rw [hf]
    show (if 0 < cmpT c.e.tag c.e.tag then none else some c) = some c
    rw [if_neg (cmpT_le.2 (tle_refl _))]
  obtain ⟨n1, n2⟩ := newerE_le kept c.e
  have hf2 : find (cleanT T key c.e.tag).l key = some { c with clean := true } := by
    unfold cleanT
    rw [ho]
    show find (put T.l _) key = _
    rw [find_put hs, if_pos hk]
  refine ⟨?_, fun d hd => ?_, fun hd => ?_, fun d hd => ?_, fun d hd => ?_, fun hd => ?_⟩
  · unfold newerE; split
    · exact hk
    · exact h.kk
  all_goals rw [hf2] at hd
  · injection hd with hd; subst hd
    rcases h.up c hf with h1 | h1
    · exact .inl (tle_tr h1 n1)
    · exact .inr h1
  · cases hd
  · injection hd with hd; subst hd
    exact fun _ => n2
  · injection hd with hd; subst hd
    exact h.wh c hf
  · cases hd
/-- WHAT IS WHOLE TELLS ALL. -/
theorem tells (h : KInv T key best kept) (he : queryE key = 0) (hw : (queryR T key).whole = true) : 0 ≤ cmpT (queryR T key).e.tag best := by
  have hk : KeyOk key := by
    unfold queryE at he
    by_cases hk : KeyOk key
    · exact hk
    · rw [if_neg hk] at he; omega
  unfold queryR at hw ⊢
  rw [if_pos hk] at hw ⊢
  rw [cmpT_ge]
  cases hf : find T.l key with
  | some c =>
    rw [hf] at hw
    exact h.wh c hf hw
  | none =>
    rw [hf] at hw
    have hz := h.zr hf (by simpa using hw)
    rw [hz]
    exact tle_refl _
end KInv
end Tab
end Go.Proofs.Ytgfjkpnaabiecaa
set_option linter.unusedVariables false
set_option linter.unusedSimpArgs false
namespace Go.Proofs.Ytgfjkpnaabiecaa
open Go.RowKit Go.Proofs.YtgfjkpnaabiecaaW.PrintWords
namespace Tab
open Tags
abbrev tcs (t : Tag) : List Value := [.int .i64 t.seq, .int .i64 t.who, .int .i64 t.op]
abbrev ecs (e : Entry) (A : Option Addr) (c : Nat) : List Value := [.string e.key, .int .i64 e.tag.seq, .int .i64 e.tag.who, .int .i64 e.tag.op, .bool e.val.has, .slice A e.val.b.length c]
/-- The loop's things since w: the table, best's box bB, kept's box kB. -/
structure WS (w : World) (p mb tb bB kB : Nat) (T : Tb) (best : Tag) (kept : Entry) (A : Option Addr) (c : Nat) (wr : World) : Prop where
  t : TbR wr p mb tb T
  b : Blk wr bB (tcs best)
  bt : Ty wr 32 bB
  k : Blk wr kB (ecs kept A c)
  kt : Ty wr 37 kB
  f : Kd.FK Entry.k wr (fun i => i ∉ [p, mb, tb, bB, kB]) kept (ecs kept A c)
  bl : Below w.heap.size w wr
  g : w.heap.size ≤ p ∧ w.heap.size ≤ mb ∧ w.heap.size ≤ tb ∧ w.heap.size ≤ bB ∧ w.heap.size ≤ kB
namespace WS
variable {w wr w1 : World} {p mb tb bB kB : Nat} {T T' : Tb} {best : Tag} {kept : Entry} {A : Option Addr} {c : Nat}
theorem ne (h : WS w p mb tb bB kB T best kept A c wr) : bB ∉ [p, mb, tb] ∧ kB ∉ [p, mb, tb] ∧ bB ≠ kB := by
  have n1 := h.t.pty
  have n2 := h.t.tty
  have n3 := h.t.map.noTy
  refine ⟨fun hm => ?_, fun hm => ?_, fun e => ?_⟩
  · simp at hm
    rcases hm with rfl | rfl | rfl
    · exact (h.bt.ne (t' := 83) (by decide)) n1
    · exact n3 _ h.bt
    · exact (h.bt.ne (t' := 3) (by decide)) n2
  · simp at hm
    rcases hm with rfl | rfl | rfl
    · exact (h.kt.ne (t' := 83) (by decide)) n1
    · exact n3 _ h.kt
    · exact (h.kt.ne (t' := 3) (by decide)) n2
  · subst e
    exact (h.bt.ne (t' := 37) (by decide)) h.kt
theorem below (h : WS w p mb tb bB kB T best kept A c wr) (k : Below wr.heap.size wr w1) : WS w p mb tb bB kB T best kept A c w1 :=
  ⟨h.t.below k, h.b.on k, h.bt.below k, h.k.on k, h.kt.below k, Foot.step h.f (fun i _ hlt => k.block i hlt), Below.then_ h.bl k (Nat.le_refl _), h.g⟩
/-- Behind a call on the table. -/
theorem told (h : WS w p mb tb bB kB T best kept A c wr) (ht : TbR w1 p mb tb T') (o : Only [p, mb, tb] wr w1) : WS w p mb tb bB kB T' best kept A c w1 := by
  obtain ⟨n1, n2, n3⟩ := h.ne
  refine ⟨ht, h.b.only o n1, h.bt.only o n1, h.k.only o n2, h.kt.only o n2, Foot.only h.f o (fun i hi hm => hi (by simp at hm ⊢; omega)), ?_, h.g⟩
  exact ((Only.of_below [p, mb, tb] h.bl).trans o).below (by intro i hi; obtain ⟨g1, g2, g3, _⟩ := h.g; simp at hi; rcases hi with rfl | rfl | rfl <;> assumption) (Nat.le_refl _)
/-- best's box is written. -/
theorem setB (h : WS w p mb tb bB kB T best kept A c wr) {best' : Tag} (o : Only [bB] wr w1) (hb : Blk w1 bB (tcs best')) (ht : Ty w1 32 bB) : WS w p mb tb bB kB T best' kept A c w1 := by
  obtain ⟨n1, n2, n3⟩ := h.ne
  simp only [List.mem_cons, List.not_mem_nil, or_false, not_or] at n1 n2
  refine ⟨h.t.only o (by simp; omega) (by simp; omega) (by simp; omega) (fun i hi => by simp at hi; subst hi; exact h.bt.ne (by decide)), hb, ht, h.k.only o (by simp; omega), h.kt.only o (by simp; omega), Foot.only h.f o (fun i hi hm => hi (by simp at hm ⊢; omega)), ?_, h.g⟩
  exact ((Only.of_below [bB] h.bl).trans o).below (by intro i hi; have := h.g; simp at hi; omega) (Nat.le_refl _)
/-- kept's box is written. -/
theorem setK (h : WS w p mb tb bB kB T best kept A c wr) {kept' : Entry} {A' : Option Addr} {c' : Nat} (o : Only [kB] wr w1) (hk : Blk w1 kB (ecs kept' A' c')) (ht : Ty w1 37 kB)
    (hf : Kd.FK Entry.k wr (fun i => i ∉ [p, mb, tb, bB, kB]) kept' (ecs kept' A' c')) : WS w p mb tb bB kB T best kept' A' c' w1 := by
  obtain ⟨n1, n2, n3⟩ := h.ne
  simp only [List.mem_cons, List.not_mem_nil, or_false, not_or] at n1 n2
  refine ⟨h.t.only o (by simp; omega) (by simp; omega) (by simp; omega) (fun i hi => by simp at hi; subst hi; exact h.kt.ne (by decide)), h.b.only o (by simp; omega), h.bt.only o (by simp; omega), hk, ht, Foot.only hf o (fun i hi hm => hi (by simp at hm ⊢; omega)), ?_, h.g⟩
  exact ((Only.of_below [kB] h.bl).trans o).below (by intro i hi; have := h.g; simp at hi; omega) (Nat.le_refl _)
/-- kept may be filled in. -/
theorem fillF (h : WS w p mb tb bB kB T best kept A c wr) : Kd.FK Entry.k wr (fun i => i ∉ [p, mb, tb]) kept (ecs kept A c) :=
  Foot.mono h.f (fun i hi hm => hi (by simp at hm ⊢; omega))
end WS
/-- An entry that lies in elder blocks. -/
theorem ent_old {w : World} {e : Entry} {A : Option Addr} {c : Nat} (h : Entry.k.K w e (ecs e A c)) : Kd.FK Entry.k w (fun i => i < w.heap.size) e (ecs e A c) := by
  obtain ⟨A5, c5, he, s0, r1, r2, r3, l5, g5⟩ := Entry.open_ h
  simp only [ecs, List.cons.injEq, Value.slice.injEq, true_and, and_true] at he
  obtain ⟨rfl, rfl⟩ := he
  exact Foot.imp (kU8_old g5) (fun W' g' => Entry.mk_ W' e s0 r1 r2 r3 l5 g')
theorem do_ent {w : World} {x : Do} {A : Option Addr} {c : Nat} (h : Do.k.K w x ([.int .i64 x.kind] ++ ecs x.e A c ++ [.int .i64 x.token])) : Entry.k.K w x.e (ecs x.e A c) := by
  obtain ⟨A6, c6, he, r0, s1, r2, r3, r4, l6, g6, r7⟩ := Do.open_ h
  simp only [ecs, List.cons_append, List.nil_append, List.cons.injEq, Value.slice.injEq, true_and, and_true] at he
  obtain ⟨rfl, rfl⟩ := he
  exact Entry.mk_ w x.e s1 r2 r3 r4 l6 g6
/-- An elder entry may be stored. -/
theorem WS.storeF {w wr : World} {p mb tb bB kB : Nat} {T : Tb} {best : Tag} {kept : Entry} {A A' : Option Addr} {c c' : Nat} {e : Entry} (h : WS w p mb tb bB kB T best kept A c wr) (he : Entry.k.K w e (ecs e A' c')) :
    Kd.FK Entry.k wr (fun i => i ∉ [p, mb, tb]) e (ecs e A' c') := by
  obtain ⟨g1, g2, g3, _⟩ := h.g
  refine Foot.mono (Foot.step (ent_old he) (fun i _ hlt => h.bl.block i hlt)) (fun i hi hm => ?_)
  simp at hm
  omega
end Tab
end Go.Proofs.Ytgfjkpnaabiecaa
set_option linter.unusedVariables false
set_option linter.unusedSimpArgs false
namespace Go.Proofs.Ytgfjkpnaabiecaa
open Go.RowKit Go.Proofs.YtgfjkpnaabiecaaW.PrintWords
namespace Tab
open Tags
def TrueTold (w : World) (e : Ending) (w' : World) : Prop := e = .returned (.bool true) ∧ Below w.heap.size w w'
set_option maxRecDepth 100000 in
set_option maxHeartbeats 1000000 in
theorem whole_bad (r : Room) (A : Option Addr) (c : Nat) (xs : List Do) (key : ByteArray) (w : World) (hr : Do.k.C w A xs.length xs) (hn : xs.length ≤ 1600000000000) (hb : ¬ RoomOk r) :
    Calls Try.prog 3 #[.agg #[.int .i64 r.cells, .int .i64 r.bytes, .int .i64 r.buckets, .bool r.fresh], .slice A xs.length c, .string key] w (TrueTold w) := by
  have HR := Aside0.mk hr
  have HN : Aside0 (∀ w', Calls Try.prog 10 #[.agg #[.int .i64 r.cells, .int .i64 r.bytes, .int .i64 r.buckets, .bool true]] w' fun e w'' => e = .returned (.tuple #[.pointer none, .int .i64 2]) ∧ Below w'.heap.size w' w'') := ⟨fun w' => by
    refine (new_calls { r with fresh := true } w').mono ?_
    intro e w'' h
    unfold NewTold at h
    rw [if_neg (show ¬ RoomOk { r with fresh := true } from hb)] at h
    exact h⟩
  have HL : Aside0 (∀ w', Below w.heap.size w w' → Calls Try.prog 11 #[.slice A xs.length c] w' fun e w'' => ∃ n : Int, e = .returned (.int .i64 n) ∧ Below w'.heap.size w' w'') := ⟨fun w' h => long_calls A c xs w' (Kd.C_below HR.out h) hn⟩
  obtain ⟨ra, rb, rc, rd⟩ := r
  dsimp only at *
  clear hr hb
  go_enter Try.func3, Try.ntmps3
  go_wp2_with (first
    | ((with_reducible refine (HN.out _).mono ?_); rintro e w1 ⟨rfl, h⟩; have HB := Aside0.mk (Below.then_ (below_alloc (Below.refl _ w) _) h (Nat.le_refl _)); clear h)
    | ((with_reducible refine (HL.out _ HB.out).mono ?_); rintro e w2 ⟨n, rfl, h⟩; have HB := Aside0.mk (Below.then_ HB.out h (Nat.le_refl _)); clear h)
    | ((with_reducible refine (known_true _).mono ?_); rintro e w3 ⟨rfl, h⟩; have HB := Aside0.mk (Below.then_ HB.out h (Nat.le_refl _)); clear h))
  all_goals
    go_ret
    exact ⟨rfl, HB.out⟩
theorem WS.start {w w1 : World} {p mb tb : Nat} {T : Tb} {key : ByteArray} (hk : key.size ≤ 140737488351232) (h : TbR w1 p mb tb T) (hb : Below w.heap.size w w1) (g : w.heap.size ≤ p ∧ w.heap.size ≤ mb ∧ w.heap.size ≤ tb) :
    WS w p mb tb w1.heap.size (w1.heap.size + 1) T Tag.z ⟨key, Tag.z, Val.z⟩ none 0 ((w1.alloc (.cells #[.int .i64 0, .int .i64 0, .int .i64 0] 32)).alloc (.cells #[.string key, .int .i64 0, .int .i64 0, .int .i64 0, .bool false, .slice none 0 0] 37)) := by
  have hs := hb.size
  refine ⟨(h.below (below_alloc (Below.refl _ _) _)).below (below_alloc (Below.refl _ _) _), (Blk.new_ _ _ _ rfl rfl).alloc _, ty_alloc (ty_new rfl) _, Blk.new_ _ _ _ (by simp) rfl, ty_new (by simp), ?_, below_alloc (below_alloc hb _) _, by omega⟩
  exact fun W' _ => Entry.mk_ W' ⟨key, Tag.z, Val.z⟩ hk izr izr izr (Nat.le_refl _) (Kd.C_nil _ _)
set_option maxRecDepth 100000 in
set_option maxHeartbeats 1000000 in
theorem whole_long (r : Room) (A : Option Addr) (c : Nat) (xs : List Do) (key : ByteArray) (w : World) (hr : Do.k.C w A xs.length xs) (hn : xs.length ≤ 1600000000000) (hb : RoomOk r) (hk : 100 < key.size) :
    Calls Try.prog 3 #[.agg #[.int .i64 r.cells, .int .i64 r.bytes, .int .i64 r.buckets, .bool r.fresh], .slice A xs.length c, .string key] w (TrueTold w) := by
  have HR := Aside0.mk hr
  have HN : Aside0 (∀ w', Calls Try.prog 10 #[.agg #[.int .i64 r.cells, .int .i64 r.bytes, .int .i64 r.buckets, .bool true]] w' fun e w'' => ∃ p, e = .returned (.tuple #[.pointer (some ⟨p, 0, none⟩), .int .i64 0]) ∧ Below w'.heap.size w' w'') := ⟨fun w' => by
    refine (new_calls { r with fresh := true } w').mono ?_
    intro e w'' h
    unfold NewTold at h
    rw [if_pos (show RoomOk { r with fresh := true } from hb)] at h
    obtain ⟨p, mb, tb, rfl, _, _, _, _, h5⟩ := h
    exact ⟨p, rfl, h5⟩⟩
  have HL : Aside0 (∀ w', Below w.heap.size w w' → Calls Try.prog 11 #[.slice A xs.length c] w' fun e w'' => ∃ n : Int, e = .returned (.int .i64 n) ∧ Below w'.heap.size w' w'') := ⟨fun w' h => long_calls A c xs w' (Kd.C_below HR.out h) hn⟩
  obtain ⟨ra, rb, rc, rd⟩ := r
  dsimp only at *
  have hk1 : decide ((100 : Int) < (key.size : Int)) = true := by
    have : (100 : Int) < (key.size : Int) := by omega
    simpa using this
  clear hr hb hk
  go_enter Try.func3, Try.ntmps3
  go_wp2_with (first
    | ((with_reducible refine (HN.out _).mono ?_); rintro e w1 ⟨p, rfl, h⟩; have HB := Aside0.mk (Below.then_ (below_alloc (Below.refl _ w) _) h (Nat.le_refl _)); clear h)
    | ((with_reducible refine (HL.out _ HB.out).mono ?_); rintro e w2 ⟨n, rfl, h⟩; have HB := Aside0.mk (Below.then_ HB.out h (Nat.le_refl _)); clear h)
    | ((with_reducible refine (known_true _).mono ?_); rintro e w3 ⟨rfl, h⟩; have HB := Aside0.mk (Below.then_ HB.out h (Nat.le_refl _)); clear h))
  all_goals
    go_ret
    exact ⟨rfl, HB.out⟩
end Tab
end Go.Proofs.Ytgfjkpnaabiecaa
set_option linter.unusedVariables false
set_option linter.unusedSimpArgs false
namespace Go.Proofs.Ytgfjkpnaabiecaa
open Go.RowKit Go.Proofs.YtgfjkpnaabiecaaW.PrintWords
namespace Tab
open Tags
abbrev dcs (x : Do) (A : Option Addr) (c : Nat) : List Value := [.int .i64 x.kind, .string x.e.key, .int .i64 x.e.tag.seq, .int .i64 x.e.tag.who, .int .i64 x.e.tag.op, .bool x.e.val.has, .slice A x.e.val.b.length c, .int .i64 x.token]
/-- A round's things: the loop's, and d's box dB. -/
structure RS (w : World) (p mb tb bB kB dB : Nat) (T : Tb) (best : Tag) (kept : Entry) (A : Option Addr) (c : Nat) (x : Do) (A6 : Option Addr) (c6 : Nat) (wr : World) : Prop where
  s : WS w p mb tb bB kB T best kept A c wr
  d : Blk wr dB (dcs x A6 c6)
  dt : Ty wr 39 dB
  g : w.heap.size ≤ dB
namespace RS
variable {w wr w1 : World} {p mb tb bB kB dB : Nat} {T T' : Tb} {best : Tag} {kept : Entry} {A : Option Addr} {c : Nat} {x : Do} {A6 : Option Addr} {c6 : Nat}
theorem ne (h : RS w p mb tb bB kB dB T best kept A c x A6 c6 wr) : dB ∉ [p, mb, tb] ∧ dB ≠ bB ∧ dB ≠ kB := by
  have n1 := h.s.t.pty
  have n2 := h.s.t.tty
  have n3 := h.s.t.map.noTy
  refine ⟨fun hm => ?_, ?_, ?_⟩
  · simp at hm
    rcases hm with rfl | rfl | rfl
    · exact (h.dt.ne (t' := 83) (by decide)) n1
    · exact n3 _ h.dt
    · exact (h.dt.ne (t' := 3) (by decide)) n2
  · rintro rfl; exact (h.dt.ne (t' := 32) (by decide)) h.s.bt
  · rintro rfl; exact (h.dt.ne (t' := 37) (by decide)) h.s.kt
theorem start (h : WS w p mb tb bB kB T best kept A c wr) (x : Do) (A6 : Option Addr) (c6 : Nat) : RS w p mb tb bB kB wr.heap.size T best kept A c x A6 c6 (wr.alloc (.cells (dcs x A6 c6).toArray 39)) :=
  ⟨h.below (below_alloc (Below.refl _ _) _), Blk.new_ _ _ _ rfl (by simp), ty_new rfl, h.bl.size⟩
theorem below (h : RS w p mb tb bB kB dB T best kept A c x A6 c6 wr) (k : Below wr.heap.size wr w1) : RS w p mb tb bB kB dB T best kept A c x A6 c6 w1 :=
  ⟨h.s.below k, h.d.on k, h.dt.below k, h.g⟩
theorem told (h : RS w p mb tb bB kB dB T best kept A c x A6 c6 wr) (ht : TbR w1 p mb tb T') (o : Only [p, mb, tb] wr w1) : RS w p mb tb bB kB dB T' best kept A c x A6 c6 w1 :=
  ⟨h.s.told ht o, h.d.only o h.ne.1, h.dt.only o h.ne.1, h.g⟩
theorem setB (h : RS w p mb tb bB kB dB T best kept A c x A6 c6 wr) (best' : Tag) : RS w p mb tb bB kB dB T best' kept A c x A6 c6 (((wr.setCell ⟨bB, 0, none⟩ (.int .i64 best'.seq)).setCell ⟨bB, 1, none⟩ (.int .i64 best'.who)).setCell ⟨bB, 2, none⟩ (.int .i64 best'.op)) := by
  have o : Only [bB] wr (((wr.setCell ⟨bB, 0, none⟩ (.int .i64 best'.seq)).setCell ⟨bB, 1, none⟩ (.int .i64 best'.who)).setCell ⟨bB, 2, none⟩ (.int .i64 best'.op)) := (((Only.refl [bB] wr).set (p := ⟨bB, 0, none⟩) _ (.inl (by simp))).set (p := ⟨bB, 1, none⟩) _ (.inl (by simp))).set (p := ⟨bB, 2, none⟩) _ (.inl (by simp))
  obtain ⟨n1, n2, n3⟩ := h.ne
  exact ⟨h.s.setB o (((h.s.b.set 0 (.int .i64 best'.seq)).set 1 (.int .i64 best'.who)).set 2 (.int .i64 best'.op)) (((h.s.bt.set _ _).set _ _).set _ _), h.d.only o (by simp; exact n2), h.dt.only o (by simp; exact n2), h.g⟩
theorem setK (h : RS w p mb tb bB kB dB T best kept A c x A6 c6 wr) (kept' : Entry) (A' : Option Addr) (c' : Nat) (hf : Kd.FK Entry.k wr (fun i => i ∉ [p, mb, tb, bB, kB]) kept' (ecs kept' A' c')) :
    RS w p mb tb bB kB dB T best kept' A' c' x A6 c6 ((((((wr.setCell ⟨kB, 0, none⟩ (.string kept'.key)).setCell ⟨kB, 1, none⟩ (.int .i64 kept'.tag.seq)).setCell ⟨kB, 2, none⟩ (.int .i64 kept'.tag.who)).setCell ⟨kB, 3, none⟩ (.int .i64 kept'.tag.op)).setCell ⟨kB, 4, none⟩ (.bool kept'.val.has)).setCell ⟨kB, 5, none⟩ (.slice A' kept'.val.b.length c')) := by
  have o : Only [kB] wr ((((((wr.setCell ⟨kB, 0, none⟩ (.string kept'.key)).setCell ⟨kB, 1, none⟩ (.int .i64 kept'.tag.seq)).setCell ⟨kB, 2, none⟩ (.int .i64 kept'.tag.who)).setCell ⟨kB, 3, none⟩ (.int .i64 kept'.tag.op)).setCell ⟨kB, 4, none⟩ (.bool kept'.val.has)).setCell ⟨kB, 5, none⟩ (.slice A' kept'.val.b.length c')) := ((((((Only.refl [kB] wr).set (p := ⟨kB, 0, none⟩) _ (.inl (by simp))).set (p := ⟨kB, 1, none⟩) _ (.inl (by simp))).set (p := ⟨kB, 2, none⟩) _ (.inl (by simp))).set (p := ⟨kB, 3, none⟩) _ (.inl (by simp))).set (p := ⟨kB, 4, none⟩) _ (.inl (by simp))).set (p := ⟨kB, 5, none⟩) _ (.inl (by simp))
  obtain ⟨n1, n2, n3⟩ := h.ne
  exact ⟨h.s.setK o ((((((h.s.k.set 0 _).set 1 _).set 2 _).set 3 _).set 4 _).set 5 _) ((((((h.s.kt.set _ _).set _ _).set _ _).set _ _).set _ _).set _ _) hf, h.d.only o (by simp; exact n3), h.dt.only o (by simp; exact n3), h.g⟩
/-- Its cells, as the walk wants them. -/
theorem cells (h : RS w p mb tb bB kB dB T best kept A c x A6 c6 wr) :
    (wr.cell? ⟨dB, 0, none⟩ = some (.int .i64 x.kind) ∧ wr.cell? ⟨dB, 1, none⟩ = some (.string x.e.key) ∧ wr.cell? ⟨dB, 2, none⟩ = some (.int .i64 x.e.tag.seq) ∧ wr.cell? ⟨dB, 3, none⟩ = some (.int .i64 x.e.tag.who) ∧ wr.cell? ⟨dB, 4, none⟩ = some (.int .i64 x.e.tag.op) ∧ wr.cell? ⟨dB, 5, none⟩ = some (.bool x.e.val.has) ∧ wr.cell? ⟨dB, 6, none⟩ = some (.slice A6 x.e.val.b.length c6) ∧ wr.cell? ⟨dB, 7, none⟩ = some (.int .i64 x.token)) ∧
    (wr.cell? ⟨bB, 0, none⟩ = some (.int .i64 best.seq) ∧ wr.cell? ⟨bB, 1, none⟩ = some (.int .i64 best.who) ∧ wr.cell? ⟨bB, 2, none⟩ = some (.int .i64 best.op)) ∧
    (wr.cell? ⟨kB, 0, none⟩ = some (.string kept.key) ∧ wr.cell? ⟨kB, 1, none⟩ = some (.int .i64 kept.tag.seq) ∧ wr.cell? ⟨kB, 2, none⟩ = some (.int .i64 kept.tag.who) ∧ wr.cell? ⟨kB, 3, none⟩ = some (.int .i64 kept.tag.op) ∧ wr.cell? ⟨kB, 4, none⟩ = some (.bool kept.val.has) ∧ wr.cell? ⟨kB, 5, none⟩ = some (.slice A kept.val.b.length c)) :=
  ⟨h.d.eight.1, ⟨h.s.b.cell 0 rfl, h.s.b.cell 1 rfl, h.s.b.cell 2 rfl⟩, h.s.k.six.1⟩
theorem frozen (h : RS w p mb tb bB kB dB T best kept A c x A6 c6 wr) :
    (wr.frozen? ⟨bB, 0, none⟩ = false ∧ wr.frozen? ⟨bB, 1, none⟩ = false ∧ wr.frozen? ⟨bB, 2, none⟩ = false) ∧
    (wr.frozen? ⟨kB, 0, none⟩ = false ∧ wr.frozen? ⟨kB, 1, none⟩ = false ∧ wr.frozen? ⟨kB, 2, none⟩ = false ∧ wr.frozen? ⟨kB, 3, none⟩ = false ∧ wr.frozen? ⟨kB, 4, none⟩ = false ∧ wr.frozen? ⟨kB, 5, none⟩ = false) :=
  ⟨⟨h.s.b.frozen 0 (v := .int .i64 best.seq) rfl, h.s.b.frozen 1 (v := .int .i64 best.who) rfl, h.s.b.frozen 2 (v := .int .i64 best.op) rfl⟩, h.s.k.six.2⟩
end RS
theorem srt_lt {l : List Cell} (hs : Srt l) {i j : Nat} (h : i < j) {a b : Cell} (ha : l[i]? = some a) (hb : l[j]? = some b) : kl a < kl b := by
  obtain ⟨h1, rfl⟩ := List.getElem?_eq_some_iff.1 ha
  obtain ⟨h2, rfl⟩ := List.getElem?_eq_some_iff.1 hb
  exact (List.pairwise_iff_getElem.1 hs) i j h1 h2 h
/-- Element k of a row that lies in ok: its cells, and its entry. -/
theorem cell_atF {w : World} {ok : Nat → Prop} {A : Option Addr} {n : Nat} {xs : List Cell} (h : Kd.F Cell.k w ok A n xs) (k : Nat) (h1 : k < n) : ∃ ad x A5 c5, A = some ad ∧ Aside0 (xs[k]? = some x) ∧ w.cell? (ad.add (k * 9)) = some (.string x.e.key) ∧ w.cell? ⟨(ad.add (k * 9)).block, (ad.add (k * 9)).off + 1, none⟩ = some (.int .i64 x.e.tag.seq) ∧ w.cell? ⟨(ad.add (k * 9)).block, (ad.add (k * 9)).off + 2, none⟩ = some (.int .i64 x.e.tag.who) ∧ w.cell? ⟨(ad.add (k * 9)).block, (ad.add (k * 9)).off + 3, none⟩ = some (.int .i64 x.e.tag.op) ∧ w.cell? ⟨(ad.add (k * 9)).block, (ad.add (k * 9)).off + 4, none⟩ = some (.bool x.e.val.has) ∧ w.cell? ⟨(ad.add (k * 9)).block, (ad.add (k * 9)).off + 5, none⟩ = some (.slice A5 x.e.val.b.length c5) ∧ Aside0 (Kd.FK Entry.k w ok x.e (ecs x.e A5 c5)) ∧ Aside0 (ok ad.block) := by
  have hl : xs.length = n := Kd.F_len h
  obtain ⟨ad, c, e, _, hK, hc0, hok⟩ := Kd.F_get h Cell.z (k : Int) (by omega) (by omega)
  have hc : ∀ j u, c[j]? = some u → w.cell? (ad.add (k * 9 + j)) = some u := hc0
  have hx : xs[k]? = some (xs.getD k Cell.z) := by simp [List.getD_eq_getElem?_getD, show k < xs.length by omega]
  have hK' : Kd.FK Cell.k w ok (xs.getD k Cell.z) c := hK
  generalize xs.getD k Cell.z = x at hK' hx
  obtain ⟨A5, c5, rfl, _⟩ := Cell.open_ (Kd.FK_now hK')
  have hE : Kd.FK Entry.k w ok x.e (ecs x.e A5 c5) := Foot.imp hK' (fun W' hK => by
    obtain ⟨A6, c6, he, s0, r1, r2, r3, l5, g5, r8⟩ := Cell.open_ hK
    simp only [List.cons.injEq, Value.slice.injEq, true_and, and_true] at he
    obtain ⟨rfl, rfl⟩ := he
    exact Entry.mk_ W' x.e s0 r1 r2 r3 l5 g5)
  exact ⟨ad, x, A5, c5, e, ⟨hx⟩, hc 0 _ rfl, by rw [← add_field _ _ 1 (by omega)]; exact hc 1 _ rfl, by rw [← add_field _ _ 2 (by omega)]; exact hc 2 _ rfl, by rw [← add_field _ _ 3 (by omega)]; exact hc 3 _ rfl, by rw [← add_field _ _ 4 (by omega)]; exact hc 4 _ rfl, by rw [← add_field _ _ 5 (by omega)]; exact hc 5 _ rfl, ⟨hE⟩, ⟨hok (by decide)⟩⟩
end Tab
end Go.Proofs.Ytgfjkpnaabiecaa
