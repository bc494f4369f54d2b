/- The reference's Compare, Newer, Long; ent; known. -/
import Derived.Test.YtgfjkpnaabiecaaTabI
import Derived.Test.YtgfjkpnaabiecaaTabJ
import Derived.Test.YtgfjkpnaabiecaaTabH
set_option linter.unusedVariables false
set_option linter.unusedSimpArgs false
namespace Go.Proofs.Ytgfjkpnaabiecaa
open Go.RowKit Go.Proofs.YtgfjkpnaabiecaaW.PrintWords
namespace Tab
open Tags
def nth3 (a : Tag) (k : Nat) : Int := if k = 0 then a.seq else if k = 1 then a.who else a.op
def eqTo (a b : Tag) (k : Nat) : Prop := ∀ j, j < k → nth3 a j = nth3 b j
theorem or3_1 {x y z : Int} (h : x ≠ 0) : or3 x y z = x := by unfold or3; rw [if_pos h]
theorem or3_2 {y z : Int} (h : y ≠ 0) : or3 0 y z = y := by unfold or3; rw [if_neg (by simp), if_pos h]
theorem or3_3 (z : Int) : or3 0 0 z = z := by unfold or3; rw [if_neg (by simp), if_neg (by simp)]
theorem cmpT_at {a b : Tag} {k : Nat} (hk : k < 3) (h : eqTo a b k) (hn : cmp3 (nth3 a k) (nth3 b k) ≠ 0) : cmpT a b = cmp3 (nth3 a k) (nth3 b k) := by
  unfold cmpT
  rcases k with _ | _ | _ | k
  · exact or3_1 hn
  · have h0 : a.seq = b.seq := h 0 (by omega)
    rw [h0, cmp3_eq]
    exact or3_2 hn
  · have h0 : a.seq = b.seq := h 0 (by omega)
    have h1 : a.who = b.who := h 1 (by omega)
    rw [h0, cmp3_eq, h1, cmp3_eq]
    exact or3_3 _
  · omega
theorem cmpT_lt {a b : Tag} {k : Nat} (hk : k < 3) (h : eqTo a b k) (hl : nth3 a k < nth3 b k) : cmpT a b = -1 := by
  rw [cmpT_at hk h (by rw [cmp3_lt hl]; decide), cmp3_lt hl]
theorem cmpT_gt {a b : Tag} {k : Nat} (hk : k < 3) (h : eqTo a b k) (hl : nth3 b k < nth3 a k) : cmpT a b = 1 := by
  rw [cmpT_at hk h (by rw [cmp3_gt hl]; decide), cmp3_gt hl]
theorem cmpT_eq {a b : Tag} (h : eqTo a b 3) : cmpT a b = 0 := by
  have h0 : a.seq = b.seq := h 0 (by omega)
  have h1 : a.who = b.who := h 1 (by omega)
  have h2 : a.op = b.op := h 2 (by omega)
  unfold cmpT
  rw [h0, cmp3_eq, h1, cmp3_eq, h2, cmp3_eq]
  exact or3_3 _
set_option maxRecDepth 100000 in
set_option maxHeartbeats 1000000 in
theorem compareR_calls (a b : Tag) (w : World) : Calls Try.prog 14 #[.agg #[.int .i64 a.seq, .int .i64 a.who, .int .i64 a.op], .agg #[.int .i64 b.seq, .int .i64 b.who, .int .i64 b.op]] w fun e w' => e = .returned (.int .i64 (cmpT a b)) ∧ Below w.heap.size w w' := by
  have HA : Aside0 (∀ k, k < 3 → [Value.int .i64 a.seq, .int .i64 a.who, .int .i64 a.op][k]? = some (.int .i64 (nth3 a k))) := ⟨fun k hk => by rcases k with _ | _ | _ | k <;> first | rfl | omega⟩
  have HBB : Aside0 (∀ k, k < 3 → [Value.int .i64 b.seq, .int .i64 b.who, .int .i64 b.op][k]? = some (.int .i64 (nth3 b k))) := ⟨fun k hk => by rcases k with _ | _ | _ | k <;> first | rfl | omega⟩
  go_enter Try.func14, Try.ntmps14
  go_upto_region 3 with (fail)
  obtain ⟨W, hW⟩ : ∃ W : World, W = (((w.alloc (.cells #[.int .i64 a.seq, .int .i64 a.who, .int .i64 a.op] 32)).alloc (.cells #[.int .i64 b.seq, .int .i64 b.who, .int .i64 b.op] 32)).alloc (.cells #[.int .i64 a.seq, .int .i64 a.who, .int .i64 a.op] 3)).alloc (.cells #[.int .i64 b.seq, .int .i64 b.who, .int .i64 b.op] 3) := ⟨_, rfl⟩
  rw [← hW]
  have HX : Aside0 (Blk W (w.heap.size + 1 + 1) [.int .i64 a.seq, .int .i64 a.who, .int .i64 a.op] ∧ Blk W (w.heap.size + 1 + 1 + 1) [.int .i64 b.seq, .int .i64 b.who, .int .i64 b.op] ∧ Below w.heap.size w W) := ⟨by
    rw [hW]
    exact ⟨(Blk.new_ _ _ _ (by simp) rfl).alloc _, Blk.new_ _ _ _ (by simp) rfl, below_alloc (below_alloc (below_alloc (below_alloc (Below.refl _ _) _) _) _) _⟩⟩
  clear hW
  go_wp2
  go_loopg [7] 3 (fun gk v7 wr => ∃ k : Nat, v7 = .int .i64 (k : Int) ∧ k ≤ 3 ∧ Aside0 (gk + k = 3) ∧ Aside0 (eqTo a b k) ∧ Aside0 (Below W.heap.size W wr))
  case atStart => exact ⟨0, rfl, Nat.zero_le _, ⟨rfl⟩, ⟨fun j hj => absurd hj (by omega)⟩, ⟨Below.refl _ _⟩⟩
  case round =>
    obtain ⟨k, rfl, hk, HGK, HE, HB⟩ := hrel
    by_cases hlt : k < 3
    · have HE' := HE.out
      obtain ⟨x, hx⟩ : ∃ x, x = nth3 a k := ⟨_, rfl⟩
      obtain ⟨y, hy⟩ : ∃ y, y = nth3 b k := ⟨_, rfl⟩
      have rca : ∀ w', Below W.heap.size W w' → w'.cell? ⟨w.heap.size + 1 + 1, k, none⟩ = some (.int .i64 x) := fun w' h => pw_cell_below h (by rw [hx]; exact HX.out.1.cell k (HA.out k hlt))
      have rcb : ∀ w', Below W.heap.size W w' → w'.cell? ⟨w.heap.size + 1 + 1 + 1, k, none⟩ = some (.int .i64 y) := fun w' h => pw_cell_below h (by rw [hy]; exact HX.out.2.1.cell k (HBB.out k hlt))
      have HXY := Aside0.mk (And.intro hx hy)
      clear hx hy HE'
      have hb1 := below_drew HB.out
      have hb2 := below_drew hb1
      have k0 : (0 : Int) ≤ (k : Int) := by omega
      have k1 : (k : Int) < 3 := by omega
      have HBD := Aside0.mk (And.intro hb1 hb2)
      clear hb1 hb2
      rcases Int.lt_trichotomy x y with hl | hl | hl
      · have HL : Aside0 (cmpT a b = -1) := ⟨cmpT_lt hlt HE.out (by rw [← HXY.out.1, ← HXY.out.2]; exact hl)⟩
        have d1 : decide (x < y) = true := by simpa using hl
        clear hl
        go_upto_region 6 with (fail)
        refine wp_region_noPanic ?_
        refine wp_region_held_drew (S := Below W.heap.size W) (by kernel_rfl) HBD.out.1 (fun hHeld => ?_)
        (refine takeH 0 26 (v := ?_) rfl rfl (by kernel_rfl) (by kernel_rfl) (by kernel_rfl) (fun _ _ _ h => h) hHeld rfl ?_ ?_; rotate_left; (focus (intro w' hSw; go_simp; try with_reducible rfl)))
        (try simp only [Act.put, List.setIfInBounds_toArray, List.set_cons_zero, List.set_cons_succ])
        (refine takeH 1 27 (v := ?_) rfl rfl (by kernel_rfl) (by kernel_rfl) (by kernel_rfl) (fun _ _ _ h => h) hHeld rfl ?_ ?_; rotate_left; (focus (intro w' hSw; go_simp; try with_reducible rfl)))
        (try simp only [Act.put, List.setIfInBounds_toArray, List.set_cons_zero, List.set_cons_succ])
        (refine takeH 2 28 (v := ?_) rfl rfl (by kernel_rfl) (by kernel_rfl) (by kernel_rfl) (fun _ _ _ h => h) hHeld rfl ?_ ?_; rotate_left; (focus (intro w' hSw; go_simp; try with_reducible rfl)))
        (try simp only [Act.put, List.setIfInBounds_toArray, List.set_cons_zero, List.set_cons_succ])
        (refine takeH 3 29 (v := ?_) rfl rfl (by kernel_rfl) (by kernel_rfl) (by kernel_rfl) (fun _ _ _ h => h) hHeld rfl ?_ ?_; rotate_left; (focus (intro w' hSw; go_simp; try with_reducible rfl)))
        (try simp only [Act.put, List.setIfInBounds_toArray, List.set_cons_zero, List.set_cons_succ])
        (refine takeH 4 30 (v := ?_) rfl rfl (by kernel_rfl) (by kernel_rfl) (by kernel_rfl) (fun _ _ _ h => h) hHeld rfl ?_ ?_; rotate_left; (focus (intro w' hSw; go_simp; try with_reducible rfl)))
        (try simp only [Act.put, List.setIfInBounds_toArray, List.set_cons_zero, List.set_cons_succ])
        (refine takeH 5 31 (v := ?_) rfl rfl (by kernel_rfl) (by kernel_rfl) (by kernel_rfl) (fun _ _ _ h => h) hHeld rfl ?_ ?_; rotate_left; (focus (intro w' hSw; go_simp; try with_reducible rfl)))
        (try simp only [Act.put, List.setIfInBounds_toArray, List.set_cons_zero, List.set_cons_succ])
        (refine takeH 6 32 (v := ?_) rfl rfl (by kernel_rfl) (by kernel_rfl) (by kernel_rfl) (fun _ _ _ h => h) hHeld rfl ?_ ?_; rotate_left; (focus (intro w' hSw; go_simp; try with_reducible rfl)))
        (try simp only [Act.put, List.setIfInBounds_toArray, List.set_cons_zero, List.set_cons_succ])
        (refine takeH 7 33 (v := ?_) rfl rfl (by kernel_rfl) (by kernel_rfl) (by kernel_rfl) (fun _ _ _ h => h) hHeld rfl ?_ ?_; rotate_left; (focus (intro w' hSw; go_simp; try with_reducible rfl)))
        (try simp only [Act.put, List.setIfInBounds_toArray, List.set_cons_zero, List.set_cons_succ])
        (refine takeH 8 34 (v := ?_) rfl rfl (by kernel_rfl) (by kernel_rfl) (by kernel_rfl) (fun _ _ _ h => h) hHeld rfl ?_ ?_; rotate_left; (focus (intro w' hSw; go_simp; try with_reducible rfl)))
        (try simp only [Act.put, List.setIfInBounds_toArray, List.set_cons_zero, List.set_cons_succ])
        refine wpAnyH_done (by kernel_rfl) ?_ _
        refine NoPanic.normal ?_
        go_wp2
        try rw [Exit.noGoto_ret]
        go_ret
        exact ⟨by rw [HL.out]; rfl, Below.then_ HX.out.2.2 HBD.out.1 (Nat.le_refl _)⟩
      · have HL : Aside0 (eqTo a b (k + 1)) := ⟨fun j hj => by
          rcases Nat.lt_succ_iff_lt_or_eq.1 hj with h | rfl
          · exact HE.out j h
          · rw [← HXY.out.1, ← HXY.out.2]; exact hl⟩
        have d1 : decide (x < y) = false := by have : ¬ x < y := by omega
                                               simpa using this
        have d2 : decide (y < x) = false := by have : ¬ y < x := by omega
                                               simpa using this
        clear hl
        go_upto_region 6 with (fail)
        refine wp_region_noPanic ?_
        refine wp_region_held_drew (S := Below W.heap.size W) (by kernel_rfl) HBD.out.1 (fun hHeld => ?_)
        (refine takeH 0 26 (v := ?_) rfl rfl (by kernel_rfl) (by kernel_rfl) (by kernel_rfl) (fun _ _ _ h => h) hHeld rfl ?_ ?_; rotate_left; (focus (intro w' hSw; go_simp; try with_reducible rfl)))
        (try simp only [Act.put, List.setIfInBounds_toArray, List.set_cons_zero, List.set_cons_succ])
        (refine takeH 1 27 (v := ?_) rfl rfl (by kernel_rfl) (by kernel_rfl) (by kernel_rfl) (fun _ _ _ h => h) hHeld rfl ?_ ?_; rotate_left; (focus (intro w' hSw; go_simp; try with_reducible rfl)))
        (try simp only [Act.put, List.setIfInBounds_toArray, List.set_cons_zero, List.set_cons_succ])
        (refine takeH 2 28 (v := ?_) rfl rfl (by kernel_rfl) (by kernel_rfl) (by kernel_rfl) (fun _ _ _ h => h) hHeld rfl ?_ ?_; rotate_left; (focus (intro w' hSw; go_simp; try with_reducible rfl)))
        (try simp only [Act.put, List.setIfInBounds_toArray, List.set_cons_zero, List.set_cons_succ])
        (refine takeH 3 29 (v := ?_) rfl rfl (by kernel_rfl) (by kernel_rfl) (by kernel_rfl) (fun _ _ _ h => h) hHeld rfl ?_ ?_; rotate_left; (focus (intro w' hSw; go_simp; try with_reducible rfl)))
        (try simp only [Act.put, List.setIfInBounds_toArray, List.set_cons_zero, List.set_cons_succ])
        (refine takeH 4 30 (v := ?_) rfl rfl (by kernel_rfl) (by kernel_rfl) (by kernel_rfl) (fun _ _ _ h => h) hHeld rfl ?_ ?_; rotate_left; (focus (intro w' hSw; go_simp; try with_reducible rfl)))
        (try simp only [Act.put, List.setIfInBounds_toArray, List.set_cons_zero, List.set_cons_succ])
        (refine takeH 5 31 (v := ?_) rfl rfl (by kernel_rfl) (by kernel_rfl) (by kernel_rfl) (fun _ _ _ h => h) hHeld rfl ?_ ?_; rotate_left; (focus (intro w' hSw; go_simp; try with_reducible rfl)))
        (try simp only [Act.put, List.setIfInBounds_toArray, List.set_cons_zero, List.set_cons_succ])
        (refine takeH 6 32 (v := ?_) rfl rfl (by kernel_rfl) (by kernel_rfl) (by kernel_rfl) (fun _ _ _ h => h) hHeld rfl ?_ ?_; rotate_left; (focus (intro w' hSw; go_simp; try with_reducible rfl)))
        (try simp only [Act.put, List.setIfInBounds_toArray, List.set_cons_zero, List.set_cons_succ])
        (refine takeH 7 33 (v := ?_) rfl rfl (by kernel_rfl) (by kernel_rfl) (by kernel_rfl) (fun _ _ _ h => h) hHeld rfl ?_ ?_; rotate_left; (focus (intro w' hSw; go_simp; try with_reducible rfl)))
        (try simp only [Act.put, List.setIfInBounds_toArray, List.set_cons_zero, List.set_cons_succ])
        (refine takeH 8 34 (v := ?_) rfl rfl (by kernel_rfl) (by kernel_rfl) (by kernel_rfl) (fun _ _ _ h => h) hHeld rfl ?_ ?_; rotate_left; (focus (intro w' hSw; go_simp; try with_reducible rfl)))
        (try simp only [Act.put, List.setIfInBounds_toArray, List.set_cons_zero, List.set_cons_succ])
        refine wpAnyH_done (by kernel_rfl) ?_ _
        refine NoPanic.normal ?_
        go_upto_region 8 with (fail)
        refine wp_region_noPanic ?_
        refine wp_region_held_drew (S := Below W.heap.size W) (by kernel_rfl) HBD.out.2 (fun hHeld => ?_)
        (refine takeH 0 35 (v := ?_) rfl rfl (by kernel_rfl) (by kernel_rfl) (by kernel_rfl) (fun _ _ _ h => h) hHeld rfl ?_ ?_; rotate_left; (focus (intro w' hSw; go_simp; try with_reducible rfl)))
        (try simp only [Act.put, List.setIfInBounds_toArray, List.set_cons_zero, List.set_cons_succ])
        (refine takeH 1 36 (v := ?_) rfl rfl (by kernel_rfl) (by kernel_rfl) (by kernel_rfl) (fun _ _ _ h => h) hHeld rfl ?_ ?_; rotate_left; (focus (intro w' hSw; go_simp; try with_reducible rfl)))
        (try simp only [Act.put, List.setIfInBounds_toArray, List.set_cons_zero, List.set_cons_succ])
        (refine takeH 2 37 (v := ?_) rfl rfl (by kernel_rfl) (by kernel_rfl) (by kernel_rfl) (fun _ _ _ h => h) hHeld rfl ?_ ?_; rotate_left; (focus (intro w' hSw; go_simp; try with_reducible rfl)))
        (try simp only [Act.put, List.setIfInBounds_toArray, List.set_cons_zero, List.set_cons_succ])
        (refine takeH 3 38 (v := ?_) rfl rfl (by kernel_rfl) (by kernel_rfl) (by kernel_rfl) (fun _ _ _ h => h) hHeld rfl ?_ ?_; rotate_left; (focus (intro w' hSw; go_simp; try with_reducible rfl)))
        (try simp only [Act.put, List.setIfInBounds_toArray, List.set_cons_zero, List.set_cons_succ])
        (refine takeH 4 39 (v := ?_) rfl rfl (by kernel_rfl) (by kernel_rfl) (by kernel_rfl) (fun _ _ _ h => h) hHeld rfl ?_ ?_; rotate_left; (focus (intro w' hSw; go_simp; try with_reducible rfl)))
        (try simp only [Act.put, List.setIfInBounds_toArray, List.set_cons_zero, List.set_cons_succ])
        (refine takeH 5 40 (v := ?_) rfl rfl (by kernel_rfl) (by kernel_rfl) (by kernel_rfl) (fun _ _ _ h => h) hHeld rfl ?_ ?_; rotate_left; (focus (intro w' hSw; go_simp; try with_reducible rfl)))
        (try simp only [Act.put, List.setIfInBounds_toArray, List.set_cons_zero, List.set_cons_succ])
        (refine takeH 6 41 (v := ?_) rfl rfl (by kernel_rfl) (by kernel_rfl) (by kernel_rfl) (fun _ _ _ h => h) hHeld rfl ?_ ?_; rotate_left; (focus (intro w' hSw; go_simp; try with_reducible rfl)))
        (try simp only [Act.put, List.setIfInBounds_toArray, List.set_cons_zero, List.set_cons_succ])
        (refine takeH 7 42 (v := ?_) rfl rfl (by kernel_rfl) (by kernel_rfl) (by kernel_rfl) (fun _ _ _ h => h) hHeld rfl ?_ ?_; rotate_left; (focus (intro w' hSw; go_simp; try with_reducible rfl)))
        (try simp only [Act.put, List.setIfInBounds_toArray, List.set_cons_zero, List.set_cons_succ])
        (refine takeH 8 43 (v := ?_) rfl rfl (by kernel_rfl) (by kernel_rfl) (by kernel_rfl) (fun _ _ _ h => h) hHeld rfl ?_ ?_; rotate_left; (focus (intro w' hSw; go_simp; try with_reducible rfl)))
        (try simp only [Act.put, List.setIfInBounds_toArray, List.set_cons_zero, List.set_cons_succ])
        refine wpAnyH_done (by kernel_rfl) ?_ _
        refine NoPanic.normal ?_
        go_wp2
        go_roundg (3 - (k + 1))
        case measure => have := HGK.out; omega
        case rel => exact ⟨k + 1, by go_num, by omega, ⟨by omega⟩, HL, ⟨HBD.out.2⟩⟩
      · have HL : Aside0 (cmpT a b = 1) := ⟨cmpT_gt hlt HE.out (by rw [← HXY.out.1, ← HXY.out.2]; exact hl)⟩
        have d1 : decide (x < y) = false := by have : ¬ x < y := by omega
                                               simpa using this
        have d2 : decide (y < x) = true := by simpa using hl
        clear hl
        go_upto_region 6 with (fail)
        refine wp_region_noPanic ?_
        refine wp_region_held_drew (S := Below W.heap.size W) (by kernel_rfl) HBD.out.1 (fun hHeld => ?_)
        (refine takeH 0 26 (v := ?_) rfl rfl (by kernel_rfl) (by kernel_rfl) (by kernel_rfl) (fun _ _ _ h => h) hHeld rfl ?_ ?_; rotate_left; (focus (intro w' hSw; go_simp; try with_reducible rfl)))
        (try simp only [Act.put, List.setIfInBounds_toArray, List.set_cons_zero, List.set_cons_succ])
        (refine takeH 1 27 (v := ?_) rfl rfl (by kernel_rfl) (by kernel_rfl) (by kernel_rfl) (fun _ _ _ h => h) hHeld rfl ?_ ?_; rotate_left; (focus (intro w' hSw; go_simp; try with_reducible rfl)))
        (try simp only [Act.put, List.setIfInBounds_toArray, List.set_cons_zero, List.set_cons_succ])
        (refine takeH 2 28 (v := ?_) rfl rfl (by kernel_rfl) (by kernel_rfl) (by kernel_rfl) (fun _ _ _ h => h) hHeld rfl ?_ ?_; rotate_left; (focus (intro w' hSw; go_simp; try with_reducible rfl)))
        (try simp only [Act.put, List.setIfInBounds_toArray, List.set_cons_zero, List.set_cons_succ])
        (refine takeH 3 29 (v := ?_) rfl rfl (by kernel_rfl) (by kernel_rfl) (by kernel_rfl) (fun _ _ _ h => h) hHeld rfl ?_ ?_; rotate_left; (focus (intro w' hSw; go_simp; try with_reducible rfl)))
        (try simp only [Act.put, List.setIfInBounds_toArray, List.set_cons_zero, List.set_cons_succ])
        (refine takeH 4 30 (v := ?_) rfl rfl (by kernel_rfl) (by kernel_rfl) (by kernel_rfl) (fun _ _ _ h => h) hHeld rfl ?_ ?_; rotate_left; (focus (intro w' hSw; go_simp; try with_reducible rfl)))
        (try simp only [Act.put, List.setIfInBounds_toArray, List.set_cons_zero, List.set_cons_succ])
        (refine takeH 5 31 (v := ?_) rfl rfl (by kernel_rfl) (by kernel_rfl) (by kernel_rfl) (fun _ _ _ h => h) hHeld rfl ?_ ?_; rotate_left; (focus (intro w' hSw; go_simp; try with_reducible rfl)))
        (try simp only [Act.put, List.setIfInBounds_toArray, List.set_cons_zero, List.set_cons_succ])
        (refine takeH 6 32 (v := ?_) rfl rfl (by kernel_rfl) (by kernel_rfl) (by kernel_rfl) (fun _ _ _ h => h) hHeld rfl ?_ ?_; rotate_left; (focus (intro w' hSw; go_simp; try with_reducible rfl)))
        (try simp only [Act.put, List.setIfInBounds_toArray, List.set_cons_zero, List.set_cons_succ])
        (refine takeH 7 33 (v := ?_) rfl rfl (by kernel_rfl) (by kernel_rfl) (by kernel_rfl) (fun _ _ _ h => h) hHeld rfl ?_ ?_; rotate_left; (focus (intro w' hSw; go_simp; try with_reducible rfl)))
        (try simp only [Act.put, List.setIfInBounds_toArray, List.set_cons_zero, List.set_cons_succ])
        (refine takeH 8 34 (v := ?_) rfl rfl (by kernel_rfl) (by kernel_rfl) (by kernel_rfl) (fun _ _ _ h => h) hHeld rfl ?_ ?_; rotate_left; (focus (intro w' hSw; go_simp; try with_reducible rfl)))
        (try simp only [Act.put, List.setIfInBounds_toArray, List.set_cons_zero, List.set_cons_succ])
        refine wpAnyH_done (by kernel_rfl) ?_ _
        refine NoPanic.normal ?_
        go_upto_region 8 with (fail)
        refine wp_region_noPanic ?_
        refine wp_region_held_drew (S := Below W.heap.size W) (by kernel_rfl) HBD.out.2 (fun hHeld => ?_)
        (refine takeH 0 35 (v := ?_) rfl rfl (by kernel_rfl) (by kernel_rfl) (by kernel_rfl) (fun _ _ _ h => h) hHeld rfl ?_ ?_; rotate_left; (focus (intro w' hSw; go_simp; try with_reducible rfl)))
        (try simp only [Act.put, List.setIfInBounds_toArray, List.set_cons_zero, List.set_cons_succ])
        (refine takeH 1 36 (v := ?_) rfl rfl (by kernel_rfl) (by kernel_rfl) (by kernel_rfl) (fun _ _ _ h => h) hHeld rfl ?_ ?_; rotate_left; (focus (intro w' hSw; go_simp; try with_reducible rfl)))
        (try simp only [Act.put, List.setIfInBounds_toArray, List.set_cons_zero, List.set_cons_succ])
        (refine takeH 2 37 (v := ?_) rfl rfl (by kernel_rfl) (by kernel_rfl) (by kernel_rfl) (fun _ _ _ h => h) hHeld rfl ?_ ?_; rotate_left; (focus (intro w' hSw; go_simp; try with_reducible rfl)))
        (try simp only [Act.put, List.setIfInBounds_toArray, List.set_cons_zero, List.set_cons_succ])
        (refine takeH 3 38 (v := ?_) rfl rfl (by kernel_rfl) (by kernel_rfl) (by kernel_rfl) (fun _ _ _ h => h) hHeld rfl ?_ ?_; rotate_left; (focus (intro w' hSw; go_simp; try with_reducible rfl)))
        (try simp only [Act.put, List.setIfInBounds_toArray, List.set_cons_zero, List.set_cons_succ])
        (refine takeH 4 39 (v := ?_) rfl rfl (by kernel_rfl) (by kernel_rfl) (by kernel_rfl) (fun _ _ _ h => h) hHeld rfl ?_ ?_; rotate_left; (focus (intro w' hSw; go_simp; try with_reducible rfl)))
        (try simp only [Act.put, List.setIfInBounds_toArray, List.set_cons_zero, List.set_cons_succ])
        (refine takeH 5 40 (v := ?_) rfl rfl (by kernel_rfl) (by kernel_rfl) (by kernel_rfl) (fun _ _ _ h => h) hHeld rfl ?_ ?_; rotate_left; (focus (intro w' hSw; go_simp; try with_reducible rfl)))
        (try simp only [Act.put, List.setIfInBounds_toArray, List.set_cons_zero, List.set_cons_succ])
        (refine takeH 6 41 (v := ?_) rfl rfl (by kernel_rfl) (by kernel_rfl) (by kernel_rfl) (fun _ _ _ h => h) hHeld rfl ?_ ?_; rotate_left; (focus (intro w' hSw; go_simp; try with_reducible rfl)))
        (try simp only [Act.put, List.setIfInBounds_toArray, List.set_cons_zero, List.set_cons_succ])
        (refine takeH 7 42 (v := ?_) rfl rfl (by kernel_rfl) (by kernel_rfl) (by kernel_rfl) (fun _ _ _ h => h) hHeld rfl ?_ ?_; rotate_left; (focus (intro w' hSw; go_simp; try with_reducible rfl)))
        (try simp only [Act.put, List.setIfInBounds_toArray, List.set_cons_zero, List.set_cons_succ])
        (refine takeH 8 43 (v := ?_) rfl rfl (by kernel_rfl) (by kernel_rfl) (by kernel_rfl) (fun _ _ _ h => h) hHeld rfl ?_ ?_; rotate_left; (focus (intro w' hSw; go_simp; try with_reducible rfl)))
        (try simp only [Act.put, List.setIfInBounds_toArray, List.set_cons_zero, List.set_cons_succ])
        refine wpAnyH_done (by kernel_rfl) ?_ _
        refine NoPanic.normal ?_
        go_wp2
        try rw [Exit.noGoto_ret]
        go_ret
        exact ⟨by rw [HL.out]; rfl, Below.then_ HX.out.2.2 HBD.out.2 (Nat.le_refl _)⟩
    · obtain rfl : k = 3 := by omega
      go_wp2
      go_ret
      exact ⟨by rw [cmpT_eq HE.out]; rfl, Below.then_ HX.out.2.2 HB.out (Nat.le_refl _)⟩
theorem newer_calls (a b : Entry) (A B : Option Addr) (ca cb : Nat) (w : World) :
    Calls Try.prog 17 #[.agg #[.string a.key, .int .i64 a.tag.seq, .int .i64 a.tag.who, .int .i64 a.tag.op, .bool a.val.has, .slice A a.val.b.length ca], .agg #[.string b.key, .int .i64 b.tag.seq, .int .i64 b.tag.who, .int .i64 b.tag.op, .bool b.val.has, .slice B b.val.b.length cb]] w fun e w' =>
      e = .returned (if cmpT a.tag b.tag < 0 then .agg #[.string b.key, .int .i64 b.tag.seq, .int .i64 b.tag.who, .int .i64 b.tag.op, .bool b.val.has, .slice B b.val.b.length cb] else .agg #[.string a.key, .int .i64 a.tag.seq, .int .i64 a.tag.who, .int .i64 a.tag.op, .bool a.val.has, .slice A a.val.b.length ca]) ∧ Below w.heap.size w w' := by
  obtain ⟨ak, ⟨a1, a2, a3⟩, ⟨ah, ab⟩⟩ := a
  obtain ⟨bk, ⟨b1, b2, b3⟩, ⟨bh, bb⟩⟩ := b
  have hc0 := fun w' => compareR_calls ⟨a1, a2, a3⟩ ⟨b1, b2, b3⟩ w'
  dsimp only at hc0 ⊢
  have HC := Aside0.mk hc0
  clear hc0
  obtain ⟨W, hW⟩ : ∃ W : World, W = ((w.alloc (.cells #[.string ak, .int .i64 a1, .int .i64 a2, .int .i64 a3, .bool ah, .slice A ab.length ca] 37)).alloc (.cells #[.string bk, .int .i64 b1, .int .i64 b2, .int .i64 b3, .bool bh, .slice B bb.length cb] 37)).alloc (.cells #[.string ByteArray.empty, .int .i64 0, .int .i64 0, .int .i64 0, .bool false, .slice none 0 0] 37) := ⟨_, rfl⟩
  have hX : Blk W w.heap.size [.string ak, .int .i64 a1, .int .i64 a2, .int .i64 a3, .bool ah, .slice A ab.length ca] ∧ Blk W (w.heap.size + 1) [.string bk, .int .i64 b1, .int .i64 b2, .int .i64 b3, .bool bh, .slice B bb.length cb] ∧ Blk W (w.heap.size + 1 + 1) [.string ByteArray.empty, .int .i64 0, .int .i64 0, .int .i64 0, .bool false, .slice none 0 0] ∧ Below w.heap.size w W := by
    rw [hW]
    exact ⟨((Blk.new_ _ _ _ rfl rfl).alloc _).alloc _, (Blk.new_ _ _ _ (by simp) rfl).alloc _, Blk.new_ _ _ _ (by simp) rfl, below_alloc (below_alloc (below_alloc (Below.refl _ _) _) _) _⟩
  have HX := Aside0.mk hX
  have HW : Aside0 (W = ((w.alloc (.cells #[.string ak, .int .i64 a1, .int .i64 a2, .int .i64 a3, .bool ah, .slice A ab.length ca] 37)).alloc (.cells #[.string bk, .int .i64 b1, .int .i64 b2, .int .i64 b3, .bool bh, .slice B bb.length cb] 37)).alloc (.cells #[.string ⟨#[]⟩, .int .i64 0, .int .i64 0, .int .i64 0, .bool false, .slice none 0 0] 37)) := ⟨hW⟩
  clear hX hW
  by_cases hl : cmpT ⟨a1, a2, a3⟩ ⟨b1, b2, b3⟩ < 0
  · rw [if_pos hl]
    have d1 : decide (cmpT ⟨a1, a2, a3⟩ ⟨b1, b2, b3⟩ < 0) = true := by simpa using hl
    clear hl
    go_enter Try.func17, Try.ntmps17
    go_wp2_with (first | ((with_reducible refine (HC.out _).mono ?_); rintro e w4 ⟨rfl, hb4⟩; rw [← HW.out] at hb4; have H4 := Aside0.mk (And.intro (HX.out.1.on hb4) (And.intro (HX.out.2.1.on hb4) (And.intro (HX.out.2.2.1.on hb4) (Below.then_ HX.out.2.2.2 hb4 (Nat.le_refl _))))); obtain ⟨⟨x0, x1, x2, x3, x4, x5⟩, fx⟩ := H4.out.1.six; obtain ⟨⟨y0, y1, y2, y3, y4, y5⟩, fy⟩ := H4.out.2.1.six; obtain ⟨⟨z0, z1, z2, z3, z4, z5⟩, g0, g1, g2, g3, g4, g5⟩ := H4.out.2.2.1.six; clear hb4 fx fy))
    obtain ⟨W9, hW9⟩ : ∃ W9 : World, W9 = ((((((w4.setCell ⟨w.heap.size + 1 + 1, 0, none⟩ (.string bk)).setCell ⟨w.heap.size + 1 + 1, 1, none⟩ (.int .i64 b1)).setCell ⟨w.heap.size + 1 + 1, 2, none⟩ (.int .i64 b2)).setCell ⟨w.heap.size + 1 + 1, 3, none⟩ (.int .i64 b3)).setCell ⟨w.heap.size + 1 + 1, 4, none⟩ (.bool bh)).setCell ⟨w.heap.size + 1 + 1, 5, none⟩ (.slice B bb.length cb)) := ⟨_, rfl⟩
    rw [← hW9]
    have h9 : Blk W9 (w.heap.size + 1 + 1) [.string bk, .int .i64 b1, .int .i64 b2, .int .i64 b3, .bool bh, .slice B bb.length cb] := by rw [hW9]; exact (((((((H4.out.2.2.1.set 0 (.string bk)).set 1 (.int .i64 b1)).set 2 (.int .i64 b2)).set 3 (.int .i64 b3)).set 4 (.bool bh)).set 5 (.slice B bb.length cb))).cast rfl
    have hb9 : Below w.heap.size w W9 := by rw [hW9]; exact ((((((H4.out.2.2.2.setCell (p := ⟨w.heap.size + 1 + 1, 0, none⟩) (by simp; omega) (.string bk)).setCell (p := ⟨w.heap.size + 1 + 1, 1, none⟩) (by simp; omega) (.int .i64 b1)).setCell (p := ⟨w.heap.size + 1 + 1, 2, none⟩) (by simp; omega) (.int .i64 b2)).setCell (p := ⟨w.heap.size + 1 + 1, 3, none⟩) (by simp; omega) (.int .i64 b3)).setCell (p := ⟨w.heap.size + 1 + 1, 4, none⟩) (by simp; omega) (.bool bh)).setCell (p := ⟨w.heap.size + 1 + 1, 5, none⟩) (by simp; omega) (.slice B bb.length cb))
    clear hW9 z0 z1 z2 z3 z4 z5
    obtain ⟨⟨z0, z1, z2, z3, z4, z5⟩, _⟩ := h9.six
    refine bodyPost_ret (v := .agg #[.string bk, .int .i64 b1, .int .i64 b2, .int .i64 b3, .bool bh, .slice B bb.length cb]) (by simp [results, Try.results17, go_sem, z0, z1, z2, z3, z4, z5]; try rfl) rfl ?_
    exact ⟨rfl, hb9⟩
  · rw [if_neg hl]
    have d1 : decide (cmpT ⟨a1, a2, a3⟩ ⟨b1, b2, b3⟩ < 0) = false := by simpa using hl
    clear hl
    go_enter Try.func17, Try.ntmps17
    go_wp2_with (first | ((with_reducible refine (HC.out _).mono ?_); rintro e w4 ⟨rfl, hb4⟩; rw [← HW.out] at hb4; have H4 := Aside0.mk (And.intro (HX.out.1.on hb4) (And.intro (HX.out.2.1.on hb4) (And.intro (HX.out.2.2.1.on hb4) (Below.then_ HX.out.2.2.2 hb4 (Nat.le_refl _))))); obtain ⟨⟨x0, x1, x2, x3, x4, x5⟩, fx⟩ := H4.out.1.six; obtain ⟨⟨y0, y1, y2, y3, y4, y5⟩, fy⟩ := H4.out.2.1.six; obtain ⟨⟨z0, z1, z2, z3, z4, z5⟩, g0, g1, g2, g3, g4, g5⟩ := H4.out.2.2.1.six; clear hb4 fx fy))
    obtain ⟨W9, hW9⟩ : ∃ W9 : World, W9 = ((((((w4.setCell ⟨w.heap.size + 1 + 1, 0, none⟩ (.string ak)).setCell ⟨w.heap.size + 1 + 1, 1, none⟩ (.int .i64 a1)).setCell ⟨w.heap.size + 1 + 1, 2, none⟩ (.int .i64 a2)).setCell ⟨w.heap.size + 1 + 1, 3, none⟩ (.int .i64 a3)).setCell ⟨w.heap.size + 1 + 1, 4, none⟩ (.bool ah)).setCell ⟨w.heap.size + 1 + 1, 5, none⟩ (.slice A ab.length ca)) := ⟨_, rfl⟩
    rw [← hW9]
    have h9 : Blk W9 (w.heap.size + 1 + 1) [.string ak, .int .i64 a1, .int .i64 a2, .int .i64 a3, .bool ah, .slice A ab.length ca] := by rw [hW9]; exact (((((((H4.out.2.2.1.set 0 (.string ak)).set 1 (.int .i64 a1)).set 2 (.int .i64 a2)).set 3 (.int .i64 a3)).set 4 (.bool ah)).set 5 (.slice A ab.length ca))).cast rfl
    have hb9 : Below w.heap.size w W9 := by rw [hW9]; exact ((((((H4.out.2.2.2.setCell (p := ⟨w.heap.size + 1 + 1, 0, none⟩) (by simp; omega) (.string ak)).setCell (p := ⟨w.heap.size + 1 + 1, 1, none⟩) (by simp; omega) (.int .i64 a1)).setCell (p := ⟨w.heap.size + 1 + 1, 2, none⟩) (by simp; omega) (.int .i64 a2)).setCell (p := ⟨w.heap.size + 1 + 1, 3, none⟩) (by simp; omega) (.int .i64 a3)).setCell (p := ⟨w.heap.size + 1 + 1, 4, none⟩) (by simp; omega) (.bool ah)).setCell (p := ⟨w.heap.size + 1 + 1, 5, none⟩) (by simp; omega) (.slice A ab.length ca))
    clear hW9 z0 z1 z2 z3 z4 z5
    obtain ⟨⟨z0, z1, z2, z3, z4, z5⟩, _⟩ := h9.six
    refine bodyPost_ret (v := .agg #[.string ak, .int .i64 a1, .int .i64 a2, .int .i64 a3, .bool ah, .slice A ab.length ca]) (by simp [results, Try.results17, go_sem, z0, z1, z2, z3, z4, z5]; try rfl) rfl ?_
    exact ⟨rfl, hb9⟩
end Tab
end Go.Proofs.Ytgfjkpnaabiecaa
