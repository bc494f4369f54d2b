/- The statements' own example: known() answers true. -/
import Derived.Test.YtgconogjnjhmgaaLinH
namespace Go.Proofs.Ytgconogjnjhmgaa
open Go.RowKit Go.Proofs.YtgconogjnjhmgaaW.PrintWords
namespace LinI
open LinA LinB LinC LinD LinE LinF LinG LinH
def xs1 (n : Int) : List Deed := [putX, getN n]
theorem path_two {p : List Nat} (h : Path (xs1 1) 0 Val.z p) : p = [1, 0] := by
  cases h with
  | done h => exact absurd h (by decide)
  | @step _ _ k p h1 h2 h3 h4 h5 =>
    have hk : k = 0 ∨ k = 1 := by have : (xs1 1).length = 2 := rfl; omega
    rcases hk with rfl | rfl
    · cases h5 with
      | done h => exact absurd h (by decide)
      | @step _ _ k p h1 h2 h3 h4 h5 =>
        have hk : k = 0 ∨ k = 1 := by have : (xs1 1).length = 2 := rfl; omega
        rcases hk with rfl | rfl
        · exact absurd h3 (by decide)
        · exact absurd h4 (by decide)
    · cases h5 with
      | done h => exact absurd h (by decide)
      | @step _ _ k p h1 h2 h3 h4 h5 =>
        have hk : k = 0 ∨ k = 1 := by have : (xs1 1).length = 2 := rfl; omega
        rcases hk with rfl | rfl
        · cases h5 with
          | done h => rfl
          | step h1 => exact absurd h1 (by decide)
        · exact absurd h3 (by decide)
theorem path_one : Path (xs1 1) 0 Val.z [1, 0] :=
  Path.step (by decide) (by decide) (by decide) (by decide) (Path.step (by decide) (by decide) (by decide) (by decide) (Path.done (by decide)))
theorem path_no {p : List Nat} (h : Path (xs1 3) 0 Val.z p) : False := by
  cases h with
  | done h => exact absurd h (by decide)
  | @step _ _ k p h1 h2 h3 h4 h5 =>
    have hk : k = 0 ∨ k = 1 := by have : (xs1 3).length = 2 := rfl; omega
    rcases hk with rfl | rfl
    · cases h5 with
      | done h => exact absurd h (by decide)
      | @step _ _ k p h1 h2 h3 h4 h5 =>
        have hk : k = 0 ∨ k = 1 := by have : (xs1 3).length = 2 := rfl; omega
        rcases hk with rfl | rfl
        · exact absurd h3 (by decide)
        · exact absurd h4 (by decide)
    · exact absurd h3 (by decide)
theorem ord_two {p : List Nat} {c : Int} (h : Ord (xs1 1) p c) : p = [1, 0] ∧ c = 0 := by
  rcases h with ⟨h, _⟩ | ⟨_, h, _⟩ | ⟨_, _, _, _, h⟩ | ⟨_, _, hc, h⟩
  · exact absurd h (by decide)
  · exact absurd h (by decide)
  · exact absurd path_one (h _)
  · exact ⟨path_two h, hc⟩
theorem ord_no {p : List Nat} {c : Int} (h : Ord (xs1 3) p c) : p = [] ∧ c = 4 := by
  rcases h with ⟨h, _⟩ | ⟨_, h, _⟩ | ⟨_, _, hc, hp, h⟩ | ⟨_, _, hc, h⟩
  · exact absurd h (by decide)
  · exact absurd h (by decide)
  · exact ⟨hp, hc⟩
  · exact (path_no h).elim
theorem holds_yes : HoldsP (xs1 1) [1, 0] := by
  refine ⟨by decide, ⟨⟨true, [120]⟩, ?_⟩, ?_⟩
  · refine ((Good.start (xs1 1) [1, 0]).step (k := 1) rfl (by decide) (by decide) (by decide) ?_).step (k := 0) rfl (by decide) (by decide) (by decide) ?_
    · intro b hb j hj hl
      obtain rfl : b = 1 := by have := (List.getElem?_eq_some_iff.1 hj).1; simp at this; omega
      simp at hj
      obtain rfl : j = 0 := by omega
      decide
    · intro b hb j hj hl
      have := (List.getElem?_eq_some_iff.1 hj).1; simp at this; omega
  · intro k hk hn
    have hk' : k = 0 ∨ k = 1 := by have : (xs1 1).length = 2 := rfl; omega
    rcases hk' with rfl | rfl <;> simp at hn
theorem holds_no : ¬ HoldsP (xs1 1) [0, 1] := by
  refine not_val (i := 1) (k := 1) (v := ⟨true, [120]⟩) ((Good.start (xs1 1) [0, 1]).step (k := 0) rfl (by decide) (by decide) (by decide) ?_) rfl (by decide)
  intro b hb j hj hl
  obtain rfl : b = 1 := by have := (List.getElem?_eq_some_iff.1 hj).1; simp at this; omega
  simp at hj
  obtain rfl : j = 1 := by omega
  decide
theorem pair_ints (W : World) (a b : Int) (ha : InR .i64 a) (hb : InR .i64 b) : (kInt .i64).C (W.alloc (.cells #[.int .i64 a, .int .i64 b] 3)) (some ⟨W.heap.size, 0, none⟩) [a, b].length [a, b] := by
  refine C_flat (css := [[.int .i64 a], [.int .i64 b]]) rfl (by simp) (fun j x c h1 h2 => ?_) (t := 3) (fr := (0, 0)) (heap_alloc_new _ _)
  rcases j with _ | _ | j
  · simp at h1 h2
    subst h1
    subst h2
    exact ⟨rfl, ha⟩
  · simp at h1 h2
    subst h1
    subst h2
    exact ⟨rfl, hb⟩
  · simp at h1
set_option maxRecDepth 100000 in
set_option maxHeartbeats 1000000 in
theorem known_true (w : World) : Calls Try.prog 10 #[] w fun e w' => e = .returned (.bool true) ∧ Below w.heap.size w w' := by
  go_enter Try.func10, Try.ntmps10
  go_wp2_with fail
  refine (two_calls 1 _ (InR.mk64 (by decide) (by decide))).mono ?_
  rintro e w1 ⟨A1, c1, rfl, hl1, hC1, hb1⟩
  have H1 := Aside0.mk hC1
  have B1 := Aside0.mk hb1
  clear hC1 hb1
  go_wp2_with fail
  refine (order_calls A1 c1 [putX, getN 1] _ H1.out (by simp)).mono ?_
  rintro e w2 ⟨p, c, A2, c2, rfl, hl2, hC2, hb2, ho⟩
  obtain ⟨rfl, rfl⟩ := ord_two ho
  have H2 := Aside0.mk hC2
  have B2 := Aside0.mk (below_step B1.out hb2)
  clear hC2 hb2 ho
  go_wp2_with fail
  refine (two_calls 3 _ (InR.mk64 (by decide) (by decide))).mono ?_
  rintro e w3 ⟨A3, c3, rfl, hl3, hC3, hb3⟩
  have H3 := Aside0.mk hC3
  have H23 := Aside0.mk hb3
  have B3 := Aside0.mk (below_step B2.out hb3)
  clear hC3 hb3
  go_wp2_with fail
  refine (order_calls A3 c3 [putX, getN 3] _ H3.out (by simp)).mono ?_
  rintro e w4 ⟨p, c, A4, c4, rfl, hl4, hC4, hb4, ho⟩
  obtain ⟨rfl, rfl⟩ := ord_no ho
  have H24 := Aside0.mk (below_step H23.out hb4)
  have B4 := Aside0.mk (below_step B3.out hb4)
  clear hC4 hb4 ho
  go_wp2_with fail
  refine (sameInts_calls A2 _ c2 2 [1, 0] [1, 0] _ (Kd.C_below H2.out (below_alloc H24.out _)) (pair_ints _ 1 0 (InR.mk64 (by decide) (by decide)) (InR.mk64 (by decide) (by decide))) (by simp)).mono ?_
  rintro e w5 ⟨he, hb5⟩
  rw [decide_eq_true rfl] at he
  subst he
  have B5 := Aside0.mk (below_step (below_alloc B4.out _) hb5)
  clear hb5
  go_wp2_with fail
  refine (two_calls 1 _ (InR.mk64 (by decide) (by decide))).mono ?_
  rintro e w6 ⟨A6, c6, rfl, hl6, hC6, hb6⟩
  have H6 := Aside0.mk hC6
  have B6 := Aside0.mk (below_step B5.out hb6)
  clear hC6 hb6
  go_wp2_with fail
  refine (holds_calls A6 _ c6 2 [putX, getN 1] [1, 0] _ (Kd.C_below H6.out (below_alloc (Below.refl _ _) _)) (pair_ints _ 1 0 (InR.mk64 (by decide) (by decide)) (InR.mk64 (by decide) (by decide))) (by simp) (by simp) (by simp)).mono ?_
  rintro e w7 ⟨b, rfl, hb, hb7⟩
  obtain rfl : b = true := hb.2 holds_yes
  have B7 := Aside0.mk (below_step (below_alloc B6.out _) hb7)
  clear hb7 hb
  go_wp2_with fail
  refine (two_calls 1 _ (InR.mk64 (by decide) (by decide))).mono ?_
  rintro e w8 ⟨A8, c8, rfl, hl8, hC8, hb8⟩
  have H8 := Aside0.mk hC8
  have B8 := Aside0.mk (below_step B7.out hb8)
  clear hC8 hb8
  go_wp2_with fail
  refine (holds_calls A8 _ c8 2 [putX, getN 1] [0, 1] _ (Kd.C_below H8.out (below_alloc (Below.refl _ _) _)) (pair_ints _ 0 1 (InR.mk64 (by decide) (by decide)) (InR.mk64 (by decide) (by decide))) (by simp) (by simp) (by simp)).mono ?_
  rintro e w9 ⟨b, rfl, hb, hb9⟩
  have hbf : b = false := by
    cases b
    · rfl
    · exact absurd (hb.1 rfl) holds_no
  subst hbf
  have B9 := Aside0.mk (below_step (below_alloc B8.out _) hb9)
  clear hb9 hb
  go_wp2_with fail
  go_ret
  exact ⟨rfl, B9.out⟩
end LinI
end Go.Proofs.Ytgconogjnjhmgaa
