/- The reference of layer 18: Has, open, Right, answer, kinds, left. -/
import Derived.Test.YtgconogjnjhmgaaRightA
import Derived.Test.YtgconogjnjhmgaaLinG
import Derived.Test.YtgconogjnjhmgaaDeedA
namespace Go.Proofs.Ytgconogjnjhmgaa
open Go.RowKit Go.Proofs.YtgconogjnjhmgaaW.PrintWords
namespace RefA
open LinA LinB LinC LinD LinE LinF LinG LinH RightA DeedA
attribute [local go_sem ↓] Go.wp_at_zero Go.wp_at_succ
/-- Which call of this number waits, among the first k notes; -1: none. -/
def oTo (xs : List Note) (id : Int) : Nat → Int
  | 0 => -1
  | k + 1 => if (xs.getD k Note.z).isAnswer then (if (xs.getD k Note.z).answer.id_ = id then -1 else oTo xs id k) else (if (xs.getD k Note.z).call.id_ = id then k else oTo xs id k)
theorem oTo_succ (xs : List Note) (id : Int) (k : Nat) : oTo xs id (k + 1) = if (xs.getD k Note.z).isAnswer then (if (xs.getD k Note.z).answer.id_ = id then -1 else oTo xs id k) else (if (xs.getD k Note.z).call.id_ = id then k else oTo xs id k) := rfl
theorem oTo_lt (xs : List Note) (id : Int) : ∀ k : Nat, -1 ≤ oTo xs id k ∧ oTo xs id k < k
  | 0 => ⟨by show (-1 : Int) ≤ -1; omega, by show (-1 : Int) < 0; omega⟩
  | k + 1 => by
    have := oTo_lt xs id k
    rw [oTo_succ]
    split <;> split <;> omega
theorem oTo_opn (xs : List Note) (id : Int) : ∀ k : Nat, k ≤ xs.length → opn (xs.take k) id = decide (0 ≤ oTo xs id k)
  | 0, _ => rfl
  | k + 1, h => by
    have ih := oTo_opn xs id k (by omega)
    have ht : xs.take (k + 1) = xs.take k ++ [xs.getD k Note.z] := by
      rw [List.take_add_one, List.getD_eq_getElem?_getD, List.getElem?_eq_getElem (show k < xs.length by omega)]; rfl
    rw [ht, opn_snoc, ih, oTo_succ]
    unfold nid
    cases hx : (xs.getD k Note.z).isAnswer with
    | true =>
      simp only [if_true, Bool.not_true]
      by_cases e : (xs.getD k Note.z).answer.id_ = id
      · rw [if_pos e, if_pos e.symm]; rfl
      · rw [if_neg e, if_neg (fun h => e h.symm)]
    | false =>
      simp only [if_neg Bool.false_ne_true, Bool.not_false]
      by_cases e : (xs.getD k Note.z).call.id_ = id
      · rw [if_pos e, if_pos e.symm]; simp
      · rw [if_neg e, if_neg (fun h => e h.symm)]
set_option maxRecDepth 100000 in
set_option maxHeartbeats 1000000 in
theorem open_calls (A : Option Addr) (c : Nat) (xs : List Note) (n : Nat) (id : Int) (w : World) (hr : Note.k.C w A xs.length xs) (hn : xs.length ≤ 1300000000000) (hnl : n ≤ xs.length) :
    Calls Try.prog 46 #[.slice A xs.length c, .int .i64 n, .int .i64 id] w fun e w' => e = .returned (.int .i64 (oTo xs id n)) ∧ w' = w := by
  have HR := Aside0.mk hr
  clear hr
  go_enter Try.func46, Try.ntmps46
  go_wp2_with fail
  go_loopw [7, 8] (fun v7 v8 wr => ∃ k : Nat, v8 = .int .i64 k ∧ v7 = .int .i64 (oTo xs id k) ∧ k ≤ n ∧ wr = w) (fun _ v _ => n - (intOf v).toNat)
  case atStart => exact ⟨0, rfl, rfl, Nat.zero_le _, rfl⟩
  case round =>
    obtain ⟨k, rfl, rfl, hk, rfl⟩ := hrel
    by_cases hlt : k < n
    · obtain ⟨ad, x, A4, c4, A8, c8, rfl, HE, hx0, hx1, hx2, hx3, hx4, hx5, hx6, hx7, hx8, HMM⟩ := Note.at_ HR.out k (by omega)
      have hs := oTo_succ xs id k
      rw [show xs.getD k Note.z = x by rw [List.getD_eq_getElem?_getD, HE.out]; rfl] at hs
      have HS := Aside0.mk hs
      have h0 : (0 : Int) ≤ (k : Int) := by omega
      have h1 : (k : Int) < (xs.length : Int) := by omega
      have h2 : (k : Int) < (n : Int) := by omega
      clear hx2 hx3 hx4 hx6 hx7 hx8 HMM hs
      obtain ⟨xa, ⟨ci, ck, cy, cb⟩, ⟨ai, ae, av⟩⟩ := x
      cases xa with
      | true =>
        by_cases e : ai = id
        · subst e
          go_wp2_with fail
          go_roundw
          case rel => exact ⟨k + 1, by go_num, by rw [HS.out]; simp, by omega, trivial⟩
          case measure => simp [intOf]; omega
        · go_wp2_with fail
          go_roundw
          case rel => exact ⟨k + 1, by go_num, by rw [HS.out]; simp [e], by omega, trivial⟩
          case measure => simp [intOf]; omega
      | false =>
        by_cases e : ci = id
        · subst e
          go_wp2_with fail
          go_roundw
          case rel => exact ⟨k + 1, by go_num, by rw [HS.out]; simp, by omega, trivial⟩
          case measure => simp [intOf]; omega
        · go_wp2_with fail
          go_roundw
          case rel => exact ⟨k + 1, by go_num, by rw [HS.out]; simp [e], by omega, trivial⟩
          case measure => simp [intOf]; omega
    · obtain rfl : k = n := by omega
      have h2 : ¬ (k : Int) < (k : Int) := by omega
      go_wp2_with fail
      go_ret
      exact ⟨rfl, rfl⟩
set_option maxRecDepth 100000 in
set_option maxHeartbeats 1000000 in
theorem refRight_calls (A : Option Addr) (c : Nat) (xs : List Note) (w : World) (hr : Note.k.C w A xs.length xs) (hn : xs.length ≤ 1300000000000) :
    Calls Try.prog 24 #[.slice A xs.length c] w fun e w' => e = .returned (.int .i64 (rightC xs)) ∧ w' = w := by
  have HR := Aside0.mk hr
  have HOP : ∀ (n : Nat) (id : Int), n ≤ xs.length → Aside0 (Calls Try.prog 46 #[.slice A xs.length c, .int .i64 n, .int .i64 id] w fun e w' => e = .returned (.int .i64 (oTo xs id n)) ∧ w' = w) := fun n id h => ⟨open_calls A c xs n id w HR.out hn h⟩
  have HOQ := Aside0.mk HOP
  clear hr HOP
  go_enter Try.func24, Try.ntmps24
  go_wp2_with fail
  go_loopw [3] (fun v3 wr => ∃ k : Nat, v3 = .int .i64 k ∧ k ≤ xs.length ∧ wr = w ∧ Aside0 (rightTo xs k = true)) (fun v _ => xs.length - (intOf v).toNat)
  case atStart => exact ⟨0, rfl, Nat.zero_le _, rfl, ⟨rfl⟩⟩
  case round =>
    obtain ⟨k, rfl, hk, rfl, HT⟩ := hrel
    by_cases hlt : k < xs.length
    · obtain ⟨ad, x, A4, c4, A8, c8, rfl, HE, hx0, hx1, hx2, hx3, hx4, hx5, hx6, hx7, hx8, HMM⟩ := Note.at_ HR.out k hlt
      have hs := rightTo_succ xs k
      rw [show xs.getD k Note.z = x by rw [List.getD_eq_getElem?_getD, HE.out]; rfl, oTo_opn xs _ k hk, HT.out] at hs
      have HS := Aside0.mk hs
      have h0 : (0 : Int) ≤ (k : Int) := by omega
      have h1 : (k : Int) < (xs.length : Int) := by omega
      clear hx2 hx3 hx4 hx6 hx7 hx8 HMM hs
      obtain ⟨xa, ⟨ci, ck, cy, cb⟩, ⟨ai, ae, av⟩⟩ := x
      cases xa with
      | true =>
        have HC := HOQ.out k ai hk
        change Aside0 (_ = (true && (decide (0 ≤ oTo xs ai k) == true))) at HS
        generalize oTo xs ai k = q at HC HS
        by_cases e : q < 0
        · go_wp2_with (first | (with_reducible refine HC.out.mono ?_; rintro e w1 ⟨rfl, rfl⟩))
          go_ret
          exact ⟨by rw [rightC, rightB, rightTo_false (k := k + 1) (by rw [HS.out]; simp; omega) (show k + 1 ≤ xs.length by omega)]; rfl, rfl⟩
        · go_wp2_with (first | (with_reducible refine HC.out.mono ?_; rintro e w1 ⟨rfl, rfl⟩))
          go_roundw
          case rel => exact ⟨k + 1, by go_num, by omega, trivial, ⟨by rw [HS.out]; simp; omega⟩⟩
          case measure => simp [intOf]; omega
      | false =>
        have HC := HOQ.out k ci hk
        change Aside0 (_ = (true && (decide (0 ≤ oTo xs ci k) == false))) at HS
        generalize oTo xs ci k = q at HC HS
        by_cases e : 0 ≤ q
        · go_wp2_with (first | (with_reducible refine HC.out.mono ?_; rintro e w1 ⟨rfl, rfl⟩))
          go_ret
          exact ⟨by rw [rightC, rightB, rightTo_false (k := k + 1) (by rw [HS.out]; simp; omega) (show k + 1 ≤ xs.length by omega)]; rfl, rfl⟩
        · go_wp2_with (first | (with_reducible refine HC.out.mono ?_; rintro e w1 ⟨rfl, rfl⟩))
          go_roundw
          case rel => exact ⟨k + 1, by go_num, by omega, trivial, ⟨by rw [HS.out]; simp; omega⟩⟩
          case measure => simp [intOf]; omega
    · obtain rfl : k = xs.length := by omega
      go_wp2_with fail
      go_ret
      exact ⟨by rw [rightC, rightB, HT.out]; rfl, rfl⟩
end RefA
end Go.Proofs.Ytgconogjnjhmgaa
