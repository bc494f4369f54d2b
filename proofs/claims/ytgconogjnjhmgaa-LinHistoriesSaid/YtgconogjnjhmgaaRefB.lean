/- The reference of layer 18: answer, kinds, Has, left, may. -/
import Derived.Test.YtgconogjnjhmgaaRefA
namespace Go.Proofs.Ytgconogjnjhmgaa
open Go.RowKit Go.Proofs.YtgconogjnjhmgaaW.PrintWords
namespace RefB
open LinA LinB LinC LinD LinE LinF LinG LinH RightA DeedA RefA
attribute [local go_sem ↓] Go.wp_at_zero Go.wp_at_succ
/-- Does note j answer the call at a place? -/
def ansB (xs : List Note) (at_ j : Nat) : Bool := (xs.getD j Note.z).isAnswer && decide (oTo xs (xs.getD j Note.z).answer.id_ j = (at_ : Int))
/-- Its first answer, among the notes from a place on. -/
def ansFrom (xs : List Note) (at_ : Nat) : Nat → Nat → Int
  | 0, _ => -1
  | d + 1, j => if ansB xs at_ j then j else ansFrom xs at_ d (j + 1)
def ansI (xs : List Note) (at_ : Nat) : Int := ansFrom xs at_ (xs.length - (at_ + 1)) (at_ + 1)
set_option maxRecDepth 100000 in
set_option maxHeartbeats 1000000 in
theorem answer_calls (A : Option Addr) (c : Nat) (xs : List Note) (at_ : Nat) (w : World) (hr : Note.k.C w A xs.length xs) (hn : xs.length ≤ 1300000000000) (ha : at_ < xs.length) :
    Calls Try.prog 44 #[.slice A xs.length c, .int .i64 at_] w fun e w' => e = .returned (.int .i64 (ansI xs at_)) ∧ w' = w := by
  have HR := Aside0.mk hr
  have HOP : ∀ (n : Nat) (id : Int), n ≤ xs.length → Aside0 (Calls Try.prog 46 #[.slice A xs.length c, .int .i64 n, .int .i64 id] w fun e w' => e = .returned (.int .i64 (oTo xs id n)) ∧ w' = w) := fun n id h => ⟨open_calls A c xs n id w HR.out hn h⟩
  have HOQ := Aside0.mk HOP
  clear hr HOP
  go_enter Try.func44, Try.ntmps44
  go_wp2_with fail
  go_loopw [5] (fun v5 wr => ∃ k : Nat, v5 = .int .i64 k ∧ at_ + 1 ≤ k ∧ k ≤ xs.length ∧ wr = w ∧ Aside0 (ansI xs at_ = ansFrom xs at_ (xs.length - k) k)) (fun v _ => xs.length - (intOf v).toNat)
  case atStart => exact ⟨at_ + 1, by go_num, Nat.le_refl _, by omega, rfl, ⟨rfl⟩⟩
  case round =>
    obtain ⟨k, rfl, hak, hk, rfl, HT⟩ := hrel
    by_cases hlt : k < xs.length
    · obtain ⟨ad, x, A4, c4, A8, c8, rfl, HE, hx0, hx1, hx2, hx3, hx4, hx5, hx6, hx7, hx8, HMM⟩ := Note.at_ HR.out k hlt
      have hx : xs.getD k Note.z = x := by rw [List.getD_eq_getElem?_getD, HE.out]; rfl
      have hs : ansI xs at_ = if ansB xs at_ k then (k : Int) else ansFrom xs at_ (xs.length - (k + 1)) (k + 1) := by
        rw [HT.out, show xs.length - k = (xs.length - (k + 1)) + 1 by omega]; rfl
      have hab : ansB xs at_ k = (x.isAnswer && decide (oTo xs x.answer.id_ k = (at_ : Int))) := by unfold ansB; rw [hx]
      rw [hab] at hs
      have HS := Aside0.mk hs
      have h0 : (0 : Int) ≤ (k : Int) := by omega
      have h1 : (k : Int) < (xs.length : Int) := by omega
      clear hx1 hx2 hx3 hx4 hx6 hx7 hx8 HMM hs hab hx
      obtain ⟨xa, ⟨ci, ck, cy, cb⟩, ⟨ai, ae, av⟩⟩ := x
      cases xa with
      | true =>
        have HC := HOQ.out k ai hk
        change Aside0 (_ = if (true && decide (oTo xs ai k = (at_ : Int))) then _ else _) at HS
        generalize oTo xs ai k = q at HC HS
        by_cases e : q = (at_ : Int)
        · subst e
          go_wp2_with (first | (with_reducible refine HC.out.mono ?_; rintro e w1 ⟨rfl, rfl⟩))
          go_ret
          exact ⟨by rw [HS.out]; simp, rfl⟩
        · go_wp2_with (first | (with_reducible refine HC.out.mono ?_; rintro e w1 ⟨rfl, rfl⟩))
          go_roundw
          case rel => exact ⟨k + 1, by go_num, by omega, by omega, trivial, ⟨by rw [HS.out]; simp [e]⟩⟩
          case measure => simp [intOf]; omega
      | false =>
        go_wp2_with fail
        go_roundw
        case rel => exact ⟨k + 1, by go_num, by omega, by omega, trivial, ⟨by rw [HS.out]; simp⟩⟩
        case measure => simp [intOf]; omega
    · obtain rfl : k = xs.length := by omega
      go_wp2_with fail
      go_ret
      exact ⟨by rw [HT.out, Nat.sub_self]; rfl, rfl⟩
set_option maxRecDepth 100000 in
set_option maxHeartbeats 1000000 in
theorem kinds_calls (A : Option Addr) (c : Nat) (xs : List Deed) (w : World) (hr : Deed.k.C w A xs.length xs) (hn : xs.length ≤ 1300000000000) :
    Calls Try.prog 52 #[.slice A xs.length c] w fun e w' => e = .returned (.bool (!xs.any (fun x => !kn x.kind))) ∧ w' = w := by
  have HR := Aside0.mk hr
  clear hr
  go_enter Try.func52, Try.ntmps52
  go_wp2_with fail
  go_loopw [3] (fun v3 wr => ∃ k : Nat, v3 = .int .i64 k ∧ k ≤ xs.length ∧ wr = w ∧ Aside0 (∀ j, j < k → kn (xs.getD j Deed.z).kind = true)) (fun v _ => xs.length - (intOf v).toNat)
  case atStart => exact ⟨0, rfl, Nat.zero_le _, rfl, ⟨fun j h => absurd h (Nat.not_lt_zero _)⟩⟩
  case round =>
    obtain ⟨k, rfl, hk, rfl, HT⟩ := hrel
    by_cases hlt : k < xs.length
    · obtain ⟨ad, x, A1, c1, A6, c6, rfl, HE, hx0, hx1, hx2, hx3, hx4, hx5, hx6, HM⟩ := Deed.at_ HR.out k hlt
      have HXK : Aside0 (xs.getD k Deed.z = x) := ⟨by rw [List.getD_eq_getElem?_getD, HE.out]; rfl⟩
      have h0 : (0 : Int) ≤ (k : Int) := by omega
      have h1 : (k : Int) < (xs.length : Int) := by omega
      clear hx1 hx2 hx3 hx4 hx5 hx6 HM
      obtain ⟨dk, db, df, dt, dd, dv⟩ := x
      simp only at hx0
      have hno : ¬ (1 ≤ dk ∧ dk ≤ 3) → (!xs.any (fun x => !kn x.kind)) = false := fun h => by
        have : xs.any (fun x => !kn x.kind) = true := List.any_eq_true.2 ⟨_, List.mem_of_getElem? HE.out, by unfold kn; simp; omega⟩
        rw [this]; rfl
      have HNO := Aside0.mk hno
      clear hno
      by_cases q1 : dk < 1
      · go_wp2_with fail
        go_ret
        exact ⟨by rw [HNO.out (by omega)]; rfl, rfl⟩
      · by_cases q2 : 3 < dk
        · go_wp2_with fail
          go_ret
          exact ⟨by rw [HNO.out (by omega)]; rfl, rfl⟩
        · go_wp2_with fail
          go_roundw
          case rel => exact ⟨k + 1, by go_num, by omega, trivial, ⟨fun j hj => by
            rcases Nat.lt_or_ge j k with h | h
            · exact HT.out j h
            · obtain rfl : j = k := by omega
              rw [HXK.out]
              unfold kn; simp; omega⟩⟩
          case measure => simp [intOf]; omega
    · obtain rfl : k = xs.length := by omega
      go_wp2_with fail
      go_ret
      have : xs.any (fun x => !kn x.kind) = false := List.any_eq_false.2 (fun x hx => by
        obtain ⟨j, hj, rfl⟩ := List.mem_iff_getElem.1 hx
        have := HT.out j hj
        rw [List.getD_eq_getElem?_getD, List.getElem?_eq_getElem hj] at this
        have h2 : kn (xs[j]).kind = true := this
        rw [h2]; simp)
      exact ⟨by rw [this]; rfl, rfl⟩
set_option maxRecDepth 100000 in
set_option maxHeartbeats 1000000 in
theorem has_calls (A : Option Addr) (c : Nat) (xs : List Int) (y : Int) (w : World) (hr : (kInt .i64).C w A xs.length xs) (hn : xs.length ≤ 1300000000000) :
    Calls Try.prog 74 #[.slice A xs.length c, .int .i64 y] w fun e w' => e = .returned (.bool (decide (y ∈ xs))) ∧ w' = w := by
  have HR := Aside0.mk hr
  clear hr
  go_enter Try.func74, Try.ntmps74
  go_wp2_with fail
  go_loopw [5] (fun v3 wr => ∃ k : Nat, v3 = .int .i64 k ∧ k ≤ xs.length ∧ wr = w ∧ Aside0 (∀ j, j < k → ¬ xs[j]? = some y)) (fun v _ => xs.length - (intOf v).toNat)
  case atStart => exact ⟨0, rfl, Nat.zero_le _, rfl, ⟨fun j h => absurd h (Nat.not_lt_zero _)⟩⟩
  case round =>
    obtain ⟨k, rfl, hk, rfl, HT⟩ := hrel
    by_cases hlt : k < xs.length
    · obtain ⟨ad, x, rfl, HE, hx0, hri⟩ := kInt_at HR.out k hlt
      have h0 : (0 : Int) ≤ (k : Int) := by omega
      have h1 : (k : Int) < (xs.length : Int) := by omega
      clear hri
      by_cases e : x = y
      · subst e
        go_wp2_with fail
        go_ret
        exact ⟨by rw [decide_eq_true (List.mem_of_getElem? HE.out)]; rfl, rfl⟩
      · go_wp2_with fail
        go_roundw
        case rel => exact ⟨k + 1, by go_num, by omega, trivial, ⟨fun j hj hx => by
          rcases Nat.lt_or_ge j k with h | h
          · exact HT.out j h hx
          · obtain rfl : j = k := by omega
            rw [HE.out] at hx
            injection hx with hx
            exact e hx⟩⟩
        case measure => simp [intOf]; omega
    · obtain rfl : k = xs.length := by omega
      go_wp2_with fail
      go_ret
      exact ⟨by rw [decide_eq_false (fun h => by obtain ⟨j, hj, he⟩ := List.mem_iff_getElem.1 h; exact HT.out j hj (by rw [List.getElem?_eq_getElem hj, he]))]; rfl, rfl⟩
end RefB
end Go.Proofs.Ytgconogjnjhmgaa
