/- The reference of layer 18: of a history that is right, the answer of a call is the first one of its number. -/
import Derived.Test.YtgconogjnjhmgaaRefE
namespace Go.Proofs.Ytgconogjnjhmgaa
open Go.RowKit Go.Proofs.YtgconogjnjhmgaaW.PrintWords
namespace RefF
open LinA LinB LinC LinD LinE LinF LinG LinH LinJ RightA DeedA DeedsB RefA RefB RefC RefD
def toI : Option Nat → Int
  | none => -1
  | some j => j
theorem oTo_call (xs : List Note) (id : Int) : ∀ (k p : Nat), oTo xs id k = (p : Int) → p < k ∧ (xs.getD p Note.z).isAnswer = false ∧ (xs.getD p Note.z).call.id_ = id
  | 0, p, h => by
    have : (-1 : Int) = (p : Int) := h
    omega
  | k + 1, p, h => by
    rw [oTo_succ] at h
    cases hx : (xs.getD k Note.z).isAnswer with
    | true =>
      rw [hx] at h
      simp only [if_true] at h
      by_cases e : (xs.getD k Note.z).answer.id_ = id
      · rw [if_pos e] at h; omega
      · rw [if_neg e] at h
        have := oTo_call xs id k p h
        exact ⟨by omega, this.2⟩
    | false =>
      rw [hx] at h
      simp only [if_neg Bool.false_ne_true] at h
      by_cases e : (xs.getD k Note.z).call.id_ = id
      · rw [if_pos e] at h
        obtain rfl : k = p := by omega
        exact ⟨by omega, hx, e⟩
      · rw [if_neg e] at h
        have := oTo_call xs id k p h
        exact ⟨by omega, this.2⟩
theorem right_at {xs : List Note} (h : rightB xs = true) {j : Nat} (hj : j < xs.length) : decide (0 ≤ oTo xs (nid (xs.getD j Note.z)) j) = (xs.getD j Note.z).isAnswer := by
  unfold rightB rightTo at h
  rw [List.all_eq_true] at h
  have := h j (List.mem_range.2 hj)
  rw [oTo_opn xs _ j (Nat.le_of_lt hj)] at this
  simpa using this
theorem ans_from {xs : List Note} (h : rightB xs = true) {at_ : Nat} (ha : at_ < xs.length) : ∀ (d j : Nat), j + d = xs.length → at_ < j → (∀ i, at_ < i → i < j → isAns (xs.getD i Note.z) (xs.getD at_ Note.z).call.id_ = false) → oTo xs (xs.getD at_ Note.z).call.id_ j = (at_ : Int) → ansFrom xs at_ d j = toI (ansIx xs at_)
  | 0, j, hjd, hj, hno, ho => by
    rw [ansIx_none (fun i h1 h2 => hno i h1 (by omega))]; rfl
  | d + 1, j, hjd, hj, hno, ho => by
    have hjl : j < xs.length := by omega
    have hr := right_at h hjl
    show (if ansB xs at_ j then (j : Int) else ansFrom xs at_ d (j + 1)) = _
    cases hx : (xs.getD j Note.z).isAnswer with
    | true =>
      by_cases e : (xs.getD j Note.z).answer.id_ = (xs.getD at_ Note.z).call.id_
      · have hb : ansB xs at_ j = true := by unfold ansB; rw [hx, e, ho]; simp
        rw [hb, ansIx_some hj hjl (by unfold isAns; rw [hx, e]; simp) hno]; rfl
      · have hb : ansB xs at_ j = false := by
          unfold ansB
          rw [hx, Bool.true_and]
          refine decide_eq_false fun h2 => ?_
          exact e (oTo_call xs _ j at_ h2).2.2.symm
        rw [hb]
        refine ans_from h ha d (j + 1) (by omega) (by omega) (fun i h1 h2 => ?_) ?_
        · rcases Nat.lt_or_ge i j with h3 | h3
          · exact hno i h1 h3
          · obtain rfl : i = j := by omega
            unfold isAns
            rw [hx]; simpa using e
        · rw [oTo_succ, hx]
          simp only [if_true, if_neg e]
          exact ho
    | false =>
      have hb : ansB xs at_ j = false := by unfold ansB; rw [hx]; rfl
      rw [hb]
      have hn : nid (xs.getD j Note.z) = (xs.getD j Note.z).call.id_ := by unfold nid; rw [hx]; rfl
      have e : ¬ (xs.getD j Note.z).call.id_ = (xs.getD at_ Note.z).call.id_ := fun e => by
        rw [hn, e, ho, hx] at hr
        simp at hr
      refine ans_from h ha d (j + 1) (by omega) (by omega) (fun i h1 h2 => ?_) ?_
      · rcases Nat.lt_or_ge i j with h3 | h3
        · exact hno i h1 h3
        · obtain rfl : i = j := by omega
          unfold isAns
          rw [hx]; rfl
      · rw [oTo_succ, hx]
        simp only [if_neg Bool.false_ne_true, if_neg e]
        exact ho
/-- The reference's answer is the one of the program. -/
theorem ans_is {xs : List Note} (h : rightB xs = true) {at_ : Nat} (ha : at_ < xs.length) (hc : (xs.getD at_ Note.z).isAnswer = false) : ansI xs at_ = toI (ansIx xs at_) := by
  refine ans_from h ha _ _ (by omega) (by omega) (fun i h1 h2 => absurd h1 (by omega)) ?_
  rw [oTo_succ, hc]
  simp
/-- A deed that reads so in every world that is to come. -/
def RD (w : World) (x : Deed) (cs : List Value) : Prop := cs.length = 7 ∧ (∀ u ∈ cs, u.oneCell' = true) ∧ ∀ W', Below w.heap.size w W' → Deed.k.K W' x cs
theorem reads1d {w W : World} {x : Deed} {cs : List Value} {g : Nat} (h : RD w x cs) (hB : Blk W g cs) : ReadsRow (RD w) 7 W (some ⟨g, 0, none⟩) 1 [x] := by
  refine ⟨rfl, by omega, fun _ => ⟨_, rfl, fun j p hj => ?_⟩⟩
  rcases j with _ | j
  · simp at hj
    subst hj
    exact ⟨cs, h.1, h, fun i u hu => by rw [add_plain]; simpa using hB.cell i hu⟩
  · simp at hj
def dcs (k : Int) (A : Option Addr) (n c : Nat) (f t : Int) (dn hs : Bool) (A6 : Option Addr) (n6 c6 : Nat) : List Value := [.int .i64 k, .slice A n c, .int .i64 f, .int .i64 t, .bool dn, .bool hs, .slice A6 n6 c6]
theorem rd_of {w : World} {k : Int} {b : List UInt8} {f t : Nat} {dn : Bool} {v : Val} {A A6 : Option Addr} {c c6 : Nat} (hk : InR .i64 k) (hl : b.length ≤ c) (hb : kU8.C w A b.length b) (hf : f ≤ 1300000000000) (ht : t ≤ 1300000000000) (h6 : v.b.length ≤ c6) (hv : kU8.C w A6 v.b.length v.b) :
    RD w ⟨k, b, f, t, dn, v⟩ (dcs k A b.length c f t dn v.has A6 v.b.length c6) := by
  refine ⟨rfl, by intro u hu; simp [dcs] at hu; rcases hu with rfl | rfl | rfl | rfl | rfl | rfl | rfl <;> rfl, fun W' hW => ?_⟩
  exact Deed.mk_ W' ⟨k, b, f, t, dn, v⟩ hk hl (Kd.C_below hb hW) (inr_nat hf) (inr_nat ht) h6 (Kd.C_below hv hW)
end RefF
end Go.Proofs.Ytgconogjnjhmgaa
