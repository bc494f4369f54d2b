/- What a register does is linear; with one answer that tells what was never written it is not. -/
import Derived.Test.YtgconogjnjhmgaaCallsW
namespace Go.Proofs.Ytgconogjnjhmgaa
open Go.RowKit Go.Proofs.YtgconogjnjhmgaaW.PrintWords
namespace RunsP
open LinA LinB LinC LinD LinE LinF LinG LinH RightA DeedA DeedsB KeysA LinearA CallsP CallsW
def kk : ByteArray := ⟨#[107]⟩
/-- What the register holds behind the first k calls. -/
def hv (xs : List Call) : Nat → Val
  | 0 => Val.z
  | k + 1 => if (xs.getD k Call.z).kind = 1 then hv xs k else if (xs.getD k Call.z).kind = 2 then ⟨true, (xs.getD k Call.z).b⟩ else Val.z
def cN (xs : List Call) (j : Nat) : Note := ⟨false, ⟨j, (xs.getD j Call.z).kind, kk, (xs.getD j Call.z).b⟩, Answer.z⟩
def aV (xs : List Call) (j : Nat) : Val := if (xs.getD j Call.z).kind = 1 then hv xs j else Val.z
def aN (xs : List Call) (j : Nat) : Note := ⟨true, Call.z, ⟨j, 0, aV xs j⟩⟩
/-- Calls and answers, each in order, each answer behind its call. -/
inductive Inter (xs : List Call) : Nat → Nat → List Note → Prop
  | nil : Inter xs 0 0 []
  | call {b e : Nat} {h : List Note} : Inter xs b e h → b < xs.length → Inter xs (b + 1) e (h ++ [cN xs b])
  | answer {b e : Nat} {h : List Note} : Inter xs b e h → e < b → Inter xs b (e + 1) (h ++ [aN xs e])
variable {xs : List Call}
theorem Inter.le {b e : Nat} {h : List Note} (hi : Inter xs b e h) : e ≤ b ∧ b ≤ xs.length ∧ h.length = b + e := by
  induction hi with
  | nil => exact ⟨Nat.le_refl _, Nat.zero_le _, rfl⟩
  | call _ hb ih => obtain ⟨h1, h2, h3⟩ := ih; refine ⟨by omega, by omega, ?_⟩; rw [List.length_append]; simp; omega
  | answer _ hb ih => obtain ⟨h1, h2, h3⟩ := ih; refine ⟨by omega, by omega, ?_⟩; rw [List.length_append]; simp; omega
theorem right_snoc (h : List Note) (x : Note) : rightB (h ++ [x]) = (rightB h && (opn h (nid x) == x.isAnswer)) := by
  unfold rightB
  rw [List.length_append]
  show rightTo (h ++ [x]) (h.length + 1) = _
  rw [rightTo_succ, List.take_append_of_le_length (Nat.le_refl _), List.take_length]
  have e1 : (h ++ [x]).getD h.length Note.z = x := by
    simp
  rw [e1]
  congr 1
  unfold rightTo
  rw [Bool.eq_iff_iff, List.all_eq_true, List.all_eq_true]
  constructor
  · intro H j hj
    have hl := List.mem_range.1 hj
    have := H j hj
    rwa [List.take_append_of_le_length (Nat.le_of_lt hl), getD_app hl] at this
  · intro H j hj
    have hl := List.mem_range.1 hj
    have := H j hj
    rwa [List.take_append_of_le_length (Nat.le_of_lt hl), getD_app hl]
theorem Inter.right {b e : Nat} {h : List Note} (hi : Inter xs b e h) : rightB h = true ∧ ∀ i : Int, opn h i = true ↔ (e : Int) ≤ i ∧ i < (b : Int) := by
  induction hi with
  | nil => exact ⟨rfl, fun i => ⟨fun h => (by cases h), fun h => by omega⟩⟩
  | @call b e h hi hb ih =>
    have hle := hi.le
    refine ⟨?_, fun i => ?_⟩
    · rw [right_snoc, ih.1, Bool.true_and]
      have hn : nid (cN xs b) = (b : Int) := rfl
      rw [hn]
      show (opn h (b : Int) == false) = true
      cases ho : opn h (b : Int) with
      | false => rfl
      | true => have := (ih.2 _).1 ho; omega
    · rw [opn_snoc]
      have hn : nid (cN xs b) = (b : Int) := rfl
      rw [hn]
      by_cases e1 : i = (b : Int)
      · rw [if_pos e1]
        exact ⟨fun _ => by omega, fun _ => rfl⟩
      · rw [if_neg e1, ih.2]
        constructor <;> intro h <;> omega
  | @answer b e h hi hb ih =>
    refine ⟨?_, fun i => ?_⟩
    · rw [right_snoc, ih.1, Bool.true_and]
      have hn : nid (aN xs e) = (e : Int) := rfl
      rw [hn]
      show (opn h (e : Int) == true) = true
      rw [(ih.2 _).2 (by omega)]; rfl
    · rw [opn_snoc]
      have hn : nid (aN xs e) = (e : Int) := rfl
      rw [hn]
      by_cases e1 : i = (e : Int)
      · rw [if_pos e1]
        exact ⟨fun h => (by cases h), fun h => by omega⟩
      · rw [if_neg e1, ih.2]
        constructor <;> intro h <;> omega
theorem nTo_app (h : List Note) (x : Note) {k : Nat} (hk : k ≤ h.length) : nTo (h ++ [x]) k = nTo h k := by
  unfold nTo
  congr 1
  refine List.filter_congr fun i hi => ?_
  unfold isC
  rw [getD_app (by have := List.mem_range.1 hi; omega)]
theorem getD_last (h : List Note) (x : Note) : (h ++ [x]).getD h.length Note.z = x := by simp
/-- Where each note stands, and that each answer is behind its call. -/
theorem Inter.places {b e : Nat} {h : List Note} (hi : Inter xs b e h) : nTo h h.length = b ∧
    (∀ k, k < h.length → h.getD k Note.z = cN xs (nTo h k) ∧ nTo h k < b ∨ ∃ j, j < e ∧ h.getD k Note.z = aN xs j) ∧
    (∀ j, j < e → ∃ q, q < h.length ∧ h.getD q Note.z = aN xs j ∧ ∀ k, k < h.length → nTo h k = j → (h.getD k Note.z).isAnswer = false → k < q) := by
  induction hi with
  | nil => exact ⟨rfl, fun k hk => absurd hk (Nat.not_lt_zero _), fun j hj => absurd hj (Nat.not_lt_zero _)⟩
  | @call b e h hi hb ih =>
    obtain ⟨i1, i2, i3⟩ := ih
    have hle := hi.le
    have hl : (h ++ [cN xs b]).length = h.length + 1 := by simp
    refine ⟨?_, fun k hk => ?_, fun j hj => ?_⟩
    · rw [hl, nTo_succ, nTo_app _ _ (Nat.le_refl _), i1]
      unfold isC
      rw [getD_last]; rfl
    · rw [hl] at hk
      rcases Nat.lt_or_ge k h.length with hlt | hge
      · rw [getD_app hlt, nTo_app _ _ (Nat.le_of_lt hlt)]
        rcases i2 k hlt with ⟨h1, h2⟩ | h1
        · exact .inl ⟨h1, by omega⟩
        · exact .inr h1
      · obtain rfl : k = h.length := by omega
        rw [getD_last, nTo_app _ _ (Nat.le_refl _), i1]
        exact .inl ⟨rfl, by omega⟩
    · obtain ⟨q, q1, q2, q3⟩ := i3 j hj
      refine ⟨q, by omega, by rw [getD_app q1]; exact q2, fun k hk hn hc => ?_⟩
      rw [hl] at hk
      rcases Nat.lt_or_ge k h.length with hlt | hge
      · rw [nTo_app _ _ (Nat.le_of_lt hlt)] at hn
        rw [getD_app hlt] at hc
        exact q3 k hlt hn hc
      · obtain rfl : k = h.length := by omega
        rw [nTo_app _ _ (Nat.le_refl _), i1] at hn
        omega
  | @answer b e h hi hb ih =>
    obtain ⟨i1, i2, i3⟩ := ih
    have hl : (h ++ [aN xs e]).length = h.length + 1 := by simp
    refine ⟨?_, fun k hk => ?_, fun j hj => ?_⟩
    · rw [hl, nTo_succ, nTo_app _ _ (Nat.le_refl _), i1]
      unfold isC
      rw [getD_last]; rfl
    · rw [hl] at hk
      rcases Nat.lt_or_ge k h.length with hlt | hge
      · rw [getD_app hlt, nTo_app _ _ (Nat.le_of_lt hlt)]
        rcases i2 k hlt with ⟨h1, h2⟩ | ⟨j, h1, h2⟩
        · exact .inl ⟨h1, by omega⟩
        · exact .inr ⟨j, by omega, h2⟩
      · obtain rfl : k = h.length := by omega
        rw [getD_last]
        exact .inr ⟨e, by omega, rfl⟩
    · rcases Nat.lt_or_ge j e with hje | hje
      · obtain ⟨q, q1, q2, q3⟩ := i3 j hje
        refine ⟨q, by omega, by rw [getD_app q1]; exact q2, fun k hk hn hc => ?_⟩
        rw [hl] at hk
        rcases Nat.lt_or_ge k h.length with hlt | hge
        · rw [nTo_app _ _ (Nat.le_of_lt hlt)] at hn
          rw [getD_app hlt] at hc
          exact q3 k hlt hn hc
        · obtain rfl : k = h.length := by omega
          rw [getD_last] at hc
          cases hc
      · obtain rfl : j = e := by omega
        refine ⟨h.length, by omega, getD_last _ _, fun k hk hn hc => ?_⟩
        rw [hl] at hk
        rcases Nat.lt_or_ge k h.length with hlt | hge
        · exact hlt
        · obtain rfl : k = h.length := by omega
          rw [getD_last] at hc
          cases hc
/-- A deed of call j, noted at k, answered at q. -/
def IsD (xs : List Call) (j : Nat) (d : Deed) : Prop := d.kind = (xs.getD j Call.z).kind ∧ d.b = (xs.getD j Call.z).b ∧ d.done = true ∧ d.val = aV xs j ∧ d.from_ < d.to_
theorem kn_of {k : Int} (h1 : 1 ≤ k) (h2 : k ≤ 3) : kn k = true := by unfold kn; simp; omega
theorem hv_succ (xs : List Call) (k : Nat) : hv xs (k + 1) = if (xs.getD k Call.z).kind = 1 then hv xs k else if (xs.getD k Call.z).kind = 2 then ⟨true, (xs.getD k Call.z).b⟩ else Val.z := rfl
theorem find_ans {h : List Note} {at_ : Nat} {x : Note} (hx : h.getD at_ Note.z = x) {q : Nat} (h1 : at_ < q) (h2 : q < h.length) (h3 : isAns (h.getD q Note.z) x.call.id_ = true) :
    ∃ j, at_ < j ∧ j < h.length ∧ isAns (h.getD j Note.z) x.call.id_ = true ∧ ansIx h at_ = some j := by
  cases ha : ansIx h at_ with
  | none =>
    unfold ansIx at ha
    rw [List.find?_eq_none] at ha
    have := ha q (List.mem_range.2 h2)
    rw [hx, h3] at this
    simp [h1] at this
  | some j =>
    unfold ansIx at ha
    have h4 := List.find?_some ha
    have h5 := List.mem_range.1 (List.mem_of_find?_eq_some ha)
    rw [hx] at h4
    simp only [Bool.and_eq_true, decide_eq_true_eq] at h4
    exact ⟨j, h4.1, h5, h4.2, rfl⟩
theorem deed_ix {h : List Note} {at_ j : Nat} {x y : Note} (hx : h.getD at_ Note.z = x) (hy : h.getD j Note.z = y) (ha : ansIx h at_ = some j) (h0 : y.answer.e = 0) : deedD h at_ = full x y at_ j := by
  unfold deedD
  rw [ha, hx]
  simp only
  rw [hy, if_pos h0]
theorem Inter.deed {h : List Note} (hi : Inter xs xs.length xs.length h) (hk : ∀ x ∈ xs, 1 ≤ x.kind ∧ x.kind ≤ 3) {k : Nat} (hkl : k < h.length) (hc : (h.getD k Note.z).isAnswer = false) :
    nTo h k < xs.length ∧ (h.getD k Note.z).call.key = kk ∧ dIs kk h k = true ∧ IsD xs (nTo h k) (deedD h k) ∧ (deedD h k).from_ = (k : Int) := by
  obtain ⟨_, i2, i3⟩ := hi.places
  have hi2 := i2 k hkl
  rcases hi2 with ⟨h1, h2⟩ | ⟨j, _, h1⟩
  · obtain ⟨q, q1, q2, q3⟩ := i3 _ h2
    have hq := q3 k hkl rfl hc
    obtain ⟨j, j1, j2, j3, j4⟩ := find_ans h1 hq q1 (by rw [q2]; show (true && (((nTo h k : Nat) : Int) == ((nTo h k : Nat) : Int))) = true; simp)
    have hj : h.getD j Note.z = aN xs (nTo h k) := by
      rcases i2 j j2 with ⟨h5, _⟩ | ⟨i, _, h5⟩
      · rw [h5] at j3; cases j3
      · rw [h5] at j3 ⊢
        have j3' : (true && ((i : Int) == ((nTo h k : Nat) : Int))) = true := j3
        simp at j3'
        have j5 : i = nTo h k := by omega
        rw [j5]
    have hd := deed_ix h1 hj j4 rfl
    have hx : (xs.getD (nTo h k) Call.z) ∈ xs := by
      rw [List.getD_eq_getElem?_getD, List.getElem?_eq_getElem h2]; exact List.getElem_mem h2
    have hkk := hk _ hx
    have hD : IsD xs (nTo h k) (deedD h k) := by
      rw [hd]
      refine ⟨rfl, rfl, rfl, ?_, by show (k : Int) < (j : Int); omega⟩
      show (if (xs.getD (nTo h k) Call.z).kind = 1 then aV xs (nTo h k) else Val.z) = aV xs (nTo h k)
      unfold aV
      split <;> simp_all
    refine ⟨h2, by rw [h1]; rfl, ?_, hD, by rw [hd]; rfl⟩
    have hkn : kn (xs.getD (nTo h k) Call.z).kind = true := kn_of hkk.1 hkk.2
    unfold dIs deedIs
    rw [hD.1, hD.2.2.1, hkn, h1]
    show (!false && decide (kk = kk) && (true && (true || _))) = true
    simp
  · rw [h1] at hc; cases hc
/-- The deeds among the first k notes. -/
theorem Inter.list {h : List Note} (hi : Inter xs xs.length xs.length h) (hk : ∀ x ∈ xs, 1 ≤ x.kind ∧ x.kind ≤ 3) : ∀ k, k ≤ h.length → (dTo kk h k).length = nTo h k ∧ ∀ j, j < (dTo kk h k).length → IsD xs j ((dTo kk h k).getD j Deed.z) ∧ ((dTo kk h k).getD j Deed.z).from_ < (k : Int) ∧ ∀ i, i < j → ((dTo kk h k).getD i Deed.z).from_ < ((dTo kk h k).getD j Deed.z).from_
  | 0, _ => ⟨rfl, fun j hj => absurd hj (Nat.not_lt_zero _)⟩
  | k + 1, hkl => by
    obtain ⟨h1, h2⟩ := Inter.list hi hk k (by omega)
    rw [dTo_succ, nTo_succ]
    cases hc : (h.getD k Note.z).isAnswer with
    | true =>
      have e1 : dIs kk h k = false := by unfold dIs; rw [hc]; rfl
      have e2 : isC h k = false := by unfold isC; rw [hc]; rfl
      rw [e1, e2]
      simp only [if_neg Bool.false_ne_true, List.append_nil, Nat.add_zero]
      exact ⟨h1, fun j hj => ⟨(h2 j hj).1, by have := (h2 j hj).2.1; omega, (h2 j hj).2.2⟩⟩
    | false =>
      obtain ⟨d1, d2, d3, d4, d5⟩ := hi.deed hk (show k < h.length by omega) hc
      have e2 : isC h k = true := by unfold isC; rw [hc]; rfl
      rw [d3, e2]
      simp only [if_true]
      generalize hl : dTo kk h k = l at *
      have g1 : ∀ j, j < l.length → (l ++ [deedD h k]).getD j Deed.z = l.getD j Deed.z := fun j hj => by
        rw [List.getD_eq_getElem?_getD, List.getD_eq_getElem?_getD, List.getElem?_append_left hj]
      have g2 : (l ++ [deedD h k]).getD l.length Deed.z = deedD h k := by simp
      refine ⟨by rw [List.length_append, h1]; rfl, fun j hj => ?_⟩
      rw [List.length_append] at hj
      simp only [List.length_cons, List.length_nil] at hj
      rcases Nat.lt_or_ge j l.length with hlt | hge
      · rw [g1 j hlt]
        refine ⟨(h2 j hlt).1, by have := (h2 j hlt).2.1; omega, fun i hij => ?_⟩
        rw [g1 i (by omega)]
        exact (h2 j hlt).2.2 i hij
      · obtain rfl : j = l.length := by omega
        rw [g2]
        refine ⟨by rw [h1]; exact d4, by rw [d5]; omega, fun i hij => ?_⟩
        rw [g1 i hij, d5]
        exact (h2 i hij).2.1
theorem mask_next (k : Nat) : (2 ^ k - 1) ||| 2 ^ k = 2 ^ (k + 1) - 1 := by
  apply Nat.eq_of_testBit_eq
  intro i
  rw [Nat.testBit_or, Nat.testBit_two_pow_sub_one, Nat.testBit_two_pow_sub_one, Nat.testBit_two_pow]
  rw [Bool.eq_iff_iff]
  simp
  omega
theorem same_refl (v : Val) : same v v = true := by unfold same; cases v.has <;> simp
theorem run_path {l : List Deed} (h : ∀ j, j < l.length → IsD xs j (l.getD j Deed.z) ∧ ∀ i, i < j → (l.getD i Deed.z).from_ < (l.getD j Deed.z).from_) (hk : ∀ j, j < l.length → 1 ≤ (xs.getD j Call.z).kind ∧ (xs.getD j Call.z).kind ≤ 3) :
    ∀ (d k : Nat), k + d = l.length → ∃ p, Path l (2 ^ k - 1) (hv xs k) p
  | 0, k, hkd => ⟨[], .done (by
      unfold leftB
      rw [List.any_eq_false]
      intro j hj
      rw [List.mem_range] at hj
      rw [Nat.testBit_two_pow_sub_one]
      simp
      intro _
      omega)⟩
  | d + 1, k, hkd => by
    have hkl : k < l.length := by omega
    obtain ⟨hD, hF⟩ := h k hkl
    have hnx : nxt (l.getD k Deed.z) (hv xs k) = (hv xs (k + 1), true) := by
      have hkk := hk k hkl
      rw [hv_succ]
      unfold nxt
      rw [hD.1, hD.2.1, hD.2.2.2.1]
      unfold aV
      by_cases e1 : (xs.getD k Call.z).kind = 1
      · simp only [if_pos e1, same_refl]
      · by_cases e2 : (xs.getD k Call.z).kind = 2
        · simp only [if_neg e1, if_pos e2]
        · have e3 : (xs.getD k Call.z).kind = 3 := by omega
          simp only [if_neg e1, if_neg e2, if_pos e3]
          rfl
    obtain ⟨p, hp⟩ := run_path h hk d (k + 1) (by omega)
    refine ⟨k :: p, .step ?_ hkl ?_ (by rw [hnx]) (by rw [mask_next, hnx]; exact hp)⟩
    · unfold leftB
      rw [List.any_eq_true]
      exact ⟨k, List.mem_range.2 hkl, by rw [hD.2.2.1, Nat.testBit_two_pow_sub_one]; simp⟩
    · unfold mayB
      rw [Bool.and_eq_true, List.all_eq_true]
      refine ⟨by rw [Nat.testBit_two_pow_sub_one]; simp, fun j hj => ?_⟩
      rw [List.mem_range] at hj
      unfold clash
      rw [Nat.testBit_two_pow_sub_one]
      rcases Nat.lt_or_ge j k with hlt | hge
      · simp [hlt]
      · rcases Nat.lt_or_ge k j with hgt | hle
        · obtain ⟨hDj, hFj⟩ := h j hj
          have a1 := hFj k hgt
          have a2 := hDj.2.2.2.2
          have a3 : ¬ (l.getD j Deed.z).to_ < (l.getD k Deed.z).from_ := by omega
          rw [decide_eq_false a3]
          simp
        · obtain rfl : j = k := by omega
          simp
theorem mem_keys {h : List Note} {key : ByteArray} (hm : key ∈ ksL h) : ∃ x ∈ h, x.isAnswer = false ∧ key = toB (keyL x) := by
  unfold ksL at hm
  obtain ⟨y, hy, rfl⟩ := List.mem_map.1 hm
  have := mem_sortKeys hy
  obtain ⟨x, hx, rfl⟩ := List.mem_map.1 this
  rw [List.mem_filter] at hx
  exact ⟨x, hx.1, by simpa using hx.2, rfl⟩
theorem toB_keyL (x : Note) : toB (keyL x) = x.call.key := by
  unfold toB keyL
  rfl
theorem compact_at (l : List (List UInt8)) : ∀ j, j < l.length → l.toArray[j]! ∈ Lib.compact l
  | 0, hj => by
    unfold Lib.compact Lib.compactUpTo
    exact List.mem_map.2 ⟨0, List.mem_filter.2 ⟨List.mem_range.2 hj, Lib.keeps_lt_one _ 0 (by omega)⟩, rfl⟩
  | j + 1, hj => by
    by_cases e : l.toArray[j + 1]! = l.toArray[j]!
    · rw [e]
      exact compact_at l j (by omega)
    · unfold Lib.compact Lib.compactUpTo
      exact List.mem_map.2 ⟨j + 1, List.mem_filter.2 ⟨List.mem_range.2 hj, Lib.keeps_pos (m := j + 1) e⟩, rfl⟩
theorem compact_mem {l : List (List UInt8)} {x : List UInt8} (h : x ∈ l) : x ∈ Lib.compact l := by
  obtain ⟨j, hj, rfl⟩ := List.mem_iff_getElem.1 h
  have := compact_at l j hj
  simpa [hj] using this
theorem keys_mem {h : List Note} {x : Note} (hx : x ∈ h) (hc : x.isAnswer = false) : x.call.key ∈ ksL h := by
  unfold ksL
  rw [← toB_keyL]
  refine List.mem_map_of_mem (compact_mem ((List.mergeSort_perm _ _).mem_iff.2 (List.mem_map.2 ⟨x, List.mem_filter.2 ⟨hx, by rw [hc]; rfl⟩, rfl⟩)))
theorem Inter.keys {h : List Note} {b e : Nat} (hi : Inter xs b e h) {key : ByteArray} (hm : key ∈ ksL h) : key = kk := by
  obtain ⟨x, hx, hc, rfl⟩ := mem_keys hm
  obtain ⟨k, hk, rfl⟩ := List.mem_iff_getElem.1 hx
  rw [toB_keyL]
  obtain ⟨_, i2, _⟩ := hi.places
  have e1 : h.getD k Note.z = h[k] := by rw [List.getD_eq_getElem?_getD, List.getElem?_eq_getElem hk]; rfl
  rw [← e1] at hc ⊢
  rcases i2 k hk with ⟨h1, _⟩ | ⟨j, _, h1⟩
  · rw [h1]; rfl
  · rw [h1] at hc; cases hc
theorem Inter.linear {h : List Note} (hi : Inter xs xs.length xs.length h) (hl : xs.length ≤ 6) (hk : ∀ x ∈ xs, 1 ≤ x.kind ∧ x.kind ≤ 3) {b : Bool} {c : Int} (hs : LinSpec h b c) : b = true ∧ c = 0 := by
  have hr := hi.right.1
  have hd : ∀ key, deedsL key h = dTo key h h.length := fun key => by unfold deedsL; rw [hr]; rfl
  rcases hs with ⟨h1, _⟩ | ⟨_, ⟨key, _, h2⟩, _⟩ | ⟨_, _, h3, h4⟩
  · rw [hr] at h1; cases h1
  · have := dTo_length key h h.length
    rw [hd] at h2
    have := hi.le
    omega
  · refine ⟨h4.2 (fun key hm => ?_), h3⟩
    obtain rfl := hi.keys hm
    rw [hd]
    obtain ⟨q1, q2⟩ := hi.list hk h.length (Nat.le_refl _)
    have hn : nTo h h.length = xs.length := hi.places.1
    have hkx : ∀ j, j < (dTo kk h h.length).length → 1 ≤ (xs.getD j Call.z).kind ∧ (xs.getD j Call.z).kind ≤ 3 := fun j hj => hk _ (by
      rw [List.getD_eq_getElem?_getD, List.getElem?_eq_getElem (show j < xs.length by omega)]; exact List.getElem_mem _)
    refine ⟨List.any_eq_false.2 (fun d hd => ?_), run_path (xs := xs) (fun j hj => ⟨(q2 j hj).1, (q2 j hj).2.2⟩) hkx _ 0 (Nat.zero_add _)⟩
    obtain ⟨j, hj, rfl⟩ := List.mem_iff_getElem.1 hd
    have hD := (q2 j hj).1
    rw [List.getD_eq_getElem?_getD, List.getElem?_eq_getElem hj] at hD
    have hkk := hkx j hj
    have e : ((dTo kk h h.length)[j]).kind = (xs.getD j Call.z).kind := hD.1
    rw [e, kn_of hkk.1 hkk.2]
    simp
/-- What is never written. -/
def never : List UInt8 := [119, 104, 97, 116, 32, 119, 97, 115, 32, 110, 101, 118, 101, 114, 32, 119, 114, 105, 116, 116, 101, 110, 32, 104, 101, 114, 101]
def c50 : Note := ⟨false, ⟨50, 1, kk, []⟩, Answer.z⟩
def a50 : Note := ⟨true, Call.z, ⟨50, 0, ⟨true, never⟩⟩⟩
theorem Inter.right2 {h : List Note} (hi : Inter xs xs.length xs.length h) (hl : xs.length ≤ 6) : rightB (h ++ [c50, a50]) = true := by
  have e1 : h ++ [c50, a50] = (h ++ [c50]) ++ [a50] := by simp
  rw [e1, right_snoc, right_snoc, hi.right.1, opn_snoc]
  have hn : nid c50 = 50 := rfl
  have hm : nid a50 = 50 := rfl
  rw [hn, hm]
  have ho : opn h 50 = false := by
    cases ho : opn h 50 with
    | false => rfl
    | true => have := (hi.right.2 _).1 ho; omega
  rw [ho]
  rfl
theorem deedD_b (xs : List Note) (at_ : Nat) : (deedD xs at_).b = (xs.getD at_ Note.z).call.b := by
  unfold deedD
  split
  · rfl
  · split <;> rfl
theorem same_b {x y : Val} (h : same x y = true) (hx : x.has = true) : y.b.length = x.b.length := by
  unfold same at h
  rw [hx] at h
  cases hy : y.has <;> rw [hy] at h <;> simp at h
  rw [h]
theorem no_path {l : List Deed} {n : Nat} (hn : n < l.length) (hd : (l.getD n Deed.z).done = true) (hk : (l.getD n Deed.z).kind = 1) (hv : (l.getD n Deed.z).val = ⟨true, never⟩) (hb : ∀ j, j < l.length → (l.getD j Deed.z).b.length ≤ 20) {m : Nat} {v : Val} {p : List Nat} (h : Path l m v p) : v.b.length ≤ 20 → m.testBit n = false → False := by
  induction h with
  | done h1 =>
    intro _ hm
    unfold leftB at h1
    rw [List.any_eq_false] at h1
    have := h1 n (List.mem_range.2 hn)
    rw [hd, hm] at this
    simp at this
  | @step m v k p h1 h2 h3 h4 h5 ih =>
    intro hv0 hm
    by_cases e : k = n
    · subst e
      rw [nxt1 hk, hv] at h4
      have h6 : v.b.length = never.length := same_b (x := ⟨true, never⟩) (y := v) h4 rfl
      have e2 : never.length = 27 := rfl
      omega
    · refine ih ?_ ?_
      · unfold nxt
        split
        · exact hv0
        · split
          · exact hb k h2
          · split
            · exact Nat.zero_le _
            · exact hv0
      · rw [Nat.testBit_or, hm, Nat.testBit_two_pow]
        simp
        omega
theorem Inter.linear2 {h : List Note} (hi : Inter xs xs.length xs.length h) (hl : xs.length ≤ 6) (hb : ∀ x ∈ xs, x.b.length ≤ 20) {b : Bool} {c : Int} (hs : LinSpec (h ++ [c50, a50]) b c) : b = false ∧ c = 0 := by
  have hr := hi.right2 hl
  have hle := hi.le
  have hlen : (h ++ [c50, a50]).length = h.length + 2 := by simp
  have hd : ∀ key, deedsL key (h ++ [c50, a50]) = dTo key (h ++ [c50, a50]) (h ++ [c50, a50]).length := fun key => by unfold deedsL; rw [hr]; rfl
  rcases hs with ⟨h1, _⟩ | ⟨_, ⟨key, _, h2⟩, _⟩ | ⟨_, _, h3, h4⟩
  · rw [hr] at h1; cases h1
  · have := dTo_length key (h ++ [c50, a50]) (h ++ [c50, a50]).length
    rw [hd] at h2
    omega
  · refine ⟨?_, h3⟩
    cases b with
    | false => rfl
    | true =>
      exfalso
      have hkey : kk ∈ ksL (h ++ [c50, a50]) := keys_mem (x := c50) (by simp) rfl
      obtain ⟨_, p, hp⟩ := h4.1 rfl kk hkey
      rw [hd] at hp
      have hx : (h ++ [c50, a50]).getD h.length Note.z = c50 := getD_app2 (C := h) (D := [c50, a50]) 0
      have hy : (h ++ [c50, a50]).getD (h.length + 1) Note.z = a50 := getD_app2 (C := h) (D := [c50, a50]) 1
      have hds := deed_some hx hy (by omega) (by omega) rfl (fun i h1 h2 => absurd h1 (by omega))
      have hdd : deedD (h ++ [c50, a50]) h.length = ⟨1, [], h.length, (h.length + 1 : Nat), true, ⟨true, never⟩⟩ := by rw [hds.2]; rfl
      have hdi : dIs kk (h ++ [c50, a50]) h.length = true := by
        unfold dIs deedIs
        rw [hdd, hx]
        show (!false && decide (kk = kk) && (true && (true || _))) = true
        simp
      have e1 : dTo kk (h ++ [c50, a50]) (h ++ [c50, a50]).length = dTo kk (h ++ [c50, a50]) h.length ++ [⟨1, [], h.length, (h.length + 1 : Nat), true, ⟨true, never⟩⟩] := by
        rw [hlen, dTo_succ, dTo_succ, hdi, hdd]
        have : dIs kk (h ++ [c50, a50]) (h.length + 1) = false := by unfold dIs; rw [hy]; rfl
        rw [this]
        simp
      have hbb : ∀ d ∈ dTo kk (h ++ [c50, a50]) (h ++ [c50, a50]).length, d.b.length ≤ 20 := by
        intro d hd
        unfold dTo at hd
        obtain ⟨i, hi2, rfl⟩ := List.mem_map.1 hd
        rw [List.mem_filter, List.mem_range, hlen] at hi2
        rw [deedD_b]
        rcases Nat.lt_or_ge i h.length with hlt | hge
        · rw [getD_app hlt]
          rcases hi.places.2.1 i hlt with ⟨q1, q2⟩ | ⟨j, _, q1⟩
          · rw [q1]
            show (xs.getD (nTo h i) Call.z).b.length ≤ 20
            exact hb _ (by rw [List.getD_eq_getElem?_getD, List.getElem?_eq_getElem q2]; exact List.getElem_mem q2)
          · rw [q1]; exact Nat.zero_le _
        · obtain ⟨d, rfl⟩ : ∃ d, i = h.length + d := ⟨i - h.length, by omega⟩
          rw [getD_app2]
          rcases d with _ | _ | d
          · exact Nat.zero_le _
          · exact Nat.zero_le _
          · omega
      rw [e1] at hp hbb
      have g2 : ∀ (l : List Deed) (d : Deed), (l ++ [d]).getD l.length Deed.z = d := fun l d => by simp
      refine no_path (n := (dTo kk (h ++ [c50, a50]) h.length).length) (by simp) (by rw [g2]) (by rw [g2]) (by rw [g2]) (fun j hj => hbb _ (getD_d hj)) hp (Nat.zero_le _) (by simp)
end RunsP
end Go.Proofs.Ytgconogjnjhmgaa
