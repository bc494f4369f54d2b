/- Keys sorted, each once: one list alone is so. -/
import Derived.Test.YtgconogjnjhmgaaKeysA
namespace Go.Proofs.Ytgconogjnjhmgaa
open Go.RowKit Go.Proofs.YtgconogjnjhmgaaW.PrintWords
namespace KeysP
open KeysA
abbrev Key := List UInt8
theorem key_le_trans {a b c : Key} (h : a ≤ b) (k : b ≤ c) : a ≤ c := List.le_trans h k
theorem key_total (a b : Key) : a ≤ b ∨ b ≤ a := List.le_total a b
theorem key_lt_of {a b : Key} (h : a ≤ b) (hn : a ≠ b) : a < b := by
  rcases Decidable.em (a < b) with h1 | h1
  · exact h1
  · exact absurd (List.le_antisymm h (List.not_lt.1 h1)) hn
theorem key_irrefl (a : Key) : ¬ a < a := List.lt_irrefl a
theorem key_lt_trans {a b c : Key} (h : a < b) (k : b < c) : a < c := List.lt_trans h k
theorem key_le_lt {a b c : Key} (h : a ≤ b) (k : b < c) : a < c := List.lt_of_le_of_lt h k
/-- Sorted, each once. -/
def SS (l : List Key) : Prop := l.Pairwise (fun a b => a < b)
theorem ss_eq : ∀ {a b : List Key}, SS a → SS b → (∀ x, x ∈ a ↔ x ∈ b) → a = b
  | [], [], _, _, _ => rfl
  | [], y :: b, _, _, h => absurd ((h y).2 (by simp)) (by simp)
  | x :: a, [], _, _, h => absurd ((h x).1 (by simp)) (by simp)
  | x :: a, y :: b, ha, hb, h => by
    have ha' := List.pairwise_cons.1 ha
    have hb' := List.pairwise_cons.1 hb
    have e : x = y := by
      rcases List.mem_cons.1 ((h x).1 (by simp)) with h1 | h1
      · exact h1
      · rcases List.mem_cons.1 ((h y).2 (by simp)) with h2 | h2
        · exact h2.symm
        · exact absurd (key_lt_trans (hb'.1 x h1) (ha'.1 y h2)) (key_irrefl _)
    subst e
    rw [ss_eq ha'.2 hb'.2 (fun z => ?_)]
    constructor
    · intro hz
      rcases List.mem_cons.1 ((h z).1 (List.mem_cons_of_mem _ hz)) with h1 | h1
      · subst h1; exact absurd (ha'.1 z hz) (key_irrefl _)
      · exact h1
    · intro hz
      rcases List.mem_cons.1 ((h z).2 (List.mem_cons_of_mem _ hz)) with h1 | h1
      · subst h1; exact absurd (hb'.1 z hz) (key_irrefl _)
      · exact h1
theorem compact_ss {l : List Key} (h : l.Pairwise (fun a b => a ≤ b)) : SS (Lib.compact l) := by
  unfold SS Lib.compact Lib.compactUpTo
  rw [List.pairwise_map, List.pairwise_filter, List.pairwise_iff_getElem]
  intro i j hi hj hij
  rw [List.getElem_range, List.getElem_range]
  intro _ hk
  rw [List.length_range] at hi hj
  have hs := List.pairwise_iff_getElem.1 h
  have e : ∀ q (hq : q < l.length), l.toArray[q]! = l[q] := fun q hq => by simp [hq]
  have hne : l.toArray[j]! ≠ l.toArray[j - 1]! := by
    unfold Lib.keeps at hk
    simp only [decide_eq_true_eq] at hk
    rcases hk with hk | hk
    · omega
    · exact hk
  rw [e j hj, e (j - 1) (by omega)] at hne
  rw [e i hi, e j hj]
  have h1 : l[j - 1] ≤ l[j] := hs (j - 1) j (by omega) hj (by omega)
  have h2 : l[j - 1] < l[j] := key_lt_of h1 (fun e => hne e.symm)
  rcases Nat.lt_or_ge i (j - 1) with h3 | h3
  · exact key_le_lt (hs i (j - 1) hi (by omega) h3) h2
  · have : i = j - 1 := by omega
    subst this
    exact h2
theorem sort_le (l : List Key) : (l.mergeSort fun x y => decide (x ≤ y)).Pairwise (fun a b => a ≤ b) := by
  have := List.pairwise_mergeSort (le := fun x y : Key => decide (x ≤ y)) (fun a b c h k => by simp only [decide_eq_true_eq] at *; exact key_le_trans h k) (fun a b => by simp only [Bool.or_eq_true, decide_eq_true_eq]; exact key_total a b) l
  exact this.imp (fun h => by simpa using h)
theorem keys_ss (xs : List Note) : SS (keysL xs) := compact_ss (sort_le _)
/-- A key put in at its place, or there. -/
def insAt (o : List Key) (x : Key) (k : Nat) : List Key := if o[k]? = some x then o else o.take k ++ x :: o.drop k
theorem ins_ok {o : List Key} {x : Key} {k : Nat} (hs : SS o) (h1 : ∀ j y, j < k → o[j]? = some y → y < x) (h2 : ∀ y, o[k]? = some y → ¬ y < x) (hk : k ≤ o.length) : SS (insAt o x k) ∧ ∀ y, y ∈ insAt o x k ↔ y ∈ o ∨ y = x := by
  unfold insAt
  by_cases e : o[k]? = some x
  · rw [if_pos e]
    exact ⟨hs, fun y => ⟨fun h => .inl h, fun h => h.elim id (fun h => h ▸ List.mem_of_getElem? e)⟩⟩
  · rw [if_neg e]
    have ht : ∀ y ∈ o.take k, y < x := fun y hy => by
      obtain ⟨j, hj, rfl⟩ := List.mem_iff_getElem.1 hy
      rw [List.length_take] at hj
      refine h1 j _ (by omega) ?_
      rw [List.getElem_take, List.getElem?_eq_getElem]
    have hd : ∀ y ∈ o.drop k, x < y := fun y hy => by
      obtain ⟨j, hj, rfl⟩ := List.mem_iff_getElem.1 hy
      rw [List.length_drop] at hj
      have hkl : k < o.length := by omega
      have a1 : ¬ o[k] < x := h2 _ (List.getElem?_eq_getElem hkl)
      have a2 : x < o[k] := key_lt_of (List.not_lt.1 a1) (fun h => e (by rw [List.getElem?_eq_getElem hkl, h]))
      rw [List.getElem_drop]
      rcases Nat.eq_zero_or_pos j with h0 | h0
      · subst h0; exact a2
      · exact key_lt_trans a2 (List.pairwise_iff_getElem.1 hs k (k + j) hkl (by omega) (by omega))
    have hp := List.take_append_drop k o
    have hs2 : SS (o.take k ++ o.drop k) := by rw [hp]; exact hs
    have hs3 := List.pairwise_append.1 hs2
    refine ⟨List.pairwise_append.2 ⟨hs3.1, List.pairwise_cons.2 ⟨hd, hs3.2.1⟩, fun a ha b hb => ?_⟩, fun y => ?_⟩
    · rcases List.mem_cons.1 hb with h | h
      · rw [h]; exact ht a ha
      · exact hs3.2.2 a ha b h
    · constructor
      · intro hy
        rcases List.mem_append.1 hy with h | h
        · exact .inl (List.mem_of_mem_take h)
        · rcases List.mem_cons.1 h with h | h
          · exact .inr h
          · exact .inl (List.mem_of_mem_drop h)
      · intro hy
        rcases hy with h | h
        · rw [← hp] at h
          rcases List.mem_append.1 h with h | h
          · exact List.mem_append_left _ h
          · exact List.mem_append_right _ (List.mem_cons_of_mem _ h)
        · rw [h]; exact List.mem_append_right _ (List.mem_cons_self)
theorem compact_at (l : List Key) : ∀ j, j < l.length → l.toArray[j]! ∈ Lib.compact l
  | 0, hj => by
    unfold Lib.compact Lib.compactUpTo
    exact List.mem_map.2 ⟨0, List.mem_filter.2 ⟨List.mem_range.2 hj, Lib.keeps_lt_one _ 0 (by omega)⟩, rfl⟩
  | j + 1, hj => by
    by_cases e : l.toArray[j + 1]! = l.toArray[j]!
    · rw [e]
      exact compact_at l j (by omega)
    · unfold Lib.compact Lib.compactUpTo
      exact List.mem_map.2 ⟨j + 1, List.mem_filter.2 ⟨List.mem_range.2 hj, Lib.keeps_pos (m := j + 1) e⟩, rfl⟩
theorem keys_mem (xs : List Note) (y : Key) : y ∈ keysL xs ↔ y ∈ rawKeys xs := by
  constructor
  · exact fun h => mem_sortKeys h
  · intro h
    have h2 : y ∈ (rawKeys xs).mergeSort fun x y => decide (x ≤ y) := (List.mergeSort_perm _ _).mem_iff.2 h
    obtain ⟨j, hj, e⟩ := List.mem_iff_getElem.1 h2
    have := compact_at _ j hj
    rw [show ((rawKeys xs).mergeSort fun x y => decide (x ≤ y)).toArray[j]! = y by rw [getElem!_pos _ _ (by simpa using hj)]; simpa using e] at this
    exact this
/-- The one list that is sorted, each once, of the calls' keys. -/
theorem keys_one {xs : List Note} {o : List Key} (hs : SS o) (hm : ∀ y, y ∈ o ↔ y ∈ rawKeys xs) : o = keysL xs := ss_eq hs (keys_ss xs) (fun y => (hm y).trans (keys_mem xs y).symm)
/-- A text of a row. -/
def RS (q : Key) (cs : List Value) : Prop := cs = [encStr q]
theorem RS.one : ∀ (q : Key) (cs : List Value), RS q cs → ∀ u ∈ cs, u.oneCell' = true := by
  rintro q cs rfl u hu
  rw [List.mem_singleton] at hu
  subst hu
  rfl
theorem row_of {W : World} {b : Nat} {v : Value} {o : List Key} (h : W.ownsRow b 9 1 v o.length (o.map encStr)) : OwnRow RS 9 1 W b v o := by
  refine ⟨_, h, by rw [List.length_map, Nat.mul_one], fun j p hj => ?_⟩
  have hl := (List.getElem?_eq_some_iff.1 hj).1
  unfold RS
  rw [Nat.mul_one, List.take_one, List.head?_drop, List.getElem?_map, hj]; rfl
theorem of_row {W : World} {b : Nat} {v : Value} {o : List Key} (h : OwnRow RS 9 1 W b v o) : W.ownsRow b 9 1 v o.length (o.map encStr) := by
  obtain ⟨inner, ho, hr⟩ := h
  have e : inner = o.map encStr := by
    apply List.ext_getElem?
    intro j
    rcases Nat.lt_or_ge j o.length with hj | hj
    · have h1 := hr.2 j o[j] (List.getElem?_eq_getElem hj)
      unfold RS at h1
      rw [Nat.mul_one, List.take_one, List.head?_drop] at h1
      rw [List.getElem?_map, List.getElem?_eq_getElem hj]
      have hl : j < inner.length := by rw [hr.1]; omega
      rw [List.getElem?_eq_getElem hl] at h1 ⊢
      simp at h1
      rw [h1]; rfl
    · rw [List.getElem?_eq_none (by rw [hr.1]; omega), List.getElem?_eq_none (by rw [List.length_map]; omega)]
  rw [e] at ho
  exact ho
theorem reads_str {W : World} {A : Option Addr} {l : List Key} (h : kStr.C W A l.length (l.map toB)) : ReadsRow RS 1 W A l.length l := by
  refine ⟨rfl, h.2.1, fun hn => ?_⟩
  obtain ⟨ad, e, hc⟩ := h.2.2 hn
  refine ⟨ad, e, fun j p hj => ?_⟩
  obtain ⟨cs, s1, s2, s3⟩ := hc j (toB p) (by rw [List.getElem?_map, hj]; rfl)
  exact ⟨cs, s1, s2.1, s3⟩
theorem take_str {W : World} {A : Option Addr} {o : List Key} {p : Nat} (h : kStr.C W A o.length (o.map toB)) (hp : p ≤ o.length) : ReadsRow RS 1 W A p (o.take p) := by
  have h1 : kStr.C W A (o.map toB).length (o.map toB) := by rw [List.length_map]; exact h
  have h2 := Kd.C_take (m := p) h1 (by rw [List.length_map]; exact hp)
  rw [← List.map_take, List.length_map] at h2
  have h3 := reads_str h2
  rwa [List.length_take, Nat.min_eq_left hp] at h3
theorem drop_str {W : World} {A : Option Addr} {o : List Key} {p : Nat} (h : kStr.C W A (o.length - p) ((o.map toB).drop p)) : ReadsRow RS 1 W A (o.length - p) (o.drop p) := by
  rw [← List.map_drop] at h
  have h3 : kStr.C W A (o.drop p).length ((o.drop p).map toB) := by rw [List.length_drop]; exact h
  have h4 := reads_str h3
  rwa [List.length_drop] at h4
theorem one_str {W : World} {cy : ByteArray} {x : Key} (hx : toB x = cy) : ReadsRow RS 1 (W.alloc (.cells #[.string cy] 9)) (some ⟨W.heap.size, 0, none⟩) 1 [x] := by
  subst hx
  refine ⟨rfl, by omega, fun _ => ⟨_, rfl, fun j p hj => ?_⟩⟩
  rcases j with _ | j
  · simp at hj
    subst hj
    refine ⟨[encStr x], rfl, rfl, fun i u hu => ?_⟩
    rcases i with _ | i
    · simp at hu
      subst hu
      rw [add_plain]
      simp
      rfl
    · simp at hu
  · simp at hj
end KeysP
end Go.Proofs.Ytgconogjnjhmgaa
