/- Layer cells: a table as a list of cells by rising keys (plain). -/
import Derived.Test.YtgfjkpnaabiecaaTags
import Derived.Test.YtgfjkpnaabiecaaHash
set_option linter.unusedVariables false
set_option linter.unusedSimpArgs false
namespace Go.Proofs.Ytgfjkpnaabiecaa
open Go.RowKit Go.Proofs.YtgfjkpnaabiecaaW.PrintWords
structure Tb where
  room : Room
  l : List Cell
  tok : List Int
  uses : Int
namespace Tab
abbrev kl (c : Cell) : List UInt8 := c.e.key.data.toList
theorem key_ext {a b : ByteArray} (h : a.data.toList = b.data.toList) : a = b := ByteArray.ext (Array.toList_inj.1 h)
def csz (e : Entry) : Nat := e.key.size + e.val.b.length
def szs (l : List Cell) : Nat := (l.map fun c => csz c.e).sum
def Srt (l : List Cell) : Prop := l.Pairwise (fun a b => kl a < kl b)
def find (l : List Cell) (k : ByteArray) : Option Cell := l.find? (fun c => decide (c.e.key = k))
def del (l : List Cell) (k : ByteArray) : List Cell := l.filter (fun c => decide (c.e.key ≠ k))
/-- In place of its key's, or at its place. -/
def put : List Cell → Cell → List Cell
  | [], c => [c]
  | x :: r, c => if x.e.key = c.e.key then c :: r else if kl c < kl x then c :: x :: r else x :: put r c
theorem lt_irr (a : List UInt8) : ¬ a < a := List.lt_irrefl a
theorem lt_tr {a b c : List UInt8} (h : a < b) (k : b < c) : a < c := List.lt_trans h k
theorem lt_of {a b : List UInt8} (h : ¬ a < b) (hn : a ≠ b) : b < a := by
  rcases Decidable.em (b < a) with h1 | h1
  · exact h1
  · exact absurd (List.le_antisymm (List.not_lt.1 h1) (List.not_lt.1 h)) hn
theorem ne_of {a b : Cell} (h : kl a < kl b) : a.e.key ≠ b.e.key := fun e => by
  unfold kl at h; rw [e] at h; exact lt_irr _ h
theorem find_mem {l : List Cell} {k : ByteArray} {c : Cell} (h : find l k = some c) : c ∈ l ∧ c.e.key = k := by
  unfold find at h
  exact ⟨List.mem_of_find?_eq_some h, by have := List.find?_some h; simpa using this⟩
theorem find_none {l : List Cell} {k : ByteArray} (h : find l k = none) : ∀ c ∈ l, c.e.key ≠ k := by
  unfold find at h
  intro c hc
  have := List.find?_eq_none.1 h c hc
  simpa using this
theorem find_of {l : List Cell} {c : Cell} (hs : Srt l) (h : c ∈ l) : find l c.e.key = some c := by
  induction l with
  | nil => cases h
  | cons x r ih =>
    have hs' := List.pairwise_cons.1 hs
    unfold find
    rw [List.find?_cons]
    rcases List.mem_cons.1 h with rfl | h'
    · simp
    · have := ne_of (hs'.1 c h')
      simp only [this, decide_false]
      exact ih hs'.2 h'
theorem find_no {l : List Cell} {k : ByteArray} (h : ∀ c ∈ l, c.e.key ≠ k) : find l k = none := by
  unfold find
  rw [List.find?_eq_none]
  intro c hc
  simpa using h c hc
theorem del_perm {l : List Cell} {k : ByteArray} {c : Cell} (hs : Srt l) (h : find l k = some c) : l.Perm (c :: del l k) := by
  induction l with
  | nil => cases h
  | cons x r ih =>
    have hs' := List.pairwise_cons.1 hs
    unfold find at h
    rw [List.find?_cons] at h
    by_cases hx : x.e.key = k
    · simp only [hx, decide_true, Option.some.injEq] at h
      subst h
      have hr : del r k = r := by
        unfold del
        rw [List.filter_eq_self]
        intro a ha
        have := ne_of (hs'.1 a ha)
        simp only [decide_eq_true_eq]
        rw [← hx]; exact this.symm
      unfold del at hr ⊢
      simp only [List.filter_cons, hx, ne_eq, not_true_eq_false, decide_false, Bool.false_eq_true, if_false]
      rw [show (fun c : Cell => decide (¬ c.e.key = k)) = (fun c => decide (c.e.key ≠ k)) from rfl, hr]
    · simp only [hx, decide_false] at h
      have := ih hs'.2 h
      unfold del at this ⊢
      simp only [List.filter_cons, ne_eq, hx, not_false_eq_true, decide_true, if_true]
      exact (this.cons x).trans (List.Perm.swap _ _ _)
theorem del_none {l : List Cell} {k : ByteArray} (h : find l k = none) : del l k = l := by
  unfold del
  rw [List.filter_eq_self]
  intro a ha
  simpa using find_none h a ha
theorem put_perm {l : List Cell} {c : Cell} (hs : Srt l) : (put l c).Perm (c :: del l c.e.key) := by
  induction l with
  | nil => exact List.Perm.refl _
  | cons x r ih =>
    have hs' := List.pairwise_cons.1 hs
    unfold put
    by_cases hx : x.e.key = c.e.key
    · rw [if_pos hx]
      have hr : del r c.e.key = r := by
        unfold del
        rw [List.filter_eq_self]
        intro a ha
        have := ne_of (hs'.1 a ha)
        simp only [decide_eq_true_eq]
        rw [← hx]; exact this.symm
      have hd : del (x :: r) c.e.key = del r c.e.key := by unfold del; rw [List.filter_cons]; simp [hx]
      rw [hd, hr]
    · rw [if_neg hx]
      have hd : del (x :: r) c.e.key = x :: del r c.e.key := by unfold del; rw [List.filter_cons]; simp [hx]
      rw [hd]
      split
      · rename_i hlt
        have hr : del r c.e.key = r := by
          unfold del
          rw [List.filter_eq_self]
          intro a ha
          have h1 := hs'.1 a ha
          have := ne_of (a := c) (b := a) (lt_tr hlt h1)
          simp only [decide_eq_true_eq]
          exact this.symm
        rw [hr]
      · exact ((ih hs'.2).cons x).trans (List.Perm.swap _ _ _)
theorem mem_put {l : List Cell} {c x : Cell} (hs : Srt l) : x ∈ put l c ↔ x = c ∨ (x ∈ l ∧ x.e.key ≠ c.e.key) := by
  rw [(put_perm hs).mem_iff, List.mem_cons]
  unfold del
  rw [List.mem_filter]
  simp
theorem mem_del {l : List Cell} {k : ByteArray} {x : Cell} : x ∈ del l k ↔ x ∈ l ∧ x.e.key ≠ k := by
  unfold del
  rw [List.mem_filter]
  simp
theorem srt_del {l : List Cell} (k : ByteArray) (hs : Srt l) : Srt (del l k) := List.Pairwise.sublist List.filter_sublist hs
theorem put_head {l : List Cell} {c y : Cell} (hs : Srt l) (h : ∀ x ∈ l, kl y < kl x) (hc : kl y < kl c) : ∀ x ∈ put l c, kl y < kl x := by
  intro x hx
  rcases (mem_put hs).1 hx with rfl | ⟨h1, _⟩
  · exact hc
  · exact h x h1
theorem srt_put {l : List Cell} {c : Cell} (hs : Srt l) : Srt (put l c) := by
  induction l with
  | nil => exact List.pairwise_singleton _ _
  | cons x r ih =>
    have hs' := List.pairwise_cons.1 hs
    unfold put
    by_cases hx : x.e.key = c.e.key
    · rw [if_pos hx]
      refine List.pairwise_cons.2 ⟨fun a ha => ?_, hs'.2⟩
      have := hs'.1 a ha
      unfold kl at this ⊢
      rw [← hx]; exact this
    · rw [if_neg hx]
      split
      · rename_i hlt
        refine List.pairwise_cons.2 ⟨fun a ha => ?_, hs⟩
        rcases List.mem_cons.1 ha with rfl | ha
        · exact hlt
        · exact lt_tr hlt (hs'.1 a ha)
      · rename_i hlt
        exact List.pairwise_cons.2 ⟨put_head hs'.2 hs'.1 (lt_of hlt (fun e => hx (key_ext e).symm)), ih hs'.2⟩
theorem szs_perm {a b : List Cell} (h : a.Perm b) : szs a = szs b := (h.map _).sum_nat
theorem szs_cons (c : Cell) (l : List Cell) : szs (c :: l) = csz c.e + szs l := by unfold szs; simp
theorem szs_put {l : List Cell} (c : Cell) (hs : Srt l) : szs (put l c) = csz c.e + szs (del l c.e.key) := by rw [szs_perm (put_perm hs), szs_cons]
theorem szs_del {l : List Cell} {k : ByteArray} (hs : Srt l) : szs l = (match find l k with | some c => csz c.e | none => 0) + szs (del l k) := by
  cases h : find l k with
  | none => rw [del_none h]; simp
  | some c => rw [szs_perm (del_perm hs h), szs_cons]
theorem szs_mem {l : List Cell} {c : Cell} (h : c ∈ l) : csz c.e ≤ szs l := by
  induction l with
  | nil => cases h
  | cons x r ih =>
    rw [szs_cons]
    rcases List.mem_cons.1 h with rfl | h
    · omega
    · have := ih h; omega
/-- The size of what a key has. -/
def szk (l : List Cell) (k : ByteArray) : Nat := csz ((find l k).getD Cell.z).e
theorem szk_le (l : List Cell) (k : ByteArray) : szk l k ≤ szs l := by
  unfold szk
  cases h : find l k with
  | none => exact Nat.zero_le _
  | some c => exact szs_mem (find_mem h).1
theorem szs_del' {l : List Cell} (k : ByteArray) (hs : Srt l) : szs l = szk l k + szs (del l k) := by
  unfold szk
  cases h : find l k with
  | none => rw [del_none h]; show szs l = 0 + szs l; omega
  | some c => rw [szs_perm (del_perm hs h), szs_cons]; rfl
theorem len_put {l : List Cell} (c : Cell) (hs : Srt l) : (put l c).length = (del l c.e.key).length + 1 := by rw [(put_perm hs).length_eq]; rfl
theorem len_del {l : List Cell} {k : ByteArray} (hs : Srt l) : l.length = (match find l k with | some _ => 1 | none => 0) + (del l k).length := by
  cases h : find l k with
  | none => rw [del_none h]; simp
  | some c => rw [(del_perm hs h).length_eq]; simp; omega
end Tab
end Go.Proofs.Ytgfjkpnaabiecaa
