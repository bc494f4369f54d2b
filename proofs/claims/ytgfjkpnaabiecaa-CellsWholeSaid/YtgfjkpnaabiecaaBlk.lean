/- A block of the call's own whose cells are known: its cells as a list. -/
import Derived.Test.YtgfjkpnaabiecaaBase
namespace Go.Proofs.Ytgfjkpnaabiecaa
open Go.RowKit Go.Proofs.YtgfjkpnaabiecaaW.PrintWords
/-- Block b holds the cells cs, at its begin; none of them is frozen. -/
def Blk (w : World) (b : Nat) (cs : List Value) : Prop := b < w.heap.size ∧ ∀ i v, cs[i]? = some v → w.cell? ⟨b, i, none⟩ = some v ∧ w.frozen? ⟨b, i, none⟩ = false
namespace Blk
variable {w w' : World} {b g : Nat} {cs xs : List Value}
theorem new (w : World) (cs : List Value) (t : TypeId) : Blk (w.alloc (.cells cs.toArray t)) w.heap.size cs :=
  ⟨by simp, fun i v h => ⟨cell_new w cs.toArray t _ i v (by simpa using h), World.frozen?_alloc_new _ _ _ _⟩⟩
theorem new_ (w : World) (cs : Array Value) (t : TypeId) (hg : g = w.heap.size) (h : cs.toList = xs) : Blk (w.alloc (.cells cs t)) g xs := by
  subst hg; subst h
  exact new w cs.toList t
theorem cast {ds : List Value} (h : Blk w b ds) (e : ds = cs) : Blk w b cs := e ▸ h
theorem lt (h : Blk w b cs) : b < w.heap.size := h.1
theorem below (h : Blk w b cs) {B : Nat} (k : Below B w w') (hB : b < B) : Blk w' b cs :=
  ⟨Nat.lt_of_lt_of_le h.1 k.size, fun i v e => ⟨by rw [k.cell (p := ⟨b, i, none⟩) hB]; exact (h.2 i v e).1, by rw [k.frozen (p := ⟨b, i, none⟩) hB]; exact (h.2 i v e).2⟩⟩
theorem alloc (h : Blk w b cs) (o : Obj) : Blk (w.alloc o) b cs := h.below (B := w.heap.size) ((Below.refl _ w).alloc (Nat.le_refl _) o) h.1
theorem drew (h : Blk w b cs) : Blk w.drew b cs := h
theorem on (h : Blk w b cs) (k : Below w.heap.size w w') : Blk w' b cs := h.below k h.1
theorem set (h : Blk w b cs) (i : Nat) (v : Value) : Blk (w.setCell ⟨b, i, none⟩ v) b (cs.set i v) := by
  refine ⟨by simpa [World.setCell] using h.1, fun j u e => ⟨?_, ?_⟩⟩
  · rw [List.getElem?_set] at e
    by_cases hij : i = j
    · subst hij
      simp only [if_true] at e
      split at e
      · rename_i hl
        simp only [Option.some.injEq] at e
        subst e
        exact World.cell?_setCell_same _ _ _ (h.2 i cs[i] (List.getElem?_eq_getElem hl)).1
      · cases e
    · rw [if_neg hij] at e
      rw [World.cell?_setCell_other _ _ _ _ (by simp)]
      exact (h.2 j u e).1
  · rw [World.frozen?_setCell]
    rw [List.getElem?_set] at e
    by_cases hij : i = j
    · subst hij
      simp only [if_true] at e
      split at e
      · rename_i hl
        exact (h.2 i cs[i] (List.getElem?_eq_getElem hl)).2
      · cases e
    · rw [if_neg hij] at e
      exact (h.2 j u e).2
theorem set_far (h : Blk w b cs) (hb : g ≠ b) (i : Nat) (v : Value) : Blk (w.setCell ⟨g, i, none⟩ v) b cs := by
  refine ⟨by simpa [World.setCell] using h.1, fun j u e => ⟨?_, by rw [World.frozen?_setCell]; exact (h.2 j u e).2⟩⟩
  rw [World.cell?_setCell_other _ _ _ _ (by simp)]
  exact (h.2 j u e).1
theorem cell (h : Blk w b cs) (i : Nat) {v : Value} (e : cs[i]? = some v) : w.cell? ⟨b, i, none⟩ = some v := (h.2 i v e).1
theorem frozen (h : Blk w b cs) (i : Nat) {v : Value} (e : cs[i]? = some v) : w.frozen? ⟨b, i, none⟩ = false := (h.2 i v e).2
end Blk
end Go.Proofs.Ytgfjkpnaabiecaa
