/- How structs read, from the reader's words. (Printed by wip/tools/reads.py.) -/
import Derived.Test.YtgconogjnjhmgaaKinds
import Derived.Test.YtgconogjnjhmgaaBridge
namespace Go.Proofs.Ytgconogjnjhmgaa
open Go.RowKit Go.Proofs.YtgconogjnjhmgaaW.PrintWords
theorem len2 {α : Type} {l : List α} (h : l.length = 2) : ∃ a0 a1, l = [a0, a1] := by
  match l, h with
  | [a0, a1], _ => exact ⟨a0, a1, rfl⟩
theorem len3 {α : Type} {l : List α} (h : l.length = 3) : ∃ a0 a1 a2, l = [a0, a1, a2] := by
  match l, h with
  | [a0, a1, a2], _ => exact ⟨a0, a1, a2, rfl⟩
theorem len4 {α : Type} {l : List α} (h : l.length = 4) : ∃ a0 a1 a2 a3, l = [a0, a1, a2, a3] := by
  match l, h with
  | [a0, a1, a2, a3], _ => exact ⟨a0, a1, a2, a3, rfl⟩
theorem len6 {α : Type} {l : List α} (h : l.length = 6) : ∃ a0 a1 a2 a3 a4 a5, l = [a0, a1, a2, a3, a4, a5] := by
  match l, h with
  | [a0, a1, a2, a3, a4, a5], _ => exact ⟨a0, a1, a2, a3, a4, a5, rfl⟩
theorem len7 {α : Type} {l : List α} (h : l.length = 7) : ∃ a0 a1 a2 a3 a4 a5 a6, l = [a0, a1, a2, a3, a4, a5, a6] := by
  match l, h with
  | [a0, a1, a2, a3, a4, a5, a6], _ => exact ⟨a0, a1, a2, a3, a4, a5, a6, rfl⟩
theorem len9 {α : Type} {l : List α} (h : l.length = 9) : ∃ a0 a1 a2 a3 a4 a5 a6 a7 a8, l = [a0, a1, a2, a3, a4, a5, a6, a7, a8] := by
  match l, h with
  | [a0, a1, a2, a3, a4, a5, a6, a7, a8], _ => exact ⟨a0, a1, a2, a3, a4, a5, a6, a7, a8, rfl⟩
def Val.Bd (x : Val) : Prop := BdT x.has ∧ (BdS 1 BdT) x.b
theorem Val.reads : Reads 28 Val.k Val.Bd where
  sz := by kernel_rfl
  get := by
    intro H enc w base spare held fuel cs x h hw
    obtain ⟨xs, n, rfl, hx, hl, hxl, hf⟩ := DataW.trod_struct Try.underlying28 h
    have hz : Try.prog.cellsOf 28 = 2 := by kernel_rfl
    rw [hz] at hl
    obtain ⟨c0, c1, rfl⟩ := len2 hl
    have hxl' : xs.length = 2 := hxl
    obtain ⟨x0, x1, rfl⟩ := len2 hxl'
    subst hx
    have f0 : DataW.trod enc Try.prog w base spare held n 4 (([c0, c1].drop 0).take (Try.prog.cellsOf 4)) = some x0 := hf 0 _ rfl
    have g0 : DataW.trod enc Try.prog w base spare held n 4 [c0] = some x0 := by
      have hc : Try.prog.cellsOf 4 = 1 := by kernel_rfl
      rw [hc] at f0
      exact f0
    obtain ⟨a0, k0, b0⟩ := (Reads.bool Try.underlying4 (by kernel_rfl)).get g0 (fun z hz => hw z (by simp only [DataW.weights, Try.underlying28]; simp only [DataW.weightsEach, List.map_cons, List.map_nil, List.mem_append]; exact .inl hz))
    have f1 : DataW.trod enc Try.prog w base spare held n 26 (([c0, c1].drop 1).take (Try.prog.cellsOf 26)) = some x1 := hf 1 _ rfl
    have g1 : DataW.trod enc Try.prog w base spare held n 26 [c1] = some x1 := by
      have hc : Try.prog.cellsOf 26 = 1 := by kernel_rfl
      rw [hc] at f1
      exact f1
    obtain ⟨a1, k1, b1⟩ := (Reads.slice (B := 1) Try.underlying26 (by kernel_rfl) (by kernel_rfl) (Reads.u8 Try.underlying5 (by kernel_rfl))).get g1 (fun z hz => hw z (by simp only [DataW.weights, Try.underlying28]; simp only [DataW.weightsEach, List.map_cons, List.map_nil, List.mem_append]; exact .inr (.inl hz)))
    exact ⟨⟨a0, a1⟩, ⟨_, _, rfl, k0, k1⟩, ⟨b0, b1⟩⟩

def Deed.Bd (x : Deed) : Prop := BdT x.kind ∧ (BdS 1 BdT) x.b ∧ BdT x.from_ ∧ BdT x.to_ ∧ BdT x.done ∧ Val.Bd x.val
theorem Deed.reads : Reads 30 Deed.k Deed.Bd where
  sz := by kernel_rfl
  get := by
    intro H enc w base spare held fuel cs x h hw
    obtain ⟨xs, n, rfl, hx, hl, hxl, hf⟩ := DataW.trod_struct Try.underlying30 h
    have hz : Try.prog.cellsOf 30 = 7 := by kernel_rfl
    rw [hz] at hl
    obtain ⟨c0, c1, c2, c3, c4, c5, c6, rfl⟩ := len7 hl
    have hxl' : xs.length = 6 := hxl
    obtain ⟨x0, x1, x2, x3, x4, x5, rfl⟩ := len6 hxl'
    subst hx
    have f0 : DataW.trod enc Try.prog w base spare held n 3 (([c0, c1, c2, c3, c4, c5, c6].drop 0).take (Try.prog.cellsOf 3)) = some x0 := hf 0 _ rfl
    have g0 : DataW.trod enc Try.prog w base spare held n 3 [c0] = some x0 := by
      have hc : Try.prog.cellsOf 3 = 1 := by kernel_rfl
      rw [hc] at f0
      exact f0
    obtain ⟨a0, k0, b0⟩ := (Reads.int Try.underlying3 (by kernel_rfl)).get g0 (fun z hz => hw z (by simp only [DataW.weights, Try.underlying30]; simp only [DataW.weightsEach, List.map_cons, List.map_nil, List.mem_append]; exact .inl hz))
    have f1 : DataW.trod enc Try.prog w base spare held n 26 (([c0, c1, c2, c3, c4, c5, c6].drop 1).take (Try.prog.cellsOf 26)) = some x1 := hf 1 _ rfl
    have g1 : DataW.trod enc Try.prog w base spare held n 26 [c1] = some x1 := by
      have hc : Try.prog.cellsOf 26 = 1 := by kernel_rfl
      rw [hc] at f1
      exact f1
    obtain ⟨a1, k1, b1⟩ := (Reads.slice (B := 1) Try.underlying26 (by kernel_rfl) (by kernel_rfl) (Reads.u8 Try.underlying5 (by kernel_rfl))).get g1 (fun z hz => hw z (by simp only [DataW.weights, Try.underlying30]; simp only [DataW.weightsEach, List.map_cons, List.map_nil, List.mem_append]; exact .inr (.inl hz)))
    have f2 : DataW.trod enc Try.prog w base spare held n 3 (([c0, c1, c2, c3, c4, c5, c6].drop 2).take (Try.prog.cellsOf 3)) = some x2 := hf 2 _ rfl
    have g2 : DataW.trod enc Try.prog w base spare held n 3 [c2] = some x2 := by
      have hc : Try.prog.cellsOf 3 = 1 := by kernel_rfl
      rw [hc] at f2
      exact f2
    obtain ⟨a2, k2, b2⟩ := (Reads.int Try.underlying3 (by kernel_rfl)).get g2 (fun z hz => hw z (by simp only [DataW.weights, Try.underlying30]; simp only [DataW.weightsEach, List.map_cons, List.map_nil, List.mem_append]; exact .inr (.inr (.inl hz))))
    have f3 : DataW.trod enc Try.prog w base spare held n 3 (([c0, c1, c2, c3, c4, c5, c6].drop 3).take (Try.prog.cellsOf 3)) = some x3 := hf 3 _ rfl
    have g3 : DataW.trod enc Try.prog w base spare held n 3 [c3] = some x3 := by
      have hc : Try.prog.cellsOf 3 = 1 := by kernel_rfl
      rw [hc] at f3
      exact f3
    obtain ⟨a3, k3, b3⟩ := (Reads.int Try.underlying3 (by kernel_rfl)).get g3 (fun z hz => hw z (by simp only [DataW.weights, Try.underlying30]; simp only [DataW.weightsEach, List.map_cons, List.map_nil, List.mem_append]; exact .inr (.inr (.inr (.inl hz)))))
    have f4 : DataW.trod enc Try.prog w base spare held n 4 (([c0, c1, c2, c3, c4, c5, c6].drop 4).take (Try.prog.cellsOf 4)) = some x4 := hf 4 _ rfl
    have g4 : DataW.trod enc Try.prog w base spare held n 4 [c4] = some x4 := by
      have hc : Try.prog.cellsOf 4 = 1 := by kernel_rfl
      rw [hc] at f4
      exact f4
    obtain ⟨a4, k4, b4⟩ := (Reads.bool Try.underlying4 (by kernel_rfl)).get g4 (fun z hz => hw z (by simp only [DataW.weights, Try.underlying30]; simp only [DataW.weightsEach, List.map_cons, List.map_nil, List.mem_append]; exact .inr (.inr (.inr (.inr (.inl hz))))))
    have f5 : DataW.trod enc Try.prog w base spare held n 28 (([c0, c1, c2, c3, c4, c5, c6].drop 5).take (Try.prog.cellsOf 28)) = some x5 := hf 5 _ rfl
    have g5 : DataW.trod enc Try.prog w base spare held n 28 [c5, c6] = some x5 := by
      have hc : Try.prog.cellsOf 28 = 2 := by kernel_rfl
      rw [hc] at f5
      exact f5
    obtain ⟨a5, k5, b5⟩ := Val.reads.get g5 (fun z hz => hw z (by simp only [DataW.weights, Try.underlying30]; simp only [DataW.weightsEach, List.map_cons, List.map_nil, List.mem_append]; exact .inr (.inr (.inr (.inr (.inr (.inl hz)))))))
    exact ⟨⟨a0, a1, a2, a3, a4, a5⟩, ⟨_, _, rfl, k0, ⟨_, _, rfl, k1, ⟨_, _, rfl, k2, ⟨_, _, rfl, k3, ⟨_, _, rfl, k4, k5⟩⟩⟩⟩⟩, ⟨b0, b1, b2, b3, b4, b5⟩⟩

def Call.Bd (x : Call) : Prop := BdT x.id_ ∧ BdT x.kind ∧ BdT x.key ∧ (BdS 1 BdT) x.b
theorem Call.reads : Reads 55 Call.k Call.Bd where
  sz := by kernel_rfl
  get := by
    intro H enc w base spare held fuel cs x h hw
    obtain ⟨xs, n, rfl, hx, hl, hxl, hf⟩ := DataW.trod_struct Try.underlying55 h
    have hz : Try.prog.cellsOf 55 = 4 := by kernel_rfl
    rw [hz] at hl
    obtain ⟨c0, c1, c2, c3, rfl⟩ := len4 hl
    have hxl' : xs.length = 4 := hxl
    obtain ⟨x0, x1, x2, x3, rfl⟩ := len4 hxl'
    subst hx
    have f0 : DataW.trod enc Try.prog w base spare held n 3 (([c0, c1, c2, c3].drop 0).take (Try.prog.cellsOf 3)) = some x0 := hf 0 _ rfl
    have g0 : DataW.trod enc Try.prog w base spare held n 3 [c0] = some x0 := by
      have hc : Try.prog.cellsOf 3 = 1 := by kernel_rfl
      rw [hc] at f0
      exact f0
    obtain ⟨a0, k0, b0⟩ := (Reads.int Try.underlying3 (by kernel_rfl)).get g0 (fun z hz => hw z (by simp only [DataW.weights, Try.underlying55]; simp only [DataW.weightsEach, List.map_cons, List.map_nil, List.mem_append]; exact .inl hz))
    have f1 : DataW.trod enc Try.prog w base spare held n 3 (([c0, c1, c2, c3].drop 1).take (Try.prog.cellsOf 3)) = some x1 := hf 1 _ rfl
    have g1 : DataW.trod enc Try.prog w base spare held n 3 [c1] = some x1 := by
      have hc : Try.prog.cellsOf 3 = 1 := by kernel_rfl
      rw [hc] at f1
      exact f1
    obtain ⟨a1, k1, b1⟩ := (Reads.int Try.underlying3 (by kernel_rfl)).get g1 (fun z hz => hw z (by simp only [DataW.weights, Try.underlying55]; simp only [DataW.weightsEach, List.map_cons, List.map_nil, List.mem_append]; exact .inr (.inl hz)))
    have f2 : DataW.trod enc Try.prog w base spare held n 9 (([c0, c1, c2, c3].drop 2).take (Try.prog.cellsOf 9)) = some x2 := hf 2 _ rfl
    have g2 : DataW.trod enc Try.prog w base spare held n 9 [c2] = some x2 := by
      have hc : Try.prog.cellsOf 9 = 1 := by kernel_rfl
      rw [hc] at f2
      exact f2
    obtain ⟨a2, k2, b2⟩ := (Reads.str Try.underlying9 (by kernel_rfl)).get g2 (fun z hz => hw z (by simp only [DataW.weights, Try.underlying55]; simp only [DataW.weightsEach, List.map_cons, List.map_nil, List.mem_append]; exact .inr (.inr (.inl hz))))
    have f3 : DataW.trod enc Try.prog w base spare held n 26 (([c0, c1, c2, c3].drop 3).take (Try.prog.cellsOf 26)) = some x3 := hf 3 _ rfl
    have g3 : DataW.trod enc Try.prog w base spare held n 26 [c3] = some x3 := by
      have hc : Try.prog.cellsOf 26 = 1 := by kernel_rfl
      rw [hc] at f3
      exact f3
    obtain ⟨a3, k3, b3⟩ := (Reads.slice (B := 1) Try.underlying26 (by kernel_rfl) (by kernel_rfl) (Reads.u8 Try.underlying5 (by kernel_rfl))).get g3 (fun z hz => hw z (by simp only [DataW.weights, Try.underlying55]; simp only [DataW.weightsEach, List.map_cons, List.map_nil, List.mem_append]; exact .inr (.inr (.inr (.inl hz)))))
    exact ⟨⟨a0, a1, a2, a3⟩, ⟨_, _, rfl, k0, ⟨_, _, rfl, k1, ⟨_, _, rfl, k2, k3⟩⟩⟩, ⟨b0, b1, b2, b3⟩⟩

def Answer.Bd (x : Answer) : Prop := BdT x.id_ ∧ BdT x.e ∧ Val.Bd x.val
theorem Answer.reads : Reads 57 Answer.k Answer.Bd where
  sz := by kernel_rfl
  get := by
    intro H enc w base spare held fuel cs x h hw
    obtain ⟨xs, n, rfl, hx, hl, hxl, hf⟩ := DataW.trod_struct Try.underlying57 h
    have hz : Try.prog.cellsOf 57 = 4 := by kernel_rfl
    rw [hz] at hl
    obtain ⟨c0, c1, c2, c3, rfl⟩ := len4 hl
    have hxl' : xs.length = 3 := hxl
    obtain ⟨x0, x1, x2, rfl⟩ := len3 hxl'
    subst hx
    have f0 : DataW.trod enc Try.prog w base spare held n 3 (([c0, c1, c2, c3].drop 0).take (Try.prog.cellsOf 3)) = some x0 := hf 0 _ rfl
    have g0 : DataW.trod enc Try.prog w base spare held n 3 [c0] = some x0 := by
      have hc : Try.prog.cellsOf 3 = 1 := by kernel_rfl
      rw [hc] at f0
      exact f0
    obtain ⟨a0, k0, b0⟩ := (Reads.int Try.underlying3 (by kernel_rfl)).get g0 (fun z hz => hw z (by simp only [DataW.weights, Try.underlying57]; simp only [DataW.weightsEach, List.map_cons, List.map_nil, List.mem_append]; exact .inl hz))
    have f1 : DataW.trod enc Try.prog w base spare held n 31 (([c0, c1, c2, c3].drop 1).take (Try.prog.cellsOf 31)) = some x1 := hf 1 _ rfl
    have g1 : DataW.trod enc Try.prog w base spare held n 31 [c1] = some x1 := by
      have hc : Try.prog.cellsOf 31 = 1 := by kernel_rfl
      rw [hc] at f1
      exact f1
    obtain ⟨a1, k1, b1⟩ := (Reads.int Try.underlying31 (by kernel_rfl)).get g1 (fun z hz => hw z (by simp only [DataW.weights, Try.underlying57]; simp only [DataW.weightsEach, List.map_cons, List.map_nil, List.mem_append]; exact .inr (.inl hz)))
    have f2 : DataW.trod enc Try.prog w base spare held n 28 (([c0, c1, c2, c3].drop 2).take (Try.prog.cellsOf 28)) = some x2 := hf 2 _ rfl
    have g2 : DataW.trod enc Try.prog w base spare held n 28 [c2, c3] = some x2 := by
      have hc : Try.prog.cellsOf 28 = 2 := by kernel_rfl
      rw [hc] at f2
      exact f2
    obtain ⟨a2, k2, b2⟩ := Val.reads.get g2 (fun z hz => hw z (by simp only [DataW.weights, Try.underlying57]; simp only [DataW.weightsEach, List.map_cons, List.map_nil, List.mem_append]; exact .inr (.inr (.inl hz))))
    exact ⟨⟨a0, a1, a2⟩, ⟨_, _, rfl, k0, ⟨_, _, rfl, k1, k2⟩⟩, ⟨b0, b1, b2⟩⟩

def Note.Bd (x : Note) : Prop := BdT x.isAnswer ∧ Call.Bd x.call ∧ Answer.Bd x.answer
theorem Note.reads : Reads 59 Note.k Note.Bd where
  sz := by kernel_rfl
  get := by
    intro H enc w base spare held fuel cs x h hw
    obtain ⟨xs, n, rfl, hx, hl, hxl, hf⟩ := DataW.trod_struct Try.underlying59 h
    have hz : Try.prog.cellsOf 59 = 9 := by kernel_rfl
    rw [hz] at hl
    obtain ⟨c0, c1, c2, c3, c4, c5, c6, c7, c8, rfl⟩ := len9 hl
    have hxl' : xs.length = 3 := hxl
    obtain ⟨x0, x1, x2, rfl⟩ := len3 hxl'
    subst hx
    have f0 : DataW.trod enc Try.prog w base spare held n 4 (([c0, c1, c2, c3, c4, c5, c6, c7, c8].drop 0).take (Try.prog.cellsOf 4)) = some x0 := hf 0 _ rfl
    have g0 : DataW.trod enc Try.prog w base spare held n 4 [c0] = some x0 := by
      have hc : Try.prog.cellsOf 4 = 1 := by kernel_rfl
      rw [hc] at f0
      exact f0
    obtain ⟨a0, k0, b0⟩ := (Reads.bool Try.underlying4 (by kernel_rfl)).get g0 (fun z hz => hw z (by simp only [DataW.weights, Try.underlying59]; simp only [DataW.weightsEach, List.map_cons, List.map_nil, List.mem_append]; exact .inl hz))
    have f1 : DataW.trod enc Try.prog w base spare held n 55 (([c0, c1, c2, c3, c4, c5, c6, c7, c8].drop 1).take (Try.prog.cellsOf 55)) = some x1 := hf 1 _ rfl
    have g1 : DataW.trod enc Try.prog w base spare held n 55 [c1, c2, c3, c4] = some x1 := by
      have hc : Try.prog.cellsOf 55 = 4 := by kernel_rfl
      rw [hc] at f1
      exact f1
    obtain ⟨a1, k1, b1⟩ := Call.reads.get g1 (fun z hz => hw z (by simp only [DataW.weights, Try.underlying59]; simp only [DataW.weightsEach, List.map_cons, List.map_nil, List.mem_append]; exact .inr (.inl hz)))
    have f2 : DataW.trod enc Try.prog w base spare held n 57 (([c0, c1, c2, c3, c4, c5, c6, c7, c8].drop 5).take (Try.prog.cellsOf 57)) = some x2 := hf 2 _ rfl
    have g2 : DataW.trod enc Try.prog w base spare held n 57 [c5, c6, c7, c8] = some x2 := by
      have hc : Try.prog.cellsOf 57 = 4 := by kernel_rfl
      rw [hc] at f2
      exact f2
    obtain ⟨a2, k2, b2⟩ := Answer.reads.get g2 (fun z hz => hw z (by simp only [DataW.weights, Try.underlying59]; simp only [DataW.weightsEach, List.map_cons, List.map_nil, List.mem_append]; exact .inr (.inr (.inl hz))))
    exact ⟨⟨a0, a1, a2⟩, ⟨_, _, rfl, k0, ⟨_, _, rfl, k1, k2⟩⟩, ⟨b0, b1, b2⟩⟩

end Go.Proofs.Ytgconogjnjhmgaa
