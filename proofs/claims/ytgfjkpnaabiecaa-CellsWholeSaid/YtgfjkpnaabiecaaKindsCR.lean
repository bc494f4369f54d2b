/- How structs read, from the reader's words. (Printed by wip/tools/reads.py.) -/
import Derived.Test.YtgfjkpnaabiecaaKindsC
import Derived.Test.YtgfjkpnaabiecaaBridge
namespace Go.Proofs.Ytgfjkpnaabiecaa
open Go.RowKit Go.Proofs.YtgfjkpnaabiecaaW.PrintWords
theorem len2 {α : Type} {l : List α} (h : l.length = 2) : ∃ a0 a1, l = [a0, a1] := by
  match l, h with
  | [a0, a1], _ => exact ⟨a0, a1, rfl⟩
theorem len3 {α : Type} {l : List α} (h : l.length = 3) : ∃ a0 a1 a2, l = [a0, a1, a2] := by
  match l, h with
  | [a0, a1, a2], _ => exact ⟨a0, a1, a2, rfl⟩
theorem len4 {α : Type} {l : List α} (h : l.length = 4) : ∃ a0 a1 a2 a3, l = [a0, a1, a2, a3] := by
  match l, h with
  | [a0, a1, a2, a3], _ => exact ⟨a0, a1, a2, a3, rfl⟩
theorem len6 {α : Type} {l : List α} (h : l.length = 6) : ∃ a0 a1 a2 a3 a4 a5, l = [a0, a1, a2, a3, a4, a5] := by
  match l, h with
  | [a0, a1, a2, a3, a4, a5], _ => exact ⟨a0, a1, a2, a3, a4, a5, rfl⟩
theorem len8 {α : Type} {l : List α} (h : l.length = 8) : ∃ a0 a1 a2 a3 a4 a5 a6 a7, l = [a0, a1, a2, a3, a4, a5, a6, a7] := by
  match l, h with
  | [a0, a1, a2, a3, a4, a5, a6, a7], _ => exact ⟨a0, a1, a2, a3, a4, a5, a6, a7, rfl⟩
def Tag.Bd (x : Tag) : Prop := BdT x.seq ∧ BdT x.who ∧ BdT x.op
theorem Tag.reads : Reads 32 Tag.k Tag.Bd where
  sz := by kernel_rfl
  get := by
    intro H enc w base spare held fuel cs x h hw
    obtain ⟨xs, n, rfl, hx, hl, hxl, hf⟩ := DataW.trod_struct Try.underlying32 h
    have hz : Try.prog.cellsOf 32 = 3 := by kernel_rfl
    rw [hz] at hl
    obtain ⟨c0, c1, c2, rfl⟩ := len3 hl
    have hxl' : xs.length = 3 := hxl
    obtain ⟨x0, x1, x2, rfl⟩ := len3 hxl'
    subst hx
    have f0 : DataW.trod enc Try.prog w base spare held n 3 (([c0, c1, c2].drop 0).take (Try.prog.cellsOf 3)) = some x0 := hf 0 _ rfl
    have g0 : DataW.trod enc Try.prog w base spare held n 3 [c0] = some x0 := by
      have hc : Try.prog.cellsOf 3 = 1 := by kernel_rfl
      rw [hc] at f0
      exact f0
    obtain ⟨a0, k0, b0⟩ := (Reads.int Try.underlying3 (by kernel_rfl)).get g0 (fun z hz => hw z (by simp only [DataW.weights, Try.underlying32]; simp only [DataW.weightsEach, List.map_cons, List.map_nil, List.mem_append]; exact .inl hz))
    have f1 : DataW.trod enc Try.prog w base spare held n 3 (([c0, c1, c2].drop 1).take (Try.prog.cellsOf 3)) = some x1 := hf 1 _ rfl
    have g1 : DataW.trod enc Try.prog w base spare held n 3 [c1] = some x1 := by
      have hc : Try.prog.cellsOf 3 = 1 := by kernel_rfl
      rw [hc] at f1
      exact f1
    obtain ⟨a1, k1, b1⟩ := (Reads.int Try.underlying3 (by kernel_rfl)).get g1 (fun z hz => hw z (by simp only [DataW.weights, Try.underlying32]; simp only [DataW.weightsEach, List.map_cons, List.map_nil, List.mem_append]; exact .inr (.inl hz)))
    have f2 : DataW.trod enc Try.prog w base spare held n 3 (([c0, c1, c2].drop 2).take (Try.prog.cellsOf 3)) = some x2 := hf 2 _ rfl
    have g2 : DataW.trod enc Try.prog w base spare held n 3 [c2] = some x2 := by
      have hc : Try.prog.cellsOf 3 = 1 := by kernel_rfl
      rw [hc] at f2
      exact f2
    obtain ⟨a2, k2, b2⟩ := (Reads.int Try.underlying3 (by kernel_rfl)).get g2 (fun z hz => hw z (by simp only [DataW.weights, Try.underlying32]; simp only [DataW.weightsEach, List.map_cons, List.map_nil, List.mem_append]; exact .inr (.inr (.inl hz))))
    exact ⟨⟨a0, a1, a2⟩, ⟨_, _, rfl, k0, ⟨_, _, rfl, k1, k2⟩⟩, ⟨b0, b1, b2⟩⟩

def Val.Bd (x : Val) : Prop := BdT x.has ∧ (BdS 1 BdT) x.b
theorem Val.reads : Reads 35 Val.k Val.Bd where
  sz := by kernel_rfl
  get := by
    intro H enc w base spare held fuel cs x h hw
    obtain ⟨xs, n, rfl, hx, hl, hxl, hf⟩ := DataW.trod_struct Try.underlying35 h
    have hz : Try.prog.cellsOf 35 = 2 := by kernel_rfl
    rw [hz] at hl
    obtain ⟨c0, c1, rfl⟩ := len2 hl
    have hxl' : xs.length = 2 := hxl
    obtain ⟨x0, x1, rfl⟩ := len2 hxl'
    subst hx
    have f0 : DataW.trod enc Try.prog w base spare held n 4 (([c0, c1].drop 0).take (Try.prog.cellsOf 4)) = some x0 := hf 0 _ rfl
    have g0 : DataW.trod enc Try.prog w base spare held n 4 [c0] = some x0 := by
      have hc : Try.prog.cellsOf 4 = 1 := by kernel_rfl
      rw [hc] at f0
      exact f0
    obtain ⟨a0, k0, b0⟩ := (Reads.bool Try.underlying4 (by kernel_rfl)).get g0 (fun z hz => hw z (by simp only [DataW.weights, Try.underlying35]; simp only [DataW.weightsEach, List.map_cons, List.map_nil, List.mem_append]; exact .inl hz))
    have f1 : DataW.trod enc Try.prog w base spare held n 33 (([c0, c1].drop 1).take (Try.prog.cellsOf 33)) = some x1 := hf 1 _ rfl
    have g1 : DataW.trod enc Try.prog w base spare held n 33 [c1] = some x1 := by
      have hc : Try.prog.cellsOf 33 = 1 := by kernel_rfl
      rw [hc] at f1
      exact f1
    obtain ⟨a1, k1, b1⟩ := (Reads.slice (B := 1) Try.underlying33 (by kernel_rfl) (by kernel_rfl) (Reads.u8 Try.underlying5 (by kernel_rfl))).get g1 (fun z hz => hw z (by simp only [DataW.weights, Try.underlying35]; simp only [DataW.weightsEach, List.map_cons, List.map_nil, List.mem_append]; exact .inr (.inl hz)))
    exact ⟨⟨a0, a1⟩, ⟨_, _, rfl, k0, k1⟩, ⟨b0, b1⟩⟩

def Entry.Bd (x : Entry) : Prop := BdT x.key ∧ Tag.Bd x.tag ∧ Val.Bd x.val
theorem Entry.reads : Reads 37 Entry.k Entry.Bd where
  sz := by kernel_rfl
  get := by
    intro H enc w base spare held fuel cs x h hw
    obtain ⟨xs, n, rfl, hx, hl, hxl, hf⟩ := DataW.trod_struct Try.underlying37 h
    have hz : Try.prog.cellsOf 37 = 6 := by kernel_rfl
    rw [hz] at hl
    obtain ⟨c0, c1, c2, c3, c4, c5, rfl⟩ := len6 hl
    have hxl' : xs.length = 3 := hxl
    obtain ⟨x0, x1, x2, rfl⟩ := len3 hxl'
    subst hx
    have f0 : DataW.trod enc Try.prog w base spare held n 9 (([c0, c1, c2, c3, c4, c5].drop 0).take (Try.prog.cellsOf 9)) = some x0 := hf 0 _ rfl
    have g0 : DataW.trod enc Try.prog w base spare held n 9 [c0] = some x0 := by
      have hc : Try.prog.cellsOf 9 = 1 := by kernel_rfl
      rw [hc] at f0
      exact f0
    obtain ⟨a0, k0, b0⟩ := (Reads.str Try.underlying9 (by kernel_rfl)).get g0 (fun z hz => hw z (by simp only [DataW.weights, Try.underlying37]; simp only [DataW.weightsEach, List.map_cons, List.map_nil, List.mem_append]; exact .inl hz))
    have f1 : DataW.trod enc Try.prog w base spare held n 32 (([c0, c1, c2, c3, c4, c5].drop 1).take (Try.prog.cellsOf 32)) = some x1 := hf 1 _ rfl
    have g1 : DataW.trod enc Try.prog w base spare held n 32 [c1, c2, c3] = some x1 := by
      have hc : Try.prog.cellsOf 32 = 3 := by kernel_rfl
      rw [hc] at f1
      exact f1
    obtain ⟨a1, k1, b1⟩ := Tag.reads.get g1 (fun z hz => hw z (by simp only [DataW.weights, Try.underlying37]; simp only [DataW.weightsEach, List.map_cons, List.map_nil, List.mem_append]; exact .inr (.inl hz)))
    have f2 : DataW.trod enc Try.prog w base spare held n 35 (([c0, c1, c2, c3, c4, c5].drop 4).take (Try.prog.cellsOf 35)) = some x2 := hf 2 _ rfl
    have g2 : DataW.trod enc Try.prog w base spare held n 35 [c4, c5] = some x2 := by
      have hc : Try.prog.cellsOf 35 = 2 := by kernel_rfl
      rw [hc] at f2
      exact f2
    obtain ⟨a2, k2, b2⟩ := Val.reads.get g2 (fun z hz => hw z (by simp only [DataW.weights, Try.underlying37]; simp only [DataW.weightsEach, List.map_cons, List.map_nil, List.mem_append]; exact .inr (.inr (.inl hz))))
    exact ⟨⟨a0, a1, a2⟩, ⟨_, _, rfl, k0, ⟨_, _, rfl, k1, k2⟩⟩, ⟨b0, b1, b2⟩⟩

def Room.Bd (x : Room) : Prop := BdT x.cells ∧ BdT x.bytes ∧ BdT x.buckets ∧ BdT x.fresh
theorem Room.reads : Reads 23 Room.k Room.Bd where
  sz := by kernel_rfl
  get := by
    intro H enc w base spare held fuel cs x h hw
    obtain ⟨xs, n, rfl, hx, hl, hxl, hf⟩ := DataW.trod_struct Try.underlying23 h
    have hz : Try.prog.cellsOf 23 = 4 := by kernel_rfl
    rw [hz] at hl
    obtain ⟨c0, c1, c2, c3, rfl⟩ := len4 hl
    have hxl' : xs.length = 4 := hxl
    obtain ⟨x0, x1, x2, x3, rfl⟩ := len4 hxl'
    subst hx
    have f0 : DataW.trod enc Try.prog w base spare held n 3 (([c0, c1, c2, c3].drop 0).take (Try.prog.cellsOf 3)) = some x0 := hf 0 _ rfl
    have g0 : DataW.trod enc Try.prog w base spare held n 3 [c0] = some x0 := by
      have hc : Try.prog.cellsOf 3 = 1 := by kernel_rfl
      rw [hc] at f0
      exact f0
    obtain ⟨a0, k0, b0⟩ := (Reads.int Try.underlying3 (by kernel_rfl)).get g0 (fun z hz => hw z (by simp only [DataW.weights, Try.underlying23]; simp only [DataW.weightsEach, List.map_cons, List.map_nil, List.mem_append]; exact .inl hz))
    have f1 : DataW.trod enc Try.prog w base spare held n 3 (([c0, c1, c2, c3].drop 1).take (Try.prog.cellsOf 3)) = some x1 := hf 1 _ rfl
    have g1 : DataW.trod enc Try.prog w base spare held n 3 [c1] = some x1 := by
      have hc : Try.prog.cellsOf 3 = 1 := by kernel_rfl
      rw [hc] at f1
      exact f1
    obtain ⟨a1, k1, b1⟩ := (Reads.int Try.underlying3 (by kernel_rfl)).get g1 (fun z hz => hw z (by simp only [DataW.weights, Try.underlying23]; simp only [DataW.weightsEach, List.map_cons, List.map_nil, List.mem_append]; exact .inr (.inl hz)))
    have f2 : DataW.trod enc Try.prog w base spare held n 3 (([c0, c1, c2, c3].drop 2).take (Try.prog.cellsOf 3)) = some x2 := hf 2 _ rfl
    have g2 : DataW.trod enc Try.prog w base spare held n 3 [c2] = some x2 := by
      have hc : Try.prog.cellsOf 3 = 1 := by kernel_rfl
      rw [hc] at f2
      exact f2
    obtain ⟨a2, k2, b2⟩ := (Reads.int Try.underlying3 (by kernel_rfl)).get g2 (fun z hz => hw z (by simp only [DataW.weights, Try.underlying23]; simp only [DataW.weightsEach, List.map_cons, List.map_nil, List.mem_append]; exact .inr (.inr (.inl hz))))
    have f3 : DataW.trod enc Try.prog w base spare held n 4 (([c0, c1, c2, c3].drop 3).take (Try.prog.cellsOf 4)) = some x3 := hf 3 _ rfl
    have g3 : DataW.trod enc Try.prog w base spare held n 4 [c3] = some x3 := by
      have hc : Try.prog.cellsOf 4 = 1 := by kernel_rfl
      rw [hc] at f3
      exact f3
    obtain ⟨a3, k3, b3⟩ := (Reads.bool Try.underlying4 (by kernel_rfl)).get g3 (fun z hz => hw z (by simp only [DataW.weights, Try.underlying23]; simp only [DataW.weightsEach, List.map_cons, List.map_nil, List.mem_append]; exact .inr (.inr (.inr (.inl hz)))))
    exact ⟨⟨a0, a1, a2, a3⟩, ⟨_, _, rfl, k0, ⟨_, _, rfl, k1, ⟨_, _, rfl, k2, k3⟩⟩⟩, ⟨b0, b1, b2, b3⟩⟩

def Do.Bd (x : Do) : Prop := BdT x.kind ∧ Entry.Bd x.e ∧ BdT x.token
theorem Do.reads : Reads 39 Do.k Do.Bd where
  sz := by kernel_rfl
  get := by
    intro H enc w base spare held fuel cs x h hw
    obtain ⟨xs, n, rfl, hx, hl, hxl, hf⟩ := DataW.trod_struct Try.underlying39 h
    have hz : Try.prog.cellsOf 39 = 8 := by kernel_rfl
    rw [hz] at hl
    obtain ⟨c0, c1, c2, c3, c4, c5, c6, c7, rfl⟩ := len8 hl
    have hxl' : xs.length = 3 := hxl
    obtain ⟨x0, x1, x2, rfl⟩ := len3 hxl'
    subst hx
    have f0 : DataW.trod enc Try.prog w base spare held n 3 (([c0, c1, c2, c3, c4, c5, c6, c7].drop 0).take (Try.prog.cellsOf 3)) = some x0 := hf 0 _ rfl
    have g0 : DataW.trod enc Try.prog w base spare held n 3 [c0] = some x0 := by
      have hc : Try.prog.cellsOf 3 = 1 := by kernel_rfl
      rw [hc] at f0
      exact f0
    obtain ⟨a0, k0, b0⟩ := (Reads.int Try.underlying3 (by kernel_rfl)).get g0 (fun z hz => hw z (by simp only [DataW.weights, Try.underlying39]; simp only [DataW.weightsEach, List.map_cons, List.map_nil, List.mem_append]; exact .inl hz))
    have f1 : DataW.trod enc Try.prog w base spare held n 37 (([c0, c1, c2, c3, c4, c5, c6, c7].drop 1).take (Try.prog.cellsOf 37)) = some x1 := hf 1 _ rfl
    have g1 : DataW.trod enc Try.prog w base spare held n 37 [c1, c2, c3, c4, c5, c6] = some x1 := by
      have hc : Try.prog.cellsOf 37 = 6 := by kernel_rfl
      rw [hc] at f1
      exact f1
    obtain ⟨a1, k1, b1⟩ := Entry.reads.get g1 (fun z hz => hw z (by simp only [DataW.weights, Try.underlying39]; simp only [DataW.weightsEach, List.map_cons, List.map_nil, List.mem_append]; exact .inr (.inl hz)))
    have f2 : DataW.trod enc Try.prog w base spare held n 3 (([c0, c1, c2, c3, c4, c5, c6, c7].drop 7).take (Try.prog.cellsOf 3)) = some x2 := hf 2 _ rfl
    have g2 : DataW.trod enc Try.prog w base spare held n 3 [c7] = some x2 := by
      have hc : Try.prog.cellsOf 3 = 1 := by kernel_rfl
      rw [hc] at f2
      exact f2
    obtain ⟨a2, k2, b2⟩ := (Reads.int Try.underlying3 (by kernel_rfl)).get g2 (fun z hz => hw z (by simp only [DataW.weights, Try.underlying39]; simp only [DataW.weightsEach, List.map_cons, List.map_nil, List.mem_append]; exact .inr (.inr (.inl hz))))
    exact ⟨⟨a0, a1, a2⟩, ⟨_, _, rfl, k0, ⟨_, _, rfl, k1, k2⟩⟩, ⟨b0, b1, b2⟩⟩

end Go.Proofs.Ytgfjkpnaabiecaa
