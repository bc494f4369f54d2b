/- Layer lin: the search's states and what they say. -/
import Derived.Test.YtgconogjnjhmgaaLinC
import Derived.Test.YtgconogjnjhmgaaMaps
import Derived.DeepKeys4
namespace Go.Proofs.Ytgconogjnjhmgaa
open Go.RowKit Go.Proofs.YtgconogjnjhmgaaW.PrintWords
open Go.Maps (Keyed)
namespace LinD
open LinB LinC
theorem laidOut : laidOutB Try.prog = true := by kernel_rfl
theorem rowS : (93 : TypeId) < Try.prog.types.size := of_decide_eq_true (by kernel_rfl)
theorem wideS : (match Try.prog.underlying 93 with | some (.array _ _) | some (.struct _) => true | _ => false) = true := by kernel_rfl
set_option maxRecDepth 100000 in
theorem deepS : Try.prog.keyTypeAt 3 93 = true := by kernel_rfl
set_option maxRecDepth 100000 in
theorem lawS : Keyed Try.prog 93 := Keyed.of_law (deep_law_laid laidOut (m := 3) (by omega) rowS deepS wideS)
def stV (m : Nat) (v : Val) : Value := .agg #[.int .u32 m, .bool v.has, .string ⟨v.b.toArray⟩]
theorem keyTypeS : Try.prog.keyType 93 = true := by kernel_rfl
theorem cellsS : Try.prog.cellsOf 93 = 3 ∧ Try.prog.cellsOf 73 = 1 ∧ Try.prog.cellsOf 4 = 1 ∧ Try.prog.cellsOf 9 = 1 := ⟨by kernel_rfl, by kernel_rfl, by kernel_rfl, by kernel_rfl⟩
theorem pos_succ {a b : Nat} (h : a < b) : ∃ n, b = n + 1 := ⟨b - 1, by omega⟩
theorem sizeS : ∃ n, Try.prog.types.size = n + 1 := pos_succ rowS
theorem litsS (n : Nat) (m : Nat) (v : Val) (hw : (Lit.int .u32 (m : Int)).wf = true) (hs : (ByteArray.mk v.b.toArray).size ≤ maxLen) :
    Try.prog.keyLits (n + 2) 93 (stV m v).cells.toList = some [.int .u32 m, .bool v.has, .string (ByteArray.mk v.b.toArray).data.toList] := by
  obtain ⟨c0, c1, c2, c3⟩ := cellsS
  simp [stV, Value.cells, Program.keyLits, Try.underlying93, Try.underlying73, Try.underlying4, Try.underlying9, c0, c1, c2, c3, hw, hs]
theorem keyS (m : Nat) (v : Val) (hm : m < 4294967296) (hv : v.b.length ≤ 9223372036854775807) : IsKey 93 (stV m v) := by
  have hw : (Lit.int .u32 (m : Int)).wf = true := by simp [Lit.wf, IntKind.min, IntKind.max, IntKind.signed, IntKind.bits]; omega
  have hs : (ByteArray.mk v.b.toArray).size ≤ maxLen := by unfold maxLen; simp [ByteArray.size]; omega
  have hf : Value.formed Try.prog 93 (stV m v) = true := by simp [stV, Value.formed, Try.underlying93, cellsS.1]
  obtain ⟨n, hn⟩ := sizeS
  unfold IsKey keyOf
  rw [Try.underlying93]
  simp only [keyTypeS, hf, hn, litsS n m v hw hs]
  exact ⟨_, rfl⟩
end LinD
end Go.Proofs.Ytgconogjnjhmgaa
