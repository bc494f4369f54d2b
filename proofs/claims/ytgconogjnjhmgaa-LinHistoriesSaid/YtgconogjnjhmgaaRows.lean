/-
  No cell of these rows narrows 'for every input' (looked for: loops, veiled, ifaces, maps, wideKeys, modest, calm, conditions, laid).
  DERIVED. THE GIVEN ROWS OF THIS SEAT. 6 by the template 'for every input the law returns true; each argument reads behind the call as it read before'; 0 by the template 'total and deterministic' (their statements: YtgconogjnjhmgaaTotals.lean).
  GIVEN WITH THE SEED: the statements are not yours to turn. If you find one false, say at which input.
  Laid BY PROGRAM, IN A SANDBOX (cutbox-rows.mjs): the forced cells as the released guide's own fill.sh prints them over the translation b66506990231de70… (all of the seat's roots in one cut). By AI agents, Wed Nov 11 2026. No macro, syntax, notation, axiom, sorry.
-/
import Derived.Test.YtgconogjnjhmgaaChecked
import GoSem.Claim
import GoSem.ClaimJoined
import GoSem.ClaimMapViews
import Derived.JoinedTies
import Derived.KernelRfl
namespace Go.Proofs.Ytgconogjnjhmgaa
/- THE CELL 'sum', in the pinned program and in every row, IS THE sha256 OF THE DUMP (.gsa) THAT YtgconogjnjhmgaaProg.lean LOADS. Nothing in Lean hashes anything: it is a label: what it is worth is what the hold of that sum in a sandbox is worth. -/
noncomputable def Try.pinned : Pinned := { name := "ytgconogjnjhmgaa", sum := "b66506990231de703ae30757854affb155e7d96822679ccb9a2c8319be7a0ead", checked := Try.checked }
namespace Rows
def none {H : Type} : Left H := { results := [], args := [] }

/-- 'icehouselaw18.LinTells': WHATEVER THE INPUT: true; the input reads as it did. -/
def linTellsSpec : ChangeSpec := { name := "linTells", fn := fun _ => fun
  | [d1, d2] => { results := [.lit (.bool true)], args := [d1, d2] }
  | _ => none }
def linTellsRow : OpenClaim := { program := "ytgconogjnjhmgaa", sum := "b66506990231de703ae30757854affb155e7d96822679ccb9a2c8319be7a0ead", func := "icehouse/icehouselaw18.LinTells", spec := "linTells", unfollowed := true, recurses := true, plainKeys := false, apart := false }
def LinTellsSaid : Prop := linTellsRow.holds Try.pinned (OpenSpec.ofChange linTellsSpec)

/-- ITS FALSE NEIGHBOUR: 'it returns false'. Refute it at one input. -/
def linTellsWrong : ChangeSpec := { name := "linTells", fn := fun _ => fun
  | [d1, d2] => { results := [.lit (.bool false)], args := [d1, d2] }
  | _ => none }
def LinTellsWrongFalsely : Prop := linTellsRow.holds Try.pinned (OpenSpec.ofChange linTellsWrong)

/-- 'icehouselaw18.LinWidens': WHATEVER THE INPUT: true; the input reads as it did. -/
def linWidensSpec : ChangeSpec := { name := "linWidens", fn := fun _ => fun
  | [d1, d2, d3, d4] => { results := [.lit (.bool true)], args := [d1, d2, d3, d4] }
  | _ => none }
def linWidensRow : OpenClaim := { program := "ytgconogjnjhmgaa", sum := "b66506990231de703ae30757854affb155e7d96822679ccb9a2c8319be7a0ead", func := "icehouse/icehouselaw18.LinWidens", spec := "linWidens", unfollowed := true, recurses := true, plainKeys := false, apart := false }
def LinWidensSaid : Prop := linWidensRow.holds Try.pinned (OpenSpec.ofChange linWidensSpec)

/-- ITS FALSE NEIGHBOUR: 'it returns false'. Refute it at one input. -/
def linWidensWrong : ChangeSpec := { name := "linWidens", fn := fun _ => fun
  | [d1, d2, d3, d4] => { results := [.lit (.bool false)], args := [d1, d2, d3, d4] }
  | _ => none }
def LinWidensWrongFalsely : Prop := linWidensRow.holds Try.pinned (OpenSpec.ofChange linWidensWrong)

/-- 'icehouselaw18.LinSame': WHATEVER THE INPUT: true; the input reads as it did. -/
def linSameSpec : ChangeSpec := { name := "linSame", fn := fun _ => fun
  | [d1, d2] => { results := [.lit (.bool true)], args := [d1, d2] }
  | _ => none }
def linSameRow : OpenClaim := { program := "ytgconogjnjhmgaa", sum := "b66506990231de703ae30757854affb155e7d96822679ccb9a2c8319be7a0ead", func := "icehouse/icehouselaw18.LinSame", spec := "linSame", unfollowed := true, recurses := true, plainKeys := false, apart := false }
def LinSameSaid : Prop := linSameRow.holds Try.pinned (OpenSpec.ofChange linSameSpec)

/-- ITS FALSE NEIGHBOUR: 'it returns false'. Refute it at one input. -/
def linSameWrong : ChangeSpec := { name := "linSame", fn := fun _ => fun
  | [d1, d2] => { results := [.lit (.bool false)], args := [d1, d2] }
  | _ => none }
def LinSameWrongFalsely : Prop := linSameRow.holds Try.pinned (OpenSpec.ofChange linSameWrong)

/-- 'icehouselaw18.LinHistories': WHATEVER THE INPUT: true; the input reads as it did. -/
def linHistoriesSpec : ChangeSpec := { name := "linHistories", fn := fun _ => fun
  | [d1, d2] => { results := [.lit (.bool true)], args := [d1, d2] }
  | _ => none }
def linHistoriesRow : OpenClaim := { program := "ytgconogjnjhmgaa", sum := "b66506990231de703ae30757854affb155e7d96822679ccb9a2c8319be7a0ead", func := "icehouse/icehouselaw18.LinHistories", spec := "linHistories", unfollowed := true, recurses := true, plainKeys := false, apart := false }
def LinHistoriesSaid : Prop := linHistoriesRow.holds Try.pinned (OpenSpec.ofChange linHistoriesSpec)

/-- ITS FALSE NEIGHBOUR: 'it returns false'. Refute it at one input. -/
def linHistoriesWrong : ChangeSpec := { name := "linHistories", fn := fun _ => fun
  | [d1, d2] => { results := [.lit (.bool false)], args := [d1, d2] }
  | _ => none }
def LinHistoriesWrongFalsely : Prop := linHistoriesRow.holds Try.pinned (OpenSpec.ofChange linHistoriesWrong)

/-- 'icehouselaw18.LinCalls': WHATEVER THE INPUT: true; the input reads as it did. -/
def linCallsSpec : ChangeSpec := { name := "linCalls", fn := fun _ => fun
  | [d] => { results := [.lit (.bool true)], args := [d] }
  | _ => none }
def linCallsRow : OpenClaim := { program := "ytgconogjnjhmgaa", sum := "b66506990231de703ae30757854affb155e7d96822679ccb9a2c8319be7a0ead", func := "icehouse/icehouselaw18.LinCalls", spec := "linCalls", unfollowed := true, recurses := true, plainKeys := false, apart := false }
def LinCallsSaid : Prop := linCallsRow.holds Try.pinned (OpenSpec.ofChange linCallsSpec)

/-- ITS FALSE NEIGHBOUR: 'it returns false'. Refute it at one input. -/
def linCallsWrong : ChangeSpec := { name := "linCalls", fn := fun _ => fun
  | [d] => { results := [.lit (.bool false)], args := [d] }
  | _ => none }
def LinCallsWrongFalsely : Prop := linCallsRow.holds Try.pinned (OpenSpec.ofChange linCallsWrong)

/-- 'icehouselaw18.LinRuns': WHATEVER THE INPUT: true; the input reads as it did. -/
def linRunsSpec : ChangeSpec := { name := "linRuns", fn := fun _ => fun
  | [d1, d2, d3] => { results := [.lit (.bool true)], args := [d1, d2, d3] }
  | _ => none }
def linRunsRow : OpenClaim := { program := "ytgconogjnjhmgaa", sum := "b66506990231de703ae30757854affb155e7d96822679ccb9a2c8319be7a0ead", func := "icehouse/icehouselaw18.LinRuns", spec := "linRuns", unfollowed := true, recurses := true, plainKeys := false, apart := false }
def LinRunsSaid : Prop := linRunsRow.holds Try.pinned (OpenSpec.ofChange linRunsSpec)

/-- ITS FALSE NEIGHBOUR: 'it returns false'. Refute it at one input. -/
def linRunsWrong : ChangeSpec := { name := "linRuns", fn := fun _ => fun
  | [d1, d2, d3] => { results := [.lit (.bool false)], args := [d1, d2, d3] }
  | _ => none }
def LinRunsWrongFalsely : Prop := linRunsRow.holds Try.pinned (OpenSpec.ofChange linRunsWrong)

/- THE SECOND FORM. 'bulk': how many values and letters a reading holds, each counted each time it is reached (what is shared counts as often as it is met; a slice's spare places count too). A statement '..UptoSaid' is the law's where the arguments, and the package variables that the reading takes, are together of bulk at most 1048576: NARROWER than '..Said'. Prove '..Said' where nothing that the law and all that it calls make is longer than what came in: it says more and counts as full. Else prove '..UptoSaid'. A law counts once. -/
mutual
def uptoBulk {H : Type} : DataW H → Nat
  | .lit (.string bytes) => bytes.length + 1
  | .lit _ => 1
  | .nil => 1
  | .ptr d => uptoBulk d + 1
  | .slice elems spare => uptoBulkAll elems + uptoBulkAll spare + 1
  | .agg parts => uptoBulkAll parts + 1
  | .iface _ d => uptoBulk d + 1
  | .map entries => uptoBulkEntries entries + 1
  | .held _ => 1
def uptoBulkAll {H : Type} : List (DataW H) → Nat
  | [] => 0
  | d :: r => uptoBulk d + uptoBulkAll r
def uptoBulkEntries {H : Type} : List (Lit × DataW H) → Nat
  | [] => 0
  | x :: r => uptoBulkEntry x + uptoBulkEntries r
def uptoBulkEntry {H : Type} : Lit × DataW H → Nat
  | (.string bytes, d) => bytes.length + uptoBulk d + 1
  | (_, d) => uptoBulk d + 1
 end
def uptoSmall : (H : Type) → List (DataW H) → Bool := fun _ ds => decide (uptoBulkAll ds ≤ 1048576)
def OpenSpec.upto (s : _root_.Go.ChangeSpec) : _root_.Go.OpenSpec := { _root_.Go.OpenSpec.ofChange s with cond := some uptoSmall }

/-- 'icehouselaw18.LinTells', WHERE WHAT IT READS IS OF BULK AT MOST 1048576: true; the input reads as it did. -/
def linTellsUptoRow : OpenClaim := { program := "ytgconogjnjhmgaa", sum := "b66506990231de703ae30757854affb155e7d96822679ccb9a2c8319be7a0ead", func := "icehouse/icehouselaw18.LinTells", spec := "linTells", unfollowed := true, recurses := true, plainKeys := false, apart := false, narrowed := true }
def LinTellsUptoSaid : Prop := linTellsUptoRow.holds Try.pinned (OpenSpec.upto linTellsSpec)

/-- 'icehouselaw18.LinWidens', WHERE WHAT IT READS IS OF BULK AT MOST 1048576: true; the input reads as it did. -/
def linWidensUptoRow : OpenClaim := { program := "ytgconogjnjhmgaa", sum := "b66506990231de703ae30757854affb155e7d96822679ccb9a2c8319be7a0ead", func := "icehouse/icehouselaw18.LinWidens", spec := "linWidens", unfollowed := true, recurses := true, plainKeys := false, apart := false, narrowed := true }
def LinWidensUptoSaid : Prop := linWidensUptoRow.holds Try.pinned (OpenSpec.upto linWidensSpec)

/-- 'icehouselaw18.LinSame', WHERE WHAT IT READS IS OF BULK AT MOST 1048576: true; the input reads as it did. -/
def linSameUptoRow : OpenClaim := { program := "ytgconogjnjhmgaa", sum := "b66506990231de703ae30757854affb155e7d96822679ccb9a2c8319be7a0ead", func := "icehouse/icehouselaw18.LinSame", spec := "linSame", unfollowed := true, recurses := true, plainKeys := false, apart := false, narrowed := true }
def LinSameUptoSaid : Prop := linSameUptoRow.holds Try.pinned (OpenSpec.upto linSameSpec)

/-- 'icehouselaw18.LinHistories', WHERE WHAT IT READS IS OF BULK AT MOST 1048576: true; the input reads as it did. -/
def linHistoriesUptoRow : OpenClaim := { program := "ytgconogjnjhmgaa", sum := "b66506990231de703ae30757854affb155e7d96822679ccb9a2c8319be7a0ead", func := "icehouse/icehouselaw18.LinHistories", spec := "linHistories", unfollowed := true, recurses := true, plainKeys := false, apart := false, narrowed := true }
def LinHistoriesUptoSaid : Prop := linHistoriesUptoRow.holds Try.pinned (OpenSpec.upto linHistoriesSpec)

/-- 'icehouselaw18.LinCalls', WHERE WHAT IT READS IS OF BULK AT MOST 1048576: true; the input reads as it did. -/
def linCallsUptoRow : OpenClaim := { program := "ytgconogjnjhmgaa", sum := "b66506990231de703ae30757854affb155e7d96822679ccb9a2c8319be7a0ead", func := "icehouse/icehouselaw18.LinCalls", spec := "linCalls", unfollowed := true, recurses := true, plainKeys := false, apart := false, narrowed := true }
def LinCallsUptoSaid : Prop := linCallsUptoRow.holds Try.pinned (OpenSpec.upto linCallsSpec)

/-- 'icehouselaw18.LinRuns', WHERE WHAT IT READS IS OF BULK AT MOST 1048576: true; the input reads as it did. -/
def linRunsUptoRow : OpenClaim := { program := "ytgconogjnjhmgaa", sum := "b66506990231de703ae30757854affb155e7d96822679ccb9a2c8319be7a0ead", func := "icehouse/icehouselaw18.LinRuns", spec := "linRuns", unfollowed := true, recurses := true, plainKeys := false, apart := false, narrowed := true }
def LinRunsUptoSaid : Prop := linRunsUptoRow.holds Try.pinned (OpenSpec.upto linRunsSpec)

end Rows
end Go.Proofs.Ytgconogjnjhmgaa
