/-
  No cell of these rows narrows 'for every input' (looked for: loops, veiled, ifaces, maps, wideKeys, modest, calm, conditions, laid).
  DERIVED. THE GIVEN ROWS OF THIS SEAT. 7 by the template 'for every input the law returns true; each argument reads behind the call as it read before'; 0 by the template 'total and deterministic' (their statements: YtgfjkpnaabiecaaTotals.lean).
  GIVEN WITH THE SEED: the statements are not yours to turn. If you find one false, say at which input.
  Laid BY PROGRAM, IN A SANDBOX (cutbox-rows.mjs): the forced cells as the released guide's own fill.sh prints them over the translation 28a6734977521a02… (all of the seat's roots in one cut). By AI agents, Wed Nov 11 2026. No macro, syntax, notation, axiom, sorry.
-/
import Derived.Test.YtgfjkpnaabiecaaChecked
import GoSem.Claim
import GoSem.ClaimJoined
import GoSem.ClaimMapViews
import Derived.JoinedTies
import Derived.KernelRfl
namespace Go.Proofs.Ytgfjkpnaabiecaa
/- THE CELL 'sum', in the pinned program and in every row, IS THE sha256 OF THE DUMP (.gsa) THAT YtgfjkpnaabiecaaProg.lean LOADS. Nothing in Lean hashes anything: it is a label: what it is worth is what the hold of that sum in a sandbox is worth. -/
noncomputable def Try.pinned : Pinned := { name := "ytgfjkpnaabiecaa", sum := "28a6734977521a0223f32d482999be5247d0ac995af5c8da9077694fa2f9582c", checked := Try.checked }
namespace Rows
def none {H : Type} : Left H := { results := [], args := [] }

/-- 'icehouselaw11.CellsWhole': WHATEVER THE INPUT: true; the input reads as it did. -/
def cellsWholeSpec : ChangeSpec := { name := "cellsWhole", fn := fun _ => fun
  | [d1, d2, d3] => { results := [.lit (.bool true)], args := [d1, d2, d3] }
  | _ => none }
def cellsWholeRow : OpenClaim := { program := "ytgfjkpnaabiecaa", sum := "28a6734977521a0223f32d482999be5247d0ac995af5c8da9077694fa2f9582c", func := "icehouse/icehouselaw11.CellsWhole", spec := "cellsWhole", unfollowed := true, recurses := true, apart := false }
def CellsWholeSaid : Prop := cellsWholeRow.holds Try.pinned (OpenSpec.ofChange cellsWholeSpec)

/-- ITS FALSE NEIGHBOUR: 'it returns false'. Refute it at one input. -/
def cellsWholeWrong : ChangeSpec := { name := "cellsWhole", fn := fun _ => fun
  | [d1, d2, d3] => { results := [.lit (.bool false)], args := [d1, d2, d3] }
  | _ => none }
def CellsWholeWrongFalsely : Prop := cellsWholeRow.holds Try.pinned (OpenSpec.ofChange cellsWholeWrong)

/-- 'icehouselaw11.CellsFills': WHATEVER THE INPUT: true; the input reads as it did. -/
def cellsFillsSpec : ChangeSpec := { name := "cellsFills", fn := fun _ => fun
  | [d1, d2, d3, d4] => { results := [.lit (.bool true)], args := [d1, d2, d3, d4] }
  | _ => none }
def cellsFillsRow : OpenClaim := { program := "ytgfjkpnaabiecaa", sum := "28a6734977521a0223f32d482999be5247d0ac995af5c8da9077694fa2f9582c", func := "icehouse/icehouselaw11.CellsFills", spec := "cellsFills", unfollowed := true, recurses := true, apart := false }
def CellsFillsSaid : Prop := cellsFillsRow.holds Try.pinned (OpenSpec.ofChange cellsFillsSpec)

/-- ITS FALSE NEIGHBOUR: 'it returns false'. Refute it at one input. -/
def cellsFillsWrong : ChangeSpec := { name := "cellsFills", fn := fun _ => fun
  | [d1, d2, d3, d4] => { results := [.lit (.bool false)], args := [d1, d2, d3, d4] }
  | _ => none }
def CellsFillsWrongFalsely : Prop := cellsFillsRow.holds Try.pinned (OpenSpec.ofChange cellsFillsWrong)

/-- 'icehouselaw11.CellsQueries': WHATEVER THE INPUT: true; the input reads as it did. -/
def cellsQueriesSpec : ChangeSpec := { name := "cellsQueries", fn := fun _ => fun
  | [d1, d2, d3] => { results := [.lit (.bool true)], args := [d1, d2, d3] }
  | _ => none }
def cellsQueriesRow : OpenClaim := { program := "ytgfjkpnaabiecaa", sum := "28a6734977521a0223f32d482999be5247d0ac995af5c8da9077694fa2f9582c", func := "icehouse/icehouselaw11.CellsQueries", spec := "cellsQueries", unfollowed := true, recurses := true, apart := false }
def CellsQueriesSaid : Prop := cellsQueriesRow.holds Try.pinned (OpenSpec.ofChange cellsQueriesSpec)

/-- ITS FALSE NEIGHBOUR: 'it returns false'. Refute it at one input. -/
def cellsQueriesWrong : ChangeSpec := { name := "cellsQueries", fn := fun _ => fun
  | [d1, d2, d3] => { results := [.lit (.bool false)], args := [d1, d2, d3] }
  | _ => none }
def CellsQueriesWrongFalsely : Prop := cellsQueriesRow.holds Try.pinned (OpenSpec.ofChange cellsQueriesWrong)

/-- 'icehouselaw11.CellsForgets': WHATEVER THE INPUT: true; the input reads as it did. -/
def cellsForgetsSpec : ChangeSpec := { name := "cellsForgets", fn := fun _ => fun
  | [d1, d2, d3] => { results := [.lit (.bool true)], args := [d1, d2, d3] }
  | _ => none }
def cellsForgetsRow : OpenClaim := { program := "ytgfjkpnaabiecaa", sum := "28a6734977521a0223f32d482999be5247d0ac995af5c8da9077694fa2f9582c", func := "icehouse/icehouselaw11.CellsForgets", spec := "cellsForgets", unfollowed := true, recurses := true, apart := false }
def CellsForgetsSaid : Prop := cellsForgetsRow.holds Try.pinned (OpenSpec.ofChange cellsForgetsSpec)

/-- ITS FALSE NEIGHBOUR: 'it returns false'. Refute it at one input. -/
def cellsForgetsWrong : ChangeSpec := { name := "cellsForgets", fn := fun _ => fun
  | [d1, d2, d3] => { results := [.lit (.bool false)], args := [d1, d2, d3] }
  | _ => none }
def CellsForgetsWrongFalsely : Prop := cellsForgetsRow.holds Try.pinned (OpenSpec.ofChange cellsForgetsWrong)

/-- 'icehouselaw11.CellsRoom': WHATEVER THE INPUT: true; the input reads as it did. -/
def cellsRoomSpec : ChangeSpec := { name := "cellsRoom", fn := fun _ => fun
  | [d1, d2] => { results := [.lit (.bool true)], args := [d1, d2] }
  | _ => none }
def cellsRoomRow : OpenClaim := { program := "ytgfjkpnaabiecaa", sum := "28a6734977521a0223f32d482999be5247d0ac995af5c8da9077694fa2f9582c", func := "icehouse/icehouselaw11.CellsRoom", spec := "cellsRoom", unfollowed := true, recurses := true, apart := false }
def CellsRoomSaid : Prop := cellsRoomRow.holds Try.pinned (OpenSpec.ofChange cellsRoomSpec)

/-- ITS FALSE NEIGHBOUR: 'it returns false'. Refute it at one input. -/
def cellsRoomWrong : ChangeSpec := { name := "cellsRoom", fn := fun _ => fun
  | [d1, d2] => { results := [.lit (.bool false)], args := [d1, d2] }
  | _ => none }
def CellsRoomWrongFalsely : Prop := cellsRoomRow.holds Try.pinned (OpenSpec.ofChange cellsRoomWrong)

/-- 'icehouselaw11.CellsSteps': WHATEVER THE INPUT: true; the input reads as it did. -/
def cellsStepsSpec : ChangeSpec := { name := "cellsSteps", fn := fun _ => fun
  | [d1, d2] => { results := [.lit (.bool true)], args := [d1, d2] }
  | _ => none }
def cellsStepsRow : OpenClaim := { program := "ytgfjkpnaabiecaa", sum := "28a6734977521a0223f32d482999be5247d0ac995af5c8da9077694fa2f9582c", func := "icehouse/icehouselaw11.CellsSteps", spec := "cellsSteps", unfollowed := true, recurses := true, apart := false }
def CellsStepsSaid : Prop := cellsStepsRow.holds Try.pinned (OpenSpec.ofChange cellsStepsSpec)

/-- ITS FALSE NEIGHBOUR: 'it returns false'. Refute it at one input. -/
def cellsStepsWrong : ChangeSpec := { name := "cellsSteps", fn := fun _ => fun
  | [d1, d2] => { results := [.lit (.bool false)], args := [d1, d2] }
  | _ => none }
def CellsStepsWrongFalsely : Prop := cellsStepsRow.holds Try.pinned (OpenSpec.ofChange cellsStepsWrong)

/-- 'icehouselaw11.CellsCopies': WHATEVER THE INPUT: true; the input reads as it did. -/
def cellsCopiesSpec : ChangeSpec := { name := "cellsCopies", fn := fun _ => fun
  | [d1, d2, d3] => { results := [.lit (.bool true)], args := [d1, d2, d3] }
  | _ => none }
def cellsCopiesRow : OpenClaim := { program := "ytgfjkpnaabiecaa", sum := "28a6734977521a0223f32d482999be5247d0ac995af5c8da9077694fa2f9582c", func := "icehouse/icehouselaw11.CellsCopies", spec := "cellsCopies", inPlace := ["maps.clone"], unfollowed := true, recurses := true, apart := false }
def CellsCopiesSaid : Prop := cellsCopiesRow.holds Try.pinned (OpenSpec.ofChange cellsCopiesSpec)

/-- ITS FALSE NEIGHBOUR: 'it returns false'. Refute it at one input. -/
def cellsCopiesWrong : ChangeSpec := { name := "cellsCopies", fn := fun _ => fun
  | [d1, d2, d3] => { results := [.lit (.bool false)], args := [d1, d2, d3] }
  | _ => none }
def CellsCopiesWrongFalsely : Prop := cellsCopiesRow.holds Try.pinned (OpenSpec.ofChange cellsCopiesWrong)

/- THE SECOND FORM. 'bulk': how many values and letters a reading holds, each counted each time it is reached (what is shared counts as often as it is met; a slice's spare places count too). A statement '..UptoSaid' is the law's where the arguments, and the package variables that the reading takes, are together of bulk at most 1048576: NARROWER than '..Said'. Prove '..Said' where nothing that the law and all that it calls make is longer than what came in: it says more and counts as full. Else prove '..UptoSaid'. A law counts once. -/
mutual
def uptoBulk {H : Type} : DataW H → Nat
  | .lit (.string bytes) => bytes.length + 1
  | .lit _ => 1
  | .nil => 1
  | .ptr d => uptoBulk d + 1
  | .slice elems spare => uptoBulkAll elems + uptoBulkAll spare + 1
  | .agg parts => uptoBulkAll parts + 1
  | .iface _ d => uptoBulk d + 1
  | .map entries => uptoBulkEntries entries + 1
  | .held _ => 1
def uptoBulkAll {H : Type} : List (DataW H) → Nat
  | [] => 0
  | d :: r => uptoBulk d + uptoBulkAll r
def uptoBulkEntries {H : Type} : List (Lit × DataW H) → Nat
  | [] => 0
  | x :: r => uptoBulkEntry x + uptoBulkEntries r
def uptoBulkEntry {H : Type} : Lit × DataW H → Nat
  | (.string bytes, d) => bytes.length + uptoBulk d + 1
  | (_, d) => uptoBulk d + 1
 end
def uptoSmall : (H : Type) → List (DataW H) → Bool := fun _ ds => decide (uptoBulkAll ds ≤ 1048576)
def OpenSpec.upto (s : _root_.Go.ChangeSpec) : _root_.Go.OpenSpec := { _root_.Go.OpenSpec.ofChange s with cond := some uptoSmall }

/-- 'icehouselaw11.CellsWhole', WHERE WHAT IT READS IS OF BULK AT MOST 1048576: true; the input reads as it did. -/
def cellsWholeUptoRow : OpenClaim := { program := "ytgfjkpnaabiecaa", sum := "28a6734977521a0223f32d482999be5247d0ac995af5c8da9077694fa2f9582c", func := "icehouse/icehouselaw11.CellsWhole", spec := "cellsWhole", unfollowed := true, recurses := true, apart := false, narrowed := true }
def CellsWholeUptoSaid : Prop := cellsWholeUptoRow.holds Try.pinned (OpenSpec.upto cellsWholeSpec)

/-- 'icehouselaw11.CellsFills', WHERE WHAT IT READS IS OF BULK AT MOST 1048576: true; the input reads as it did. -/
def cellsFillsUptoRow : OpenClaim := { program := "ytgfjkpnaabiecaa", sum := "28a6734977521a0223f32d482999be5247d0ac995af5c8da9077694fa2f9582c", func := "icehouse/icehouselaw11.CellsFills", spec := "cellsFills", unfollowed := true, recurses := true, apart := false, narrowed := true }
def CellsFillsUptoSaid : Prop := cellsFillsUptoRow.holds Try.pinned (OpenSpec.upto cellsFillsSpec)

/-- 'icehouselaw11.CellsQueries', WHERE WHAT IT READS IS OF BULK AT MOST 1048576: true; the input reads as it did. -/
def cellsQueriesUptoRow : OpenClaim := { program := "ytgfjkpnaabiecaa", sum := "28a6734977521a0223f32d482999be5247d0ac995af5c8da9077694fa2f9582c", func := "icehouse/icehouselaw11.CellsQueries", spec := "cellsQueries", unfollowed := true, recurses := true, apart := false, narrowed := true }
def CellsQueriesUptoSaid : Prop := cellsQueriesUptoRow.holds Try.pinned (OpenSpec.upto cellsQueriesSpec)

/-- 'icehouselaw11.CellsForgets', WHERE WHAT IT READS IS OF BULK AT MOST 1048576: true; the input reads as it did. -/
def cellsForgetsUptoRow : OpenClaim := { program := "ytgfjkpnaabiecaa", sum := "28a6734977521a0223f32d482999be5247d0ac995af5c8da9077694fa2f9582c", func := "icehouse/icehouselaw11.CellsForgets", spec := "cellsForgets", unfollowed := true, recurses := true, apart := false, narrowed := true }
def CellsForgetsUptoSaid : Prop := cellsForgetsUptoRow.holds Try.pinned (OpenSpec.upto cellsForgetsSpec)

/-- 'icehouselaw11.CellsRoom', WHERE WHAT IT READS IS OF BULK AT MOST 1048576: true; the input reads as it did. -/
def cellsRoomUptoRow : OpenClaim := { program := "ytgfjkpnaabiecaa", sum := "28a6734977521a0223f32d482999be5247d0ac995af5c8da9077694fa2f9582c", func := "icehouse/icehouselaw11.CellsRoom", spec := "cellsRoom", unfollowed := true, recurses := true, apart := false, narrowed := true }
def CellsRoomUptoSaid : Prop := cellsRoomUptoRow.holds Try.pinned (OpenSpec.upto cellsRoomSpec)

/-- 'icehouselaw11.CellsSteps', WHERE WHAT IT READS IS OF BULK AT MOST 1048576: true; the input reads as it did. -/
def cellsStepsUptoRow : OpenClaim := { program := "ytgfjkpnaabiecaa", sum := "28a6734977521a0223f32d482999be5247d0ac995af5c8da9077694fa2f9582c", func := "icehouse/icehouselaw11.CellsSteps", spec := "cellsSteps", unfollowed := true, recurses := true, apart := false, narrowed := true }
def CellsStepsUptoSaid : Prop := cellsStepsUptoRow.holds Try.pinned (OpenSpec.upto cellsStepsSpec)

/-- 'icehouselaw11.CellsCopies', WHERE WHAT IT READS IS OF BULK AT MOST 1048576: true; the input reads as it did. -/
def cellsCopiesUptoRow : OpenClaim := { program := "ytgfjkpnaabiecaa", sum := "28a6734977521a0223f32d482999be5247d0ac995af5c8da9077694fa2f9582c", func := "icehouse/icehouselaw11.CellsCopies", spec := "cellsCopies", inPlace := ["maps.clone"], unfollowed := true, recurses := true, apart := false, narrowed := true }
def CellsCopiesUptoSaid : Prop := cellsCopiesUptoRow.holds Try.pinned (OpenSpec.upto cellsCopiesSpec)

end Rows
end Go.Proofs.Ytgfjkpnaabiecaa
