/- The law LinCalls: for every input the call returns true, and the input reads behind it as before. -/
import Derived.Test.YtgconogjnjhmgaaRows
import Derived.Test.YtgconogjnjhmgaaCallsW
import Derived.Test.YtgconogjnjhmgaaKindsR
import Derived.WalkKit
import Derived.ProofKit
import Derived.OpenShut
import Derived.ShutString
import Derived.ChangeOld
import Derived.Below
import Derived.SizedLaws
namespace Go.Proofs.Ytgconogjnjhmgaa.linCalls
open Go.ChangeShapes Go.WideShapes Go.ChangeAt Go.RowKit
open Go.ChangeMaps (open_string shut_string)
set_option linter.unusedVariables false
theorem own : ownKnob Try.prog.godebug = none := by kernel_rfl
theorem laidOut : laidOutB Try.prog = true := by kernel_rfl
set_option maxRecDepth 100000 in
theorem lifted (os : Os) (started : os.Started) (H : Type) (enc : TypeId × Value → H) :
    ReturnsInHanded {} Try.checked os 7 .any (Rows.linCallsSpec.pre6 enc Try.prog Try.f7 Rows.linCallsRow.domain false) (Rows.linCallsSpec.post enc Try.prog Try.f7 false true false false) := by
  refine returnsInHanded_of_change_sized (C := Try.checked) own started (by kernel_rfl) Try.func7
    (ChangeSpec.witness6 (enc := enc) (C := Try.checked) false ⟨#[], #[.slice none 0 0], []⟩ 8 (by kernel_rfl) (by kernel_rfl) (by kernel_rfl) (by kernel_rfl)) ?_
  intro W base args ds gs before hval0 hW hcnd hsz0 _
  have hsz : (DataW.weightsEach Try.prog (Try.f7.params.toList ++ Rows.linCallsSpec.plain.varTypes Try.prog) (ds ++ gs)).all (· ≤ reachBytes) = true := hsz0
  have hval : ∀ (j : Nat) t v, Try.f7.params[j]? = some t → args[j]? = some v → Value.okWide Try.prog W .any base t v := hval0
  have hW' := hW
  obtain ⟨p, q, hA0, hV, rfl, hfz, hnd⟩ := hW
  have hA : DataW.TrodAll enc Try.prog W 0 (fun _ => true) true Try.f7.params.toList args.toList ds p := hA0
  rw [Try.params7] at hA hval hsz
  obtain ⟨v0, vs0, d0, ds0, p0, q0, hargs, rfl, rfl, h0, r0⟩ := trodAll_cons hA
  obtain ⟨rfl, rfl, rfl⟩ := trodAll_nil r0
  obtain rfl : args = #[v0] := by cases args; simp_all
  obtain ⟨rfl, rfl⟩ := trodVars_none hV
  have k0 := h0
  have lt0 : ∀ x ∈ p0, x.block < W.heap.size := by obtain ⟨m, hm⟩ := k0; exact DataW.trod_lt m _ _ _ hm
  have hw0 : WOk 37 d0 := fun z hz => by have hz1 := List.all_eq_true.1 hsz z (DataW.weights_mem_each (j := 0) (t := 37) rfl rfl z hz); exact of_decide_eq_true hz1
  obtain ⟨a0, len0, cap0, rfl⟩ := okWide_slice Try.underlying37 (hval 0 37 v0 rfl rfl)
  obtain ⟨fuel0, hf0⟩ := h0
  obtain ⟨l0, hK0, hB0⟩ := (Reads.slice (B := 112) Try.underlying37 (by kernel_rfl) (by kernel_rfl) Note.reads).get hf0 hw0
  obtain ⟨A0, c0, he0, hl0, hC0⟩ := hK0
  simp [Value.cells] at he0
  obtain ⟨rfl, rfl, rfl⟩ := he0
  clear hA0 hval0 hsz0 hsz
  refine (CallsW.linCalls_calls a0 cap0 l0 W hC0 (CallsW.bd_len hB0) hl0 (CallsW.bd_n hB0)).mono fun e W' hh => ?_
  obtain ⟨he, bel⟩ := hh
  subst he
  exact ⟨_, rfl, _, _, _, [], _, [], hW', trodAll_mk1 (shut_bool Try.underlying4 _), (trodAll_cons_mk (Below.trod laidOut (by kernel_rfl) (of_decide_eq_true (by kernel_rfl)) k0 bel lt0) trodAll_mk0), rfl, bel.frame _, fun h => by cases h⟩
theorem over : Rows.linCallsRow.holds Try.pinned (OpenSpec.ofChange Rows.linCallsSpec) :=
  OpenClaim.holds_of_wide 7 Try.f7 rfl rfl rfl rfl rfl rfl rfl ⟨rfl, rfl, rfl, rfl, rfl⟩ rfl rfl rfl rfl rfl (by kernel_rfl) Try.func7 (by kernel_rfl)
    (of_decide_eq_true (by kernel_rfl)) (by unfold Func.isWrapper; first | (rw [if_pos (by decide +kernel)]; kernel_rfl) | (rw [if_neg (by decide +kernel)]; exact ⟨rfl, rfl⟩))
    (fun os started H enc _ => lifted os started H enc)
theorem proved : Rows.LinCallsSaid := over
#print axioms proved
end Go.Proofs.Ytgconogjnjhmgaa.linCalls
namespace Go.Proofs.Ytgconogjnjhmgaa
/-- The row, under a short name, for the claim. -/
theorem linCalls_holds : Rows.LinCallsSaid := linCalls.proved
end Go.Proofs.Ytgconogjnjhmgaa
