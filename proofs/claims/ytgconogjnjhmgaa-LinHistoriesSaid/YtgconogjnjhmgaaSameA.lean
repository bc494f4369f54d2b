/- Layer lin: Same, and the document's SameNotes. -/
import Derived.Test.YtgconogjnjhmgaaLinK
namespace Go.Proofs.Ytgconogjnjhmgaa
open Go.RowKit Go.Proofs.YtgconogjnjhmgaaW.PrintWords
namespace SameA
open LinA LinB
def noteSame (x y : Note) : Bool :=
  (x.isAnswer == y.isAnswer) && ((x.call.id_ == y.call.id_) && ((x.call.kind == y.call.kind) && ((x.call.key.toList == y.call.key.toList) && ((x.call.b == y.call.b) && ((x.answer.id_ == y.answer.id_) && ((x.answer.e == y.answer.e) && same x.answer.val y.answer.val))))))
set_option maxRecDepth 100000 in
set_option maxHeartbeats 1000000 in
theorem same1_calls (x y : Note) (cs ds : List Value) (w : World) (hx : Note.k.K w x cs) (hy : Note.k.K w y ds) :
    Calls Try.prog 37 #[.agg cs.toArray, .agg ds.toArray] w fun e w' => e = .returned (.bool (noteSame x y)) ∧ Below w.heap.size w w' := by
  obtain ⟨A4, c4, A8, c8, rfl, _, _, _, l4, g4, _, _, l8, g8⟩ := Note.open_ hx
  obtain ⟨B4, d4, B8, d8, rfl, _, _, _, m4, h4, _, _, m8, h8⟩ := Note.open_ hy
  have HV := Aside0.mk (Val.mk_ w x.answer.val l8 g8)
  have HU := Aside0.mk (Val.mk_ w y.answer.val m8 h8)
  have e1 := fun O1 O2 O3 O4 => conv_bytes (src := 26) (dst := 9) (c := c4) Try.underlying26 Try.underlying5 Try.underlying9 (Kd.C_below g4 (below_drew (below_alloc (below_alloc (below_alloc (below_alloc (Below.refl _ w) O1) O2) O3) O4)))
  have e2 := fun O1 O2 O3 O4 => conv_bytes (src := 26) (dst := 9) (c := d4) Try.underlying26 Try.underlying5 Try.underlying9 (Kd.C_below h4 (below_drew (below_alloc (below_alloc (below_alloc (below_alloc (Below.refl _ w) O1) O2) O3) O4)))
  clear hx hy l4 g4 l8 g8 m4 h4 m8 h8
  go_enter Try.func37, Try.ntmps37
  go_wp2_with fail
  go_region
  all_goals go_wp2_with (first | ((with_reducible refine (sameVal_calls _ _ _ _ _ (Val.k.K_below (by repeat (first | exact Below.refl _ _ | refine below_drew ?_ | refine below_alloc ?_ _)) HV.out) (Val.k.K_below (by repeat (first | exact Below.refl _ _ | refine below_drew ?_ | refine below_alloc ?_ _)) HU.out)).mono ?_); rintro e w1 ⟨rfl, hb⟩))
  all_goals
    go_ret
    refine ⟨?_, by repeat (first | exact Below.refl _ _ | exact below_step (by repeat (first | exact Below.refl _ _ | refine below_drew ?_ | refine below_alloc ?_ _)) hb | refine below_drew ?_ | refine below_alloc ?_ _)⟩
    simp_all [noteSame]
end SameA
end Go.Proofs.Ytgconogjnjhmgaa
