/- Layer tags' SameVal and lin's 'after'. -/
import Derived.Test.YtgconogjnjhmgaaLinA
namespace Go.Proofs.Ytgconogjnjhmgaa
open Go.RowKit Go.Proofs.YtgconogjnjhmgaaW.PrintWords
namespace LinB
def same (a b : Val) : Bool := if a.has then (if b.has then decide (a.b = b.b) else false) else !b.has
set_option maxHeartbeats 400000 in
theorem sameVal_calls (x y : Val) (cs ds : List Value) (w : World) (hx : Val.k.K w x cs) (hy : Val.k.K w y ds) :
    Calls Try.prog 38 #[.agg cs.toArray, .agg ds.toArray] w fun e w' => e = .returned (.bool (same x y)) ∧ Below w.heap.size w w' := by
  obtain ⟨A1, c1, rfl, l1, g1⟩ := Val.open_ hx
  obtain ⟨A2, c2, rfl, l2, g2⟩ := Val.open_ hy
  clear l1 l2 hx hy
  have hb : Below w.heap.size w ((w.alloc (.cells #[.bool x.has, .slice A1 x.b.length c1] 28)).alloc (.cells #[.bool y.has, .slice A2 y.b.length c2] 28)) := below_alloc (below_alloc (Below.refl _ _) _) _
  have e1 := conv_bytes (src := 26) (dst := 9) (c := c1) Try.underlying26 Try.underlying5 Try.underlying9 (Kd.C_below g1 hb)
  have e2 := conv_bytes (src := 26) (dst := 9) (c := c2) Try.underlying26 Try.underlying5 Try.underlying9 (Kd.C_below g2 hb)
  have HB := Aside0.mk hb
  clear hb g1 g2
  obtain ⟨xh, xb⟩ := x
  obtain ⟨yh, yb⟩ := y
  unfold same
  cases xh <;> cases yh
  all_goals
    go_enter Try.func38, Try.ntmps38
    go_wp2_with fail
    go_ret
  · exact ⟨rfl, HB.out⟩
  · exact ⟨rfl, HB.out⟩
  · exact ⟨rfl, HB.out⟩
  · exact ⟨by simp; rw [Bool.eq_iff_iff]; simp, HB.out⟩
/-- What a key holds behind a deed. -/
def nxt (d : Deed) (v : Val) : Val × Bool :=
  if d.kind = 1 then (v, same d.val v) else if d.kind = 2 then (⟨true, d.b⟩, true) else if d.kind = 3 then (⟨false, []⟩, true) else (v, false)
theorem nxt1 {d : Deed} {v : Val} (h : d.kind = 1) : nxt d v = (v, same d.val v) := by unfold nxt; rw [if_pos h]
theorem nxt2 {d : Deed} {v : Val} (h : d.kind = 2) : nxt d v = (⟨true, d.b⟩, true) := by unfold nxt; rw [if_neg (by omega), if_pos h]
theorem nxt3 {d : Deed} {v : Val} (h : d.kind = 3) : nxt d v = (⟨false, []⟩, true) := by unfold nxt; rw [if_neg (by omega), if_neg (by omega), if_pos h]
theorem nxt4 {d : Deed} {v : Val} (h1 : ¬ d.kind = 1) (h2 : ¬ d.kind = 2) (h3 : ¬ d.kind = 3) : nxt d v = (v, false) := by unfold nxt; rw [if_neg h1, if_neg h2, if_neg h3]
theorem deed_b {w : World} {d : Deed} {A1 : Option Addr} {c1 : Nat} {A6 : Option Addr} {c6 : Nat} (h : Deed.k.K w d [.int .i64 d.kind, .slice A1 d.b.length c1, .int .i64 d.from_, .int .i64 d.to_, .bool d.done, .bool d.val.has, .slice A6 d.val.b.length c6]) : Val.k.K w ⟨true, d.b⟩ [.bool true, .slice A1 d.b.length c1] := by
  obtain ⟨B1, e1, B6, e6, he, _, l1, g1, _⟩ := Deed.open_ h
  simp at he
  obtain ⟨⟨rfl, rfl⟩, _⟩ := he
  exact Val.mk_ w ⟨true, d.b⟩ l1 g1
/-- A value and a bool are returned; the value lies where what came in lay. -/
def RetVB (w : World) (d : Deed) (v : Val) (cs ds : List Value) (e : Ending) (w' : World) : Prop :=
  ∃ rs, e = .returned (.tuple #[.agg rs.toArray, .bool (nxt d v).2]) ∧ (∀ w0, Deed.k.K w0 d cs → Val.k.K w0 v ds → Val.k.K w0 (nxt d v).1 rs) ∧ Below w.heap.size w w'
set_option maxHeartbeats 400000 in
theorem after_calls (d : Deed) (v : Val) (cs ds : List Value) (w : World) (hx : Deed.k.K w d cs) (hy : Val.k.K w v ds) :
    Calls Try.prog 33 #[.agg cs.toArray, .agg ds.toArray] w (RetVB w d v cs ds) := by
  obtain ⟨A1, c1, A6, c6, rfl, _, _, _, _, _, l6, g6⟩ := Deed.open_ hx
  have HY := Aside0.mk hy
  have HV := Aside0.mk (Val.mk_ w d.val l6 g6)
  obtain ⟨A2, c2, rfl, _⟩ := Val.open_ hy
  clear hx hy l6 g6
  by_cases h1 : d.kind = 1
  · go_enter Try.func33, Try.ntmps33
    go_wp2_with fail
    go_region_with (first | ((with_reducible refine (sameVal_calls _ _ _ _ _ (Val.k.K_below (by repeat (first | exact Below.refl _ _ | refine below_drew ?_ | refine below_alloc ?_ _)) HV.out) (Val.k.K_below (by repeat (first | exact Below.refl _ _ | refine below_drew ?_ | refine below_alloc ?_ _)) HY.out)).mono ?_); rintro e w1 ⟨rfl, hb⟩; obtain ⟨hc, hf⟩ := bcell hb; have hz := hb.size; simp at hz))
    all_goals
      go_wp2_with fail
      refine bodyPost_ret (v := .tuple #[.agg #[.bool v.has, .slice A2 v.b.length c2], .bool (same d.val v)]) (by simp [results, Try.results33, go_sem, hc]) rfl ?_
      exact ⟨_, by rw [nxt1 h1], fun w0 _ h => by rw [nxt1 h1]; exact h, by repeat (first | exact Below.refl _ _ | refine below_drew ?_ | refine below_alloc ?_ _ | refine Below.setCell ?_ (by first | omega | (simp; done) | (simp; omega)) _ | (refine below_step ?_ hb))⟩
  · by_cases h2 : d.kind = 2
    · go_enter Try.func33, Try.ntmps33
      go_wp2_with fail
      refine bodyPost_ret (v := .tuple #[.agg #[.bool true, .slice A1 d.b.length c1], .bool true]) (by simp [results, Try.results33, go_sem]) rfl ?_
      exact ⟨_, by rw [nxt2 h2], fun w0 h _ => by rw [nxt2 h2]; exact deed_b h, by repeat (first | exact Below.refl _ _ | refine below_drew ?_ | refine below_alloc ?_ _ | refine Below.setCell ?_ (by first | omega | (simp; done) | (simp; omega)) _ | (refine below_step ?_ hb))⟩
    · by_cases h3 : d.kind = 3
      · go_enter Try.func33, Try.ntmps33
        go_wp2_with fail
        refine bodyPost_ret (v := .tuple #[.agg #[.bool false, .slice none 0 0], .bool true]) (by simp [results, Try.results33, go_sem]) rfl ?_
        exact ⟨_, by rw [nxt3 h3], fun w0 _ _ => by rw [nxt3 h3]; exact Val.mk_ w0 ⟨false, []⟩ (Nat.le_refl _) (Kd.C_nil _ _), by repeat (first | exact Below.refl _ _ | refine below_drew ?_ | refine below_alloc ?_ _ | refine Below.setCell ?_ (by first | omega | (simp; done) | (simp; omega)) _ | (refine below_step ?_ hb))⟩
      · go_enter Try.func33, Try.ntmps33
        go_wp2_with fail
        refine bodyPost_ret (v := .tuple #[.agg #[.bool v.has, .slice A2 v.b.length c2], .bool false]) (by simp [results, Try.results33, go_sem]) rfl ?_
        exact ⟨_, by rw [nxt4 h1 h2 h3], fun w0 _ h => by rw [nxt4 h1 h2 h3]; exact h, by repeat (first | exact Below.refl _ _ | refine below_drew ?_ | refine below_alloc ?_ _ | refine Below.setCell ?_ (by first | omega | (simp; done) | (simp; omega)) _ | (refine below_step ?_ hb))⟩
end LinB
end Go.Proofs.Ytgconogjnjhmgaa
