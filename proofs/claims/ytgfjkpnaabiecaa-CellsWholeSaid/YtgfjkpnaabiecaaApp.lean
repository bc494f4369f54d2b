/- Rows of things of the call's own: append of a row that is read; a cell stored. -/
import Derived.Test.YtgfjkpnaabiecaaBase
namespace Go.Proofs.Ytgfjkpnaabiecaa
open Go.RowKit Go.Proofs.YtgfjkpnaabiecaaW.PrintWords
theorem OwnRow.base_ {α : Type} {R : α → List Value → Prop} {e : TypeId} {size : Nat} {w : World} {base : Nat} {v : Value} {ps : List α} (h : OwnRow R e size w base v ps) : ∀ k, v.ownBlock = some k → base ≤ k := by
  obtain ⟨inner, ho, _⟩ := h
  exact own_base ho
section
variable {P : Program} {ops : Array Oper} {rest : List Oper} {o : Oper} {a : Act} {Q : Exit → Act → World → Prop} {α : Type} {R : α → List Value → Prop}
/-- append(v, ys...), run. -/
theorem run_append_rows {W : World} (base : Nat) (t e ty : TypeId) (z : Value) (size bytes : Nat)
    (ht : P.underlying t = some (.slice e)) (hinfo : (P.info? e).map (fun i => (i.zero, i.size, i.bytes)) = some (some z, size, bytes)) (hz : z.cells.size = size) (hs0 : 0 < size) (hb0 : 0 < bytes)
    (v : Value) (xs ys : List α) (A : Option Addr) (m c : Nat)
    (HO : OwnRow R e size W base v xs) (HR : ReadsRow R size W A m ys) (h1 : ∀ x cs, R x cs → ∀ u ∈ cs, u.oneCell' = true)
    (hbase : base ≤ W.heap.size) (hl : (xs.length + m) * bytes ≤ 140737488355328) :
    ∃ v1 w1, (Builtin.append_ #[t, t] ty #[v, .slice A m c]).run P W = .ok v1 w1 ∧ OwnRow R e size w1 base v1 (xs ++ ys) ∧ W.grownBy w1 v.ownBlock ∧ (v1.ownBlock = v.ownBlock ∨ ∃ b, v1.ownBlock = some b ∧ W.heap.size ≤ b) := by
  obtain ⟨i0, hi, hzz⟩ := Option.map_eq_some_iff.1 hinfo
  simp only [Prod.mk.injEq] at hzz
  obtain ⟨hz0, hz1, hz2⟩ := hzz
  have hm : ys.length = m := HR.1
  have hlen' : xs.length + m ≤ 140737488355328 := Nat.le_trans (Nat.le_mul_of_pos_right _ hb0) hl
  obtain ⟨inner, hown, hr⟩ := HO
  rcases A with _ | ad
  · have h0 : m = 0 := by
      rcases Nat.eq_zero_or_pos m with h0 | h0
      · exact h0
      · obtain ⟨ad, h, _⟩ := HR.2.2 h0
        cases h
    subst h0
    obtain rfl : ys = [] := List.eq_nil_of_length_eq_zero hm
    refine ⟨v, W, ?_, by rw [List.append_nil]; exact ⟨inner, hown, hr⟩, World.grownBy.refl W _, .inl rfl⟩
    rcases hown.2 with ⟨rfl, hn⟩ | ⟨g, cap, cur, rfl, _, _, hnc, _⟩
    · simp [Builtin.append_, run_underlying ht, sizeOf, typeInfo, hi, Builtin.lenOf, Builtin.firstCells]
    · simp [Builtin.append_, run_underlying ht, sizeOf, typeInfo, hi, Builtin.lenOf, Builtin.firstCells, hnc, storeCells]
  · obtain ⟨news, hnr, hnc⟩ := ReadsRow.inner_ HR
    have hone : ∀ u ∈ news, u.oneCell' = true := by
      intro u hu
      obtain ⟨q, hq, rfl⟩ := List.mem_iff_getElem.1 hu
      have hql : q / size < ys.length := by
        rw [Nat.div_lt_iff_lt_mul hs0]
        rw [← hnr.1]
        exact hq
      have hc := hnr.2 (q / size) _ (List.getElem?_eq_getElem hql)
      refine h1 _ _ hc _ ?_
      rw [List.mem_iff_getElem?]
      refine ⟨q % size, ?_⟩
      rw [List.getElem?_take, if_pos (Nat.mod_lt _ hs0), List.getElem?_drop, Nat.mul_comm, Nat.div_add_mod, List.getElem?_eq_getElem hq]
    obtain ⟨v1, w1, hrun, h2, hg, _, hat⟩ := run_append_own_at (P := P) W base t ty e i0 z size bytes ht hi hz0 hz1 hz2 hz hs0 v xs.length inner hown ad m c news (by rw [hnr.1, hm]) hnc hone (by simp only [maxLen]; omega) hl hbase
    refine ⟨v1, w1, hrun, ⟨inner ++ news, by rw [List.length_append, hm]; exact h2, ?_⟩, hg, ?_⟩
    · refine ⟨by rw [List.length_append, hr.1, hnr.1, List.length_append, Nat.add_mul], fun j p hj => ?_⟩
      rcases Nat.lt_or_ge j xs.length with hj1 | hj1
      · rw [List.getElem?_append_left hj1] at hj
        have := hr.2 j p hj
        have hle : (j + 1) * size ≤ inner.length := by rw [hr.1]; exact Nat.mul_le_mul_right _ hj1
        have hle' : j * size + size ≤ inner.length := by rw [Nat.succ_mul] at hle; exact hle
        rw [List.drop_append_of_le_length (by omega), List.take_append_of_le_length (by rw [List.length_drop]; omega)]
        exact this
      · rw [List.getElem?_append_right hj1] at hj
        have := hnr.2 _ p hj
        have e : j * size = inner.length + (j - xs.length) * size := by rw [hr.1, ← Nat.add_mul]; congr 1; omega
        rw [e, List.drop_append]
        have e2 : inner.drop (inner.length + (j - xs.length) * size) = [] := List.drop_eq_nil_of_le (by omega)
        rw [e2, List.nil_append]
        have e3 : inner.length + (j - xs.length) * size - inner.length = (j - xs.length) * size := by omega
        rw [e3]
        exact this
    · rcases hat with hat | hat
      · exact .inl hat
      · exact .inr ⟨_, hat, Nat.le_refl _⟩
/-- append(v, ys...). -/
theorem own_append_rows {w0 W : World} (base : Nat) (hgd : o.guard = none) (s x : Operand) (t e : TypeId) (z : Value) (size bytes : Nat)
    (ho : o.op = .call { callee := .builtin .append, args := #[s, x], argTypes := #[t, t] })
    (ht : P.underlying t = some (.slice e)) (hinfo : (P.info? e).map (fun i => (i.zero, i.size, i.bytes)) = some (some z, size, bytes)) (hz : z.cells.size = size) (hs0 : 0 < size) (hb0 : 0 < bytes)
    (v : Value) (xs ys : List α) (A : Option Addr) (m c : Nat) (hs : a.eval s = v) (hx : a.eval x = .slice A m c)
    (HO : OwnRow R e size W base v xs) (HR : ReadsRow R size W A m ys) (h1 : ∀ x cs, R x cs → ∀ u ∈ cs, u.oneCell' = true)
    (HB : Below base w0 W) (hbase : base ≤ W.heap.size) (hl : (xs.length + m) * bytes ≤ 140737488355328)
    (h : ∀ v1 w1, OwnRow R e size w1 base v1 (xs ++ ys) → Below base w0 w1 → W.grownBy w1 v.ownBlock → (v1.ownBlock = v.ownBlock ∨ ∃ b, v1.ownBlock = some b ∧ W.heap.size ≤ b) → wpList P ops Q rest (a.put o.dst v1) w1) :
    wpList P ops Q (o :: rest) a W := by
  obtain ⟨v1, w1, hr1, ho1, hg1, hat1⟩ := run_append_rows base t e o.type z size bytes ht hinfo hz hs0 hb0 v xs ys A m c HO HR h1 hbase hl
  refine wpList_plain hgd fun K hK => ?_
  unfold Oper.wp execOp
  simp only [ho, resolve, invoke, builtin, Sem.run_bind, Sem.run_pure, Result.andThen_ok, List.map_toArray, List.map_cons, List.map_nil, hs, hx, hr1]
  exact hK _ _ (h v1 w1 ho1 (HB.grown hg1 hbase (OwnRow.base_ HO)) hg1 hat1)
/-- The same as a step of a region that draws. -/
theorem step_append_rows {W : World} {ops : Array Oper} {K : Act → World → Prop} {E : Prop} (base : Nat) (hgd : o.guard = none) (s x : Operand) (t e : TypeId) (z : Value) (size bytes : Nat)
    (ho : o.op = .call { callee := .builtin .append, args := #[s, x], argTypes := #[t, t] })
    (ht : P.underlying t = some (.slice e)) (hinfo : (P.info? e).map (fun i => (i.zero, i.size, i.bytes)) = some (some z, size, bytes)) (hz : z.cells.size = size) (hs0 : 0 < size) (hb0 : 0 < bytes)
    (v : Value) (xs ys : List α) (A : Option Addr) (m c : Nat) (hs : a.eval s = v) (hx : a.eval x = .slice A m c)
    (HO : OwnRow R e size W base v xs) (HR : ReadsRow R size W A m ys) (h1 : ∀ x cs, R x cs → ∀ u ∈ cs, u.oneCell' = true)
    (hbase : base ≤ W.heap.size) (hl : (xs.length + m) * bytes ≤ 140737488355328)
    (h : ∀ v1 w1, OwnRow R e size w1 base v1 (xs ++ ys) → W.grownBy w1 v.ownBlock → (v1.ownBlock = v.ownBlock ∨ ∃ b, v1.ownBlock = some b ∧ W.heap.size ≤ b) → K (a.put o.dst v1) w1) :
    if Region.wanted o (yielded ops a.tmps) = true then Oper.wp P o a W K Q else E := by
  have hw : Region.wanted o (yielded ops a.tmps) = true := by simp [Region.wanted, hgd]
  rw [if_pos hw]
  obtain ⟨v1, w1, hr1, ho1, hg1, hat1⟩ := run_append_rows base t e o.type z size bytes ht hinfo hz hs0 hb0 v xs ys A m c HO HR h1 hbase hl
  unfold Oper.wp
  simp [execOp, ho, resolve, invoke, builtin, hs, hx, hr1, Result.andThen]
  exact h v1 w1 ho1 hg1 hat1
end
section
variable {α : Type} {R : α → List Value → Prop} {e : TypeId} {size : Nat} {W : World} {base g n cap : Nat} {xs : List α}
theorem own_shape {v : Value} (h : OwnRow R e size W base v xs) (hp : 0 < xs.length) : ∃ g cap, v = .slice (some ⟨g, 0, none⟩) xs.length cap ∧ base ≤ g ∧ xs.length ≤ cap ∧ cap ≤ 9223372036854775807 ∧ g < W.heap.size := by
  obtain ⟨inner, ho, hr⟩ := h
  have hlt := own_lt ho
  rcases ho.2 with ⟨_, h2⟩ | ⟨g, cap, cur, rfl, hb, _, hn, hm, _⟩
  · omega
  · exact ⟨g, cap, rfl, hb, hn, by simpa [maxLen] using hm, hlt g rfl⟩
/-- A cell of an element. -/
theorem own_get (h : OwnRow R e size W base (.slice (some ⟨g, 0, none⟩) n cap) xs) {k i : Nat} {x : α} (hx : xs[k]? = some x) (hi : i < size) :
    ∃ cs, R x cs ∧ cs.length = size ∧ W.cell? ⟨g, k * size + i, none⟩ = cs[i]? ∧ W.frozen? ⟨g, k * size + i, none⟩ = false := by
  obtain ⟨inner, ho, hr⟩ := h
  have hk := (List.getElem?_eq_some_iff.1 hx).1
  have hR := hr.2 k x hx
  have hle : (k + 1) * size ≤ inner.length := by rw [hr.1]; exact Nat.mul_le_mul_right _ hk
  rw [Nat.succ_mul] at hle
  refine ⟨_, hR, by rw [List.length_take, List.length_drop]; omega, ?_, ?_⟩
  · rw [List.getElem?_take, if_pos hi, List.getElem?_drop]
    have hlt : k * size + i < inner.length := by omega
    rw [List.getElem?_eq_getElem hlt]
    have := ho.cells (g := g) rfl (k * size + i) _ (List.getElem?_eq_getElem hlt)
    rwa [add_plain] at this
  · rcases ho.2 with ⟨h', _⟩ | ⟨g', cap', cur, h', _, hh, _⟩
    · cases h'
    · have : g = g' := by injection h' with h'; injection h' with h'; injection h' with h'
      subst this
      simp [World.frozen?, hh]
theorem own_put (h : OwnRow R e size W base (.slice (some ⟨g, 0, none⟩) n cap) xs) {k i : Nat} {x y : α} {u : Value} (hx : xs[k]? = some x) (hi : i < size) (hR : ∀ cs, R x cs → R y (cs.set i u)) :
    OwnRow R e size (W.setCell ⟨g, k * size + i, none⟩ u) base (.slice (some ⟨g, 0, none⟩) n cap) (xs.set k y) ∧ W.grownBy (W.setCell ⟨g, k * size + i, none⟩ u) (some g) := by
  obtain ⟨inner, ho, hr⟩ := h
  have hk := (List.getElem?_eq_some_iff.1 hx).1
  have hle : (k + 1) * size ≤ inner.length := by rw [hr.1]; exact Nat.mul_le_mul_right _ hk
  rw [Nat.succ_mul] at hle
  have hn : n = xs.length := by
    rcases ho.2 with ⟨h', _⟩ | ⟨g', cap', cur, h', _⟩
    · cases h'
    · injection h' with _ h' _
  rw [← hn] at ho
  have hs := ho.stored (k * size + i) u
  refine ⟨⟨inner.set (k * size + i) u, by rw [List.length_set, ← hn]; exact hs.1, by rw [List.length_set, List.length_set]; exact hr.1, fun j p hj => ?_⟩, hs.2⟩
  by_cases hjk : j = k
  · subst hjk
    rw [List.getElem?_set_self hk] at hj
    injection hj with hj
    subst hj
    have h1 := hR _ (hr.2 j x hx)
    have e1 : ((inner.set (j * size + i) u).drop (j * size)).take size = ((inner.drop (j * size)).take size).set i u := by
      rw [List.drop_set, if_neg (by omega), Nat.add_sub_cancel_left, List.take_set]
    rw [e1]
    exact h1
  · rw [List.getElem?_set_ne (fun e => hjk e.symm)] at hj
    have h1 := hr.2 j p hj
    have hjl := (List.getElem?_eq_some_iff.1 hj).1
    have e1 : ((inner.set (k * size + i) u).drop (j * size)).take size = (inner.drop (j * size)).take size := by
      apply List.ext_getElem?
      intro q
      rw [List.getElem?_take, List.getElem?_take]
      split
      · rename_i hq
        rw [List.getElem?_drop, List.getElem?_drop, List.getElem?_set_ne]
        intro e
        rcases Nat.lt_or_gt_of_ne hjk with hlt | hgt
        · have : (j + 1) * size ≤ k * size := Nat.mul_le_mul_right _ hlt
          rw [Nat.succ_mul] at this
          omega
        · have : (k + 1) * size ≤ j * size := Nat.mul_le_mul_right _ hgt
          rw [Nat.succ_mul] at this
          omega
      · rfl
    rw [e1]
    exact h1
end
end Go.Proofs.Ytgfjkpnaabiecaa
