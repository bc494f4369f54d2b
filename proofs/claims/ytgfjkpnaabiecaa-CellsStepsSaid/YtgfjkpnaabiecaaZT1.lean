/- Lemmas for the row (words on memory, contracts of the program's functions): Base, App, Copy, Blk, Maps, Frame, Hash, RefHash, KindsC, Tags, TabM, TabW, Calm. -/
import Derived.Test.YtgfjkpnaabiecaaWMore
import Derived.Test.YtgfjkpnaabiecaaProg
import Derived.OpenShut
import Derived.WalkSpells
import Derived.Maps.Own
import Derived.Maps.OwnOps
import Derived.Maps.OwnSet
import Derived.Laws.Bits64
import Derived.IntWalk
import Derived.StillTailTactics
import Derived.StringKeys
import Derived.StillTail
namespace Go.Proofs.Ytgfjkpnaabiecaa
open Go.RowKit Go.Proofs.YtgfjkpnaabiecaaW.PrintWords
/-- A number is one of its kind. -/
def InR (k : IntKind) (x : Int) : Prop := (Lit.int k x).wf = true
theorem InR.i64 {x : Int} (h : InR .i64 x) : -9223372036854775808 ≤ x ∧ x ≤ 9223372036854775807 := _root_.Go.bounds_i64 h
theorem InR.mk64 {x : Int} (h0 : -9223372036854775808 ≤ x) (h1 : x ≤ 9223372036854775807) : InR .i64 x := WalkArith.wf_i64 (by omega)
/-- A scalar with a condition. -/
def scalarP {α : Type} (enc : α → Value) (ok : α → Prop) (h1 : ∀ x, (enc x).oneCell' = true) : Kd α where
  sz := 1
  E := []
  K := fun _ x cs => cs = [enc x] ∧ ok x
  M := fun _ _ _ x cs => cs = [enc x] ∧ ok x
  K_len := fun h => by rw [h.1]; rfl
  K_one := fun h u hu => by
    rw [h.1] at hu
    rw [List.mem_singleton.1 hu]
    exact h1 _
  K_below := fun _ h => h
  K_of_M := fun h => h
  M_mono := fun _ h => h
  M_bound := fun h => h
  M_move := fun _ h => h
  M_lower := fun _ h => h
def kU8 : Kd UInt8 := Kd.scalar (fun x : UInt8 => Value.int .u8 (x.toNat : Int)) (fun _ => rfl)
def kInt (k : IntKind) : Kd Int := scalarP (Value.int k) (InR k) (fun _ => rfl)
def kStr : Kd ByteArray := scalarP Value.string (fun s => s.size ≤ 140737488351232) (fun _ => rfl)
theorem bcell {W w1 : World} (hb : Below W.heap.size W w1) : (∀ b o, b < W.heap.size → w1.cell? ⟨b, o, none⟩ = W.cell? ⟨b, o, none⟩) ∧ (∀ b o, b < W.heap.size → w1.frozen? ⟨b, o, none⟩ = W.frozen? ⟨b, o, none⟩) :=
  ⟨fun b o h => hb.cell (p := ⟨b, o, none⟩) h, fun b o h => hb.frozen (p := ⟨b, o, none⟩) h⟩
theorem Below.then_ {B : Nat} {w w1 w2 : World} (h : Below B w w1) (k : Below w1.heap.size w1 w2) (hB : B ≤ w.heap.size) : Below B w w2 := h.trans (k.mono (Nat.le_trans hB h.size))
theorem cell_new (w : World) (cs : Array Value) (t : TypeId) (fr : Nat × Nat) (i : Nat) (v : Value) (h : cs[i]? = some v) : (w.alloc (.cells cs t fr)).cell? ⟨w.heap.size, i, none⟩ = some v := by
  unfold World.cell?
  rw [heap_alloc_new]
  simp [h]
theorem cell_alloc {w : World} {a : Addr} {v : Value} (h : w.cell? a = some v) : ∀ o, (w.alloc o).cell? a = some v := fun o => pw_cell_below (below_alloc (Below.refl _ _) o) h
end Go.Proofs.Ytgfjkpnaabiecaa
namespace Go.Proofs.Ytgfjkpnaabiecaa
open Go.RowKit Go.Proofs.YtgfjkpnaabiecaaW.PrintWords
theorem OwnRow.base_ {α : Type} {R : α → List Value → Prop} {e : TypeId} {size : Nat} {w : World} {base : Nat} {v : Value} {ps : List α} (h : OwnRow R e size w base v ps) : ∀ k, v.ownBlock = some k → base ≤ k := by
  obtain ⟨inner, ho, _⟩ := h
  exact own_base ho
section
variable {P : Program} {ops : Array Oper} {rest : List Oper} {o : Oper} {a : Act} {Q : Exit → Act → World → Prop} {α : Type} {R : α → List Value → Prop}
/-- append(v, ys...), run. -/
theorem run_append_rows {W : World} (base : Nat) (t e ty : TypeId) (z : Value) (size bytes : Nat)
    (ht : P.underlying t = some (.slice e)) (hinfo : (P.info? e).map (fun i => (i.zero, i.size, i.bytes)) = some (some z, size, bytes)) (hz : z.cells.size = size) (hs0 : 0 < size) (hb0 : 0 < bytes)
    (v : Value) (xs ys : List α) (A : Option Addr) (m c : Nat)
    (HO : OwnRow R e size W base v xs) (HR : ReadsRow R size W A m ys) (h1 : ∀ x cs, R x cs → ∀ u ∈ cs, u.oneCell' = true)
    (hbase : base ≤ W.heap.size) (hl : (xs.length + m) * bytes ≤ 140737488355328) :
    ∃ v1 w1, (Builtin.append_ #[t, t] ty #[v, .slice A m c]).run P W = .ok v1 w1 ∧ OwnRow R e size w1 base v1 (xs ++ ys) ∧ W.grownBy w1 v.ownBlock ∧ (v1.ownBlock = v.ownBlock ∨ ∃ b, v1.ownBlock = some b ∧ W.heap.size ≤ b) := by
  obtain ⟨i0, hi, hzz⟩ := Option.map_eq_some_iff.1 hinfo
  simp only [Prod.mk.injEq] at hzz
  obtain ⟨hz0, hz1, hz2⟩ := hzz
  have hm : ys.length = m := HR.1
  have hlen' : xs.length + m ≤ 140737488355328 := Nat.le_trans (Nat.le_mul_of_pos_right _ hb0) hl
  obtain ⟨inner, hown, hr⟩ := HO
  rcases A with _ | ad
  · have h0 : m = 0 := by
      rcases Nat.eq_zero_or_pos m with h0 | h0
      · exact h0
      · obtain ⟨ad, h, _⟩ := HR.2.2 h0
        cases h
    subst h0
    obtain rfl : ys = [] := List.eq_nil_of_length_eq_zero hm
    refine ⟨v, W, ?_, by rw [List.append_nil]; exact ⟨inner, hown, hr⟩, World.grownBy.refl W _, .inl rfl⟩
    rcases hown.2 with ⟨rfl, hn⟩ | ⟨g, cap, cur, rfl, _, _, hnc, _⟩
    · simp [Builtin.append_, run_underlying ht, sizeOf, typeInfo, hi, Builtin.lenOf, Builtin.firstCells]
    · simp [Builtin.append_, run_underlying ht, sizeOf, typeInfo, hi, Builtin.lenOf, Builtin.firstCells, hnc, storeCells]
  · obtain ⟨news, hnr, hnc⟩ := ReadsRow.inner_ HR
    have hone : ∀ u ∈ news, u.oneCell' = true := by
      intro u hu
      obtain ⟨q, hq, rfl⟩ := List.mem_iff_getElem.1 hu
      have hql : q / size < ys.length := by
        rw [Nat.div_lt_iff_lt_mul hs0]
        rw [← hnr.1]
        exact hq
      have hc := hnr.2 (q / size) _ (List.getElem?_eq_getElem hql)
      refine h1 _ _ hc _ ?_
      rw [List.mem_iff_getElem?]
      refine ⟨q % size, ?_⟩
      rw [List.getElem?_take, if_pos (Nat.mod_lt _ hs0), List.getElem?_drop, Nat.mul_comm, Nat.div_add_mod, List.getElem?_eq_getElem hq]
    obtain ⟨v1, w1, hrun, h2, hg, _, hat⟩ := run_append_own_at (P := P) W base t ty e i0 z size bytes ht hi hz0 hz1 hz2 hz hs0 v xs.length inner hown ad m c news (by rw [hnr.1, hm]) hnc hone (by simp only [maxLen]; omega) hl hbase
    refine ⟨v1, w1, hrun, ⟨inner ++ news, by rw [List.length_append, hm]; exact h2, ?_⟩, hg, ?_⟩
    · refine ⟨by rw [List.length_append, hr.1, hnr.1, List.length_append, Nat.add_mul], fun j p hj => ?_⟩
      rcases Nat.lt_or_ge j xs.length with hj1 | hj1
      · rw [List.getElem?_append_left hj1] at hj
        have := hr.2 j p hj
        have hle : (j + 1) * size ≤ inner.length := by rw [hr.1]; exact Nat.mul_le_mul_right _ hj1
        have hle' : j * size + size ≤ inner.length := by rw [Nat.succ_mul] at hle; exact hle
        rw [List.drop_append_of_le_length (by omega), List.take_append_of_le_length (by rw [List.length_drop]; omega)]
        exact this
      · rw [List.getElem?_append_right hj1] at hj
        have := hnr.2 _ p hj
        have e : j * size = inner.length + (j - xs.length) * size := by rw [hr.1, ← Nat.add_mul]; congr 1; omega
        rw [e, List.drop_append]
        have e2 : inner.drop (inner.length + (j - xs.length) * size) = [] := List.drop_eq_nil_of_le (by omega)
        rw [e2, List.nil_append]
        have e3 : inner.length + (j - xs.length) * size - inner.length = (j - xs.length) * size := by omega
        rw [e3]
        exact this
    · rcases hat with hat | hat
      · exact .inl hat
      · exact .inr ⟨_, hat, Nat.le_refl _⟩
/-- append(v, ys...). -/
theorem own_append_rows {w0 W : World} (base : Nat) (hgd : o.guard = none) (s x : Operand) (t e : TypeId) (z : Value) (size bytes : Nat)
    (ho : o.op = .call { callee := .builtin .append, args := #[s, x], argTypes := #[t, t] })
    (ht : P.underlying t = some (.slice e)) (hinfo : (P.info? e).map (fun i => (i.zero, i.size, i.bytes)) = some (some z, size, bytes)) (hz : z.cells.size = size) (hs0 : 0 < size) (hb0 : 0 < bytes)
    (v : Value) (xs ys : List α) (A : Option Addr) (m c : Nat) (hs : a.eval s = v) (hx : a.eval x = .slice A m c)
    (HO : OwnRow R e size W base v xs) (HR : ReadsRow R size W A m ys) (h1 : ∀ x cs, R x cs → ∀ u ∈ cs, u.oneCell' = true)
    (HB : Below base w0 W) (hbase : base ≤ W.heap.size) (hl : (xs.length + m) * bytes ≤ 140737488355328)
    (h : ∀ v1 w1, OwnRow R e size w1 base v1 (xs ++ ys) → Below base w0 w1 → W.grownBy w1 v.ownBlock → (v1.ownBlock = v.ownBlock ∨ ∃ b, v1.ownBlock = some b ∧ W.heap.size ≤ b) → wpList P ops Q rest (a.put o.dst v1) w1) :
    wpList P ops Q (o :: rest) a W := by
  obtain ⟨v1, w1, hr1, ho1, hg1, hat1⟩ := run_append_rows base t e o.type z size bytes ht hinfo hz hs0 hb0 v xs ys A m c HO HR h1 hbase hl
  refine wpList_plain hgd fun K hK => ?_
  unfold Oper.wp execOp
  simp only [ho, resolve, invoke, builtin, Sem.run_bind, Sem.run_pure, Result.andThen_ok, List.map_toArray, List.map_cons, List.map_nil, hs, hx, hr1]
  exact hK _ _ (h v1 w1 ho1 (HB.grown hg1 hbase (OwnRow.base_ HO)) hg1 hat1)
/-- The same as a step of a region that draws. -/
theorem step_append_rows {W : World} {ops : Array Oper} {K : Act → World → Prop} {E : Prop} (base : Nat) (hgd : o.guard = none) (s x : Operand) (t e : TypeId) (z : Value) (size bytes : Nat)
    (ho : o.op = .call { callee := .builtin .append, args := #[s, x], argTypes := #[t, t] })
    (ht : P.underlying t = some (.slice e)) (hinfo : (P.info? e).map (fun i => (i.zero, i.size, i.bytes)) = some (some z, size, bytes)) (hz : z.cells.size = size) (hs0 : 0 < size) (hb0 : 0 < bytes)
    (v : Value) (xs ys : List α) (A : Option Addr) (m c : Nat) (hs : a.eval s = v) (hx : a.eval x = .slice A m c)
    (HO : OwnRow R e size W base v xs) (HR : ReadsRow R size W A m ys) (h1 : ∀ x cs, R x cs → ∀ u ∈ cs, u.oneCell' = true)
    (hbase : base ≤ W.heap.size) (hl : (xs.length + m) * bytes ≤ 140737488355328)
    (h : ∀ v1 w1, OwnRow R e size w1 base v1 (xs ++ ys) → W.grownBy w1 v.ownBlock → (v1.ownBlock = v.ownBlock ∨ ∃ b, v1.ownBlock = some b ∧ W.heap.size ≤ b) → K (a.put o.dst v1) w1) :
    if Region.wanted o (yielded ops a.tmps) = true then Oper.wp P o a W K Q else E := by
  have hw : Region.wanted o (yielded ops a.tmps) = true := by simp [Region.wanted, hgd]
  rw [if_pos hw]
  obtain ⟨v1, w1, hr1, ho1, hg1, hat1⟩ := run_append_rows base t e o.type z size bytes ht hinfo hz hs0 hb0 v xs ys A m c HO HR h1 hbase hl
  unfold Oper.wp
  simp [execOp, ho, resolve, invoke, builtin, hs, hx, hr1, Result.andThen]
  exact h v1 w1 ho1 hg1 hat1
end
section
variable {α : Type} {R : α → List Value → Prop} {e : TypeId} {size : Nat} {W : World} {base g n cap : Nat} {xs : List α}
end
end Go.Proofs.Ytgfjkpnaabiecaa
namespace Go.Proofs.Ytgfjkpnaabiecaa
open Go.RowKit Go.Proofs.YtgfjkpnaabiecaaW.PrintWords
theorem info8 : (Try.prog.info? 5).map (fun i => (i.zero, i.size, i.bytes)) = some (some (.int .u8 0), 1, 1) := by kernel_rfl
/-- What A points to was made between W and w'. -/
def Fresh (W w' : World) (A : Option Addr) : Prop := ∀ ad, A = some ad → W.heap.size ≤ ad.block ∧ ad.block < w'.heap.size
theorem Fresh.own {α : Type} {R : α → List Value → Prop} {e : TypeId} {size : Nat} {W w' : World} {A : Option Addr} {n c : Nat} {xs : List α} (h : OwnRow R e size w' W.heap.size (.slice A n c) xs) : Fresh W w' A := by
  obtain ⟨inner, ho, hr⟩ := h
  have hlt := own_lt ho
  have hba := own_base ho
  rintro ad rfl
  exact ⟨hba ad.block rfl, hlt ad.block rfl⟩
theorem adr_block (a : Addr) (n : Nat) : (a.add n).block = a.block := by unfold Addr.add; split <;> rfl
section
variable {ops : Array Oper} {rest : List Oper} {o : Oper} {a : Act} {Q : Exit → Act → World → Prop} {W : World} {K : Act → World → Prop} {E : Prop}
end
end Go.Proofs.Ytgfjkpnaabiecaa
namespace Go.Proofs.Ytgfjkpnaabiecaa
open Go.RowKit Go.Proofs.YtgfjkpnaabiecaaW.PrintWords
/-- Block b holds the cells cs, at its begin; none of them is frozen. -/
def Blk (w : World) (b : Nat) (cs : List Value) : Prop := b < w.heap.size ∧ ∀ i v, cs[i]? = some v → w.cell? ⟨b, i, none⟩ = some v ∧ w.frozen? ⟨b, i, none⟩ = false
namespace Blk
variable {w w' : World} {b g : Nat} {cs xs : List Value}
theorem new (w : World) (cs : List Value) (t : TypeId) : Blk (w.alloc (.cells cs.toArray t)) w.heap.size cs :=
  ⟨by simp, fun i v h => ⟨cell_new w cs.toArray t _ i v (by simpa using h), World.frozen?_alloc_new _ _ _ _⟩⟩
theorem new_ (w : World) (cs : Array Value) (t : TypeId) (hg : g = w.heap.size) (h : cs.toList = xs) : Blk (w.alloc (.cells cs t)) g xs := by
  subst hg; subst h
  exact new w cs.toList t
theorem cast {ds : List Value} (h : Blk w b ds) (e : ds = cs) : Blk w b cs := e ▸ h
theorem lt (h : Blk w b cs) : b < w.heap.size := h.1
theorem below (h : Blk w b cs) {B : Nat} (k : Below B w w') (hB : b < B) : Blk w' b cs :=
  ⟨Nat.lt_of_lt_of_le h.1 k.size, fun i v e => ⟨by rw [k.cell (p := ⟨b, i, none⟩) hB]; exact (h.2 i v e).1, by rw [k.frozen (p := ⟨b, i, none⟩) hB]; exact (h.2 i v e).2⟩⟩
theorem alloc (h : Blk w b cs) (o : Obj) : Blk (w.alloc o) b cs := h.below (B := w.heap.size) ((Below.refl _ w).alloc (Nat.le_refl _) o) h.1
theorem drew (h : Blk w b cs) : Blk w.drew b cs := h
theorem on (h : Blk w b cs) (k : Below w.heap.size w w') : Blk w' b cs := h.below k h.1
theorem set (h : Blk w b cs) (i : Nat) (v : Value) : Blk (w.setCell ⟨b, i, none⟩ v) b (cs.set i v) := by
  refine ⟨by simpa [World.setCell] using h.1, fun j u e => ⟨?_, ?_⟩⟩
  · rw [List.getElem?_set] at e
    by_cases hij : i = j
    · subst hij
      simp only [if_true] at e
      split at e
      · rename_i hl
        simp only [Option.some.injEq] at e
        subst e
        exact World.cell?_setCell_same _ _ _ (h.2 i cs[i] (List.getElem?_eq_getElem hl)).1
      · cases e
    · rw [if_neg hij] at e
      rw [World.cell?_setCell_other _ _ _ _ (by simp)]
      exact (h.2 j u e).1
  · rw [World.frozen?_setCell]
    rw [List.getElem?_set] at e
    by_cases hij : i = j
    · subst hij
      simp only [if_true] at e
      split at e
      · rename_i hl
        exact (h.2 i cs[i] (List.getElem?_eq_getElem hl)).2
      · cases e
    · rw [if_neg hij] at e
      exact (h.2 j u e).2
theorem set_far (h : Blk w b cs) (hb : g ≠ b) (i : Nat) (v : Value) : Blk (w.setCell ⟨g, i, none⟩ v) b cs := by
  refine ⟨by simpa [World.setCell] using h.1, fun j u e => ⟨?_, by rw [World.frozen?_setCell]; exact (h.2 j u e).2⟩⟩
  rw [World.cell?_setCell_other _ _ _ _ (by simp)]
  exact (h.2 j u e).1
theorem cell (h : Blk w b cs) (i : Nat) {v : Value} (e : cs[i]? = some v) : w.cell? ⟨b, i, none⟩ = some v := (h.2 i v e).1
theorem frozen (h : Blk w b cs) (i : Nat) {v : Value} (e : cs[i]? = some v) : w.frozen? ⟨b, i, none⟩ = false := (h.2 i v e).2
end Blk
end Go.Proofs.Ytgfjkpnaabiecaa
namespace Go.Proofs.Ytgfjkpnaabiecaa
open Go.RowKit Go.Proofs.YtgfjkpnaabiecaaW.PrintWords
open Go.Maps (Keyed)
open Go.ChangeMaps (setBlock heap_setBlock_same heap_setBlock_other)
open Go.MapKept
/-- A value that may be a key of type k. -/
def IsKey (k : TypeId) (v : Value) : Prop := ∃ l, keyOf Try.prog k v = some l
def ents (es : Array MapEntry) : List (Value × Value) := es.toList.map fun e => (e.key, e.val)
/-- Block b of w is a map of just the entries E, in whatever order. -/
def MapL (w : World) (k : TypeId) (b : Nat) (E : List (Value × Value)) : Prop :=
  ∃ es clock, w.heap[b]? = some (.map es clock) ∧ Stamped es clock ∧ (∀ e ∈ es.toList, IsKey k e.key) ∧ (ents es).Perm E
section
variable {w : World} {k : TypeId} {b : Nat} {E : List (Value × Value)}
theorem MapL.perm {E' : List (Value × Value)} (h : MapL w k b E) (p : E.Perm E') : MapL w k b E' := by
  obtain ⟨es, cl, hb, hs, hk, hp⟩ := h
  exact ⟨es, cl, hb, hs, hk, hp.trans p⟩
theorem MapL.lt (h : MapL w k b E) : b < w.heap.size := by
  obtain ⟨es, cl, hb, _⟩ := h
  exact (Array.getElem?_eq_some_iff.1 hb).1
theorem MapL.move {w' : World} (h : MapL w k b E) (hb : w'.heap[b]? = w.heap[b]?) : MapL w' k b E := by
  obtain ⟨es, cl, hb', r⟩ := h
  exact ⟨es, cl, hb.trans hb', r⟩
theorem MapL.made (w : World) (k : TypeId) : MapL (w.alloc (.map #[] 0)) k w.heap.size [] :=
  ⟨#[], 0, (MapKept.heap_alloc w _).1, stamped_empty 0, by simp, by simp [ents]⟩
theorem MapL.keys (h : MapL w k b E) : ∀ x ∈ E, IsKey k x.1 := by
  obtain ⟨es, cl, _, _, hk, hp⟩ := h
  intro x hx
  obtain ⟨e, he, rfl⟩ := List.mem_map.1 (hp.mem_iff.2 hx)
  exact hk e he
theorem stamped_keys {es : Array MapEntry} {cl : Nat} (h : Stamped es cl) : (ents es).Pairwise (fun x y => x.1 ≠ y.1) := by
  unfold ents
  rw [List.pairwise_map]
  exact ((stamped_iff es cl).1 h).2.2
theorem MapL.apart (h : MapL w k b E) : E.Pairwise (fun x y => x.1 ≠ y.1) := by
  obtain ⟨es, cl, _, hs, _, hp⟩ := h
  exact (hp.pairwise_iff (fun {a b} (h : a.1 ≠ b.1) => h.symm)).1 (stamped_keys hs)
theorem mem_ents {es : Array MapEntry} {e : MapEntry} (h : e ∈ es.toList) : (e.key, e.val) ∈ ents es := List.mem_map.2 ⟨e, h, rfl⟩
theorem one_of {l : List (Value × Value)} (h : l.Pairwise (fun x y => x.1 ≠ y.1)) {x y : Value × Value} (hx : x ∈ l) (hy : y ∈ l) (e : x.1 = y.1) : x = y := by
  induction l with
  | nil => cases hx
  | cons a r ih =>
    obtain ⟨h1, h2⟩ := List.pairwise_cons.1 h
    rcases List.mem_cons.1 hx with rfl | hx' <;> rcases List.mem_cons.1 hy with rfl | hy'
    · rfl
    · exact absurd e (h1 _ hy')
    · exact absurd e.symm (h1 _ hx')
    · exact ih h2 hx' hy'
/-- m[key], the key there. -/
theorem MapL.look_old (h : MapL w k b E) (K : Keyed Try.prog k) {t e : TypeId} (ht : Try.prog.underlying t = some (.map k e)) (c : Bool) {key v : Value} (hkey : IsKey k key) (hm : (key, v) ∈ E) :
    (Instr.lookup t (.map (some b)) key c).run Try.prog w = .ok (if c then .tuple #[v, .bool true] else v) w := by
  obtain ⟨es, cl, hb, hs, hk, hp⟩ := h
  obtain ⟨l, hl⟩ := hkey
  have hm' := hp.mem_iff.2 hm
  rcases K.find w hl es.toList hk with ⟨h1, h2⟩ | ⟨j, e0, h1, h2, h3⟩
  · obtain ⟨x, hx, hxe⟩ := List.mem_map.1 hm'
    simp only [Prod.mk.injEq] at hxe
    exact absurd hxe.1 (h2 x hx)
  · have := one_of (stamped_keys hs) (mem_ents (List.mem_of_getElem? h2)) hm' h3
    simp only [Prod.mk.injEq] at this
    obtain ⟨_, rfl⟩ := this
    simp [Instr.lookup, run_underlying ht, MapKept.run_getObj_map hb, K.check w _ hl, h1, Result.andThen]
/-- m[key], the key not there. -/
theorem MapL.look_new (h : MapL w k b E) (K : Keyed Try.prog k) {t e : TypeId} (ht : Try.prog.underlying t = some (.map k e)) {z : Value} (hz : (zeroValue e).run Try.prog w = .ok z w) (c : Bool) {key : Value} (hkey : IsKey k key) (hm : ∀ v, (key, v) ∉ E) :
    (Instr.lookup t (.map (some b)) key c).run Try.prog w = .ok (if c then .tuple #[z, .bool false] else z) w := by
  obtain ⟨es, cl, hb, hs, hk, hp⟩ := h
  obtain ⟨l, hl⟩ := hkey
  rcases K.find w hl es.toList hk with ⟨h1, h2⟩ | ⟨j, e0, h1, h2, h3⟩
  · simp [Instr.lookup, run_underlying ht, MapKept.run_getObj_map hb, K.check w _ hl, h1, hz, Result.andThen]
  · exact absurd (hp.mem_iff.1 (mem_ents (List.mem_of_getElem? h2))) (h3 ▸ hm e0.val)
theorem grown_setBlock {es : Array MapEntry} {cl : Nat} (hb : w.heap[b]? = some (.map es cl)) (o : Obj) : w.grownBy (setBlock w b o) (some b) :=
  ⟨rfl, rfl, rfl, by simp [setBlock], fun i _ hi => heap_setBlock_other hb _ (fun e => hi (by rw [e]))⟩
/-- m[key] = val, a new key. -/
theorem MapL.put_new (h : MapL w k b E) (K : Keyed Try.prog k) {t e : TypeId} (ht : Try.prog.underlying t = some (.map k e)) {key : Value} (val : Value) (hkey : IsKey k key) (hm : ∀ v, (key, v) ∉ E) :
    ∃ w', (Instr.mapUpdate t (.map (some b)) key val).run Try.prog w = .ok () w' ∧ MapL w' k b ((key, val) :: E) ∧ w.grownBy w' (some b) := by
  obtain ⟨es, cl, hb, hs, hk, hp⟩ := h
  have hkey' := hkey
  obtain ⟨l, hl⟩ := hkey
  rcases K.find w hl es.toList hk with ⟨h1, h2⟩ | ⟨j, e0, h1, h2, h3⟩
  · refine ⟨setBlock w b (.map (es.push ⟨key, val, cl⟩) (cl + 1)), ?_, ⟨_, _, heap_setBlock_same hb _, stamped_push hs h2, ?_, ?_⟩, grown_setBlock hb _⟩
    · simp [Instr.mapUpdate, run_underlying ht, MapKept.run_getObj_map hb, K.check w false hl, h1, MapKept.run_setObj_map _ hb, Result.andThen, setBlock]
    · intro x hx
      simp only [Array.toList_push, List.mem_append, List.mem_singleton] at hx
      rcases hx with hx | rfl
      · exact hk x hx
      · exact hkey'
    · simp only [ents, Array.toList_push, List.map_append, List.map_cons, List.map_nil]
      exact List.perm_append_singleton _ _ |>.trans (hp.cons _)
  · exact absurd (hp.mem_iff.1 (mem_ents (List.mem_of_getElem? h2))) (h3 ▸ hm e0.val)
theorem modify_list {es : Array MapEntry} {j : Nat} {e0 : MapEntry} (h : es.toList[j]? = some e0) (f : MapEntry → MapEntry) : (es.modify j f).toList = es.toList.set j (f e0) := by
  rw [Array.toList_modify, ChangeMaps.modify_eq_set _ _ _ _ h]
theorem set_perm' {α : Type} (l : List α) (j : Nat) (a b : α) (h : l[j]? = some a) {r : List α} (hp : l.Perm (a :: r)) : (l.set j b).Perm (b :: r) := by
  obtain ⟨hj, rfl⟩ := List.getElem?_eq_some_iff.1 h
  have h1 : (l.set j b).Perm (b :: l.eraseIdx j) := ChangeMaps.set_perm l j hj b
  have h2 : l.Perm (l[j] :: l.eraseIdx j) := by
    have := ChangeMaps.set_perm l j hj l[j]
    rwa [List.set_getElem_self] at this
  exact h1.trans ((h2.symm.trans hp).cons_inv.cons b)
/-- m[key] = val, an old key. -/
theorem MapL.put_old (h : MapL w k b E) (K : Keyed Try.prog k) {t e : TypeId} (ht : Try.prog.underlying t = some (.map k e)) {key v0 : Value} (val : Value) (hkey : IsKey k key) {R : List (Value × Value)} (hR : E.Perm ((key, v0) :: R)) :
    ∃ w', (Instr.mapUpdate t (.map (some b)) key val).run Try.prog w = .ok () w' ∧ MapL w' k b ((key, val) :: R) ∧ w.grownBy w' (some b) := by
  obtain ⟨es, cl, hb, hs, hk, hp⟩ := h
  have hkey' := hkey
  obtain ⟨l, hl⟩ := hkey
  have hm' : (key, v0) ∈ ents es := (hp.trans hR).mem_iff.2 List.mem_cons_self
  rcases K.find w hl es.toList hk with ⟨h1, h2⟩ | ⟨j, e0, h1, h2, h3⟩
  · obtain ⟨x, hx, hxe⟩ := List.mem_map.1 hm'
    simp only [Prod.mk.injEq] at hxe
    exact absurd hxe.1 (h2 x hx)
  · have hj : es[j]? = some e0 := by simpa using h2
    have hone := one_of (stamped_keys hs) (mem_ents (List.mem_of_getElem? h2)) hm' h3
    have hlist := modify_list h2 (fun e' => { e' with key := key, val := val })
    refine ⟨setBlock w b (.map (es.modify j (fun e' => { e' with key := key, val := val })) cl), ?_, ⟨_, _, heap_setBlock_same hb _, stamped_modify hs _ _ (fun _ _ => rfl) (fun e' _ he' => by rw [hj] at he'; cases he'; exact h3.symm), ?_, ?_⟩, grown_setBlock hb _⟩
    · simp [Instr.mapUpdate, run_underlying ht, MapKept.run_getObj_map hb, K.check w false hl, h1, hj, h3, K.stays w hl, MapKept.run_setObj_map _ hb, Result.andThen, setBlock]
    · intro x hx
      rw [hlist] at hx
      rcases List.mem_or_eq_of_mem_set hx with hx | rfl
      · exact hk x hx
      · exact hkey'
    · unfold ents
      rw [hlist, List.map_set]
      refine set_perm' _ j (e0.key, e0.val) (key, val) (by rw [List.getElem?_map, h2]; rfl) ?_
      rw [show (e0.key, e0.val) = (key, v0) from hone]
      exact hp.trans hR
/-- m[key] = val. -/
theorem MapL.put (h : MapL w k b E) (K : Keyed Try.prog k) {t e : TypeId} (ht : Try.prog.underlying t = some (.map k e)) {key : Value} (val : Value) (hkey : IsKey k key) :
    ∃ w' E', (Instr.mapUpdate t (.map (some b)) key val).run Try.prog w = .ok () w' ∧ MapL w' k b E' ∧ w.grownBy w' (some b) ∧ ∀ x ∈ E', x = (key, val) ∨ x ∈ E := by
  by_cases hm : ∃ v, (key, v) ∈ E
  · obtain ⟨v0, hv⟩ := hm
    obtain ⟨l1, l2, rfl⟩ := List.append_of_mem hv
    have hp : (l1 ++ (key, v0) :: l2).Perm ((key, v0) :: (l1 ++ l2)) := List.perm_middle
    obtain ⟨w', h1, h2, h3⟩ := h.put_old K ht val hkey hp
    refine ⟨w', _, h1, h2, h3, fun x hx => ?_⟩
    rcases List.mem_cons.1 hx with rfl | hx
    · exact .inl rfl
    · exact .inr (hp.mem_iff.2 (List.mem_cons_of_mem _ hx))
  · obtain ⟨w', h1, h2, h3⟩ := h.put_new K ht val hkey (fun v hv => hm ⟨v, hv⟩)
    refine ⟨w', _, h1, h2, h3, fun x hx => ?_⟩
    rcases List.mem_cons.1 hx with rfl | hx
    · exact .inl rfl
    · exact .inr hx
/-- delete(m, key), the key there. -/
theorem MapL.del_old (h : MapL w k b E) (K : Keyed Try.prog k) {t e ty : TypeId} (ht : Try.prog.underlying t = some (.map k e)) {key v0 : Value} (hkey : IsKey k key) {R : List (Value × Value)} (hR : E.Perm ((key, v0) :: R)) :
    ∃ w', (Builtin.delete_ #[t, k] ty #[.map (some b), key]).run Try.prog w = .ok (.tuple #[]) w' ∧ MapL w' k b R ∧ w.grownBy w' (some b) := by
  obtain ⟨es, cl, hb, hs, hk, hp⟩ := h
  obtain ⟨l, hl⟩ := hkey
  have hm' : (key, v0) ∈ ents es := (hp.trans hR).mem_iff.2 List.mem_cons_self
  rcases K.find w hl es.toList hk with ⟨h1, h2⟩ | ⟨j, e0, h1, h2, h3⟩
  · obtain ⟨x, hx, hxe⟩ := List.mem_map.1 hm'
    simp only [Prod.mk.injEq] at hxe
    exact absurd hxe.1 (h2 x hx)
  · have hone := one_of (stamped_keys hs) (mem_ents (List.mem_of_getElem? h2)) hm' h3
    have hjs : j < es.size := by simpa using (List.getElem?_eq_some_iff.1 h2).1
    have hlist : (es.eraseIdxIfInBounds j).toList = es.toList.eraseIdx j := by
      unfold Array.eraseIdxIfInBounds
      rw [dif_pos hjs]
      simp
    refine ⟨setBlock w b (.map (es.eraseIdxIfInBounds j) cl), ?_, ⟨_, _, heap_setBlock_same hb _, stamped_erase hs j, ?_, ?_⟩, grown_setBlock hb _⟩
    · simp [Builtin.delete_, run_underlying ht, MapKept.run_getObj_map hb, K.check w _ hl, h1, MapKept.run_setObj_map _ hb, Result.andThen, setBlock]
    · intro x hx
      rw [hlist] at hx
      exact hk x ((List.eraseIdx_sublist _ _).subset hx)
    · unfold ents
      rw [hlist, ChangeMaps.map_eraseIdx]
      have hgj : (es.toList.map fun e => (e.key, e.val))[j]? = some (key, v0) := by rw [List.getElem?_map, h2]; exact congrArg some hone
      obtain ⟨hj', hje⟩ := List.getElem?_eq_some_iff.1 hgj
      have h2' := ChangeMaps.set_perm (es.toList.map fun e => (e.key, e.val)) j hj' (key, v0)
      rw [← hje, List.set_getElem_self, hje] at h2'
      exact (h2'.symm.trans (hp.trans hR)).cons_inv
/-- delete(m, key), the key not there. -/
theorem MapL.del_new (h : MapL w k b E) (K : Keyed Try.prog k) {t e ty : TypeId} (ht : Try.prog.underlying t = some (.map k e)) {key : Value} (hkey : IsKey k key) (hm : ∀ v, (key, v) ∉ E) :
    ∃ w', (Builtin.delete_ #[t, k] ty #[.map (some b), key]).run Try.prog w = .ok (.tuple #[]) w' ∧ MapL w' k b E ∧ w.grownBy w' (some b) := by
  obtain ⟨es, cl, hb, hs, hk, hp⟩ := h
  obtain ⟨l, hl⟩ := hkey
  rcases K.find w hl es.toList hk with ⟨h1, h2⟩ | ⟨j, e0, h1, h2, h3⟩
  · refine ⟨setBlock w b (.map es cl), ?_, ⟨_, _, heap_setBlock_same hb _, hs, hk, hp⟩, grown_setBlock hb _⟩
    simp [Builtin.delete_, run_underlying ht, MapKept.run_getObj_map hb, K.check w _ hl, h1, MapKept.run_setObj_map _ hb, Result.andThen, setBlock]
  · exact absurd (hp.mem_iff.1 (mem_ents (List.mem_of_getElem? h2))) (h3 ▸ hm e0.val)
end
end Go.Proofs.Ytgfjkpnaabiecaa
namespace Go.Proofs.Ytgfjkpnaabiecaa
open Go.RowKit Go.Proofs.YtgfjkpnaabiecaaW.PrintWords
/-- Of w's blocks those of S alone may have turned. -/
structure Only (S : List Nat) (w w' : World) : Prop where
  os : w'.os = w.os
  tape : w'.tape = w.tape
  output : w'.output = w.output
  size : w.heap.size ≤ w'.heap.size
  block : ∀ k, k < w.heap.size → k ∉ S → w'.heap[k]? = w.heap[k]?
namespace Only
variable {S S' : List Nat} {w w1 w2 w3 : World} {B b : Nat}
theorem refl (S : List Nat) (w : World) : Only S w w := ⟨rfl, rfl, rfl, Nat.le_refl _, fun _ _ _ => rfl⟩
theorem trans (h : Only S w w1) (k : Only S w1 w2) : Only S w w2 :=
  ⟨k.os.trans h.os, k.tape.trans h.tape, k.output.trans h.output, Nat.le_trans h.size k.size, fun i hi hn => (k.block i (Nat.lt_of_lt_of_le hi h.size) hn).trans (h.block i hi hn)⟩
theorem then_ (h : Only S w w1) (k : Only S' w1 w2) (hS : ∀ i ∈ S', i ∈ S ∨ w.heap.size ≤ i) : Only S w w2 :=
  ⟨k.os.trans h.os, k.tape.trans h.tape, k.output.trans h.output, Nat.le_trans h.size k.size, fun i hi hn => (k.block i (Nat.lt_of_lt_of_le hi h.size) (fun hm => by
    rcases hS i hm with h1 | h1
    · exact hn h1
    · omega)).trans (h.block i hi hn)⟩
theorem mono (h : Only S w w1) (hS : ∀ i ∈ S, i ∈ S' ∨ w.heap.size ≤ i) : Only S' w w1 :=
  ⟨h.os, h.tape, h.output, h.size, fun i hi hn => h.block i hi (fun hm => by
    rcases hS i hm with h1 | h1
    · exact hn h1
    · omega)⟩
theorem of_below (S : List Nat) (h : Below w.heap.size w w1) : Only S w w1 := ⟨h.os, h.tape, h.output, h.size, fun i hi _ => h.block i hi⟩
theorem on (h : Only S w w1) (k : Below w1.heap.size w1 w2) : Only S w w2 := h.trans (of_below S k)
theorem below (h : Only S w w1) (hS : ∀ i ∈ S, B ≤ i) (hB : B ≤ w.heap.size) : Below B w w1 :=
  ⟨h.os, h.tape, h.output, h.size, fun i hi => h.block i (Nat.lt_of_lt_of_le hi hB) (fun hm => by have := hS i hm; omega)⟩
theorem alloc (h : Only S w w1) (o : Obj) : Only S w (w1.alloc o) := h.on (below_alloc (Below.refl _ _) o)
theorem drew (h : Only S w w1) : Only S w w1.drew := ⟨h.os, h.tape, h.output, h.size, h.block⟩
theorem set (h : Only S w w1) {p : Addr} (u : Value) (hp : p.block ∈ S ∨ w.heap.size ≤ p.block) : Only S w (w1.setCell p u) :=
  h.then_ (S' := [p.block]) ⟨rfl, rfl, rfl, by simp [World.setCell], fun k _ hk => Below.heap_setCell _ _ _ _ (fun e => hk (by simp [e]))⟩ (fun i hi => by simp at hi; rw [hi]; exact hp)
theorem grown (h : Only S w w1) {row : Option Nat} (hg : w1.grownBy w2 row) (hr : ∀ k, row = some k → k ∈ S ∨ w.heap.size ≤ k) : Only S w w2 :=
  ⟨hg.os.trans h.os, hg.tape.trans h.tape, hg.output.trans h.output, Nat.le_trans h.size hg.size, fun i hi hn => (hg.block i (Nat.lt_of_lt_of_le hi h.size) (fun e => by
    rcases hr i e.symm with h1 | h1
    · exact hn h1
    · omega)).trans (h.block i hi hn)⟩
theorem cell (h : Only S w w1) {p : Addr} (hp : p.block < w.heap.size) (hn : p.block ∉ S) : w1.cell? p = w.cell? p := World.cell?_of_block (w := w) (h.block p.block hp hn)
theorem frozen (h : Only S w w1) {p : Addr} (hp : p.block < w.heap.size) (hn : p.block ∉ S) : w1.frozen? p = w.frozen? p := World.frozen?_of_block (w := w) (h.block p.block hp hn)
end Only
theorem Blk.only {S : List Nat} {w w1 : World} {b : Nat} {cs : List Value} (h : Blk w b cs) (k : Only S w w1) (hn : b ∉ S) : Blk w1 b cs :=
  ⟨Nat.lt_of_lt_of_le h.1 k.size, fun i v e => ⟨by rw [k.cell (p := ⟨b, i, none⟩) h.1 hn]; exact (h.2 i v e).1, by rw [k.frozen (p := ⟨b, i, none⟩) h.1 hn]; exact (h.2 i v e).2⟩⟩
theorem MapL.only {S : List Nat} {w w1 : World} {k : TypeId} {b : Nat} {E : List (Value × Value)} (h : MapL w k b E) (o : Only S w w1) (hn : b ∉ S) : MapL w1 k b E := h.move (o.block b h.lt hn)
theorem Foot.only {P : World → Prop} {w w1 : World} {ok : Nat → Prop} {S : List Nat} (h : Foot P w ok) (k : Only S w w1) (hn : ∀ i, ok i → i ∉ S) : Foot P w1 ok := Foot.step h (fun i hi hlt => k.block i hlt (hn i hi))
theorem FK_only {α : Type} {d : Kd α} {w w1 : World} {ok : Nat → Prop} {S : List Nat} {x : α} {c : List Value} (h : Kd.FK d w ok x c) (k : Only S w w1) (hn : ∀ i, ok i → i ∉ S) : Kd.FK d w1 ok x c := Foot.only h k hn
theorem kU8_in' {w : World} {A : Option Addr} {n : Nat} {ok : Nat → Prop} {xs : List UInt8} (h : kU8.C w A n xs) (hA : 0 < n → ∀ ad, A = some ad → ok ad.block) : Foot (fun W => kU8.C W A n xs) w ok := by
  intro W' hW
  obtain ⟨h1, h2, h3⟩ := h
  refine ⟨h1, h2, fun hn => ?_⟩
  obtain ⟨ad, e, hc⟩ := h3 hn
  refine ⟨ad, e, fun j p hj => ?_⟩
  obtain ⟨cs, k1, k2, k3⟩ := hc j p hj
  refine ⟨cs, k1, k2, fun q u hq => ?_⟩
  have hx := k3 q u hq
  have hb := World.block_lt_of_cell? w _ hx
  rw [← hx]
  refine World.cell?_of_block (w := w) (hW _ ?_ hb)
  rw [adr_block]
  exact hA hn ad e
/-- Bytes that are read lie in blocks that are there. -/
theorem kU8_old {w : World} {A : Option Addr} {n : Nat} {xs : List UInt8} (h : kU8.C w A n xs) : Foot (fun W => kU8.C W A n xs) w (fun k => k < w.heap.size) := kU8_in' h (fun hn ad e => by
  obtain ⟨ad', e', hc⟩ := h.2.2 hn
  obtain rfl : ad' = ad := Option.some.inj (e'.symm.trans e)
  have hl : xs.length = n := h.1
  have h0 : xs[0]? = some xs[0] := List.getElem?_eq_getElem (by omega)
  obtain ⟨cs, k1, k2, k3⟩ := hc 0 _ h0
  have k2' : cs = [.int .u8 (xs[0].toNat : Int)] := k2
  have := World.block_lt_of_cell? w _ (k3 0 _ (by rw [k2']; rfl))
  rwa [adr_block] at this)
theorem kU8_in {w : World} {A : Option Addr} {n : Nat} {ok : Nat → Prop} {xs : List UInt8} (h : kU8.C w A n xs) (hA : ∀ ad, A = some ad → ok ad.block) : Foot (fun W => kU8.C W A n xs) w ok := by
  intro W' hW
  obtain ⟨h1, h2, h3⟩ := h
  refine ⟨h1, h2, fun hn => ?_⟩
  obtain ⟨ad, e, hc⟩ := h3 hn
  refine ⟨ad, e, fun j p hj => ?_⟩
  obtain ⟨cs, k1, k2, k3⟩ := hc j p hj
  refine ⟨cs, k1, k2, fun q u hq => ?_⟩
  have hx := k3 q u hq
  have hb := World.block_lt_of_cell? w _ hx
  rw [← hx]
  refine World.cell?_of_block (w := w) (hW _ ?_ hb)
  rw [adr_block]
  exact hA ad e
/-- Block k holds cells of type t. -/
def Ty (w : World) (t : TypeId) (k : Nat) : Prop := ∃ cells fr, w.heap[k]? = some (.cells cells t fr)
namespace Ty
variable {w w1 : World} {t t' : TypeId} {k : Nat} {S : List Nat}
theorem lt (h : Ty w t k) : k < w.heap.size := by obtain ⟨c, fr, h⟩ := h; exact (Array.getElem?_eq_some_iff.1 h).1
theorem only (h : Ty w t k) (o : Only S w w1) (hk : k ∉ S) : Ty w1 t k := by
  have hl := h.lt
  obtain ⟨c, fr, h⟩ := h
  exact ⟨c, fr, (o.block k hl hk).trans h⟩
theorem below (h : Ty w t k) (o : Below w.heap.size w w1) : Ty w1 t k := h.only (S := []) (Only.of_below [] o) (by simp)
theorem ne (h : Ty w t k) (hn : t ≠ t') : ¬ Ty w t' k := by
  obtain ⟨c, fr, h⟩ := h
  rintro ⟨c', fr', h'⟩
  rw [h] at h'
  injection h' with h'
  injection h' with _ h'
  exact hn h'
theorem set (h : Ty w t k) (p : Addr) (u : Value) : Ty (w.setCell p u) t k := by
  obtain ⟨c, fr, h⟩ := h
  simp only [Ty, World.setCell, Array.getElem?_modify]
  by_cases e : p.block = k
  · rw [if_pos e, h]; exact ⟨_, _, rfl⟩
  · rw [if_neg e, h]; exact ⟨_, _, rfl⟩
theorem new (w : World) (cs : Array Value) (t : TypeId) (fr : Nat × Nat) : Ty (w.alloc (.cells cs t fr)) t w.heap.size := ⟨cs, fr, heap_alloc_new w _⟩
end Ty
theorem Ty.drew {w : World} {t : TypeId} {k : Nat} (h : Ty w t k) : Ty w.drew t k := h
theorem MapL.noTy {w : World} {k t : TypeId} {b : Nat} {E : List (Value × Value)} (h : MapL w k b E) : ¬ Ty w t b := by
  obtain ⟨es, cl, hb, _⟩ := h
  rintro ⟨c, fr, h'⟩
  rw [hb] at h'
  injection h' with h'
  cases h'
/-- A thing whose parts lie in blocks of bytes. -/
def BK {α : Type} (d : Kd α) (w : World) (x : α) (c : List Value) : Prop := Kd.FK d w (Ty w 5) x c
namespace BK
variable {α : Type} {d : Kd α} {w w1 : World} {S : List Nat} {x : α} {c : List Value}
theorem only (h : BK d w x c) (o : Only S w w1) (hS : ∀ i ∈ S, ¬ Ty w 5 i) : BK d w1 x c :=
  Kd.FK_mono (Kd.FK_bound (Foot.step h (fun i hi hlt => o.block i hlt (fun hm => hS i hm hi)))) (fun i hi => hi.1.only o (fun hm => hS i hm hi.1))
theorem below (h : BK d w x c) (o : Below w.heap.size w w1) : BK d w1 x c := h.only (S := []) (Only.of_below [] o) (by simp)
theorem now (h : BK d w x c) : d.K w x c := Kd.FK_now h
end BK
section
variable {ops : Array Oper} {rest : List Oper} {o : Oper} {a : Act} {Q : Exit → Act → World → Prop} {W : World} {K : Act → World → Prop} {E : Prop}
/-- A copy's bytes: what is new, and of bytes. -/
def NewB (W w' : World) (A : Option Addr) : Prop := ∀ ad, A = some ad → W.heap.size ≤ ad.block ∧ Ty w' 5 ad.block
theorem NewB.own {α : Type} {R : α → List Value → Prop} {size : Nat} {W w' : World} {A : Option Addr} {n c : Nat} {xs : List α} (h : OwnRow R 5 size w' W.heap.size (.slice A n c) xs) : NewB W w' A := by
  obtain ⟨inner, ho, hr⟩ := h
  have hba := own_base ho
  have hty := own_typed ho
  rintro ad rfl
  obtain ⟨cells, hc⟩ := hty ad.block rfl
  exact ⟨hba ad.block rfl, cells, (0, 0), hc⟩
theorem ownB_copy (hgd : o.guard = none) (s x : Operand) (ho : o.op = .call { callee := .builtin .append, args := #[s, x], argTypes := #[33, 33] })
    (hs : a.eval s = .slice none 0 0) {A : Option Addr} {c : Nat} {xs : List UInt8} (hx : a.eval x = .slice A xs.length c) (HR : kU8.C W A xs.length xs) (hl : xs.length ≤ 140737488355328)
    (h : ∀ A' c' w', xs.length ≤ c' → kU8.C w' A' xs.length xs → NewB W w' A' → Below W.heap.size W w' → wpList Try.prog ops Q rest (a.put o.dst (.slice A' xs.length c')) w') :
    wpList Try.prog ops Q (o :: rest) a W := by
  refine own_append_rows (w0 := W) (R := fun x cs => kU8.K W x cs) W.heap.size hgd s x 33 5 (.int .u8 0) 1 1 ho Try.underlying33 info8 rfl (by omega) (by omega) (.slice none 0 0) [] xs A xs.length c hs hx (OwnRow.none_ _ _ _ _ _) HR (fun x cs h => kU8.K_one h) (Below.refl _ _) (Nat.le_refl _) (by simp; exact hl) ?_
  intro v1 w1 ho1 hb1 _ _
  rw [List.nil_append] at ho1
  obtain ⟨A', c', rfl, hc, hr⟩ := OwnRow.reads ho1
  exact h A' c' w1 hc hr (NewB.own ho1) hb1
end
/-- All is as it was, but for new blocks, and cell j of block p. -/
def Mod (W : World) (p j : Nat) (w : World) : Prop := Only [p] W w ∧ (∀ i, i ≠ j → w.cell? ⟨p, i, none⟩ = W.cell? ⟨p, i, none⟩) ∧ (∀ i, w.frozen? ⟨p, i, none⟩ = W.frozen? ⟨p, i, none⟩) ∧ ∀ t, Ty W t p → Ty w t p
namespace Mod
variable {W w w1 : World} {p j : Nat}
theorem refl (W : World) (p j : Nat) : Mod W p j W := ⟨Only.refl _ _, fun _ _ => rfl, fun _ => rfl, fun _ h => h⟩
theorem drew (h : Mod W p j w) : Mod W p j w.drew := ⟨h.1.drew, h.2.1, h.2.2.1, fun t k => h.2.2.2 t k⟩
theorem below (h : Mod W p j w) (hp : p < W.heap.size) (k : Below w.heap.size w w1) : Mod W p j w1 :=
  ⟨h.1.on k, fun i hi => (k.cell (p := ⟨p, i, none⟩) (Nat.lt_of_lt_of_le hp h.1.size)).trans (h.2.1 i hi), fun i => (k.frozen (p := ⟨p, i, none⟩) (Nat.lt_of_lt_of_le hp h.1.size)).trans (h.2.2.1 i), fun t ht => (h.2.2.2 t ht).below k⟩
theorem set (h : Mod W p j w) (u : Value) : Mod W p j (w.setCell ⟨p, j, none⟩ u) :=
  ⟨h.1.set u (.inl (by simp)), fun i hi => (World.cell?_setCell_other _ _ _ _ (fun e => hi (by injection e with _ e _; exact e.symm))).trans (h.2.1 i hi), fun i => (World.frozen?_setCell ..).trans (h.2.2.1 i), fun t ht => (h.2.2.2 t ht).set _ _⟩
theorem cell (h : Mod W p j w) {i : Nat} {v : Value} (hi : i ≠ j) (hc : W.cell? ⟨p, i, none⟩ = some v) : w.cell? ⟨p, i, none⟩ = some v := (h.2.1 i hi).trans hc
theorem far (h : Mod W p j w) {b i : Nat} {v : Value} (hb : b ≠ p) (hc : W.cell? ⟨b, i, none⟩ = some v) : w.cell? ⟨b, i, none⟩ = some v :=
  (h.1.cell (p := ⟨b, i, none⟩) (World.block_lt_of_cell? W _ hc) (by simp; exact hb)).trans hc
theorem blk {cs : List Value} (m : Mod W p j w) (h : Blk W p cs) (hj : ∀ v, cs[j]? = some v → w.cell? ⟨p, j, none⟩ = some v) : Blk w p cs :=
  ⟨Nat.lt_of_lt_of_le h.1 m.1.size, fun i v e => ⟨by
    by_cases hi : i = j
    · subst hi; exact hj v e
    · exact m.cell hi (h.2 i v e).1, (m.2.2.1 i).trans (h.2 i v e).2⟩⟩
end Mod
/-- All cells of a block, as the walk wants them. -/
theorem Blk.six {w : World} {b : Nat} {v0 v1 v2 v3 v4 v5 : Value} (h : Blk w b [v0, v1, v2, v3, v4, v5]) :
    (w.cell? ⟨b, 0, none⟩ = some v0 ∧ w.cell? ⟨b, 1, none⟩ = some v1 ∧ w.cell? ⟨b, 2, none⟩ = some v2 ∧ w.cell? ⟨b, 3, none⟩ = some v3 ∧ w.cell? ⟨b, 4, none⟩ = some v4 ∧ w.cell? ⟨b, 5, none⟩ = some v5) ∧
    (w.frozen? ⟨b, 0, none⟩ = false ∧ w.frozen? ⟨b, 1, none⟩ = false ∧ w.frozen? ⟨b, 2, none⟩ = false ∧ w.frozen? ⟨b, 3, none⟩ = false ∧ w.frozen? ⟨b, 4, none⟩ = false ∧ w.frozen? ⟨b, 5, none⟩ = false) :=
  ⟨⟨h.cell 0 rfl, h.cell 1 rfl, h.cell 2 rfl, h.cell 3 rfl, h.cell 4 rfl, h.cell 5 rfl⟩, h.frozen 0 rfl, h.frozen 1 rfl, h.frozen 2 rfl, h.frozen 3 rfl, h.frozen 4 rfl, h.frozen 5 rfl⟩
theorem Blk.eight {w : World} {b : Nat} {v0 v1 v2 v3 v4 v5 v6 v7 : Value} (h : Blk w b [v0, v1, v2, v3, v4, v5, v6, v7]) :
    (w.cell? ⟨b, 0, none⟩ = some v0 ∧ w.cell? ⟨b, 1, none⟩ = some v1 ∧ w.cell? ⟨b, 2, none⟩ = some v2 ∧ w.cell? ⟨b, 3, none⟩ = some v3 ∧ w.cell? ⟨b, 4, none⟩ = some v4 ∧ w.cell? ⟨b, 5, none⟩ = some v5 ∧ w.cell? ⟨b, 6, none⟩ = some v6 ∧ w.cell? ⟨b, 7, none⟩ = some v7) ∧
    (w.frozen? ⟨b, 0, none⟩ = false ∧ w.frozen? ⟨b, 1, none⟩ = false ∧ w.frozen? ⟨b, 2, none⟩ = false ∧ w.frozen? ⟨b, 3, none⟩ = false ∧ w.frozen? ⟨b, 4, none⟩ = false ∧ w.frozen? ⟨b, 5, none⟩ = false ∧ w.frozen? ⟨b, 6, none⟩ = false ∧ w.frozen? ⟨b, 7, none⟩ = false) :=
  ⟨⟨h.cell 0 rfl, h.cell 1 rfl, h.cell 2 rfl, h.cell 3 rfl, h.cell 4 rfl, h.cell 5 rfl, h.cell 6 rfl, h.cell 7 rfl⟩, h.frozen 0 rfl, h.frozen 1 rfl, h.frozen 2 rfl, h.frozen 3 rfl, h.frozen 4 rfl, h.frozen 5 rfl, h.frozen 6 rfl, h.frozen 7 rfl⟩
theorem Blk.nine {w : World} {b : Nat} {v0 v1 v2 v3 v4 v5 v6 v7 v8 : Value} (h : Blk w b [v0, v1, v2, v3, v4, v5, v6, v7, v8]) :
    (w.cell? ⟨b, 0, none⟩ = some v0 ∧ w.cell? ⟨b, 1, none⟩ = some v1 ∧ w.cell? ⟨b, 2, none⟩ = some v2 ∧ w.cell? ⟨b, 3, none⟩ = some v3 ∧ w.cell? ⟨b, 4, none⟩ = some v4 ∧ w.cell? ⟨b, 5, none⟩ = some v5 ∧ w.cell? ⟨b, 6, none⟩ = some v6 ∧ w.cell? ⟨b, 7, none⟩ = some v7 ∧ w.cell? ⟨b, 8, none⟩ = some v8) ∧
    (w.frozen? ⟨b, 0, none⟩ = false ∧ w.frozen? ⟨b, 1, none⟩ = false ∧ w.frozen? ⟨b, 2, none⟩ = false ∧ w.frozen? ⟨b, 3, none⟩ = false ∧ w.frozen? ⟨b, 4, none⟩ = false ∧ w.frozen? ⟨b, 5, none⟩ = false ∧ w.frozen? ⟨b, 6, none⟩ = false ∧ w.frozen? ⟨b, 7, none⟩ = false ∧ w.frozen? ⟨b, 8, none⟩ = false) :=
  ⟨⟨h.cell 0 rfl, h.cell 1 rfl, h.cell 2 rfl, h.cell 3 rfl, h.cell 4 rfl, h.cell 5 rfl, h.cell 6 rfl, h.cell 7 rfl, h.cell 8 rfl⟩, h.frozen 0 rfl, h.frozen 1 rfl, h.frozen 2 rfl, h.frozen 3 rfl, h.frozen 4 rfl, h.frozen 5 rfl, h.frozen 6 rfl, h.frozen 7 rfl, h.frozen 8 rfl⟩
end Go.Proofs.Ytgfjkpnaabiecaa
set_option linter.unusedVariables false
set_option linter.unusedSimpArgs false
namespace Go.Proofs.Ytgfjkpnaabiecaa
open Go.RowKit Go.Proofs.YtgfjkpnaabiecaaW.PrintWords
namespace Hash
def stepN (h c : Nat) : Nat := ((h ^^^ c) * 1099511628211) % 18446744073709551616
def foldN (h : Nat) : Nat := h ^^^ h / 8589934592
def stirN (h : Nat) : Nat := foldN (foldN (foldN h * 18397679294719823053 % 18446744073709551616) * 14181476777654086739 % 18446744073709551616)
def foldB (f : Nat → Nat → Nat) (h : Nat) (l : List UInt8) : Nat := l.foldl (fun h c => f h c.toNat) h
theorem foldB_append (f : Nat → Nat → Nat) (h : Nat) (a b : List UInt8) : foldB f h (a ++ b) = foldB f (foldB f h a) b := List.foldl_append
theorem foldB_snoc (f : Nat → Nat → Nat) (h : Nat) {l : List UInt8} {k : Nat} {x : UInt8} (hx : l[k]? = some x) : foldB f h (l.take (k + 1)) = f (foldB f h (l.take k)) x.toNat := by
  rw [List.take_add_one, hx, foldB_append]; rfl
theorem foldB_flat (f : Nat → Nat → Nat) (h : Nat) {l : List (List UInt8)} {k : Nat} {x : List UInt8} (hx : l[k]? = some x) : foldB f h (l.take (k + 1)).flatten = foldB f (foldB f h (l.take k).flatten) x := by
  rw [List.take_add_one, hx, List.flatten_append, foldB_append]; simp
def sumB (h : Nat) (l : List UInt8) : Nat := foldB stepN h l
def sum0 (l : List UInt8) : Nat := sumB 14695981039346656037 l
def keyN (s : ByteArray) : Nat := stirN (sum0 s.data.toList)
def bkt (s : ByteArray) (n : Int) : Int := ((keyN s % n.toNat : Nat) : Int)
theorem stepN_lt (h c : Nat) : stepN h c < 18446744073709551616 := Nat.mod_lt _ (by decide)
theorem foldN_lt {h : Nat} (hh : h < 18446744073709551616) : foldN h < 18446744073709551616 := Nat.xor_lt_two_pow (n := 64) (by omega) (by omega)
theorem stirN_lt (h : Nat) : stirN h < 18446744073709551616 := foldN_lt (Nat.mod_lt _ (by decide))
theorem sumB_lt {h : Nat} (l : List UInt8) (hh : h < 18446744073709551616) : sumB h l < 18446744073709551616 := by
  induction l generalizing h with
  | nil => exact hh
  | cons c l ih => exact ih (stepN_lt _ _)
theorem bkt_bd (s : ByteArray) {n : Int} (hn : 1 ≤ n) : 0 ≤ bkt s n ∧ bkt s n < n := by
  unfold bkt
  have : keyN s % n.toNat < n.toNat := Nat.mod_lt _ (by omega)
  omega
theorem bkt_one (s : ByteArray) : bkt s 1 = 0 := by have := bkt_bd s (n := 1) (by omega); omega
theorem step_calls (h c : Nat) (hh : h < 18446744073709551616) (hc : c < 256) (w : World) : Calls Try.prog 100 #[.int .u64 (h : Int), .int .u8 (c : Int)] w fun e w' => e = .returned (.int .u64 ((stepN h c : Nat) : Int)) ∧ w = w' := by
  have e1 : Go.bits .xor .u64 (h : Int) (c : Int) = ((h ^^^ c : Nat) : Int) := bits_xor_u64_nat _ _ hh (by omega)
  have hx : h ^^^ c < 18446744073709551616 := Nat.xor_lt_two_pow (n := 64) (by omega) (by omega)
  have e2 : IntKind.u64.wrap (((h ^^^ c : Nat) : Int) * 1099511628211) = ((stepN h c : Nat) : Int) := by rw [IntKind.wrap_u64]; unfold stepN; omega
  have e3 : IntKind.u64.wrap (c : Int) = (c : Int) := by rw [IntKind.wrap_u64]; omega
  generalize h ^^^ c = x at e1 e2 hx
  generalize stepN h c = y at e2
  go_enter Try.func100, Try.ntmps100
  go_wp2
  go_ret
  exact ⟨rfl, rfl⟩
theorem fold_calls (h : Nat) (hh : h < 18446744073709551616) (w : World) : Calls Try.prog 99 #[.int .u64 (h : Int)] w fun e w' => e = .returned (.int .u64 ((foldN h : Nat) : Int)) ∧ w = w' := by
  have e1 : Go.bits .xor .u64 (h : Int) ((h : Int) / 8589934592) = ((foldN h : Nat) : Int) := xorShift_u64 h 8589934592 hh
  generalize foldN h = y at e1
  go_enter Try.func99, Try.ntmps99
  go_wp2
  go_ret
  exact ⟨rfl, rfl⟩
theorem stir_calls (h : Nat) (hh : h < 18446744073709551616) (w : World) : Calls Try.prog 83 #[.int .u64 (h : Int)] w fun e w' => e = .returned (.int .u64 ((stirN h : Nat) : Int)) ∧ w = w' := by
  obtain ⟨a, ha⟩ : ∃ a, a = foldN h := ⟨_, rfl⟩
  obtain ⟨b, hb⟩ : ∃ b, b = a * 18397679294719823053 % 18446744073709551616 := ⟨_, rfl⟩
  obtain ⟨c, hc⟩ : ∃ c, c = foldN b := ⟨_, rfl⟩
  obtain ⟨d, hd⟩ : ∃ d, d = c * 14181476777654086739 % 18446744073709551616 := ⟨_, rfl⟩
  obtain ⟨x, hx⟩ : ∃ x, x = foldN d := ⟨_, rfl⟩
  have e1 : IntKind.u64.wrap ((a : Int) * 18397679294719823053) = (b : Int) := by rw [IntKind.wrap_u64]; omega
  have e2 : IntKind.u64.wrap ((c : Int) * 14181476777654086739) = (d : Int) := by rw [IntKind.wrap_u64]; omega
  have e : stirN h = x := by rw [hx, hd, hc, hb, ha]; rfl
  have lb : b < 18446744073709551616 := by rw [hb]; exact Nat.mod_lt _ (by decide)
  have ld : d < 18446744073709551616 := by rw [hd]; exact Nat.mod_lt _ (by decide)
  rw [e]
  have H1 := fold_calls h hh
  have H2 := fold_calls b lb
  have H3 := fold_calls d ld
  rw [← ha] at H1
  rw [← hc] at H2
  rw [← hx] at H3
  have H1 := Aside0.mk H1
  have H2 := Aside0.mk H2
  have H3 := Aside0.mk H3
  clear ha hb hc hd hx e
  go_enter Try.func83, Try.ntmps83
  go_wp2_with (first | ((with_reducible refine (H1.out _).mono ?_); rintro e w' ⟨rfl, rfl⟩) | ((with_reducible refine (H2.out _).mono ?_); rintro e w' ⟨rfl, rfl⟩) | ((with_reducible refine (H3.out _).mono ?_); rintro e w' ⟨rfl, rfl⟩))
  go_ret
  exact ⟨rfl, rfl⟩
def kRow : Kd (List UInt8) := Kd.slice 5 kU8
theorem row_at {w : World} {A : Option Addr} {n : Nat} {xs : List (List UInt8)} (h : kRow.C w A n xs) (k : Nat) (h1 : k < n) : ∃ ad x A1 c1, A = some ad ∧ Aside0 (xs[k]? = some x) ∧ w.cell? (ad.add k) = some (.slice A1 x.length c1) ∧ Aside0 (kU8.C w A1 x.length x) := by
  have hl : xs.length = n := h.1
  obtain ⟨ad, c, e, _, hK, hc0⟩ := Kd.C_get h [] (k : Int) (by omega) (by omega)
  have hc : ∀ j u, c[j]? = some u → w.cell? (ad.add (k * 1 + j)) = some u := hc0
  have hx : xs[k]? = some (xs.getD k []) := by simp [List.getD_eq_getElem?_getD, show k < xs.length by omega]
  have hK' : kRow.K w (xs.getD k []) c := hK
  generalize xs.getD k [] = x at hK' hx
  obtain ⟨A1, c1, rfl, l1, g1⟩ := hK'
  exact ⟨ad, x, A1, c1, e, ⟨hx⟩, by have := hc 0 _ rfl; simpa using this, ⟨g1⟩⟩
theorem u8_at {w : World} {A : Option Addr} {n : Nat} {xs : List UInt8} (h : kU8.C w A n xs) (k : Nat) (h1 : k < n) : ∃ ad x, A = some ad ∧ Aside0 (xs[k]? = some x) ∧ w.cell? (ad.add k) = some (.int .u8 (x.toNat : Int)) := by
  have hl : xs.length = n := h.1
  obtain ⟨ad, c, e, _, hK, hc0⟩ := Kd.C_get h 0 (k : Int) (by omega) (by omega)
  have hc : ∀ j u, c[j]? = some u → w.cell? (ad.add (k * 1 + j)) = some u := hc0
  have hx : xs[k]? = some (xs.getD k 0) := by simp [List.getD_eq_getElem?_getD, show k < xs.length by omega]
  have hK' : kU8.K w (xs.getD k 0) c := hK
  generalize xs.getD k 0 = x at hK' hx
  obtain rfl : c = [.int .u8 (x.toNat : Int)] := hK'
  exact ⟨ad, x, e, ⟨hx⟩, by have := hc 0 _ rfl; simpa using this⟩
theorem sumB_snoc {h : Nat} {l : List UInt8} {k : Nat} {x : UInt8} (hx : l[k]? = some x) : sumB h (l.take (k + 1)) = stepN (sumB h (l.take k)) x.toNat := foldB_snoc stepN h hx
theorem flat_snoc {l : List (List UInt8)} {k : Nat} {x : List UInt8} (h : Nat) (hx : l[k]? = some x) : sumB h (l.take (k + 1)).flatten = sumB (sumB h (l.take k).flatten) x := foldB_flat stepN h hx
set_option maxRecDepth 100000 in
theorem sum_calls (A : Option Addr) (c : Nat) (xs : List (List UInt8)) (w : World) (hr : kRow.C w A xs.length xs) :
    Calls Try.prog 84 #[.slice A xs.length c] w fun e w' => e = .returned (.int .u64 ((sum0 xs.flatten : Nat) : Int)) ∧ w = w' := by
  have hm : xs.length ≤ 9223372036854775807 := hr.2.1
  have HR := Aside0.mk hr
  clear hr
  go_enter Try.func84, Try.ntmps84
  go_wp2
  go_step3
  go_wp2
  go_step3
  go_wp2
  go_loop [3, 10] (fun h i => ∃ (k q : Nat), k ≤ xs.length ∧ i = .int .i64 k ∧ h = .int .u64 (q : Int) ∧ q < 18446744073709551616 ∧ Aside0 (q = sumB 14695981039346656037 (xs.take k).flatten)) (fun _ i => xs.length - (intOf i).toNat)
  case atStart => exact ⟨0, 14695981039346656037, Nat.zero_le _, rfl, rfl, by omega, ⟨rfl⟩⟩
  case round =>
    obtain ⟨k, q, hk, rfl, rfl, hq, HQ⟩ := hrel
    by_cases hlt : k < xs.length
    · obtain ⟨ad, x, A1, c1, rfl, HX, hcell, HC⟩ := row_at HR.out k hlt
      have HF := Aside0.mk ((flat_snoc 14695981039346656037 HX.out).trans (by rw [← HQ.out]))
      have hx1 : x.length ≤ 9223372036854775807 := HC.out.2.1
      clear HX HQ
      by_cases h0 : x.length = 0
      · have H0 := Aside0.mk h0
        have hb0 : ((x.length : Int) == 0) = true := by simp [h0]
        clear h0
        go_wp2
        go_round
        case rel => exact ⟨k + 1, q, by omega, by go_num, rfl, hq, ⟨by rw [HF.out, List.eq_nil_of_length_eq_zero H0.out]; rfl⟩⟩
        case measure => simp [intOf]; omega
      · have hb0 : ((x.length : Int) == 0) = false := by simpa using h0
        clear h0
        go_wp2
        go_loop [3, 19] (fun h i => ∃ (j p : Nat), j ≤ x.length ∧ i = .int .i64 j ∧ h = .int .u64 (p : Int) ∧ p < 18446744073709551616 ∧ Aside0 (p = sumB q (x.take j))) (fun _ i => x.length - (intOf i).toNat)
        case atStart => exact ⟨0, q, Nat.zero_le _, rfl, rfl, hq, ⟨rfl⟩⟩
        case round =>
          obtain ⟨j, p, hj, rfl, rfl, hp, HP⟩ := hrel
          by_cases hlj : j < x.length
          · obtain ⟨ad1, y, rfl, HY, hcy⟩ := u8_at HC.out j hlj
            have HS := Aside0.mk ((sumB_snoc (h := q) HY.out).trans (by rw [← HP.out]))
            have hy : y.toNat < 256 := y.toNat_lt
            clear HY HP
            go_wp2_with (first | ((with_reducible refine (step_calls p y.toNat hp hy _).mono ?_); rintro e w' ⟨rfl, rfl⟩))
            go_round
            case rel => exact ⟨j + 1, _, by omega, by go_num, rfl, stepN_lt _ _, ⟨HS.out.symm⟩⟩
            case measure => simp [intOf]; omega
          · obtain rfl : j = x.length := by omega
            go_wp2
            go_round
            case rel => exact ⟨k + 1, p, by omega, by go_num, rfl, hp, ⟨by rw [HF.out, HP.out, List.take_length]⟩⟩
            case measure => simp [intOf]; omega
    · obtain rfl : k = xs.length := by omega
      go_wp2
      go_ret
      exact ⟨by rw [HQ.out, List.take_length]; rfl, rfl⟩
theorem bytes_C (W : World) (s : ByteArray) (hs : s.size ≤ 9223372036854775807) : kU8.C (Lib.bytesWorld W 5 s) (some ⟨W.heap.size, 0, none⟩) s.data.toList.length s.data.toList := by
  refine ⟨rfl, by rw [data_length]; exact hs, fun _ => ⟨_, rfl, fun j p hj => ⟨[.int .u8 (p.toNat : Int)], rfl, rfl, fun i u hu => ?_⟩⟩⟩
  have hjl : j < s.size := by rw [← data_length]; exact (List.getElem?_eq_some_iff.1 hj).1
  obtain rfl : i = 0 := by rcases i with _ | i <;> simp_all
  simp at hu
  subst hu
  rw [show j * kU8.sz + 0 = j from by show j * 1 + 0 = j; omega, add_plain, Lib.bytesWorld_cell W 5 s j hjl]
  have h' : j < s.data.toList.length := by rw [data_length]; exact hjl
  rw [List.getElem?_eq_getElem h'] at hj
  injection hj with hj
  rw [← hj, List.getD_eq_getElem?_getD, List.getElem?_eq_getElem h']
  rfl
theorem row_one {w : World} {g : Nat} {A : Option Addr} {c : Nat} {x : List UInt8} (hg : w.cell? ⟨g, 0, none⟩ = some (.slice A x.length c)) (hl : x.length ≤ c) (h : kU8.C w A x.length x) : kRow.C w (some ⟨g, 0, none⟩) [x].length [x] := by
  refine ⟨rfl, by simp, fun _ => ⟨_, rfl, fun j p hj => ?_⟩⟩
  obtain rfl : j = 0 := by rcases j with _ | j <;> simp_all
  simp at hj
  subst hj
  refine ⟨[.slice A x.length c], rfl, ⟨A, c, rfl, hl, h⟩, fun i u hu => ?_⟩
  obtain rfl : i = 0 := by rcases i with _ | i <;> simp_all
  simp at hu
  subst hu
  rw [add_plain]
  exact hg
set_option maxRecDepth 100000 in
theorem key_calls (s : ByteArray) (w : World) (hs : s.size ≤ 140737488351232) :
    Calls Try.prog 75 #[.string s] w fun e w' => e = .returned (.int .u64 ((keyN s : Nat) : Int)) ∧ Below w.heap.size w w' := by
  have kb := fun W => print_bytes (P := Try.prog) 9 33 5 Try.underlying9 Try.underlying33 Try.underlying5 s W
  have HB := Aside0.mk (below_alloc (bytes_below (Below.refl w.heap.size w) (Nat.le_refl _) 5 s) (.cells #[.slice (some ⟨w.heap.size, 0, none⟩) s.size (grownCap w s.size 0 5)] 33))
  have HC : kRow.C ((Lib.bytesWorld w 5 s).alloc (.cells #[.slice (some ⟨w.heap.size, 0, none⟩) s.size (grownCap w s.size 0 5)] 33)) (some ⟨(Lib.bytesWorld w 5 s).heap.size, 0, none⟩) [s.data.toList].length [s.data.toList] := by
    refine row_one (A := some ⟨w.heap.size, 0, none⟩) (c := grownCap w s.size 0 5) (by rw [data_length]; exact cell_new _ _ _ _ 0 _ rfl) (by rw [data_length]; exact grownCap_ge w _ 0 5) (Kd.C_below (bytes_C w s (by omega)) (below_alloc (Below.refl _ _) _))
  have hs0 := sum_calls _ 1 _ _ HC
  rw [show [s.data.toList].length = 1 from rfl, show [s.data.toList].flatten = s.data.toList by simp] at hs0
  have HS := Aside0.mk hs0
  clear hs0
  have HT := Aside0.mk (stir_calls (sum0 s.data.toList) (sumB_lt _ (by decide)))
  have HE : Aside0 (stirN (sum0 s.data.toList) = keyN s) := ⟨rfl⟩
  clear HC
  go_enter Try.func75, Try.ntmps75
  go_wp2_with (first | ((with_reducible refine HS.out.mono ?_); rintro e w' ⟨rfl, rfl⟩) | ((with_reducible refine (HT.out _).mono ?_); rintro e w' ⟨rfl, rfl⟩))
  go_ret
  exact ⟨by rw [HE.out]; rfl, HB.out⟩
theorem bucket_calls (s : ByteArray) (n : Int) (w : World) (hs : s.size ≤ 140737488351232) (h1 : 1 ≤ n) (h2 : n ≤ 65536) :
    Calls Try.prog 61 #[.string s, .int .i64 n] w fun e w' => e = .returned (.tuple #[.int .i64 (bkt s n), .int .i64 0]) ∧ Below w.heap.size w w' := by
  obtain ⟨m, rfl⟩ : ∃ m : Nat, n = (m : Int) := ⟨n.toNat, by omega⟩
  have HK := Aside0.mk (key_calls s w hs)
  have e1 : IntKind.u64.wrap (m : Int) = (m : Int) := by rw [IntKind.wrap_u64]; omega
  have hk : keyN s < 18446744073709551616 := stirN_lt _
  obtain ⟨r, hr⟩ : ∃ r : Nat, r = keyN s % m := ⟨_, rfl⟩
  have e2 : ((keyN s : Nat) : Int) % (m : Int) = (r : Int) := by omega
  have e3 : IntKind.i64.wrap (r : Int) = (r : Int) := by
    have : r < m := by rw [hr]; exact Nat.mod_lt _ (by omega)
    exact IntWalk.i64_in _ (by omega)
  have HE : Aside0 ((r : Int) = bkt s m) := ⟨by unfold bkt; rw [hr]; simp⟩
  clear hr
  generalize keyN s = q at *
  go_enter Try.func61, Try.ntmps61
  go_wp2_with (first | ((with_reducible refine HK.out.mono ?_); rintro e w' ⟨rfl, hb⟩; have HB := Aside0.mk hb; clear hb))
  refine bodyPost_ret (v := .tuple #[.int .i64 (r : Int), .int .i64 0]) (by simp [results, Try.results61, go_sem]; try rfl) rfl ?_
  exact ⟨by rw [← HE.out], HB.out⟩
end Hash
end Go.Proofs.Ytgfjkpnaabiecaa
set_option linter.unusedVariables false
set_option linter.unusedSimpArgs false
namespace Go.Proofs.Ytgfjkpnaabiecaa
open Go.RowKit Go.Proofs.YtgfjkpnaabiecaaW.PrintWords
namespace RHash
open Hash
theorem xor_low (h c : Nat) (hc : c < 256) : h ^^^ c = h - h % 256 + ((h % 256) ^^^ c) := by
  have h1 : (h ^^^ c) / 2 ^ 8 = h / 2 ^ 8 ^^^ c / 2 ^ 8 := Nat.xor_div_two_pow
  have h2 : (h ^^^ c) % 2 ^ 8 = h % 2 ^ 8 ^^^ c % 2 ^ 8 := Nat.xor_mod_two_pow
  have e1 : c / 2 ^ 8 = 0 := by omega
  have e2 : c % 2 ^ 8 = c := by omega
  rw [e1, Nat.xor_zero] at h1
  rw [e2] at h2
  have e3 : (2 : Nat) ^ 8 = 256 := rfl
  rw [e3] at h1 h2
  rw [← h2]
  omega
theorem wrap_u8 (n : Int) : IntKind.u8.wrap n = n % 256 := by simp [IntKind.wrap, IntKind.bits, IntKind.signed]
theorem ret_u64 {a b : Int} (h : a = b) : Ending.returned (.int .u64 a) = .returned (.int .u64 b) := by rw [h]
theorem bits_xor_u8_nat (a b : Nat) (ha : a < 256) (hb : b < 256) : Go.bits .xor .u8 (a : Int) (b : Int) = ((a ^^^ b : Nat) : Int) := by
  have hx : a ^^^ b < 2 ^ 8 := Nat.xor_lt_two_pow (by omega) (by omega)
  have h1 : (BitVec.ofInt 8 (a : Int)).toNat = a := by
    rw [BitVec.ofInt_natCast, BitVec.toNat_ofNat]; exact Nat.mod_eq_of_lt (by omega)
  have h2 : (BitVec.ofInt 8 (b : Int)).toNat = b := by
    rw [BitVec.ofInt_natCast, BitVec.toNat_ofNat]; exact Nat.mod_eq_of_lt (by omega)
  show IntKind.u8.wrap ((BitVec.ofInt 8 (a : Int) ^^^ BitVec.ofInt 8 (b : Int)).toNat : Int) = _
  rw [BitVec.toNat_xor, h1, h2, wrap_u8]
  omega
theorem step_calls (h c : Nat) (hh : h < 18446744073709551616) (hc : c < 256) (w : World) : Calls Try.prog 111 #[.int .u64 (h : Int), .int .u8 (c : Int)] w fun e w' => e = .returned (.int .u64 ((stepN h c : Nat) : Int)) ∧ w = w' := by
  have hx := xor_low h c hc
  have hxl : h ^^^ c < 18446744073709551616 := Nat.xor_lt_two_pow (n := 64) (by omega) (by omega)
  have HSN : Aside0 (∀ x, x = h ^^^ c → stepN h c = x * 1099511628211 % 18446744073709551616) := ⟨by rintro x rfl; rfl⟩
  obtain ⟨l, hl⟩ : ∃ l, l = h % 256 := ⟨_, rfl⟩
  rw [← hl] at hx
  have hl2 : l < 256 := by omega
  have hm : l ^^^ c < 256 := Nat.xor_lt_two_pow (n := 8) (by omega) (by omega)
  have e0 : (h : Int) % 256 = (l : Int) := by omega
  have e1 : IntKind.u64.wrap ((h : Int) - (l : Int)) = ((h - l : Nat) : Int) := by rw [IntKind.wrap_u64]; omega
  have e2 : IntKind.u8.wrap (l : Int) = (l : Int) := by rw [wrap_u8]; omega
  have e3 : Go.bits .xor .u8 (l : Int) (c : Int) = ((l ^^^ c : Nat) : Int) := bits_xor_u8_nat _ _ hl2 hc
  generalize stepN h c = y at HSN
  generalize hxe : h ^^^ c = x at hx hxl HSN
  generalize l ^^^ c = m at e3 hm hx
  have HSN := Aside0.mk (HSN.out x rfl)
  have e4 : IntKind.u64.wrap ((((h - l : Nat) : Int)) + (m : Int)) = (x : Int) := by rw [IntKind.wrap_u64]; omega
  have e5 : IntKind.u64.wrap (m : Int) = (m : Int) := by rw [IntKind.wrap_u64]; omega
  generalize hd : h - l = d at e1 e4
  clear hd hx hxe hl
  go_enter Try.func111, Try.ntmps111
  go_wp2
  go_ret
  refine ⟨ret_u64 ?_, rfl⟩
  have := HSN.out
  rw [IntKind.wrap_u64, IntKind.wrap_u64, IntKind.wrap_u64]
  omega
theorem fold_calls (h : Nat) (hh : h < 18446744073709551616) (w : World) : Calls Try.prog 110 #[.int .u64 (h : Int)] w fun e w' => e = .returned (.int .u64 ((foldN h : Nat) : Int)) ∧ w = w' := by
  have e1 : Go.bits .xor .u64 (h : Int) ((h : Int) / 8589934592) = ((foldN h : Nat) : Int) := xorShift_u64 h 8589934592 hh
  generalize foldN h = y at e1
  go_enter Try.func110, Try.ntmps110
  go_wp2
  go_ret
  exact ⟨rfl, rfl⟩
theorem sum_calls (A : Option Addr) (c : Nat) (xs : List UInt8) (w : World) (hr : kU8.C w A xs.length xs) :
    Calls Try.prog 108 #[.slice A xs.length c] w fun e w' => e = .returned (.int .u64 ((sum0 xs : Nat) : Int)) ∧ w = w' := by
  have hm : xs.length ≤ 9223372036854775807 := hr.2.1
  have HR := Aside0.mk hr
  clear hr
  go_enter Try.func108, Try.ntmps108
  go_wp2
  go_loop [3, 4] (fun h i => ∃ (j p : Nat), j ≤ xs.length ∧ i = .int .i64 j ∧ h = .int .u64 (p : Int) ∧ p < 18446744073709551616 ∧ Aside0 (p = sumB 14695981039346656037 (xs.take j))) (fun _ i => xs.length - (intOf i).toNat)
  case atStart => exact ⟨0, 14695981039346656037, Nat.zero_le _, rfl, rfl, by omega, ⟨rfl⟩⟩
  case round =>
    obtain ⟨k, q, hk, rfl, rfl, hq, HQ⟩ := hrel
    by_cases hlt : k < xs.length
    · obtain ⟨ad, x, rfl, HX, hcell⟩ := u8_at HR.out k hlt
      have HST := Aside0.mk (fun w' => step_calls q x.toNat hq (UInt8.toNat_lt x) w')
      have HSN : Aside0 (stepN q x.toNat = sumB 14695981039346656037 (xs.take (k + 1)) ∧ stepN q x.toNat < 18446744073709551616) := ⟨by rw [sumB_snoc HX.out, HQ.out], stepN_lt _ _⟩
      have hltI : (k : Int) < (xs.length : Int) := by omega
      generalize stepN q x.toNat = y at HST HSN
      have hy := HSN.out.2
      go_wp2_with (first | ((with_reducible refine (HST.out _).mono ?_); rintro e w' ⟨rfl, rfl⟩))
      go_round
      case rel => exact ⟨k + 1, y, by omega, by go_num, rfl, hy, ⟨HSN.out.1⟩⟩
      case measure => simp [intOf]; omega
    · obtain rfl : k = xs.length := by omega
      go_wp2
      go_ret
      exact ⟨ret_u64 (by rw [HQ.out, List.take_length]; rfl), rfl⟩
theorem stir_calls (h : Nat) (hh : h < 18446744073709551616) (w : World) : Calls Try.prog 107 #[.int .u64 (h : Int)] w fun e w' => e = .returned (.int .u64 ((stirN h : Nat) : Int)) ∧ w = w' := by
  obtain ⟨a, ha⟩ : ∃ a, a = foldN h := ⟨_, rfl⟩
  obtain ⟨b, hb⟩ : ∃ b, b = a * 18397679294719823053 % 18446744073709551616 := ⟨_, rfl⟩
  obtain ⟨c, hc⟩ : ∃ c, c = foldN b := ⟨_, rfl⟩
  obtain ⟨d, hd⟩ : ∃ d, d = c * 14181476777654086739 % 18446744073709551616 := ⟨_, rfl⟩
  obtain ⟨x, hx⟩ : ∃ x, x = foldN d := ⟨_, rfl⟩
  have e1 : IntKind.u64.wrap ((a : Int) * 18397679294719823053) = (b : Int) := by rw [IntKind.wrap_u64]; omega
  have e2 : IntKind.u64.wrap ((c : Int) * 14181476777654086739) = (d : Int) := by rw [IntKind.wrap_u64]; omega
  have e : stirN h = x := by rw [hx, hd, hc, hb, ha]; rfl
  have lb : b < 18446744073709551616 := by rw [hb]; exact Nat.mod_lt _ (by decide)
  have ld : d < 18446744073709551616 := by rw [hd]; exact Nat.mod_lt _ (by decide)
  rw [e]
  have H1 := fold_calls h hh
  have H2 := fold_calls b lb
  have H3 := fold_calls d ld
  rw [← ha] at H1
  rw [← hc] at H2
  rw [← hx] at H3
  have H1 := Aside0.mk H1
  have H2 := Aside0.mk H2
  have H3 := Aside0.mk H3
  clear ha hb hc hd hx e
  go_enter Try.func107, Try.ntmps107
  go_wp2_with (first | ((with_reducible refine (H1.out _).mono ?_); rintro e w' ⟨rfl, rfl⟩) | ((with_reducible refine (H2.out _).mono ?_); rintro e w' ⟨rfl, rfl⟩) | ((with_reducible refine (H3.out _).mono ?_); rintro e w' ⟨rfl, rfl⟩))
  go_ret
  exact ⟨rfl, rfl⟩
set_option maxRecDepth 100000 in
theorem key_calls (s : ByteArray) (w : World) (hs : s.size ≤ 140737488351232) :
    Calls Try.prog 97 #[.string s] w fun e w' => e = .returned (.int .u64 ((keyN s : Nat) : Int)) ∧ Below w.heap.size w w' := by
  have kb := fun W => print_bytes (P := Try.prog) 9 33 5 Try.underlying9 Try.underlying33 Try.underlying5 s W
  have HB := Aside0.mk (bytes_below (Below.refl w.heap.size w) (Nat.le_refl _) 5 s)
  have hs0 := sum_calls _ (grownCap w s.size 0 5) _ _ (bytes_C w s (by omega))
  rw [data_length] at hs0
  have HS := Aside0.mk hs0
  clear hs0
  have HT := Aside0.mk (stir_calls (sum0 s.data.toList) (sumB_lt _ (by decide)))
  have HE : Aside0 (stirN (sum0 s.data.toList) = keyN s) := ⟨rfl⟩
  go_enter Try.func97, Try.ntmps97
  go_wp2_with (first | ((with_reducible refine HS.out.mono ?_); rintro e w' ⟨rfl, rfl⟩) | ((with_reducible refine (HT.out _).mono ?_); rintro e w' ⟨rfl, rfl⟩))
  go_ret
  exact ⟨by rw [HE.out]; rfl, HB.out⟩
theorem bucket_calls (s : ByteArray) (n : Int) (w : World) (hs : s.size ≤ 140737488351232) (h1 : 1 ≤ n) (h2 : n ≤ 65536) :
    Calls Try.prog 80 #[.string s, .int .i64 n] w fun e w' => e = .returned (.tuple #[.int .i64 (bkt s n), .int .i64 0]) ∧ Below w.heap.size w w' := by
  obtain ⟨m, rfl⟩ : ∃ m : Nat, n = (m : Int) := ⟨n.toNat, by omega⟩
  have HK := Aside0.mk (key_calls s w hs)
  have e1 : IntKind.u64.wrap (m : Int) = (m : Int) := by rw [IntKind.wrap_u64]; omega
  have hk : keyN s < 18446744073709551616 := stirN_lt _
  obtain ⟨r, hr⟩ : ∃ r : Nat, r = keyN s % m := ⟨_, rfl⟩
  have e2 : ((keyN s : Nat) : Int) % (m : Int) = (r : Int) := by omega
  have e3 : IntKind.i64.wrap (r : Int) = (r : Int) := by
    have : r < m := by rw [hr]; exact Nat.mod_lt _ (by omega)
    exact IntWalk.i64_in _ (by omega)
  have HE : Aside0 ((r : Int) = bkt s m) := ⟨by unfold bkt; rw [hr]; simp⟩
  clear hr
  generalize keyN s = q at *
  go_enter Try.func80, Try.ntmps80
  go_wp2_with (first | ((with_reducible refine HK.out.mono ?_); rintro e w' ⟨rfl, hb⟩; have HB := Aside0.mk hb; clear hb))
  refine bodyPost_ret (v := .tuple #[.int .i64 (r : Int), .int .i64 0]) (by simp [results, Try.results80, go_sem]; try rfl) rfl ?_
  exact ⟨by rw [← HE.out], HB.out⟩
end RHash
end Go.Proofs.Ytgfjkpnaabiecaa
namespace Go.Proofs.Ytgfjkpnaabiecaa
open Go.RowKit Go.Proofs.YtgfjkpnaabiecaaW.PrintWords
/-! ### api.Tag -/
structure Tag where
  seq : Int
  who : Int
  op : Int
def Tag.z : Tag := ⟨(0 : Int), (0 : Int), (0 : Int)⟩
def Tag.k : Kd Tag := Kd.iso (Kd.pair (kInt .i64) (Kd.pair (kInt .i64) (kInt .i64))) (fun x : Tag => (x.seq, x.who, x.op))
theorem Tag.open_ {w : World} {x : Tag} {cs : List Value} (h : Tag.k.K w x cs) : cs = [.int .i64 x.seq, .int .i64 x.who, .int .i64 x.op] ∧ InR .i64 x.seq ∧ InR .i64 x.who ∧ InR .i64 x.op := by
  obtain ⟨_, _, rfl, ⟨rfl, r0⟩, ⟨_, _, rfl, ⟨rfl, r1⟩, ⟨rfl, r2⟩⟩⟩ := h
  exact ⟨rfl, r0, r1, r2⟩
theorem Tag.mk_ (w : World) (x : Tag) (r0 : InR .i64 x.seq) (r1 : InR .i64 x.who) (r2 : InR .i64 x.op) : Tag.k.K w x [.int .i64 x.seq, .int .i64 x.who, .int .i64 x.op] := ⟨_, _, rfl, ⟨rfl, r0⟩, ⟨_, _, rfl, ⟨rfl, r1⟩, ⟨rfl, r2⟩⟩⟩
theorem Tag.at_ {w : World} {A : Option Addr} {n : Nat} {xs : List Tag} (h : Tag.k.C w A n xs) (k : Nat) (h1 : k < n) : ∃ ad x , A = some ad ∧ Aside0 (xs[k]? = some x) ∧ w.cell? (ad.add (k * 3)) = some (.int .i64 x.seq) ∧ w.cell? ⟨(ad.add (k * 3)).block, (ad.add (k * 3)).off + 1, none⟩ = some (.int .i64 x.who) ∧ w.cell? ⟨(ad.add (k * 3)).block, (ad.add (k * 3)).off + 2, none⟩ = some (.int .i64 x.op) ∧ Aside0 (Tag.k.K w x [.int .i64 x.seq, .int .i64 x.who, .int .i64 x.op]) := by
  have hl : xs.length = n := h.1
  obtain ⟨ad, c, e, _, hK, hc0⟩ := Kd.C_get h Tag.z (k : Int) (by omega) (by omega)
  have hc : ∀ j u, c[j]? = some u → w.cell? (ad.add (k * 3 + j)) = some u := hc0
  have hx : xs[k]? = some (xs.getD k Tag.z) := by simp [List.getD_eq_getElem?_getD, show k < xs.length by omega]
  have hK' : Tag.k.K w (xs.getD k Tag.z) c := hK
  generalize xs.getD k Tag.z = x at hK' hx
  have hK2 := hK'
  obtain ⟨rfl, r0, r1, r2⟩ := Tag.open_ hK'
  exact ⟨ad, x, e, ⟨hx⟩, hc 0 _ rfl, by rw [← add_field _ _ 1 (by omega)]; exact hc 1 _ rfl, by rw [← add_field _ _ 2 (by omega)]; exact hc 2 _ rfl, ⟨hK2⟩⟩

/-! ### api.Val -/
structure Val where
  has : Bool
  b : (List UInt8)
def Val.z : Val := ⟨false, ([] : List UInt8)⟩
def Val.k : Kd Val := Kd.iso (Kd.pair Kd.bool (Kd.slice 5 kU8)) (fun x : Val => (x.has, x.b))
theorem Val.open_ {w : World} {x : Val} {cs : List Value} (h : Val.k.K w x cs) : ∃ A1 c1, cs = [.bool x.has, .slice A1 x.b.length c1] ∧ x.b.length ≤ c1 ∧ kU8.C w A1 x.b.length x.b := by
  obtain ⟨_, _, rfl, rfl, ⟨A1, c1, rfl, l1, g1⟩⟩ := h
  exact ⟨A1, c1, rfl, l1, g1⟩
theorem Val.mk_ (w : World) (x : Val) {A1 : Option Addr} {c1 : Nat} (l1 : x.b.length ≤ c1) (g1 : kU8.C w A1 x.b.length x.b) : Val.k.K w x [.bool x.has, .slice A1 x.b.length c1] := ⟨_, _, rfl, rfl, ⟨A1, c1, rfl, l1, g1⟩⟩
theorem Val.at_ {w : World} {A : Option Addr} {n : Nat} {xs : List Val} (h : Val.k.C w A n xs) (k : Nat) (h1 : k < n) : ∃ ad x A1 c1, A = some ad ∧ Aside0 (xs[k]? = some x) ∧ w.cell? (ad.add (k * 2)) = some (.bool x.has) ∧ w.cell? ⟨(ad.add (k * 2)).block, (ad.add (k * 2)).off + 1, none⟩ = some (.slice A1 x.b.length c1) ∧ Aside0 (Val.k.K w x [.bool x.has, .slice A1 x.b.length c1]) := by
  have hl : xs.length = n := h.1
  obtain ⟨ad, c, e, _, hK, hc0⟩ := Kd.C_get h Val.z (k : Int) (by omega) (by omega)
  have hc : ∀ j u, c[j]? = some u → w.cell? (ad.add (k * 2 + j)) = some u := hc0
  have hx : xs[k]? = some (xs.getD k Val.z) := by simp [List.getD_eq_getElem?_getD, show k < xs.length by omega]
  have hK' : Val.k.K w (xs.getD k Val.z) c := hK
  generalize xs.getD k Val.z = x at hK' hx
  have hK2 := hK'
  obtain ⟨A1, c1, rfl, l1, g1⟩ := Val.open_ hK'
  exact ⟨ad, x, A1, c1, e, ⟨hx⟩, hc 0 _ rfl, by rw [← add_field _ _ 1 (by omega)]; exact hc 1 _ rfl, ⟨hK2⟩⟩

/-! ### api.Entry -/
structure Entry where
  key : ByteArray
  tag : Tag
  val : Val
def Entry.z : Entry := ⟨ByteArray.empty, Tag.z, Val.z⟩
def Entry.k : Kd Entry := Kd.iso (Kd.pair kStr (Kd.pair Tag.k Val.k)) (fun x : Entry => (x.key, x.tag, x.val))
theorem Entry.open_ {w : World} {x : Entry} {cs : List Value} (h : Entry.k.K w x cs) : ∃ A5 c5, cs = [.string x.key, .int .i64 x.tag.seq, .int .i64 x.tag.who, .int .i64 x.tag.op, .bool x.val.has, .slice A5 x.val.b.length c5] ∧ x.key.size ≤ 140737488351232 ∧ InR .i64 x.tag.seq ∧ InR .i64 x.tag.who ∧ InR .i64 x.tag.op ∧ x.val.b.length ≤ c5 ∧ kU8.C w A5 x.val.b.length x.val.b := by
  obtain ⟨_, _, rfl, ⟨rfl, s0⟩, ⟨_, _, rfl, h1, h4⟩⟩ := h
  obtain ⟨rfl, r1, r2, r3⟩ := Tag.open_ h1
  obtain ⟨A5, c5, rfl, l5, g5⟩ := Val.open_ h4
  exact ⟨A5, c5, rfl, s0, r1, r2, r3, l5, g5⟩
theorem Entry.mk_ (w : World) (x : Entry) (s0 : x.key.size ≤ 140737488351232) (r1 : InR .i64 x.tag.seq) (r2 : InR .i64 x.tag.who) (r3 : InR .i64 x.tag.op) {A5 : Option Addr} {c5 : Nat} (l5 : x.val.b.length ≤ c5) (g5 : kU8.C w A5 x.val.b.length x.val.b) : Entry.k.K w x [.string x.key, .int .i64 x.tag.seq, .int .i64 x.tag.who, .int .i64 x.tag.op, .bool x.val.has, .slice A5 x.val.b.length c5] := ⟨_, _, rfl, ⟨rfl, s0⟩, ⟨_, _, rfl, Tag.mk_ w _ r1 r2 r3, (Val.mk_ w _ l5 g5)⟩⟩
theorem Entry.at_ {w : World} {A : Option Addr} {n : Nat} {xs : List Entry} (h : Entry.k.C w A n xs) (k : Nat) (h1 : k < n) : ∃ ad x A5 c5, A = some ad ∧ Aside0 (xs[k]? = some x) ∧ w.cell? (ad.add (k * 6)) = some (.string x.key) ∧ w.cell? ⟨(ad.add (k * 6)).block, (ad.add (k * 6)).off + 1, none⟩ = some (.int .i64 x.tag.seq) ∧ w.cell? ⟨(ad.add (k * 6)).block, (ad.add (k * 6)).off + 2, none⟩ = some (.int .i64 x.tag.who) ∧ w.cell? ⟨(ad.add (k * 6)).block, (ad.add (k * 6)).off + 3, none⟩ = some (.int .i64 x.tag.op) ∧ w.cell? ⟨(ad.add (k * 6)).block, (ad.add (k * 6)).off + 4, none⟩ = some (.bool x.val.has) ∧ w.cell? ⟨(ad.add (k * 6)).block, (ad.add (k * 6)).off + 5, none⟩ = some (.slice A5 x.val.b.length c5) ∧ Aside0 (Entry.k.K w x [.string x.key, .int .i64 x.tag.seq, .int .i64 x.tag.who, .int .i64 x.tag.op, .bool x.val.has, .slice A5 x.val.b.length c5]) := by
  have hl : xs.length = n := h.1
  obtain ⟨ad, c, e, _, hK, hc0⟩ := Kd.C_get h Entry.z (k : Int) (by omega) (by omega)
  have hc : ∀ j u, c[j]? = some u → w.cell? (ad.add (k * 6 + j)) = some u := hc0
  have hx : xs[k]? = some (xs.getD k Entry.z) := by simp [List.getD_eq_getElem?_getD, show k < xs.length by omega]
  have hK' : Entry.k.K w (xs.getD k Entry.z) c := hK
  generalize xs.getD k Entry.z = x at hK' hx
  have hK2 := hK'
  obtain ⟨A5, c5, rfl, s0, r1, r2, r3, l5, g5⟩ := Entry.open_ hK'
  exact ⟨ad, x, A5, c5, e, ⟨hx⟩, hc 0 _ rfl, by rw [← add_field _ _ 1 (by omega)]; exact hc 1 _ rfl, by rw [← add_field _ _ 2 (by omega)]; exact hc 2 _ rfl, by rw [← add_field _ _ 3 (by omega)]; exact hc 3 _ rfl, by rw [← add_field _ _ 4 (by omega)]; exact hc 4 _ rfl, by rw [← add_field _ _ 5 (by omega)]; exact hc 5 _ rfl, ⟨hK2⟩⟩

/-! ### api.Cell -/
structure Cell where
  e : Entry
  whole : Bool
  clean : Bool
  used : Int
def Cell.z : Cell := ⟨Entry.z, false, false, (0 : Int)⟩
def Cell.k : Kd Cell := Kd.iso (Kd.pair Entry.k (Kd.pair Kd.bool (Kd.pair Kd.bool (kInt .i64)))) (fun x : Cell => (x.e, x.whole, x.clean, x.used))
theorem Cell.open_ {w : World} {x : Cell} {cs : List Value} (h : Cell.k.K w x cs) : ∃ A5 c5, cs = [.string x.e.key, .int .i64 x.e.tag.seq, .int .i64 x.e.tag.who, .int .i64 x.e.tag.op, .bool x.e.val.has, .slice A5 x.e.val.b.length c5, .bool x.whole, .bool x.clean, .int .i64 x.used] ∧ x.e.key.size ≤ 140737488351232 ∧ InR .i64 x.e.tag.seq ∧ InR .i64 x.e.tag.who ∧ InR .i64 x.e.tag.op ∧ x.e.val.b.length ≤ c5 ∧ kU8.C w A5 x.e.val.b.length x.e.val.b ∧ InR .i64 x.used := by
  obtain ⟨_, _, rfl, h0, ⟨_, _, rfl, rfl, ⟨_, _, rfl, rfl, ⟨rfl, r8⟩⟩⟩⟩ := h
  obtain ⟨A5, c5, rfl, s0, r1, r2, r3, l5, g5⟩ := Entry.open_ h0
  exact ⟨A5, c5, rfl, s0, r1, r2, r3, l5, g5, r8⟩
theorem Cell.mk_ (w : World) (x : Cell) (s0 : x.e.key.size ≤ 140737488351232) (r1 : InR .i64 x.e.tag.seq) (r2 : InR .i64 x.e.tag.who) (r3 : InR .i64 x.e.tag.op) {A5 : Option Addr} {c5 : Nat} (l5 : x.e.val.b.length ≤ c5) (g5 : kU8.C w A5 x.e.val.b.length x.e.val.b) (r8 : InR .i64 x.used) : Cell.k.K w x [.string x.e.key, .int .i64 x.e.tag.seq, .int .i64 x.e.tag.who, .int .i64 x.e.tag.op, .bool x.e.val.has, .slice A5 x.e.val.b.length c5, .bool x.whole, .bool x.clean, .int .i64 x.used] := ⟨_, _, rfl, Entry.mk_ w _ s0 r1 r2 r3 l5 g5, ⟨_, _, rfl, rfl, ⟨_, _, rfl, rfl, ⟨rfl, r8⟩⟩⟩⟩
theorem Cell.at_ {w : World} {A : Option Addr} {n : Nat} {xs : List Cell} (h : Cell.k.C w A n xs) (k : Nat) (h1 : k < n) : ∃ ad x A5 c5, A = some ad ∧ Aside0 (xs[k]? = some x) ∧ w.cell? (ad.add (k * 9)) = some (.string x.e.key) ∧ w.cell? ⟨(ad.add (k * 9)).block, (ad.add (k * 9)).off + 1, none⟩ = some (.int .i64 x.e.tag.seq) ∧ w.cell? ⟨(ad.add (k * 9)).block, (ad.add (k * 9)).off + 2, none⟩ = some (.int .i64 x.e.tag.who) ∧ w.cell? ⟨(ad.add (k * 9)).block, (ad.add (k * 9)).off + 3, none⟩ = some (.int .i64 x.e.tag.op) ∧ w.cell? ⟨(ad.add (k * 9)).block, (ad.add (k * 9)).off + 4, none⟩ = some (.bool x.e.val.has) ∧ w.cell? ⟨(ad.add (k * 9)).block, (ad.add (k * 9)).off + 5, none⟩ = some (.slice A5 x.e.val.b.length c5) ∧ w.cell? ⟨(ad.add (k * 9)).block, (ad.add (k * 9)).off + 6, none⟩ = some (.bool x.whole) ∧ w.cell? ⟨(ad.add (k * 9)).block, (ad.add (k * 9)).off + 7, none⟩ = some (.bool x.clean) ∧ w.cell? ⟨(ad.add (k * 9)).block, (ad.add (k * 9)).off + 8, none⟩ = some (.int .i64 x.used) ∧ Aside0 (Cell.k.K w x [.string x.e.key, .int .i64 x.e.tag.seq, .int .i64 x.e.tag.who, .int .i64 x.e.tag.op, .bool x.e.val.has, .slice A5 x.e.val.b.length c5, .bool x.whole, .bool x.clean, .int .i64 x.used]) := by
  have hl : xs.length = n := h.1
  obtain ⟨ad, c, e, _, hK, hc0⟩ := Kd.C_get h Cell.z (k : Int) (by omega) (by omega)
  have hc : ∀ j u, c[j]? = some u → w.cell? (ad.add (k * 9 + j)) = some u := hc0
  have hx : xs[k]? = some (xs.getD k Cell.z) := by simp [List.getD_eq_getElem?_getD, show k < xs.length by omega]
  have hK' : Cell.k.K w (xs.getD k Cell.z) c := hK
  generalize xs.getD k Cell.z = x at hK' hx
  have hK2 := hK'
  obtain ⟨A5, c5, rfl, s0, r1, r2, r3, l5, g5, r8⟩ := Cell.open_ hK'
  exact ⟨ad, x, A5, c5, e, ⟨hx⟩, hc 0 _ rfl, by rw [← add_field _ _ 1 (by omega)]; exact hc 1 _ rfl, by rw [← add_field _ _ 2 (by omega)]; exact hc 2 _ rfl, by rw [← add_field _ _ 3 (by omega)]; exact hc 3 _ rfl, by rw [← add_field _ _ 4 (by omega)]; exact hc 4 _ rfl, by rw [← add_field _ _ 5 (by omega)]; exact hc 5 _ rfl, by rw [← add_field _ _ 6 (by omega)]; exact hc 6 _ rfl, by rw [← add_field _ _ 7 (by omega)]; exact hc 7 _ rfl, by rw [← add_field _ _ 8 (by omega)]; exact hc 8 _ rfl, ⟨hK2⟩⟩

/-! ### api.Reply -/
structure Reply where
  e : Entry
  whole : Bool
  token : Int
def Reply.z : Reply := ⟨Entry.z, false, (0 : Int)⟩
def Reply.k : Kd Reply := Kd.iso (Kd.pair Entry.k (Kd.pair Kd.bool (kInt .i64))) (fun x : Reply => (x.e, x.whole, x.token))
theorem Reply.open_ {w : World} {x : Reply} {cs : List Value} (h : Reply.k.K w x cs) : ∃ A5 c5, cs = [.string x.e.key, .int .i64 x.e.tag.seq, .int .i64 x.e.tag.who, .int .i64 x.e.tag.op, .bool x.e.val.has, .slice A5 x.e.val.b.length c5, .bool x.whole, .int .i64 x.token] ∧ x.e.key.size ≤ 140737488351232 ∧ InR .i64 x.e.tag.seq ∧ InR .i64 x.e.tag.who ∧ InR .i64 x.e.tag.op ∧ x.e.val.b.length ≤ c5 ∧ kU8.C w A5 x.e.val.b.length x.e.val.b ∧ InR .i64 x.token := by
  obtain ⟨_, _, rfl, h0, ⟨_, _, rfl, rfl, ⟨rfl, r7⟩⟩⟩ := h
  obtain ⟨A5, c5, rfl, s0, r1, r2, r3, l5, g5⟩ := Entry.open_ h0
  exact ⟨A5, c5, rfl, s0, r1, r2, r3, l5, g5, r7⟩
theorem Reply.mk_ (w : World) (x : Reply) (s0 : x.e.key.size ≤ 140737488351232) (r1 : InR .i64 x.e.tag.seq) (r2 : InR .i64 x.e.tag.who) (r3 : InR .i64 x.e.tag.op) {A5 : Option Addr} {c5 : Nat} (l5 : x.e.val.b.length ≤ c5) (g5 : kU8.C w A5 x.e.val.b.length x.e.val.b) (r7 : InR .i64 x.token) : Reply.k.K w x [.string x.e.key, .int .i64 x.e.tag.seq, .int .i64 x.e.tag.who, .int .i64 x.e.tag.op, .bool x.e.val.has, .slice A5 x.e.val.b.length c5, .bool x.whole, .int .i64 x.token] := ⟨_, _, rfl, Entry.mk_ w _ s0 r1 r2 r3 l5 g5, ⟨_, _, rfl, rfl, ⟨rfl, r7⟩⟩⟩
theorem Reply.at_ {w : World} {A : Option Addr} {n : Nat} {xs : List Reply} (h : Reply.k.C w A n xs) (k : Nat) (h1 : k < n) : ∃ ad x A5 c5, A = some ad ∧ Aside0 (xs[k]? = some x) ∧ w.cell? (ad.add (k * 8)) = some (.string x.e.key) ∧ w.cell? ⟨(ad.add (k * 8)).block, (ad.add (k * 8)).off + 1, none⟩ = some (.int .i64 x.e.tag.seq) ∧ w.cell? ⟨(ad.add (k * 8)).block, (ad.add (k * 8)).off + 2, none⟩ = some (.int .i64 x.e.tag.who) ∧ w.cell? ⟨(ad.add (k * 8)).block, (ad.add (k * 8)).off + 3, none⟩ = some (.int .i64 x.e.tag.op) ∧ w.cell? ⟨(ad.add (k * 8)).block, (ad.add (k * 8)).off + 4, none⟩ = some (.bool x.e.val.has) ∧ w.cell? ⟨(ad.add (k * 8)).block, (ad.add (k * 8)).off + 5, none⟩ = some (.slice A5 x.e.val.b.length c5) ∧ w.cell? ⟨(ad.add (k * 8)).block, (ad.add (k * 8)).off + 6, none⟩ = some (.bool x.whole) ∧ w.cell? ⟨(ad.add (k * 8)).block, (ad.add (k * 8)).off + 7, none⟩ = some (.int .i64 x.token) ∧ Aside0 (Reply.k.K w x [.string x.e.key, .int .i64 x.e.tag.seq, .int .i64 x.e.tag.who, .int .i64 x.e.tag.op, .bool x.e.val.has, .slice A5 x.e.val.b.length c5, .bool x.whole, .int .i64 x.token]) := by
  have hl : xs.length = n := h.1
  obtain ⟨ad, c, e, _, hK, hc0⟩ := Kd.C_get h Reply.z (k : Int) (by omega) (by omega)
  have hc : ∀ j u, c[j]? = some u → w.cell? (ad.add (k * 8 + j)) = some u := hc0
  have hx : xs[k]? = some (xs.getD k Reply.z) := by simp [List.getD_eq_getElem?_getD, show k < xs.length by omega]
  have hK' : Reply.k.K w (xs.getD k Reply.z) c := hK
  generalize xs.getD k Reply.z = x at hK' hx
  have hK2 := hK'
  obtain ⟨A5, c5, rfl, s0, r1, r2, r3, l5, g5, r7⟩ := Reply.open_ hK'
  exact ⟨ad, x, A5, c5, e, ⟨hx⟩, hc 0 _ rfl, by rw [← add_field _ _ 1 (by omega)]; exact hc 1 _ rfl, by rw [← add_field _ _ 2 (by omega)]; exact hc 2 _ rfl, by rw [← add_field _ _ 3 (by omega)]; exact hc 3 _ rfl, by rw [← add_field _ _ 4 (by omega)]; exact hc 4 _ rfl, by rw [← add_field _ _ 5 (by omega)]; exact hc 5 _ rfl, by rw [← add_field _ _ 6 (by omega)]; exact hc 6 _ rfl, by rw [← add_field _ _ 7 (by omega)]; exact hc 7 _ rfl, ⟨hK2⟩⟩

/-! ### api.Room -/
structure Room where
  cells : Int
  bytes : Int
  buckets : Int
  fresh : Bool
def Room.z : Room := ⟨(0 : Int), (0 : Int), (0 : Int), false⟩
def Room.k : Kd Room := Kd.iso (Kd.pair (kInt .i64) (Kd.pair (kInt .i64) (Kd.pair (kInt .i64) Kd.bool))) (fun x : Room => (x.cells, x.bytes, x.buckets, x.fresh))
theorem Room.open_ {w : World} {x : Room} {cs : List Value} (h : Room.k.K w x cs) : cs = [.int .i64 x.cells, .int .i64 x.bytes, .int .i64 x.buckets, .bool x.fresh] ∧ InR .i64 x.cells ∧ InR .i64 x.bytes ∧ InR .i64 x.buckets := by
  obtain ⟨_, _, rfl, ⟨rfl, r0⟩, ⟨_, _, rfl, ⟨rfl, r1⟩, ⟨_, _, rfl, ⟨rfl, r2⟩, rfl⟩⟩⟩ := h
  exact ⟨rfl, r0, r1, r2⟩
theorem Room.mk_ (w : World) (x : Room) (r0 : InR .i64 x.cells) (r1 : InR .i64 x.bytes) (r2 : InR .i64 x.buckets) : Room.k.K w x [.int .i64 x.cells, .int .i64 x.bytes, .int .i64 x.buckets, .bool x.fresh] := ⟨_, _, rfl, ⟨rfl, r0⟩, ⟨_, _, rfl, ⟨rfl, r1⟩, ⟨_, _, rfl, ⟨rfl, r2⟩, rfl⟩⟩⟩
theorem Room.at_ {w : World} {A : Option Addr} {n : Nat} {xs : List Room} (h : Room.k.C w A n xs) (k : Nat) (h1 : k < n) : ∃ ad x , A = some ad ∧ Aside0 (xs[k]? = some x) ∧ w.cell? (ad.add (k * 4)) = some (.int .i64 x.cells) ∧ w.cell? ⟨(ad.add (k * 4)).block, (ad.add (k * 4)).off + 1, none⟩ = some (.int .i64 x.bytes) ∧ w.cell? ⟨(ad.add (k * 4)).block, (ad.add (k * 4)).off + 2, none⟩ = some (.int .i64 x.buckets) ∧ w.cell? ⟨(ad.add (k * 4)).block, (ad.add (k * 4)).off + 3, none⟩ = some (.bool x.fresh) ∧ Aside0 (Room.k.K w x [.int .i64 x.cells, .int .i64 x.bytes, .int .i64 x.buckets, .bool x.fresh]) := by
  have hl : xs.length = n := h.1
  obtain ⟨ad, c, e, _, hK, hc0⟩ := Kd.C_get h Room.z (k : Int) (by omega) (by omega)
  have hc : ∀ j u, c[j]? = some u → w.cell? (ad.add (k * 4 + j)) = some u := hc0
  have hx : xs[k]? = some (xs.getD k Room.z) := by simp [List.getD_eq_getElem?_getD, show k < xs.length by omega]
  have hK' : Room.k.K w (xs.getD k Room.z) c := hK
  generalize xs.getD k Room.z = x at hK' hx
  have hK2 := hK'
  obtain ⟨rfl, r0, r1, r2⟩ := Room.open_ hK'
  exact ⟨ad, x, e, ⟨hx⟩, hc 0 _ rfl, by rw [← add_field _ _ 1 (by omega)]; exact hc 1 _ rfl, by rw [← add_field _ _ 2 (by omega)]; exact hc 2 _ rfl, by rw [← add_field _ _ 3 (by omega)]; exact hc 3 _ rfl, ⟨hK2⟩⟩

/-! ### icehouseref11.Do -/
structure Do where
  kind : Int
  e : Entry
  token : Int
def Do.z : Do := ⟨(0 : Int), Entry.z, (0 : Int)⟩
def Do.k : Kd Do := Kd.iso (Kd.pair (kInt .i64) (Kd.pair Entry.k (kInt .i64))) (fun x : Do => (x.kind, x.e, x.token))
theorem Do.open_ {w : World} {x : Do} {cs : List Value} (h : Do.k.K w x cs) : ∃ A6 c6, cs = [.int .i64 x.kind, .string x.e.key, .int .i64 x.e.tag.seq, .int .i64 x.e.tag.who, .int .i64 x.e.tag.op, .bool x.e.val.has, .slice A6 x.e.val.b.length c6, .int .i64 x.token] ∧ InR .i64 x.kind ∧ x.e.key.size ≤ 140737488351232 ∧ InR .i64 x.e.tag.seq ∧ InR .i64 x.e.tag.who ∧ InR .i64 x.e.tag.op ∧ x.e.val.b.length ≤ c6 ∧ kU8.C w A6 x.e.val.b.length x.e.val.b ∧ InR .i64 x.token := by
  obtain ⟨_, _, rfl, ⟨rfl, r0⟩, ⟨_, _, rfl, h1, ⟨rfl, r7⟩⟩⟩ := h
  obtain ⟨A6, c6, rfl, s1, r2, r3, r4, l6, g6⟩ := Entry.open_ h1
  exact ⟨A6, c6, rfl, r0, s1, r2, r3, r4, l6, g6, r7⟩
theorem Do.mk_ (w : World) (x : Do) (r0 : InR .i64 x.kind) (s1 : x.e.key.size ≤ 140737488351232) (r2 : InR .i64 x.e.tag.seq) (r3 : InR .i64 x.e.tag.who) (r4 : InR .i64 x.e.tag.op) {A6 : Option Addr} {c6 : Nat} (l6 : x.e.val.b.length ≤ c6) (g6 : kU8.C w A6 x.e.val.b.length x.e.val.b) (r7 : InR .i64 x.token) : Do.k.K w x [.int .i64 x.kind, .string x.e.key, .int .i64 x.e.tag.seq, .int .i64 x.e.tag.who, .int .i64 x.e.tag.op, .bool x.e.val.has, .slice A6 x.e.val.b.length c6, .int .i64 x.token] := ⟨_, _, rfl, ⟨rfl, r0⟩, ⟨_, _, rfl, Entry.mk_ w _ s1 r2 r3 r4 l6 g6, ⟨rfl, r7⟩⟩⟩
theorem Do.at_ {w : World} {A : Option Addr} {n : Nat} {xs : List Do} (h : Do.k.C w A n xs) (k : Nat) (h1 : k < n) : ∃ ad x A6 c6, A = some ad ∧ Aside0 (xs[k]? = some x) ∧ w.cell? (ad.add (k * 8)) = some (.int .i64 x.kind) ∧ w.cell? ⟨(ad.add (k * 8)).block, (ad.add (k * 8)).off + 1, none⟩ = some (.string x.e.key) ∧ w.cell? ⟨(ad.add (k * 8)).block, (ad.add (k * 8)).off + 2, none⟩ = some (.int .i64 x.e.tag.seq) ∧ w.cell? ⟨(ad.add (k * 8)).block, (ad.add (k * 8)).off + 3, none⟩ = some (.int .i64 x.e.tag.who) ∧ w.cell? ⟨(ad.add (k * 8)).block, (ad.add (k * 8)).off + 4, none⟩ = some (.int .i64 x.e.tag.op) ∧ w.cell? ⟨(ad.add (k * 8)).block, (ad.add (k * 8)).off + 5, none⟩ = some (.bool x.e.val.has) ∧ w.cell? ⟨(ad.add (k * 8)).block, (ad.add (k * 8)).off + 6, none⟩ = some (.slice A6 x.e.val.b.length c6) ∧ w.cell? ⟨(ad.add (k * 8)).block, (ad.add (k * 8)).off + 7, none⟩ = some (.int .i64 x.token) ∧ Aside0 (Do.k.K w x [.int .i64 x.kind, .string x.e.key, .int .i64 x.e.tag.seq, .int .i64 x.e.tag.who, .int .i64 x.e.tag.op, .bool x.e.val.has, .slice A6 x.e.val.b.length c6, .int .i64 x.token]) := by
  have hl : xs.length = n := h.1
  obtain ⟨ad, c, e, _, hK, hc0⟩ := Kd.C_get h Do.z (k : Int) (by omega) (by omega)
  have hc : ∀ j u, c[j]? = some u → w.cell? (ad.add (k * 8 + j)) = some u := hc0
  have hx : xs[k]? = some (xs.getD k Do.z) := by simp [List.getD_eq_getElem?_getD, show k < xs.length by omega]
  have hK' : Do.k.K w (xs.getD k Do.z) c := hK
  generalize xs.getD k Do.z = x at hK' hx
  have hK2 := hK'
  obtain ⟨A6, c6, rfl, r0, s1, r2, r3, r4, l6, g6, r7⟩ := Do.open_ hK'
  exact ⟨ad, x, A6, c6, e, ⟨hx⟩, hc 0 _ rfl, by rw [← add_field _ _ 1 (by omega)]; exact hc 1 _ rfl, by rw [← add_field _ _ 2 (by omega)]; exact hc 2 _ rfl, by rw [← add_field _ _ 3 (by omega)]; exact hc 3 _ rfl, by rw [← add_field _ _ 4 (by omega)]; exact hc 4 _ rfl, by rw [← add_field _ _ 5 (by omega)]; exact hc 5 _ rfl, by rw [← add_field _ _ 6 (by omega)]; exact hc 6 _ rfl, by rw [← add_field _ _ 7 (by omega)]; exact hc 7 _ rfl, ⟨hK2⟩⟩

end Go.Proofs.Ytgfjkpnaabiecaa
set_option linter.unusedVariables false
set_option linter.unusedSimpArgs false
namespace Go.Proofs.Ytgfjkpnaabiecaa
open Go.RowKit Go.Proofs.YtgfjkpnaabiecaaW.PrintWords
namespace Tags
def cmp3 (a b : Int) : Int := if a < b then -1 else if b < a then 1 else 0
theorem cmp3_lt {a b : Int} (h : a < b) : cmp3 a b = -1 := by unfold cmp3; rw [if_pos h]
theorem cmp3_gt {a b : Int} (h : b < a) : cmp3 a b = 1 := by unfold cmp3; rw [if_neg (by omega), if_pos h]
theorem cmp3_eq (a : Int) : cmp3 a a = 0 := by unfold cmp3; rw [if_neg (by omega), if_neg (by omega)]
/-- The first that is not 0. -/
def or3 (a b c : Int) : Int := if a ≠ 0 then a else if b ≠ 0 then b else c
def cmpT (a b : Tag) : Int := or3 (cmp3 a.seq b.seq) (cmp3 a.who b.who) (cmp3 a.op b.op)
theorem isNaN_calls (a : Int) (w : World) : Calls Try.prog 74 #[.int .i64 a] w fun e w' => e = .returned (.bool false) ∧ w = w' := by
  go_enter Try.func74, Try.ntmps74
  go_wp2
  go_ret
  exact ⟨by simp, rfl⟩
theorem compare_calls (a b : Int) (w : World) : Calls Try.prog 59 #[.int .i64 a, .int .i64 b] w fun e w' => e = .returned (.int .i64 (cmp3 a b)) ∧ w = w' := by
  rcases Int.lt_trichotomy a b with h | h | h
  · have H := Aside0.mk h
    go_enter Try.func59, Try.ntmps59
    go_wp2_with (first | ((with_reducible refine (isNaN_calls _ _).mono ?_); rintro e w' ⟨rfl, rfl⟩))
    go_ret
    exact ⟨by rw [cmp3_lt H.out]; rfl, rfl⟩
  · subst h
    go_enter Try.func59, Try.ntmps59
    go_wp2_with (first | ((with_reducible refine (isNaN_calls _ _).mono ?_); rintro e w' ⟨rfl, rfl⟩))
    go_ret
    exact ⟨by rw [cmp3_eq]; rfl, rfl⟩
  · have H := Aside0.mk h
    have hn : ¬ a < b := by omega
    go_enter Try.func59, Try.ntmps59
    go_wp2_with (first | ((with_reducible refine (isNaN_calls _ _).mono ?_); rintro e w' ⟨rfl, rfl⟩))
    go_ret
    exact ⟨by rw [cmp3_gt H.out]; rfl, rfl⟩
theorem compare_same (a b : Int) (w : World) : Calls Try.prog 59 #[.int .i64 a, .int .i64 b] w fun e w' => e = .returned (.int .i64 (cmp3 a b)) ∧ w' = w := (compare_calls a b w).mono fun _ _ ⟨h1, h2⟩ => ⟨h1, h2.symm⟩
theorem region_tail {P : Program} {id : Nat} {Q : Exit → Act → World → Prop} {a : Act} {w : World} {l : List Oper} (n : Nat) (hm : P.follows .mixedOrders = true) (hB : Region.lexTailB .any l.toArray n = true)
    (h : wpStill P l.toArray w.drew (fun a' => wpList P l.toArray Q (l.drop n) a' w.drew) (l.take n) a) : (Code.region id l.toArray true).wp P Q a w := wp_region_still_tail n hm hB h
def orL : List Int → Int
  | [] => 0
  | x :: r => if x ≠ 0 then x else orL r
theorem orL_drop {xs : List Int} {k : Nat} {x : Int} (h : xs[k]? = some x) : orL (xs.drop k) = if x ≠ 0 then x else orL (xs.drop (k + 1)) := by
  obtain ⟨hk, rfl⟩ := List.getElem?_eq_some_iff.1 h
  rw [List.drop_eq_getElem_cons hk]
  rfl
theorem or_calls (ad : Addr) (c : Nat) (xs : List Int) (w : World) (hc : ∀ k x, xs[k]? = some x → w.cell? (ad.add k) = some (.int .i64 x)) (hn : xs.length ≤ 1000000) :
    Calls Try.prog 58 #[.slice (some ad) xs.length c] w fun e w' => e = .returned (.int .i64 (orL xs)) ∧ w = w' := by
  have HC := Aside0.mk hc
  clear hc
  go_enter Try.func58, Try.ntmps58
  go_wp2
  go_loop [5, 8] (fun _ i => ∃ k : Nat, k ≤ xs.length ∧ i = .int .i64 k ∧ Aside0 (orL (xs.drop k) = orL xs)) (fun _ i => xs.length - (intOf i).toNat)
  case atStart => exact ⟨0, Nat.zero_le _, rfl, ⟨rfl⟩⟩
  case round =>
    obtain ⟨k, hk, rfl, HO⟩ := hrel
    by_cases hlt : k < xs.length
    · obtain ⟨x, hx⟩ : ∃ x, xs[k]? = some x := ⟨_, List.getElem?_eq_getElem hlt⟩
      have hcell := HC.out k x hx
      have HO2 := Aside0.mk (HO.out.symm.trans (orL_drop hx))
      clear hx HO
      by_cases h0 : x = 0
      · subst h0
        go_wp2
        go_round
        case rel => exact ⟨k + 1, by omega, by go_num, ⟨by rw [HO2.out]; rfl⟩⟩
        case measure => simp [intOf]; omega
      · have HN := Aside0.mk h0
        have hb : (x != 0) = true := by simpa using h0
        clear h0
        go_wp2
        go_ret
        exact ⟨by rw [HO2.out, if_pos HN.out]; rfl, rfl⟩
    · obtain rfl : k = xs.length := by omega
      go_wp2
      go_ret
      exact ⟨by rw [← HO.out, List.drop_length]; rfl, rfl⟩
theorem or3_calls (g : Nat) (a b c : Int) (w : World) (h0 : w.cell? ⟨g, 0, none⟩ = some (.int .i64 a)) (h1 : w.cell? ⟨g, 1, none⟩ = some (.int .i64 b)) (h2 : w.cell? ⟨g, 2, none⟩ = some (.int .i64 c)) :
    Calls Try.prog 58 #[.slice (some ⟨g, 0, none⟩) 3 3] w fun e w' => e = .returned (.int .i64 (or3 a b c)) ∧ w = w' := by
  have h := or_calls ⟨g, 0, none⟩ 3 [a, b, c] w (fun k x hx => by
    rw [add_plain]
    rcases k with _ | _ | _ | k
    · simp at hx; subst hx; exact h0
    · simp at hx; subst hx; exact h1
    · simp at hx; subst hx; exact h2
    · simp at hx) (by simp)
  have e : orL [a, b, c] = or3 a b c := by unfold or3; simp only [orL]; split <;> (try split) <;> (try split) <;> simp_all
  rw [e] at h
  exact h
set_option maxHeartbeats 1000000 in
set_option maxRecDepth 100000 in
theorem compareT_calls (a b : Tag) (w : World) : Calls Try.prog 39 #[.agg #[.int .i64 a.seq, .int .i64 a.who, .int .i64 a.op], .agg #[.int .i64 b.seq, .int .i64 b.who, .int .i64 b.op]] w fun e w' => e = .returned (.int .i64 (cmpT a b)) ∧ Below w.heap.size w w' := by
  obtain ⟨a1, a2, a3⟩ := a
  obtain ⟨b1, b2, b3⟩ := b
  go_enter Try.func39, Try.ntmps39
  go_wp2
  refine region_tail 15 (by kernel_rfl) (by kernel_rfl) ?_
  simp only [List.take_succ_cons, List.take_zero, List.drop_succ_cons, List.drop_zero]
  still_step
  still_step
  still_step
  still_step
  still_call (compare_same _ _ _)
  still_step
  still_step
  still_step
  still_step
  still_call (compare_same _ _ _)
  still_step
  still_step
  still_step
  still_step
  still_call (compare_same _ _ _)
  refine wpStill_nil ?_
  go_wp2_with fail
  refine (or3_calls _ (cmp3 a1 b1) (cmp3 a2 b2) (cmp3 a3 b3) _ (by go_simp) (by go_simp) (by go_simp)).mono ?_
  rintro e w' ⟨rfl, rfl⟩
  go_wp2
  go_ret
  exact ⟨rfl, below_drew (below_alloc (below_alloc (below_alloc (Below.refl _ _) _) _) _)⟩
theorem size_zero (k : ByteArray) : k = ByteArray.empty ↔ k.size = 0 := by
  constructor
  · rintro rfl; rfl
  · intro h; exact ByteArray.ext (Array.eq_empty_of_size_eq_zero h)
theorem ret_i64 {a b : Int} (h : a = b) : Ending.returned (.int .i64 a) = .returned (.int .i64 b) := by rw [h]
def TagOk (t : Tag) : Prop := 0 ≤ t.seq ∧ t.seq ≤ 1099511627775 ∧ 0 ≤ t.who ∧ t.who ≤ 1048575 ∧ 0 ≤ t.op ∧ t.op ≤ 1048575 ∧ (t.seq = 0 → t.who = 0 ∧ t.op = 0)
instance (t : Tag) : Decidable (TagOk t) := by unfold TagOk; infer_instance
def chk (t : Tag) : Int := if TagOk t then 0 else 2
theorem chk_no {t : Tag} (h : ¬ TagOk t) : chk t = 2 := if_neg h
theorem chk_ok {t : Tag} (h : TagOk t) : chk t = 0 := if_pos h
theorem none_calls (a1 a2 a3 : Int) (w : World) : Calls Try.prog 38 #[.agg #[.int .i64 a1, .int .i64 a2, .int .i64 a3]] w fun e w' => e = .returned (.bool (a1 == 0)) ∧ Below w.heap.size w w' := by
  go_enter Try.func38, Try.ntmps38
  go_wp2
  go_ret
  exact ⟨rfl, below_alloc (Below.refl _ _) _⟩
set_option maxRecDepth 100000 in
theorem check_calls (a1 a2 a3 : Int) (w : World) : Calls Try.prog 57 #[.agg #[.int .i64 a1, .int .i64 a2, .int .i64 a3]] w fun e w' => e = .returned (.int .i64 (chk ⟨a1, a2, a3⟩)) ∧ Below w.heap.size w w' := by
  go_enter Try.func57, Try.ntmps57
  go_wp2
  all_goals
    go_ret
    refine ⟨by first | (rw [chk_no (by unfold TagOk; dsimp only; omega)]; rfl) | (rw [chk_ok (by unfold TagOk; dsimp only; omega)]; rfl), ?_⟩
    repeat (first | exact Below.refl _ _ | refine below_alloc ?_ _ | refine below_drew ?_)
def EntOk (e : Entry) : Prop := 1 ≤ e.key.size ∧ e.key.size ≤ 250 ∧ e.val.b.length ≤ 60000 ∧ (e.val.has = false → e.val.b.length = 0) ∧ TagOk e.tag ∧ (e.tag.seq = 0 → e.val.has = false)
instance (e : Entry) : Decidable (EntOk e) := by unfold EntOk; infer_instance
def rgt (e : Entry) : Int := if EntOk e then 0 else 2
theorem rgt_no {e : Entry} (h : ¬ EntOk e) : rgt e = 2 := if_neg h
theorem rgt_ok {e : Entry} (h : EntOk e) : rgt e = 0 := if_pos h
set_option maxRecDepth 100000 in
theorem right_calls (k : ByteArray) (a1 a2 a3 : Int) (h : Bool) (A : Option Addr) (c : Nat) (b : List UInt8) (w : World) (hk : k.size ≤ 140737488351232) (hb : b.length ≤ 140737488351232) :
    Calls Try.prog 37 #[.agg #[.string k, .int .i64 a1, .int .i64 a2, .int .i64 a3, .bool h, .slice A b.length c]] w fun e w' => e = .returned (.int .i64 (rgt ⟨k, ⟨a1, a2, a3⟩, ⟨h, b⟩⟩)) ∧ Below w.heap.size w w' := by
  go_enter Try.func37, Try.ntmps37
  go_wp2_with (first | ((with_reducible refine (check_calls _ _ _ _).mono ?_); rintro e w' ⟨rfl, hb1⟩; have HB := Aside0.mk hb1; have hcc := (bcell hb1).1; have hz : w.heap.size < w'.heap.size := (by have := hb1.size; simp at this; omega); clear hb1) | ((with_reducible refine (none_calls _ _ _ _).mono ?_); rintro e w' ⟨rfl, hb1⟩; have HB2 := Aside0.mk hb1; have hcc2 := (bcell hb1).1; clear hb1))
  all_goals
    have hke : k = ByteArray.empty ↔ k.size = 0 := size_zero k
    go_ret
    refine ⟨?_, ?_⟩
    · refine ret_i64 ?_
      grind [rgt, EntOk, chk]
    · first
      | exact below_alloc (Below.refl _ w) _
      | exact Below.then_ (below_alloc (Below.refl _ w) _) HB.out (Nat.le_refl _)
      | exact Below.then_ (Below.then_ (below_alloc (Below.refl _ w) _) HB.out (Nat.le_refl _)) HB2.out (Nat.le_refl _)
theorem size_calls (k : ByteArray) (a1 a2 a3 : Int) (h : Bool) (A : Option Addr) (c : Nat) (b : List UInt8) (w : World) (hk : k.size ≤ 140737488351232) (hb : b.length ≤ 140737488351232) :
    Calls Try.prog 60 #[.agg #[.string k, .int .i64 a1, .int .i64 a2, .int .i64 a3, .bool h, .slice A b.length c]] w fun e w' => e = .returned (.int .i64 ((k.size + b.length : Nat) : Int)) ∧ Below w.heap.size w w' := by
  go_enter Try.func60, Try.ntmps60
  go_wp2
  go_ret
  exact ⟨ret_i64 (by simp), below_alloc (Below.refl _ _) _⟩
/-- What a copy is: its own bytes. -/
def Copied (W w' : World) (e : Entry) (cs : List Value) : Prop := BK Entry.k w' e cs ∧ Kd.FK Entry.k w' (fun k => W.heap.size ≤ k) e cs ∧ Below W.heap.size W w'
def CopyTold (w : World) (e : Entry) (r : Ending) (w' : World) : Prop := ∃ cs, r = .returned (.agg cs) ∧ Copied w w' e cs.toList
set_option maxRecDepth 100000 in
theorem copy_calls (e : Entry) (A : Option Addr) (c : Nat) (w : World) (hK : Entry.k.K w e [.string e.key, .int .i64 e.tag.seq, .int .i64 e.tag.who, .int .i64 e.tag.op, .bool e.val.has, .slice A e.val.b.length c]) (hl : e.val.b.length ≤ 140737488351232) :
    Calls Try.prog 43 #[.agg #[.string e.key, .int .i64 e.tag.seq, .int .i64 e.tag.who, .int .i64 e.tag.op, .bool e.val.has, .slice A e.val.b.length c]] w (CopyTold w e) := by
  obtain ⟨A5, c5, he, s0, r1, r2, r3, l5, g5⟩ := Entry.open_ hK
  simp only [List.cons.injEq, Value.slice.injEq, true_and, and_true] at he
  obtain ⟨rfl, rfl⟩ := he
  have HG := Aside0.mk g5
  have HR := Aside0.mk (And.intro s0 (And.intro r1 (And.intro r2 r3)))
  clear hK g5 r1 r2 r3 s0
  obtain ⟨ek, ⟨a1, a2, a3⟩, ⟨h, b⟩⟩ := e
  dsimp only at *
  go_enter Try.func43, Try.ntmps43
  go_wp2_with (first | (at_builtin; refine ownB_copy rfl _ _ rfl rfl (A := A) (c := c) (xs := b) rfl (Kd.C_below HG.out (below_alloc (below_alloc (Below.refl _ _) _) _)) (by omega) ?_; intro A' c' w1 hl1 hC1 hF1 hB1; have H1 := Aside0.mk (And.intro hl1 (And.intro hC1 (And.intro hF1 hB1))); have hz : w.heap.size + 1 < w1.heap.size := (by have := hB1.size; simp at this; omega); have B0 := (((Blk.new w [.string ek, .int .i64 a1, .int .i64 a2, .int .i64 a3, .bool h, .slice A b.length c] 37).alloc (.cells #[.string ByteArray.empty, .int .i64 0, .int .i64 0, .int .i64 0, .bool false, .slice none 0 0] 37)).on hB1).six; have B1 := ((Blk.new_ (w.alloc (.cells #[.string ek, .int .i64 a1, .int .i64 a2, .int .i64 a3, .bool h, .slice A b.length c] 37)) #[.string ByteArray.empty, .int .i64 0, .int .i64 0, .int .i64 0, .bool false, .slice none 0 0] 37 (g := w.heap.size + 1) (by simp) rfl).on hB1).six; obtain ⟨⟨x0, x1, x2, x3, x4, x5⟩, f0, f1, f2, f3, f4, f5⟩ := B0; obtain ⟨⟨y0, y1, y2, y3, y4, y5⟩, g0, g1, g2, g3, g4, g5⟩ := B1; clear hl1 hC1 hF1 hB1))
  obtain ⟨⟨h1, h2, h3, h4⟩⟩ := H1
  refine bodyPost_ret (v := .agg #[.string ek, .int .i64 a1, .int .i64 a2, .int .i64 a3, .bool h, .slice A' b.length c']) (by simp [results, Try.results43, go_sem, x0, x1, x2, x3, x4, x5, y0, y1, y2, y3, y4, y5]; try rfl) rfl ?_
  have ho : Only [w.heap.size, w.heap.size + 1] w1 _ := (((((((Only.refl _ w1).set (p := ⟨w.heap.size, 5, none⟩) (.slice A' b.length c') (by simp)).set (p := ⟨w.heap.size + 1, 0, none⟩) (.string ek) (by simp)).set (p := ⟨w.heap.size + 1, 1, none⟩) (.int .i64 a1) (by simp)).set (p := ⟨w.heap.size + 1, 2, none⟩) (.int .i64 a2) (by simp)).set (p := ⟨w.heap.size + 1, 3, none⟩) (.int .i64 a3) (by simp)).set (p := ⟨w.heap.size + 1, 4, none⟩) (.bool h) (by simp)).set (p := ⟨w.heap.size + 1, 5, none⟩) (.slice A' b.length c') (by simp)
  have hn : ∀ ad, A' = some ad → ad.block ∉ [w.heap.size, w.heap.size + 1] := fun ad e => by have := (h3 ad e).1; simp at this; simp; omega
  have hf := Foot.only (kU8_in (ok := fun k => w.heap.size + 2 ≤ k) h2 (fun ad e => by have := (h3 ad e).1; simp at this; omega)) ho (fun i hi => by simp; omega)
  have hg := kU8_in (ok := fun k => Ty w1 5 k ∧ k ∉ [w.heap.size, w.heap.size + 1]) h2 (fun ad e => ⟨(h3 ad e).2, hn ad e⟩)
  have hg := Foot.mono (Foot.only hg ho (fun i hi => hi.2)) (ok' := Ty _ 5) (fun i hi => hi.1.only ho hi.2)
  refine ⟨_, rfl, fun W' hW => Entry.mk_ W' ⟨ek, ⟨a1, a2, a3⟩, ⟨h, b⟩⟩ HR.out.1 HR.out.2.1 HR.out.2.2.1 HR.out.2.2.2 h1 (hg W' hW), fun W' hW => Entry.mk_ W' ⟨ek, ⟨a1, a2, a3⟩, ⟨h, b⟩⟩ HR.out.1 HR.out.2.1 HR.out.2.2.1 HR.out.2.2.2 h1 ?_, ?_⟩
  · exact hf W' (fun k hk hlt => hW k (by omega) hlt)
  · exact (Only.of_below [w.heap.size, w.heap.size + 1] (Below.then_ (below_alloc (below_alloc (Below.refl _ w) _) _) h4 (Nat.le_refl _))).trans ho |>.below (by simp) (Nat.le_refl _)
end Tags
end Go.Proofs.Ytgfjkpnaabiecaa
set_option linter.unusedVariables false
set_option linter.unusedSimpArgs false
namespace Go.Proofs.Ytgfjkpnaabiecaa
open Go.RowKit Go.Proofs.YtgfjkpnaabiecaaW.PrintWords
structure Tb where
  room : Room
  l : List Cell
  tok : List Int
  uses : Int
namespace Tab
abbrev kl (c : Cell) : List UInt8 := c.e.key.data.toList
theorem key_ext {a b : ByteArray} (h : a.data.toList = b.data.toList) : a = b := ByteArray.ext (Array.toList_inj.1 h)
def csz (e : Entry) : Nat := e.key.size + e.val.b.length
def szs (l : List Cell) : Nat := (l.map fun c => csz c.e).sum
def Srt (l : List Cell) : Prop := l.Pairwise (fun a b => kl a < kl b)
def find (l : List Cell) (k : ByteArray) : Option Cell := l.find? (fun c => decide (c.e.key = k))
def del (l : List Cell) (k : ByteArray) : List Cell := l.filter (fun c => decide (c.e.key ≠ k))
/-- In place of its key's, or at its place. -/
def put : List Cell → Cell → List Cell
  | [], c => [c]
  | x :: r, c => if x.e.key = c.e.key then c :: r else if kl c < kl x then c :: x :: r else x :: put r c
theorem lt_irr (a : List UInt8) : ¬ a < a := List.lt_irrefl a
theorem lt_tr {a b c : List UInt8} (h : a < b) (k : b < c) : a < c := List.lt_trans h k
theorem lt_of {a b : List UInt8} (h : ¬ a < b) (hn : a ≠ b) : b < a := by
  rcases Decidable.em (b < a) with h1 | h1
  · exact h1
  · exact absurd (List.le_antisymm (List.not_lt.1 h1) (List.not_lt.1 h)) hn
theorem ne_of {a b : Cell} (h : kl a < kl b) : a.e.key ≠ b.e.key := fun e => by
  unfold kl at h; rw [e] at h; exact lt_irr _ h
theorem find_mem {l : List Cell} {k : ByteArray} {c : Cell} (h : find l k = some c) : c ∈ l ∧ c.e.key = k := by
  unfold find at h
  exact ⟨List.mem_of_find?_eq_some h, by have := List.find?_some h; simpa using this⟩
theorem find_none {l : List Cell} {k : ByteArray} (h : find l k = none) : ∀ c ∈ l, c.e.key ≠ k := by
  unfold find at h
  intro c hc
  have := List.find?_eq_none.1 h c hc
  simpa using this
theorem find_of {l : List Cell} {c : Cell} (hs : Srt l) (h : c ∈ l) : find l c.e.key = some c := by
  induction l with
  | nil => cases h
  | cons x r ih =>
    have hs' := List.pairwise_cons.1 hs
    unfold find
    rw [List.find?_cons]
    rcases List.mem_cons.1 h with rfl | h'
    · simp
    · have := ne_of (hs'.1 c h')
      simp only [this, decide_false]
      exact ih hs'.2 h'
theorem find_no {l : List Cell} {k : ByteArray} (h : ∀ c ∈ l, c.e.key ≠ k) : find l k = none := by
  unfold find
  rw [List.find?_eq_none]
  intro c hc
  simpa using h c hc
theorem del_perm {l : List Cell} {k : ByteArray} {c : Cell} (hs : Srt l) (h : find l k = some c) : l.Perm (c :: del l k) := by
  induction l with
  | nil => cases h
  | cons x r ih =>
    have hs' := List.pairwise_cons.1 hs
    unfold find at h
    rw [List.find?_cons] at h
    by_cases hx : x.e.key = k
    · simp only [hx, decide_true, Option.some.injEq] at h
      subst h
      have hr : del r k = r := by
        unfold del
        rw [List.filter_eq_self]
        intro a ha
        have := ne_of (hs'.1 a ha)
        simp only [decide_eq_true_eq]
        rw [← hx]; exact this.symm
      unfold del at hr ⊢
      simp only [List.filter_cons, hx, ne_eq, not_true_eq_false, decide_false, Bool.false_eq_true, if_false]
      rw [show (fun c : Cell => decide (¬ c.e.key = k)) = (fun c => decide (c.e.key ≠ k)) from rfl, hr]
    · simp only [hx, decide_false] at h
      have := ih hs'.2 h
      unfold del at this ⊢
      simp only [List.filter_cons, ne_eq, hx, not_false_eq_true, decide_true, if_true]
      exact (this.cons x).trans (List.Perm.swap _ _ _)
theorem del_none {l : List Cell} {k : ByteArray} (h : find l k = none) : del l k = l := by
  unfold del
  rw [List.filter_eq_self]
  intro a ha
  simpa using find_none h a ha
theorem put_perm {l : List Cell} {c : Cell} (hs : Srt l) : (put l c).Perm (c :: del l c.e.key) := by
  induction l with
  | nil => exact List.Perm.refl _
  | cons x r ih =>
    have hs' := List.pairwise_cons.1 hs
    unfold put
    by_cases hx : x.e.key = c.e.key
    · rw [if_pos hx]
      have hr : del r c.e.key = r := by
        unfold del
        rw [List.filter_eq_self]
        intro a ha
        have := ne_of (hs'.1 a ha)
        simp only [decide_eq_true_eq]
        rw [← hx]; exact this.symm
      have hd : del (x :: r) c.e.key = del r c.e.key := by unfold del; rw [List.filter_cons]; simp [hx]
      rw [hd, hr]
    · rw [if_neg hx]
      have hd : del (x :: r) c.e.key = x :: del r c.e.key := by unfold del; rw [List.filter_cons]; simp [hx]
      rw [hd]
      split
      · rename_i hlt
        have hr : del r c.e.key = r := by
          unfold del
          rw [List.filter_eq_self]
          intro a ha
          have h1 := hs'.1 a ha
          have := ne_of (a := c) (b := a) (lt_tr hlt h1)
          simp only [decide_eq_true_eq]
          exact this.symm
        rw [hr]
      · exact ((ih hs'.2).cons x).trans (List.Perm.swap _ _ _)
theorem mem_put {l : List Cell} {c x : Cell} (hs : Srt l) : x ∈ put l c ↔ x = c ∨ (x ∈ l ∧ x.e.key ≠ c.e.key) := by
  rw [(put_perm hs).mem_iff, List.mem_cons]
  unfold del
  rw [List.mem_filter]
  simp
theorem mem_del {l : List Cell} {k : ByteArray} {x : Cell} : x ∈ del l k ↔ x ∈ l ∧ x.e.key ≠ k := by
  unfold del
  rw [List.mem_filter]
  simp
theorem srt_del {l : List Cell} (k : ByteArray) (hs : Srt l) : Srt (del l k) := List.Pairwise.sublist List.filter_sublist hs
theorem put_head {l : List Cell} {c y : Cell} (hs : Srt l) (h : ∀ x ∈ l, kl y < kl x) (hc : kl y < kl c) : ∀ x ∈ put l c, kl y < kl x := by
  intro x hx
  rcases (mem_put hs).1 hx with rfl | ⟨h1, _⟩
  · exact hc
  · exact h x h1
theorem srt_put {l : List Cell} {c : Cell} (hs : Srt l) : Srt (put l c) := by
  induction l with
  | nil => exact List.pairwise_singleton _ _
  | cons x r ih =>
    have hs' := List.pairwise_cons.1 hs
    unfold put
    by_cases hx : x.e.key = c.e.key
    · rw [if_pos hx]
      refine List.pairwise_cons.2 ⟨fun a ha => ?_, hs'.2⟩
      have := hs'.1 a ha
      unfold kl at this ⊢
      rw [← hx]; exact this
    · rw [if_neg hx]
      split
      · rename_i hlt
        refine List.pairwise_cons.2 ⟨fun a ha => ?_, hs⟩
        rcases List.mem_cons.1 ha with rfl | ha
        · exact hlt
        · exact lt_tr hlt (hs'.1 a ha)
      · rename_i hlt
        exact List.pairwise_cons.2 ⟨put_head hs'.2 hs'.1 (lt_of hlt (fun e => hx (key_ext e).symm)), ih hs'.2⟩
theorem szs_perm {a b : List Cell} (h : a.Perm b) : szs a = szs b := (h.map _).sum_nat
theorem szs_cons (c : Cell) (l : List Cell) : szs (c :: l) = csz c.e + szs l := by unfold szs; simp
theorem szs_put {l : List Cell} (c : Cell) (hs : Srt l) : szs (put l c) = csz c.e + szs (del l c.e.key) := by rw [szs_perm (put_perm hs), szs_cons]
theorem szs_mem {l : List Cell} {c : Cell} (h : c ∈ l) : csz c.e ≤ szs l := by
  induction l with
  | nil => cases h
  | cons x r ih =>
    rw [szs_cons]
    rcases List.mem_cons.1 h with rfl | h
    · omega
    · have := ih h; omega
/-- The size of what a key has. -/
def szk (l : List Cell) (k : ByteArray) : Nat := csz ((find l k).getD Cell.z).e
theorem szk_le (l : List Cell) (k : ByteArray) : szk l k ≤ szs l := by
  unfold szk
  cases h : find l k with
  | none => exact Nat.zero_le _
  | some c => exact szs_mem (find_mem h).1
theorem szs_del' {l : List Cell} (k : ByteArray) (hs : Srt l) : szs l = szk l k + szs (del l k) := by
  unfold szk
  cases h : find l k with
  | none => rw [del_none h]; show szs l = 0 + szs l; omega
  | some c => rw [szs_perm (del_perm hs h), szs_cons]; rfl
theorem len_put {l : List Cell} (c : Cell) (hs : Srt l) : (put l c).length = (del l c.e.key).length + 1 := by rw [(put_perm hs).length_eq]; rfl
theorem len_del {l : List Cell} {k : ByteArray} (hs : Srt l) : l.length = (match find l k with | some _ => 1 | none => 0) + (del l k).length := by
  cases h : find l k with
  | none => rw [del_none h]; simp
  | some c => rw [(del_perm hs h).length_eq]; simp; omega
end Tab
end Go.Proofs.Ytgfjkpnaabiecaa
set_option linter.unusedVariables false
set_option linter.unusedSimpArgs false
namespace Go.Proofs.Ytgfjkpnaabiecaa
open Go.RowKit Go.Proofs.YtgfjkpnaabiecaaW.PrintWords
open Go.Maps (Keyed)
namespace Tab
theorem lawK : Keyed Try.prog 9 := Go.Maps.string_keyed Try.underlying9
theorem keyS {s : ByteArray} (h : s.size ≤ 140737488351232) : IsKey 9 (.string s) := ⟨_, Go.WideMaps.keyOf_string_mk Try.underlying9 (by unfold maxLen; omega)⟩
/-- A cell as a map holds it: what it leads to lies in ok. -/
def CE (w : World) (c : Cell) (x : Value × Value) : Prop := x.1 = .string c.e.key ∧ ∃ cs, x.2 = .agg cs ∧ BK Cell.k w c cs.toList
theorem CE.only {w w1 : World} {c : Cell} {x : Value × Value} {S : List Nat} (h : CE w c x) (k : Only S w w1) (hn : ∀ i ∈ S, ¬ Ty w 5 i) : CE w1 c x := by
  obtain ⟨h1, cs, h2, h3⟩ := h
  exact ⟨h1, cs, h2, h3.only k hn⟩
/-- Block b is a map of the cells l. -/
def MapT (w : World) (b : Nat) (l : List Cell) : Prop := ∃ g : Cell → Value × Value, MapL w 9 b (l.map g) ∧ ∀ c ∈ l, CE w c (g c)
theorem zeroC (w : World) : (zeroValue 47).run Try.prog w = .ok (.agg #[.string ByteArray.empty, .int .i64 0, .int .i64 0, .int .i64 0, .bool false, .slice none 0 0, .bool false, .bool false, .int .i64 0]) w := by kernel_rfl
section
variable {w w1 : World} {b : Nat} {l : List Cell}
theorem MapT.noTy (h : MapT w b l) (t : TypeId) : ¬ Ty w t b := by obtain ⟨g, h1, _⟩ := h; exact h1.noTy
theorem MapT.only {S : List Nat} (h : MapT w b l) (k : Only S w w1) (hb : b ∉ S) (hn : ∀ i ∈ S, ¬ Ty w 5 i) : MapT w1 b l := by
  obtain ⟨g, h1, h2⟩ := h
  exact ⟨g, h1.only k hb, fun c hc => (h2 c hc).only k hn⟩
theorem MapT.lt (h : MapT w b l) : b < w.heap.size := by obtain ⟨g, h1, _⟩ := h; exact h1.lt
theorem MapT.perm {l' : List Cell} (h : MapT w b l) (p : l.Perm l') : MapT w b l' := by
  obtain ⟨g, h1, h2⟩ := h
  exact ⟨g, h1.perm (p.map g), fun c hc => h2 c (p.mem_iff.2 hc)⟩
theorem MapT.key_no (h : MapT w b l) {k : ByteArray} (hf : find l k = none) {g : Cell → Value × Value} (hg : ∀ c ∈ l, CE w c (g c)) : ∀ v, (Value.string k, v) ∉ l.map g := by
  intro v hv
  obtain ⟨c, hc, he⟩ := List.mem_map.1 hv
  have h1 := (hg c hc).1
  rw [he] at h1
  injection h1 with h1
  exact find_none hf c hc h1.symm
/-- The cells of a cell. -/
def ccs (c : Cell) (A : Option Addr) (cp : Nat) : List Value := [.string c.e.key, .int .i64 c.e.tag.seq, .int .i64 c.e.tag.who, .int .i64 c.e.tag.op, .bool c.e.val.has, .slice A c.e.val.b.length cp, .bool c.whole, .bool c.clean, .int .i64 c.used]
theorem ccs_of {w : World} {c : Cell} {cs : Array Value} (h : BK Cell.k w c cs.toList) : ∃ A cp, cs = (ccs c A cp).toArray ∧ BK Cell.k w c (ccs c A cp) := by
  obtain ⟨A, cp, he, _⟩ := Cell.open_ h.now
  exact ⟨A, cp, by rw [show ccs c A cp = cs.toList from he.symm], by rw [show ccs c A cp = cs.toList from he.symm]; exact h⟩
theorem bk_z (w : World) : BK Cell.k w Cell.z (ccs Cell.z none 0) := fun W' _ => Cell.mk_ W' Cell.z (by decide) (InR.mk64 (by decide) (by decide)) (InR.mk64 (by decide) (by decide)) (InR.mk64 (by decide) (by decide)) (Nat.le_refl _) (Kd.C_nil _ _) (InR.mk64 (by decide) (by decide))
/-- m[k], there or not. -/
theorem MapT.look_or (h : MapT w b l) (k : ByteArray) (hk : k.size ≤ 140737488351232) :
    ∃ o A cp, o = (find l k).getD Cell.z ∧ BK Cell.k w o (ccs o A cp) ∧ ∀ q w', w'.heap[b]? = w.heap[b]? → (Instr.lookup 81 (.map (some b)) (.string k) q).run Try.prog w' = .ok (if q then .tuple #[.agg (ccs o A cp).toArray, .bool (find l k).isSome] else .agg (ccs o A cp).toArray) w' := by
  have h' := h
  obtain ⟨g, h1, h2⟩ := h
  cases hf : find l k with
  | none =>
    exact ⟨Cell.z, none, 0, rfl, bk_z w, fun q w' he => (h1.move he).look_new lawK Try.underlying81 (zeroC w') q (keyS hk) (h'.key_no hf h2)⟩
  | some c =>
    obtain ⟨hc, rfl⟩ := find_mem hf
    obtain ⟨e1, cs, e2, e3⟩ := h2 c hc
    obtain ⟨A, cp, rfl, e4⟩ := ccs_of e3
    exact ⟨c, A, cp, rfl, e4, fun q w' he => (h1.move he).look_old lawK Try.underlying81 q (keyS hk) (List.mem_map.2 ⟨c, hc, by rw [← e1, ← e2]⟩)⟩
/-- len(m). -/
theorem MapT.len (h : MapT w b l) (ty : TypeId) : ∀ w', w'.heap[b]? = w.heap[b]? → (Builtin.len_ #[81] ty #[.map (some b)]).run Try.prog w' = .ok (.int .i64 (l.length : Int)) w' := by
  intro w' he
  obtain ⟨g, ⟨es, cl, hb, hs, hk, hp⟩, _⟩ := h
  have : es.size = l.length := by have := hp.length_eq; unfold ents at this; simpa using this
  simp [Builtin.len_, run_underlying Try.underlying81, MapKept.run_getObj_map (he.trans hb), goInt, this, Result.andThen]
theorem only_grown {S : List Nat} {row : Nat} (hg : w.grownBy w1 (some row)) (hr : row ∈ S) : Only S w w1 := (Only.refl S w).grown hg (fun k hk => by injection hk with hk; subst hk; exact .inl hr)
/-- m[k] = c. -/
theorem MapT.put (h : MapT w b l) (hs : Srt l) {c : Cell} {cs : Array Value} (hk : c.e.key.size ≤ 140737488351232) (hc : BK Cell.k w c cs.toList) :
    ∃ w', (Instr.mapUpdate 81 (.map (some b)) (.string c.e.key) (.agg cs)).run Try.prog w = .ok () w' ∧ MapT w' b (put l c) ∧ w.grownBy w' (some b) := by
  have h' := h
  obtain ⟨g, h1, h2⟩ := h
  have hn : ∀ i ∈ [b], ¬ Ty w 5 i := fun i hm => by simp at hm; subst hm; exact h'.noTy _
  have key : ∀ w', MapL w' 9 b ((.string c.e.key, .agg cs) :: (del l c.e.key).map g) → w.grownBy w' (some b) → MapT w' b (Tab.put l c) := by
    intro w' hm hg
    have ho := only_grown (S := [b]) hg (by simp)
    refine MapT.perm (l := c :: del l c.e.key) ⟨fun x => if x.e.key = c.e.key then (.string c.e.key, .agg cs) else g x, ?_, fun x hx => ?_⟩ (put_perm hs).symm
    · rw [List.map_cons]
      simp only [if_true]
      have : (del l c.e.key).map (fun x => if x.e.key = c.e.key then (Value.string c.e.key, Value.agg cs) else g x) = (del l c.e.key).map g := List.map_congr_left (fun x hx => if_neg (mem_del.1 hx).2)
      rw [this]
      exact hm
    · rcases List.mem_cons.1 hx with rfl | hx
      · simp only [if_true]
        exact ⟨rfl, cs, rfl, hc.only ho hn⟩
      · simp only [if_neg (mem_del.1 hx).2]
        exact (h2 x (mem_del.1 hx).1).only ho hn
  cases hf : find l c.e.key with
  | none =>
    obtain ⟨w', r1, r2, r3⟩ := h1.put_new lawK Try.underlying81 (.agg cs) (keyS hk) (h'.key_no hf h2)
    exact ⟨w', r1, key w' (by rw [del_none hf]; exact r2) r3, r3⟩
  | some c0 =>
    obtain ⟨hm0, hk0⟩ := find_mem hf
    obtain ⟨e1, cs0, e2, _⟩ := h2 c0 hm0
    have hp : (l.map g).Perm ((.string c.e.key, .agg cs0) :: (del l c.e.key).map g) := by
      have := (del_perm hs hf).map g
      rw [List.map_cons, show g c0 = (.string c.e.key, .agg cs0) from by rw [← hk0, ← e1, ← e2]] at this
      exact this
    obtain ⟨w', r1, r2, r3⟩ := h1.put_old lawK Try.underlying81 (.agg cs) (keyS hk) hp
    exact ⟨w', r1, key w' r2 r3, r3⟩
/-- delete(m, k). -/
theorem MapT.drop (h : MapT w b l) (hs : Srt l) {k : ByteArray} (hk : k.size ≤ 140737488351232) (ty : TypeId) :
    ∃ w', (Builtin.delete_ #[81, 9] ty #[.map (some b), .string k]).run Try.prog w = .ok (.tuple #[]) w' ∧ MapT w' b (del l k) ∧ w.grownBy w' (some b) := by
  have h' := h
  obtain ⟨g, h1, h2⟩ := h
  have hn : ∀ i ∈ [b], ¬ Ty w 5 i := fun i hm => by simp at hm; subst hm; exact h'.noTy _
  have key : ∀ w', MapL w' 9 b ((del l k).map g) → w.grownBy w' (some b) → MapT w' b (del l k) := fun w' hm hg =>
    ⟨g, hm, fun x hx => (h2 x (mem_del.1 hx).1).only (only_grown (S := [b]) hg (by simp)) hn⟩
  cases hf : find l k with
  | none =>
    obtain ⟨w', r1, r2, r3⟩ := h1.del_new (ty := ty) lawK Try.underlying81 (keyS hk) (h'.key_no hf h2)
    exact ⟨w', r1, key w' (by rw [del_none hf]; exact r2) r3, r3⟩
  | some c0 =>
    obtain ⟨hm0, hk0⟩ := find_mem hf
    obtain ⟨e1, cs0, e2, _⟩ := h2 c0 hm0
    have hp : (l.map g).Perm ((.string k, .agg cs0) :: (del l k).map g) := by
      have := (del_perm hs hf).map g
      rw [List.map_cons, show g c0 = (.string k, .agg cs0) from by rw [← hk0, ← e1, ← e2]] at this
      exact this
    obtain ⟨w', r1, r2, r3⟩ := h1.del_old (ty := ty) lawK Try.underlying81 (keyS hk) hp
    exact ⟨w', r1, key w' r2 r3, r3⟩
end
end Tab
/-- A table in memory: block p, its map in block mb, its tokens in block tb. -/
structure TbR (w : World) (p mb tb : Nat) (T : Tb) : Prop where
  blk : ∃ cap, T.tok.length ≤ cap ∧ Blk w p [.int .i64 T.room.cells, .int .i64 T.room.bytes, .int .i64 T.room.buckets, .bool T.room.fresh, .map (some mb), .slice (some ⟨tb, 0, none⟩) T.tok.length cap, .int .i64 T.uses, .int .i64 ((Tab.szs T.l : Nat) : Int)]
  pty : Ty w 83 p
  tok : Blk w tb (T.tok.map (.int .i64))
  tty : Ty w 3 tb
  map : Tab.MapT w mb T.l
  srt : Tab.Srt T.l
namespace TbR
variable {w w1 : World} {p mb tb : Nat} {T : Tb}
theorem only {S : List Nat} (h : TbR w p mb tb T) (k : Only S w w1) (h1 : p ∉ S) (h2 : mb ∉ S) (h3 : tb ∉ S) (hn : ∀ i ∈ S, ¬ Ty w 5 i) : TbR w1 p mb tb T := by
  obtain ⟨⟨cap, hc, hb⟩, hp, ht, hty, hm, hs⟩ := h
  exact ⟨⟨cap, hc, hb.only k h1⟩, hp.only k h1, ht.only k h3, hty.only k h3, hm.only k h2 hn, hs⟩
theorem below (h : TbR w p mb tb T) (k : Below w.heap.size w w1) : TbR w1 p mb tb T := h.only (S := []) (Only.of_below [] k) (by simp) (by simp) (by simp) (by simp)
theorem ne (h : TbR w p mb tb T) : p ≠ mb ∧ p ≠ tb ∧ mb ≠ tb :=
  ⟨fun e => h.map.noTy _ (e ▸ h.pty), fun e => (h.pty.ne (t' := 3) (by decide)) (e ▸ h.tty), fun e => h.map.noTy _ (e ▸ h.tty)⟩
theorem noB (h : TbR w p mb tb T) : ∀ i ∈ [p, mb, tb], ¬ Ty w 5 i := by
  intro i hi
  simp at hi
  rcases hi with rfl | rfl | rfl
  · exact h.pty.ne (by decide)
  · exact h.map.noTy _
  · exact h.tty.ne (by decide)
theorem lt (h : TbR w p mb tb T) : p < w.heap.size ∧ mb < w.heap.size ∧ tb < w.heap.size := ⟨h.pty.lt, h.map.lt, h.tty.lt⟩
end TbR
end Go.Proofs.Ytgfjkpnaabiecaa
set_option linter.unusedVariables false
namespace Go.Proofs.Ytgfjkpnaabiecaa
open Go.RowKit
section
variable {P : Program} {ops : Array Oper} {md : Region.Mode} {S : World → Prop}
/-- What comes of a run: the value v, in a world that meets S. -/
def CalmRun (P : Program) (S : World → Prop) (v : Value) : Result Next → Prop
  | .ok (.value u) w' => u = v ∧ S w'
  | .ok .skip w' => v = undef ∧ S w'
  | .ok (.enter f args) w' => Calls P f args w' (fun e w'' => e = .returned v ∧ S w'')
  | _ => False
def CalmAt (P : Program) (ops : Array Oper) (S : World → Prop) (o : Oper) (v : Value) (a : Act) : Prop :=
  (Region.wanted o (yielded ops a.tmps) = true ∧ ∀ w, S w → CalmRun P S v ((execOp a.eval o).run P w)) ∨ (Region.wanted o (yielded ops a.tmps) = false ∧ v = undef)
theorem CalmAt.of_same {o : Oper} {v : Value} {a a' : Act} (hy : CalmAt P ops S o v a) (he : execOp a'.eval o = execOp a.eval o)
    (hw : Region.wanted o (yielded ops a'.tmps) = Region.wanted o (yielded ops a.tmps)) : CalmAt P ops S o v a' := by
  unfold CalmAt at *
  rw [he, hw]
  exact hy
theorem CalmAt.wpOp {i : Nat} {o : Oper} {v : Value} {a : Act} {w : World} {Q : Exit → Act → World → Prop} {K : Act → World → Prop} (hi : ops[i]? = some o) (hy : CalmAt P ops S o v a) (hS : S w) (h : ∀ w', S w' → K (a.put o.dst v) w') : wpOp P ops Q i K a w := by
  unfold Go.wpOp
  simp only [hi]
  rcases hy with ⟨hw, hv⟩ | ⟨hw, rfl⟩
  · simp only [hw, if_true]
    refine .inl ?_
    have h1 := hv w hS
    unfold Oper.wp
    generalize (execOp a.eval o).run P w = r at *
    cases r with
    | ok n w' =>
      cases n <;> simp only [CalmRun] at h1 <;> simp only [Oper.upon]
      case value u => obtain ⟨rfl, h2⟩ := h1; exact h _ h2
      case skip => obtain ⟨rfl, h2⟩ := h1; exact h _ h2
      case enter f args => exact h1.mono fun e w'' ⟨he, hs⟩ => by subst he; exact h _ hs
    | halt x w' => simp only [CalmRun] at h1
  · simp only [hw, Bool.false_eq_true, if_false]; exact h _ hS
/-- Whatever comes up of the head, it is calm; behind the head stands L. -/
def wpAnyC (P : Program) (md : Region.Mode) (ops : Array Oper) (S : World → Prop) (n : Nat) (L : Array Bool → Act → Prop) : Nat → Array Bool → Act → Prop
  | 0, listed, a => L listed a
  | f + 1, listed, a => Region.ready md ops listed ≠ [] ∧ ∀ i ∈ Region.ready md ops listed, i < n ∧ ∃ o v, ops[i]? = some o ∧ CalmAt P ops S o v a ∧ wpAnyC P md ops S n L f (listed.setIfInBounds i true) (a.put o.dst v)
theorem wpAny_of_calm {n g : Nat} {L : Array Bool → Act → Prop} {Q : Exit → Act → World → Prop} (hL : ∀ listed a w, L listed a → S w → wpAny P md ops Q g listed a w) :
    ∀ (f : Nat) (listed : Array Bool) (a : Act) (w : World), S w → wpAnyC P md ops S n L f listed a → wpAny P md ops Q (f + g) listed a w
  | 0, listed, a, w, hS, h => by rw [Nat.zero_add]; exact hL _ _ _ h hS
  | f + 1, listed, a, w, hS, h => by
    rw [show f + 1 + g = (f + g) + 1 by omega]
    refine ⟨fun h0 => absurd h0 h.1, fun i hi => ?_⟩
    obtain ⟨_, o, v, ho, hc, hr⟩ := h.2 i hi
    exact hc.wpOp ho hS (fun w' hS' => wpAny_of_calm hL f _ _ w' hS' hr)
theorem wpAnyC_first {n i : Nat} {oi : Oper} {v : Value} {L : Array Bool → Act → Prop} (hi : ops[i]? = some oi) (hsel : ∀ (j : Nat) (o : Oper) cs b, ops[j]? = some o → o.op ≠ .select cs b)
    (hs : Region.sinkB md ops n = true) (hc : Region.chainB md ops n = true) (hn : n < ops.size) (hin : i < n)
    (hdone : ∀ listed a, L listed a → ∀ j ∈ Region.ready md ops listed, n ≤ j) :
    ∀ (f : Nat) (listed : Array Bool) (a : Act), HeadInv md ops n listed →
      (∀ j oj, ops[j]? = some oj → j ≠ i → listed.getD j true = false → (∀ e ∈ oj.after, Region.binds md e = true → e.on ≠ i) → oi.apart ops oj = true) →
      i ∈ Region.ready md ops listed → CalmAt P ops S oi v a →
      wpAnyC P md ops S n L f (listed.setIfInBounds i true) (a.put oi.dst v) → wpAnyC P md ops S n L (f + 1) listed a := by
  intro f
  induction f with
  | zero =>
    intro listed a inv _ hr hy H
    have hun := (mem_ready.1 hr).1
    refine ⟨fun h => (by rw [h] at hr; cases hr), fun j hj => ?_⟩
    have hjn : j < n := by
      rcases Nat.lt_or_ge j n with h | h
      · exact h
      · exact absurd hj (tail_waits hs hc hn inv _ i rfl hin hun j h)
    refine ⟨hjn, ?_⟩
    by_cases hji : j = i
    · subst hji; exact ⟨oi, v, hi, hy, H⟩
    · have := hdone _ _ H j (ready_mono hj hji)
      omega
  | succ f ih =>
    intro listed a inv hfree hr hy H
    have hun := (mem_ready.1 hr).1
    refine ⟨fun h => (by rw [h] at hr; cases hr), fun j hj => ?_⟩
    have hjn : j < n := by
      rcases Nat.lt_or_ge j n with h | h
      · exact h
      · exact absurd hj (tail_waits hs hc hn inv _ i rfl hin hun j h)
    refine ⟨hjn, ?_⟩
    by_cases hji : j = i
    · subst hji; exact ⟨oi, v, hi, hy, H⟩
    · obtain ⟨_, oj, u, hoj, hcj, hrj⟩ := H.2 j (ready_mono hj hji)
      obtain ⟨hjun, oj', hoj', hall⟩ := mem_ready.1 hj
      obtain rfl : oj = oj' := Option.some.inj (hoj.symm.trans hoj')
      have hnot : ∀ e ∈ oj.after, Region.binds md e = true → e.on ≠ i := fun e he hb heq => by
        have h1 := hall e he hb
        rw [heq, getD_both hun] at h1
        cases h1
      have hap := hfree j oj hoj hji hjun hnot
      obtain ⟨h1, h2, h3⟩ := Oper.apart_spec hap
      have hsj := fun cs b => hsel j oj cs b hoj
      have hsi := fun cs b => hsel i oi cs b hi
      have hfree' : ∀ k ok, ops[k]? = some ok → k ≠ i → (listed.setIfInBounds j true).getD k true = false →
          (∀ e ∈ ok.after, Region.binds md e = true → e.on ≠ i) → oi.apart ops ok = true := fun k ok hk hki hun hno => by
        refine hfree k ok hk hki ?_ hno
        by_cases hjk : j = k
        · subst hjk; exact hjun
        · rw [getD_set_ne true hjk] at hun; exact hun
      refine ⟨oj, u, hoj, hcj.of_same (execOp_put oj hsj a oi.dst v h1).symm (wanted_put oj a oi.dst v h1).symm, ?_⟩
      refine ih (listed.setIfInBounds j true) _ (inv.set hj hjn) hfree' (ready_mono hr (Ne.symm hji)) (hy.of_same (execOp_put oi hsi a oj.dst u h3) (wanted_put oi a oj.dst u h3)) ?_
      rw [Array.setIfInBounds_comm _ _ hji, ← Act.put_comm a v u h2]
      exact hrj
/-- The head, in the order of the text. -/
def wpCalm (P : Program) (ops : Array Oper) (S : World → Prop) (Q : Act → Prop) : List Oper → Act → Prop
  | [], a => Q a
  | o :: rest, a => ∃ v, CalmAt P ops S o v a ∧ wpCalm P ops S Q rest (a.put o.dst v)
theorem wpCalm_nil {Q : Act → Prop} {a : Act} (h : Q a) : wpCalm P ops S Q [] a := h
theorem wpCalm_val {Q : Act → Prop} {a : Act} {o : Oper} {rest : List Oper} {v : Value} (hw : Region.wanted o (yielded ops a.tmps) = true) (hy : ∀ w, S w → (execOp a.eval o).run P w = .ok (.value v) w) (h : wpCalm P ops S Q rest (a.put o.dst v)) : wpCalm P ops S Q (o :: rest) a :=
  ⟨v, .inl ⟨hw, fun w hS => by rw [hy w hS]; exact ⟨rfl, hS⟩⟩, h⟩
theorem wpCalm_call {Q : Act → Prop} {a : Act} {o : Oper} {rest : List Oper} {v : Value} {f : FuncId} {args : Array Value} (hw : Region.wanted o (yielded ops a.tmps) = true) (hy : ∀ w, S w → (execOp a.eval o).run P w = .ok (.enter f args) w) (hc : ∀ w, S w → Calls P f args w (fun e w'' => e = .returned v ∧ S w''))
    (h : wpCalm P ops S Q rest (a.put o.dst v)) : wpCalm P ops S Q (o :: rest) a :=
  ⟨v, .inl ⟨hw, fun w hS => by rw [hy w hS]; exact hc w hS⟩, h⟩
theorem wpAnyC_lex {n g : Nat} {Lq : Act → Prop} (hsel : Region.noSelect ops = true) (hs : Region.sinkB md ops n = true) (hc : Region.chainB md ops n = true) (hn : n < ops.size) :
    ∀ (l : List Oper) (k : Nat) (listed : Array Bool) (a : Act), (∀ j, j < l.length → l[j]? = ops[k + j]?) → k + l.length = n → HeadInv md ops n listed →
    Region.lexHead md ops g l.length k listed = true → wpCalm P ops S Lq l a →
    wpAnyC P md ops S n (fun listed' a' => Region.seqB md ops g n listed' = true ∧ Lq a') l.length listed a
  | [], k, listed, a, _, hk, _, hB, h => by
    have : k = n := by simpa using hk
    subst this
    exact ⟨by simpa [Region.lexHead] using hB, h⟩
  | o :: l, k, listed, a, hl, hk, inv, hB, h => by
    have h0 : ops[k]? = some o := by simpa using (hl 0 (by simp)).symm
    simp only [List.length_cons, Region.lexHead, Bool.and_eq_true] at hB
    obtain ⟨⟨hr, hf⟩, hB'⟩ := hB
    have hkn : k < n := by simp only [List.length_cons] at hk; omega
    have hr' : k ∈ Region.ready md ops listed := by simpa using hr
    obtain ⟨v, hy, hK⟩ := h
    exact wpAnyC_first h0 (Region.noSelect_spec hsel) hs hc hn hkn (fun listed' a' hL => seqB_ready hL.1) l.length listed a inv (Region.free_spec h0 hf) hr' hy
      (wpAnyC_lex hsel hs hc hn l (k + 1) _ _ (fun j hj => by have := hl (j + 1) (by simp; omega); simpa [Nat.add_assoc, Nat.add_comm 1 j] using this) (by simp only [List.length_cons] at hk; omega) (inv.set hr' hkn) hB' hK)
/-- The law. -/
theorem region_calm {id : Nat} {Q : Exit → Act → World → Prop} {a : Act} {w : World} {l : List Oper} (n : Nat) (S : World → Prop) (hm : P.follows .mixedOrders = true) (hB : Region.lexTailB .any l.toArray n = true) (hS : S w.drew)
    (h : wpCalm P l.toArray S (fun a' => ∀ w', S w' → wpList P l.toArray Q (l.drop n) a' w') (l.take n) a) : (Code.region id l.toArray true).wp P Q a w := by
  simp only [Region.lexTailB, Bool.and_eq_true, decide_eq_true_eq] at hB
  obtain ⟨⟨⟨⟨hsel, hn⟩, hs⟩, hc⟩, hlex⟩ := hB
  have hn' : n < l.length := by simpa using hn
  have htl : (l.take n).length = n := by simp; omega
  have hdl : (l.drop n).length = l.toArray.size - n := by simp
  have inv0 : HeadInv .any l.toArray n (Array.replicate l.toArray.size false) :=
    ⟨by simp, fun j oj _ hl => (by rw [getD_replicate_false] at hl; cases hl), fun t _ ht => getD_in (by simpa using ht) (getD_replicate_false _ _)⟩
  have H := wpAnyC_lex (md := .any) (g := l.toArray.size - n) hsel hs hc hn (l.take n) 0 _ a (fun j hj => by
    have hj' : j < n := by rw [htl] at hj; exact hj
    simp [hj']) (by simpa using htl) inv0 (by rw [htl]; exact hlex) h
  refine wp_region_any hm ?_
  have := wpAny_of_calm (Q := Q) (g := l.toArray.size - n) (fun listed a' w' hL hS' => by
    have := wpAny_of_seq (md := .any) (Q' := Q) (l.drop n) n listed a' w' (fun j => by simp [List.getElem?_drop]) (by rw [hdl]; exact hL.1) (hL.2 w' hS')
    rwa [hdl] at this) _ _ _ w.drew hS H
  rw [htl, show n + (l.toArray.size - n) = l.toArray.size by omega] at this
  exact this
end
end Go.Proofs.Ytgfjkpnaabiecaa
