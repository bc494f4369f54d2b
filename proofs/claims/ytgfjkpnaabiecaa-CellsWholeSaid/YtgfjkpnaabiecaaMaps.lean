/- Maps: a block is a map of some entries, in whatever order; what is asked of it, put into it, deleted from it. -/
import Derived.Test.YtgfjkpnaabiecaaBase
import Derived.Maps.Own
import Derived.Maps.OwnOps
import Derived.Maps.OwnSet
namespace Go.Proofs.Ytgfjkpnaabiecaa
open Go.RowKit Go.Proofs.YtgfjkpnaabiecaaW.PrintWords
open Go.Maps (Keyed)
open Go.ChangeMaps (setBlock heap_setBlock_same heap_setBlock_other)
open Go.MapKept
/-- A value that may be a key of type k. -/
def IsKey (k : TypeId) (v : Value) : Prop := ∃ l, keyOf Try.prog k v = some l
def ents (es : Array MapEntry) : List (Value × Value) := es.toList.map fun e => (e.key, e.val)
/-- Block b of w is a map of just the entries E, in whatever order. -/
def MapL (w : World) (k : TypeId) (b : Nat) (E : List (Value × Value)) : Prop :=
  ∃ es clock, w.heap[b]? = some (.map es clock) ∧ Stamped es clock ∧ (∀ e ∈ es.toList, IsKey k e.key) ∧ (ents es).Perm E
section
variable {w : World} {k : TypeId} {b : Nat} {E : List (Value × Value)}
theorem MapL.perm {E' : List (Value × Value)} (h : MapL w k b E) (p : E.Perm E') : MapL w k b E' := by
  obtain ⟨es, cl, hb, hs, hk, hp⟩ := h
  exact ⟨es, cl, hb, hs, hk, hp.trans p⟩
theorem MapL.lt (h : MapL w k b E) : b < w.heap.size := by
  obtain ⟨es, cl, hb, _⟩ := h
  exact (Array.getElem?_eq_some_iff.1 hb).1
theorem MapL.move {w' : World} (h : MapL w k b E) (hb : w'.heap[b]? = w.heap[b]?) : MapL w' k b E := by
  obtain ⟨es, cl, hb', r⟩ := h
  exact ⟨es, cl, hb.trans hb', r⟩
theorem MapL.made (w : World) (k : TypeId) : MapL (w.alloc (.map #[] 0)) k w.heap.size [] :=
  ⟨#[], 0, (MapKept.heap_alloc w _).1, stamped_empty 0, by simp, by simp [ents]⟩
theorem MapL.keys (h : MapL w k b E) : ∀ x ∈ E, IsKey k x.1 := by
  obtain ⟨es, cl, _, _, hk, hp⟩ := h
  intro x hx
  obtain ⟨e, he, rfl⟩ := List.mem_map.1 (hp.mem_iff.2 hx)
  exact hk e he
theorem stamped_keys {es : Array MapEntry} {cl : Nat} (h : Stamped es cl) : (ents es).Pairwise (fun x y => x.1 ≠ y.1) := by
  unfold ents
  rw [List.pairwise_map]
  exact ((stamped_iff es cl).1 h).2.2
theorem MapL.apart (h : MapL w k b E) : E.Pairwise (fun x y => x.1 ≠ y.1) := by
  obtain ⟨es, cl, _, hs, _, hp⟩ := h
  exact (hp.pairwise_iff (fun {a b} (h : a.1 ≠ b.1) => h.symm)).1 (stamped_keys hs)
theorem mem_ents {es : Array MapEntry} {e : MapEntry} (h : e ∈ es.toList) : (e.key, e.val) ∈ ents es := List.mem_map.2 ⟨e, h, rfl⟩
theorem one_of {l : List (Value × Value)} (h : l.Pairwise (fun x y => x.1 ≠ y.1)) {x y : Value × Value} (hx : x ∈ l) (hy : y ∈ l) (e : x.1 = y.1) : x = y := by
  induction l with
  | nil => cases hx
  | cons a r ih =>
    obtain ⟨h1, h2⟩ := List.pairwise_cons.1 h
    rcases List.mem_cons.1 hx with rfl | hx' <;> rcases List.mem_cons.1 hy with rfl | hy'
    · rfl
    · exact absurd e (h1 _ hy')
    · exact absurd e.symm (h1 _ hx')
    · exact ih h2 hx' hy'
/-- m[key], the key there. -/
theorem MapL.look_old (h : MapL w k b E) (K : Keyed Try.prog k) {t e : TypeId} (ht : Try.prog.underlying t = some (.map k e)) (c : Bool) {key v : Value} (hkey : IsKey k key) (hm : (key, v) ∈ E) :
    (Instr.lookup t (.map (some b)) key c).run Try.prog w = .ok (if c then .tuple #[v, .bool true] else v) w := by
  obtain ⟨es, cl, hb, hs, hk, hp⟩ := h
  obtain ⟨l, hl⟩ := hkey
  have hm' := hp.mem_iff.2 hm
  rcases K.find w hl es.toList hk with ⟨h1, h2⟩ | ⟨j, e0, h1, h2, h3⟩
  · obtain ⟨x, hx, hxe⟩ := List.mem_map.1 hm'
    simp only [Prod.mk.injEq] at hxe
    exact absurd hxe.1 (h2 x hx)
  · have := one_of (stamped_keys hs) (mem_ents (List.mem_of_getElem? h2)) hm' h3
    simp only [Prod.mk.injEq] at this
    obtain ⟨_, rfl⟩ := this
    simp [Instr.lookup, run_underlying ht, MapKept.run_getObj_map hb, K.check w _ hl, h1, Result.andThen]
/-- m[key], the key not there. -/
theorem MapL.look_new (h : MapL w k b E) (K : Keyed Try.prog k) {t e : TypeId} (ht : Try.prog.underlying t = some (.map k e)) {z : Value} (hz : (zeroValue e).run Try.prog w = .ok z w) (c : Bool) {key : Value} (hkey : IsKey k key) (hm : ∀ v, (key, v) ∉ E) :
    (Instr.lookup t (.map (some b)) key c).run Try.prog w = .ok (if c then .tuple #[z, .bool false] else z) w := by
  obtain ⟨es, cl, hb, hs, hk, hp⟩ := h
  obtain ⟨l, hl⟩ := hkey
  rcases K.find w hl es.toList hk with ⟨h1, h2⟩ | ⟨j, e0, h1, h2, h3⟩
  · simp [Instr.lookup, run_underlying ht, MapKept.run_getObj_map hb, K.check w _ hl, h1, hz, Result.andThen]
  · exact absurd (hp.mem_iff.1 (mem_ents (List.mem_of_getElem? h2))) (h3 ▸ hm e0.val)
theorem grown_setBlock {es : Array MapEntry} {cl : Nat} (hb : w.heap[b]? = some (.map es cl)) (o : Obj) : w.grownBy (setBlock w b o) (some b) :=
  ⟨rfl, rfl, rfl, by simp [setBlock], fun i _ hi => heap_setBlock_other hb _ (fun e => hi (by rw [e]))⟩
/-- m[key] = val, a new key. -/
theorem MapL.put_new (h : MapL w k b E) (K : Keyed Try.prog k) {t e : TypeId} (ht : Try.prog.underlying t = some (.map k e)) {key : Value} (val : Value) (hkey : IsKey k key) (hm : ∀ v, (key, v) ∉ E) :
    ∃ w', (Instr.mapUpdate t (.map (some b)) key val).run Try.prog w = .ok () w' ∧ MapL w' k b ((key, val) :: E) ∧ w.grownBy w' (some b) := by
  obtain ⟨es, cl, hb, hs, hk, hp⟩ := h
  have hkey' := hkey
  obtain ⟨l, hl⟩ := hkey
  rcases K.find w hl es.toList hk with ⟨h1, h2⟩ | ⟨j, e0, h1, h2, h3⟩
  · refine ⟨setBlock w b (.map (es.push ⟨key, val, cl⟩) (cl + 1)), ?_, ⟨_, _, heap_setBlock_same hb _, stamped_push hs h2, ?_, ?_⟩, grown_setBlock hb _⟩
    · simp [Instr.mapUpdate, run_underlying ht, MapKept.run_getObj_map hb, K.check w false hl, h1, MapKept.run_setObj_map _ hb, Result.andThen, setBlock]
    · intro x hx
      simp only [Array.toList_push, List.mem_append, List.mem_singleton] at hx
      rcases hx with hx | rfl
      · exact hk x hx
      · exact hkey'
    · simp only [ents, Array.toList_push, List.map_append, List.map_cons, List.map_nil]
      exact List.perm_append_singleton _ _ |>.trans (hp.cons _)
  · exact absurd (hp.mem_iff.1 (mem_ents (List.mem_of_getElem? h2))) (h3 ▸ hm e0.val)
theorem modify_list {es : Array MapEntry} {j : Nat} {e0 : MapEntry} (h : es.toList[j]? = some e0) (f : MapEntry → MapEntry) : (es.modify j f).toList = es.toList.set j (f e0) := by
  rw [Array.toList_modify, ChangeMaps.modify_eq_set _ _ _ _ h]
theorem set_perm' {α : Type} (l : List α) (j : Nat) (a b : α) (h : l[j]? = some a) {r : List α} (hp : l.Perm (a :: r)) : (l.set j b).Perm (b :: r) := by
  obtain ⟨hj, rfl⟩ := List.getElem?_eq_some_iff.1 h
  have h1 : (l.set j b).Perm (b :: l.eraseIdx j) := ChangeMaps.set_perm l j hj b
  have h2 : l.Perm (l[j] :: l.eraseIdx j) := by
    have := ChangeMaps.set_perm l j hj l[j]
    rwa [List.set_getElem_self] at this
  exact h1.trans ((h2.symm.trans hp).cons_inv.cons b)
/-- m[key] = val, an old key. -/
theorem MapL.put_old (h : MapL w k b E) (K : Keyed Try.prog k) {t e : TypeId} (ht : Try.prog.underlying t = some (.map k e)) {key v0 : Value} (val : Value) (hkey : IsKey k key) {R : List (Value × Value)} (hR : E.Perm ((key, v0) :: R)) :
    ∃ w', (Instr.mapUpdate t (.map (some b)) key val).run Try.prog w = .ok () w' ∧ MapL w' k b ((key, val) :: R) ∧ w.grownBy w' (some b) := by
  obtain ⟨es, cl, hb, hs, hk, hp⟩ := h
  have hkey' := hkey
  obtain ⟨l, hl⟩ := hkey
  have hm' : (key, v0) ∈ ents es := (hp.trans hR).mem_iff.2 List.mem_cons_self
  rcases K.find w hl es.toList hk with ⟨h1, h2⟩ | ⟨j, e0, h1, h2, h3⟩
  · obtain ⟨x, hx, hxe⟩ := List.mem_map.1 hm'
    simp only [Prod.mk.injEq] at hxe
    exact absurd hxe.1 (h2 x hx)
  · have hj : es[j]? = some e0 := by simpa using h2
    have hone := one_of (stamped_keys hs) (mem_ents (List.mem_of_getElem? h2)) hm' h3
    have hlist := modify_list h2 (fun e' => { e' with key := key, val := val })
    refine ⟨setBlock w b (.map (es.modify j (fun e' => { e' with key := key, val := val })) cl), ?_, ⟨_, _, heap_setBlock_same hb _, stamped_modify hs _ _ (fun _ _ => rfl) (fun e' _ he' => by rw [hj] at he'; cases he'; exact h3.symm), ?_, ?_⟩, grown_setBlock hb _⟩
    · simp [Instr.mapUpdate, run_underlying ht, MapKept.run_getObj_map hb, K.check w false hl, h1, hj, h3, K.stays w hl, MapKept.run_setObj_map _ hb, Result.andThen, setBlock]
    · intro x hx
      rw [hlist] at hx
      rcases List.mem_or_eq_of_mem_set hx with hx | rfl
      · exact hk x hx
      · exact hkey'
    · unfold ents
      rw [hlist, List.map_set]
      refine set_perm' _ j (e0.key, e0.val) (key, val) (by rw [List.getElem?_map, h2]; rfl) ?_
      rw [show (e0.key, e0.val) = (key, v0) from hone]
      exact hp.trans hR
/-- m[key] = val. -/
theorem MapL.put (h : MapL w k b E) (K : Keyed Try.prog k) {t e : TypeId} (ht : Try.prog.underlying t = some (.map k e)) {key : Value} (val : Value) (hkey : IsKey k key) :
    ∃ w' E', (Instr.mapUpdate t (.map (some b)) key val).run Try.prog w = .ok () w' ∧ MapL w' k b E' ∧ w.grownBy w' (some b) ∧ ∀ x ∈ E', x = (key, val) ∨ x ∈ E := by
  by_cases hm : ∃ v, (key, v) ∈ E
  · obtain ⟨v0, hv⟩ := hm
    obtain ⟨l1, l2, rfl⟩ := List.append_of_mem hv
    have hp : (l1 ++ (key, v0) :: l2).Perm ((key, v0) :: (l1 ++ l2)) := List.perm_middle
    obtain ⟨w', h1, h2, h3⟩ := h.put_old K ht val hkey hp
    refine ⟨w', _, h1, h2, h3, fun x hx => ?_⟩
    rcases List.mem_cons.1 hx with rfl | hx
    · exact .inl rfl
    · exact .inr (hp.mem_iff.2 (List.mem_cons_of_mem _ hx))
  · obtain ⟨w', h1, h2, h3⟩ := h.put_new K ht val hkey (fun v hv => hm ⟨v, hv⟩)
    refine ⟨w', _, h1, h2, h3, fun x hx => ?_⟩
    rcases List.mem_cons.1 hx with rfl | hx
    · exact .inl rfl
    · exact .inr hx
/-- delete(m, key), the key there. -/
theorem MapL.del_old (h : MapL w k b E) (K : Keyed Try.prog k) {t e ty : TypeId} (ht : Try.prog.underlying t = some (.map k e)) {key v0 : Value} (hkey : IsKey k key) {R : List (Value × Value)} (hR : E.Perm ((key, v0) :: R)) :
    ∃ w', (Builtin.delete_ #[t, k] ty #[.map (some b), key]).run Try.prog w = .ok (.tuple #[]) w' ∧ MapL w' k b R ∧ w.grownBy w' (some b) := by
  obtain ⟨es, cl, hb, hs, hk, hp⟩ := h
  obtain ⟨l, hl⟩ := hkey
  have hm' : (key, v0) ∈ ents es := (hp.trans hR).mem_iff.2 List.mem_cons_self
  rcases K.find w hl es.toList hk with ⟨h1, h2⟩ | ⟨j, e0, h1, h2, h3⟩
  · obtain ⟨x, hx, hxe⟩ := List.mem_map.1 hm'
    simp only [Prod.mk.injEq] at hxe
    exact absurd hxe.1 (h2 x hx)
  · have hone := one_of (stamped_keys hs) (mem_ents (List.mem_of_getElem? h2)) hm' h3
    have hjs : j < es.size := by simpa using (List.getElem?_eq_some_iff.1 h2).1
    have hlist : (es.eraseIdxIfInBounds j).toList = es.toList.eraseIdx j := by
      unfold Array.eraseIdxIfInBounds
      rw [dif_pos hjs]
      simp
    refine ⟨setBlock w b (.map (es.eraseIdxIfInBounds j) cl), ?_, ⟨_, _, heap_setBlock_same hb _, stamped_erase hs j, ?_, ?_⟩, grown_setBlock hb _⟩
    · simp [Builtin.delete_, run_underlying ht, MapKept.run_getObj_map hb, K.check w _ hl, h1, MapKept.run_setObj_map _ hb, Result.andThen, setBlock]
    · intro x hx
      rw [hlist] at hx
      exact hk x ((List.eraseIdx_sublist _ _).subset hx)
    · unfold ents
      rw [hlist, ChangeMaps.map_eraseIdx]
      have hgj : (es.toList.map fun e => (e.key, e.val))[j]? = some (key, v0) := by rw [List.getElem?_map, h2]; exact congrArg some hone
      obtain ⟨hj', hje⟩ := List.getElem?_eq_some_iff.1 hgj
      have h2' := ChangeMaps.set_perm (es.toList.map fun e => (e.key, e.val)) j hj' (key, v0)
      rw [← hje, List.set_getElem_self, hje] at h2'
      exact (h2'.symm.trans (hp.trans hR)).cons_inv
/-- delete(m, key), the key not there. -/
theorem MapL.del_new (h : MapL w k b E) (K : Keyed Try.prog k) {t e ty : TypeId} (ht : Try.prog.underlying t = some (.map k e)) {key : Value} (hkey : IsKey k key) (hm : ∀ v, (key, v) ∉ E) :
    ∃ w', (Builtin.delete_ #[t, k] ty #[.map (some b), key]).run Try.prog w = .ok (.tuple #[]) w' ∧ MapL w' k b E ∧ w.grownBy w' (some b) := by
  obtain ⟨es, cl, hb, hs, hk, hp⟩ := h
  obtain ⟨l, hl⟩ := hkey
  rcases K.find w hl es.toList hk with ⟨h1, h2⟩ | ⟨j, e0, h1, h2, h3⟩
  · refine ⟨setBlock w b (.map es cl), ?_, ⟨_, _, heap_setBlock_same hb _, hs, hk, hp⟩, grown_setBlock hb _⟩
    simp [Builtin.delete_, run_underlying ht, MapKept.run_getObj_map hb, K.check w _ hl, h1, MapKept.run_setObj_map _ hb, Result.andThen, setBlock]
  · exact absurd (hp.mem_iff.1 (mem_ents (List.mem_of_getElem? h2))) (h3 ▸ hm e0.val)
end
end Go.Proofs.Ytgfjkpnaabiecaa
