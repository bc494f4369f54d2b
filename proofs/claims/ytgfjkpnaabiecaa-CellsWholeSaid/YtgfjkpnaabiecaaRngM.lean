/- A range over a map under way: what has come, what is still to come. -/
import Derived.Test.YtgfjkpnaabiecaaFrame
import Derived.Maps.RangeRun
import Derived.Maps.RangeWalk
set_option linter.unusedVariables false
set_option linter.unusedSimpArgs false
namespace Go.Proofs.Ytgfjkpnaabiecaa
open Go.RowKit Go.Proofs.YtgfjkpnaabiecaaW.PrintWords
open Go.Maps (Keyed)
open Go.ChangeMaps (setBlock heap_setBlock_same heap_setBlock_other)
open Go.MapKept
def kvs (es : List MapEntry) : List (Value × Value) := es.map fun e => (e.key, e.val)
/-- Block r ranges over the map of block b; the entries D have come, the entries L are still to come. -/
def Rng (w : World) (k : TypeId) (b r : Nat) (D L : List (Value × Value)) : Prop :=
  ∃ es clock since seen c0, w.heap[b]? = some (.map es clock) ∧ Stamped es clock ∧ (∀ e ∈ es.toList, IsKey k e.key) ∧ w.heap[r]? = some (.mapIter (some b) since seen c0) ∧ (∀ x ∈ es.toList, x.born < since) ∧ since ≤ c0 ∧ since ≤ clock ∧
    (kvs (es.toList.filter fun e => seen.contains e.born)).Perm D ∧ (kvs (es.toList.filter fun e => !seen.contains e.born)).Perm L
namespace Rng
variable {w w1 : World} {k : TypeId} {b r : Nat} {D L : List (Value × Value)}
theorem lt (h : Rng w k b r D L) : r < w.heap.size := by obtain ⟨_, _, _, _, _, _, _, _, h, _⟩ := h; exact (Array.getElem?_eq_some_iff.1 h).1
theorem blt (h : Rng w k b r D L) : b < w.heap.size := by obtain ⟨_, _, _, _, _, h, _⟩ := h; exact (Array.getElem?_eq_some_iff.1 h).1
theorem ne (h : Rng w k b r D L) : r ≠ b := by
  obtain ⟨_, _, _, _, _, hb, _, _, hr, _⟩ := h
  intro e
  rw [e, hb] at hr
  cases hr
theorem move (h : Rng w k b r D L) (h1 : w1.heap[b]? = w.heap[b]?) (h2 : w1.heap[r]? = w.heap[r]?) : Rng w1 k b r D L := by
  obtain ⟨es, cl, si, se, c0, hb, hs, hk, hr, t⟩ := h
  exact ⟨es, cl, si, se, c0, h1.trans hb, hs, hk, h2.trans hr, t⟩
theorem only {S : List Nat} (h : Rng w k b r D L) (o : Only S w w1) (hb : b ∉ S) (hr : r ∉ S) : Rng w1 k b r D L := h.move (o.block b h.blt hb) (o.block r h.lt hr)
theorem below (h : Rng w k b r D L) (o : Below w.heap.size w w1) : Rng w1 k b r D L := h.move (o.block b h.blt) (o.block r h.lt)
theorem noTy (h : Rng w k b r D L) (t : TypeId) : ¬ Ty w t r := by
  obtain ⟨_, _, _, _, _, _, _, _, hr, _⟩ := h
  rintro ⟨c, fr, h'⟩
  rw [hr] at h'
  injection h' with h'
  cases h'
theorem perm {D' L' : List (Value × Value)} (h : Rng w k b r D L) (p : D.Perm D') (q : L.Perm L') : Rng w k b r D' L' := by
  obtain ⟨es, cl, si, se, c0, hb, hs, hk, hr, h1, h2, h3, hD, hL⟩ := h
  exact ⟨es, cl, si, se, c0, hb, hs, hk, hr, h1, h2, h3, hD.trans p, hL.trans q⟩
theorem map (h : Rng w k b r D L) : MapL w k b (D ++ L) := by
  obtain ⟨es, cl, si, se, c0, hb, hs, hk, hr, h1, h2, h3, hD, hL⟩ := h
  refine ⟨es, cl, hb, hs, hk, ?_⟩
  have := (List.filter_append_perm (fun e : MapEntry => se.contains e.born) es.toList).map (fun e => (e.key, e.val))
  rw [List.map_append] at this
  exact this.symm.trans (hD.append hL)
/-- range m. -/
theorem begin_ {t e : TypeId} {E : List (Value × Value)} (h : MapL w k b E) (ht : Try.prog.underlying t = some (.map k e)) :
    ∃ w', (Instr.range t (.map (some b))).run Try.prog w = .ok (.pointer (some ⟨w.heap.size, 0, none⟩)) w' ∧ Rng w' k b w.heap.size [] E ∧ Below w.heap.size w w' ∧ w'.heap.size = w.heap.size + 1 := by
  have hlt := h.lt
  obtain ⟨es, cl, hb, hs, hk, hp⟩ := h
  refine ⟨_, run_range_map w t k e b es cl ht hb, ⟨es, cl, cl, #[], cl, ((MapKept.heap_alloc w _).2 b hlt).trans hb, hs, hk, (MapKept.heap_alloc w _).1, hs.1, Nat.le_refl _, Nat.le_refl _, ?_, ?_⟩, below_alloc (Below.refl _ _) _, by simp⟩
  · have : es.toList.filter (fun e => (#[] : Array Nat).contains e.born) = [] := by rw [List.filter_eq_nil_iff]; intro x _; simp
    rw [this]; exact List.Perm.refl _
  · have : es.toList.filter (fun e => !(#[] : Array Nat).contains e.born) = es.toList := by rw [List.filter_eq_self]; intro x _; simp
    rw [this]; exact hp
theorem contains_push (seen : Array Nat) (x y : Nat) : (seen.push x).contains y = (seen.contains y || y == x) := by
  rw [Array.contains_push]
theorem perm_split : ∀ (l : List MapEntry) (e : MapEntry), e ∈ l → (l.map (·.born)).Nodup → ∃ s t, l = s ++ e :: t ∧ (∀ x ∈ s, x.born ≠ e.born) ∧ ∀ x ∈ t, x.born ≠ e.born := by
  intro l e he hn
  obtain ⟨s, t, rfl⟩ := List.append_of_mem he
  refine ⟨s, t, rfl, fun x hx e1 => ?_, fun x hx e1 => ?_⟩
  · rw [List.map_append, List.nodup_append] at hn
    exact hn.2.2 x.born (List.mem_map.2 ⟨x, hx, rfl⟩) e.born (by simp) e1
  · rw [List.map_append, List.nodup_append, List.map_cons, List.nodup_cons] at hn
    exact hn.2.1.1 (List.mem_map.2 ⟨x, hx, e1⟩)
/-- The step. -/
theorem next (h : Rng w k b r D L) (ty : TypeId) :
    (L = [] ∧ (Instr.next (.pointer (some ⟨r, 0, none⟩)) false ty).run Try.prog w = .ok (.tuple #[.bool false]) w) ∨
    ∃ key v L' w', L.Perm ((key, v) :: L') ∧ (Instr.next (.pointer (some ⟨r, 0, none⟩)) false ty).run Try.prog w = .ok (.tuple #[.bool true, key, v]) w' ∧ Rng w' k b r ((key, v) :: D) L' ∧ Only [r] w w' ∧ w'.heap.size = w.heap.size ∧
      (Instr.entry (.pointer (some ⟨r, 0, none⟩))).run Try.prog w' = .ok (.tuple #[key, v]) w' := by
  have hne := h.ne
  obtain ⟨es, clock, since, seen, c0, hb, hs, hk, hr, hold, hsc, hsk, hD, hL⟩ := h
  rcases run_next_at (P := Try.prog) w ty r b since c0 seen es clock hr hb hold hsc with ⟨h0, hrun⟩ | ⟨e, he, w1, hal, hrun⟩
  · left
    refine ⟨?_, hrun⟩
    have : es.toList.filter (fun e => !seen.contains e.born) = [] := by
      have h1 : (leftOf es seen).toList = [] := by
        rw [← List.length_eq_zero_iff]; simpa using h0
      unfold leftOf at h1
      rwa [Array.toList_filter] at h1
    rw [this] at hL
    exact List.Perm.eq_nil hL.symm
  · right
    have he' : e ∈ es.toList.filter (fun e => !seen.contains e.born) := by
      unfold leftOf at he
      rwa [Array.toList_filter] at he
    obtain ⟨hem, hes⟩ := List.mem_filter.1 he'
    have hes' : seen.contains e.born = false := by simpa using hes
    have hnd := ((stamped_iff es clock).1 hs).2.1
    obtain ⟨s, t, hl, hs1, ht1⟩ := perm_split es.toList e hem hnd
    have hr1 : w1.heap[r]? = some (.mapIter (some b) since seen c0) := by rcases hal with rfl | rfl <;> exact hr
    have hb1 : w1.heap[b]? = some (.map es clock) := by rcases hal with rfl | rfl <;> exact hb
    have hset := heap_set (o' := .mapIter (some b) since (seen.push e.born) clock) hr1
    have hb' : (setBlock w1 r (.mapIter (some b) since (seen.push e.born) clock)).heap[b]? = some (.map es clock) := (hset.2 b (fun e1 => hne e1.symm)).trans hb1
    have f1 : ∀ x ∈ s, (seen.push e.born).contains x.born = seen.contains x.born := fun x hx => by rw [contains_push]; simp [hs1 x hx]
    have f2 : ∀ x ∈ t, (seen.push e.born).contains x.born = seen.contains x.born := fun x hx => by rw [contains_push]; simp [ht1 x hx]
    have f3 : (seen.push e.born).contains e.born = true := by rw [contains_push]; simp
    have g1 : s.filter (fun x => (seen.push e.born).contains x.born) = s.filter (fun x => seen.contains x.born) := List.filter_congr f1
    have g2 : t.filter (fun x => (seen.push e.born).contains x.born) = t.filter (fun x => seen.contains x.born) := List.filter_congr f2
    have g3 : s.filter (fun x => !(seen.push e.born).contains x.born) = s.filter (fun x => !seen.contains x.born) := List.filter_congr (fun x hx => by rw [f1 x hx])
    have g4 : t.filter (fun x => !(seen.push e.born).contains x.born) = t.filter (fun x => !seen.contains x.born) := List.filter_congr (fun x hx => by rw [f2 x hx])
    have hLp : (kvs (es.toList.filter fun e => !seen.contains e.born)).Perm ((e.key, e.val) :: kvs (es.toList.filter fun x => !(seen.push e.born).contains x.born)) := by
      rw [hl]
      simp only [List.filter_append, List.filter_cons, hes', f3, Bool.not_false, Bool.not_true, if_true, Bool.false_eq_true, if_false, g3, g4, kvs, List.map_append, List.map_cons]
      exact List.perm_middle
    have hDp : (kvs (es.toList.filter fun x => (seen.push e.born).contains x.born)).Perm ((e.key, e.val) :: kvs (es.toList.filter fun x => seen.contains x.born)) := by
      rw [hl]
      simp only [List.filter_append, List.filter_cons, hes', f3, if_true, Bool.false_eq_true, if_false, g1, g2, kvs, List.map_append, List.map_cons]
      exact List.perm_middle
    refine ⟨e.key, e.val, _, _, hL.symm.trans hLp, hrun, ⟨es, clock, since, seen.push e.born, clock, hb', hs, hk, hset.1, hold, hsk, hsk, hDp.trans (hD.cons _), List.Perm.refl _⟩, ?_, ?_, run_entry_at _ r b since seen es clock e hset.1 hb' hem hnd⟩
    · have ho : Only [r] w1 (setBlock w1 r (.mapIter (some b) since (seen.push e.born) clock)) := ⟨rfl, rfl, rfl, by simp [setBlock], fun i _ hi => hset.2 i (fun e1 => hi (by simp [e1]))⟩
      rcases hal with rfl | rfl
      · exact ho
      · exact (Only.refl [r] w).drew.trans ho
    · rcases hal with rfl | rfl <;> simp [setBlock]
/-- How many are to come: for a loop's measure. -/
theorem left_eq (h : Rng w k b r D L) : w.rangeLeft b r = L.length := by
  obtain ⟨es, clock, since, seen, c0, hb, hs, hk, hr, hold, hsc, hsk, hD, hL⟩ := h
  simp only [World.rangeLeft, hb, hr]
  have := hL.length_eq
  unfold kvs at this
  rw [List.length_map] at this
  rw [← this]
  unfold leftOf
  rw [← Array.length_toList, Array.toList_filter]
end Rng
/-- The step at its operation. -/
theorem wpList_next_rng {w : World} {ops : Array Oper} {rest : List Oper} {o : Oper} {a : Act} {Q : Exit → Act → World → Prop} (hg : o.guard = none) (it : Operand) (hop : o.op = Op.next it false) {k : TypeId} {b r : Nat} {D L : List (Value × Value)}
    (hit : a.eval it = .pointer (some ⟨r, 0, none⟩)) (h : Rng w k b r D L)
    (hDone : L = [] → wpList Try.prog ops Q rest (a.put o.dst (.tuple #[.bool false])) w)
    (hMore : ∀ key v L' w', L.Perm ((key, v) :: L') → Rng w' k b r ((key, v) :: D) L' → Only [r] w w' → w'.heap.size = w.heap.size → (Instr.entry (.pointer (some ⟨r, 0, none⟩))).run Try.prog w' = .ok (.tuple #[key, v]) w' → wpList Try.prog ops Q rest (a.put o.dst (.tuple #[.bool true, key, v])) w') :
    wpList Try.prog ops Q (o :: rest) a w := by
  refine wpList_plain hg fun K' hK' => ?_
  unfold Oper.wp
  rcases h.next o.type with ⟨h0, hrun⟩ | ⟨key, v, L', w', hp, hrun, hrg, ho, hsz, hen⟩
  · simp [execOp, hop, hit, hrun, Result.andThen]
    exact hK' _ _ (hDone h0)
  · simp [execOp, hop, hit, hrun, Result.andThen]
    exact hK' _ _ (hMore key v L' w' hp hrg ho hsz hen)
/-- What comes is one of a list's. -/
theorem map_perm_cons {α β : Type} {g : α → β} {l : List α} {x : β} {L : List β} (h : (l.map g).Perm (x :: L)) : ∃ c l', l.Perm (c :: l') ∧ x = g c ∧ L.Perm (l'.map g) := by
  have hx : x ∈ l.map g := h.mem_iff.2 List.mem_cons_self
  obtain ⟨c, hc, rfl⟩ := List.mem_map.1 hx
  obtain ⟨s, t, rfl⟩ := List.append_of_mem hc
  have hp : (s ++ c :: t).Perm (c :: (s ++ t)) := List.perm_middle
  refine ⟨c, s ++ t, hp, rfl, ?_⟩
  have h2 := h.symm.trans (hp.map g)
  rw [List.map_cons] at h2
  exact h2.cons_inv
end Go.Proofs.Ytgfjkpnaabiecaa
