/- Lemmas for the row (words on memory, contracts of the program's functions): StoP, StoA, StoB, StoC, StoD, LayC, StoE, RowB, StrRow, Iter, StoF, StoG. -/
import Derived.Shelf.SlMaps.Clone
import Derived.Test.YtmmelfnhhjfaeaaProg
import Derived.WalkSpells
import Derived.Shelf.SlIter.Nil
import Derived.Shelf.SortM.Plain
import Derived.Shelf.SortM.SortNone
import Derived.Deep.LoopGhost
import Derived.Test.YtmmelfnhhjfaeaaZO2
set_option linter.unusedVariables false
set_option linter.unusedSimpArgs false
namespace Go.Proofs.Ytmmelfnhhjfaeaa
open Go.RowKit Go.Proofs.YtmmelfnhhjfaeaaW.PrintWords
open Tags
namespace Sto
/-- A fold over what goes in whichever order. -/
theorem fold_perm {α β : Type} {f : β → α → β} {I : β → Prop} (hI : ∀ z x, I z → I (f z x)) {l1 l2 : List α} (p : l1.Perm l2) : (∀ x ∈ l1, ∀ y ∈ l1, ∀ z, I z → f (f z x) y = f (f z y) x) → ∀ z, I z → l1.foldl f z = l2.foldl f z := by
  induction p with
  | nil => intro _ z _; rfl
  | cons x _ ih => intro hc z hz; exact ih (fun a ha b hb => hc a (List.mem_cons_of_mem _ ha) b (List.mem_cons_of_mem _ hb)) _ (hI z x hz)
  | swap x y l => intro hc z hz; rw [List.foldl_cons, List.foldl_cons, List.foldl_cons, List.foldl_cons, hc y (by simp) x (by simp) z hz]
  | trans p1 _ ih1 ih2 =>
    intro hc z hz
    rw [ih1 hc z hz]
    exact ih2 (fun a ha b hb => hc a (p1.mem_iff.2 ha) b (p1.mem_iff.2 hb)) z hz
theorem find_put {l : List Entry} (hs : Srt l) (c : Entry) (k : ByteArray) : find (put l c) k = if c.key = k then some c else find l k := by
  by_cases h : c.key = k
  · rw [if_pos h, ← h]
    exact find_of (srt_put hs) ((mem_put hs).2 (.inl rfl))
  · rw [if_neg h]
    cases hf : find l k with
    | none => exact find_no (fun x hx => by
        rcases (mem_put hs).1 hx with rfl | ⟨hx, _⟩
        · exact h
        · exact find_none hf x hx)
    | some x =>
      obtain ⟨hm, rfl⟩ := find_mem hf
      exact find_of (srt_put hs) ((mem_put hs).2 (.inr ⟨hm, fun e => h e.symm⟩))
/-- Two lists by rising keys that tell the same are the same. -/
theorem srt_ext : ∀ {a b : List Entry}, Srt a → Srt b → (∀ k, find a k = find b k) → a = b := by
  intro a b ha hb h
  have hp : a.Perm b := by
    have na : a.Nodup := List.Pairwise.imp (fun h e => by rw [e] at h; exact lt_irr _ h) ha
    have nb : b.Nodup := List.Pairwise.imp (fun h e => by rw [e] at h; exact lt_irr _ h) hb
    refine (List.perm_ext_iff_of_nodup na nb).2 (fun x => ⟨fun hx => ?_, fun hx => ?_⟩)
    · have := find_of ha hx
      rw [h] at this
      exact (find_mem this).1
    · have := find_of hb hx
      rw [← h] at this
      exact (find_mem this).1
  exact hp.eq_of_pairwise (fun x y _ _ h1 h2 => absurd (lt_tr h1 h2) (lt_irr _)) ha hb
def tle (a b : Tag) : Prop := a.seq < b.seq ∨ (a.seq = b.seq ∧ (a.who < b.who ∨ (a.who = b.who ∧ a.op ≤ b.op)))
instance (a b : Tag) : Decidable (tle a b) := by unfold tle; infer_instance
theorem cmp3_cases (x y : Int) : (x < y ∧ cmp3 x y = -1) ∨ (x = y ∧ cmp3 x y = 0) ∨ (y < x ∧ cmp3 x y = 1) := by
  rcases Int.lt_trichotomy x y with h | h | h
  · exact .inl ⟨h, cmp3_lt h⟩
  · exact .inr (.inl ⟨h, by rw [h, cmp3_eq]⟩)
  · exact .inr (.inr ⟨h, cmp3_gt h⟩)
theorem or3_cases (x y z : Int) : (x ≠ 0 ∧ or3 x y z = x) ∨ (x = 0 ∧ y ≠ 0 ∧ or3 x y z = y) ∨ (x = 0 ∧ y = 0 ∧ or3 x y z = z) := by
  unfold or3
  by_cases hx : x = 0
  · by_cases hy : y = 0
    · exact .inr (.inr ⟨hx, hy, by rw [if_neg (by simp [hx]), if_neg (by simp [hy])]⟩)
    · exact .inr (.inl ⟨hx, hy, by rw [if_neg (by simp [hx]), if_pos hy]⟩)
  · exact .inl ⟨hx, if_pos hx⟩
theorem cmpT_ge {a b : Tag} : 0 ≤ cmpT a b ↔ tle b a := by
  unfold cmpT tle
  have h0 := or3_cases (cmp3 a.seq b.seq) (cmp3 a.who b.who) (cmp3 a.op b.op)
  have h1 := cmp3_cases a.seq b.seq
  have h2 := cmp3_cases a.who b.who
  have h3 := cmp3_cases a.op b.op
  omega
theorem cmpT_gt {a b : Tag} : 0 < cmpT a b ↔ ¬ tle a b := by
  unfold cmpT tle
  have h0 := or3_cases (cmp3 a.seq b.seq) (cmp3 a.who b.who) (cmp3 a.op b.op)
  have h1 := cmp3_cases a.seq b.seq
  have h2 := cmp3_cases a.who b.who
  have h3 := cmp3_cases a.op b.op
  omega
theorem tle_refl (a : Tag) : tle a a := by unfold tle; omega
theorem tle_tr {a b c : Tag} (h : tle a b) (k : tle b c) : tle a c := by unfold tle at *; omega
theorem tle_tot (a b : Tag) : tle a b ∨ tle b a := by unfold tle; omega
theorem tle_anti {a b : Tag} (h : tle a b) (k : tle b a) : a = b := by
  obtain ⟨a1, a2, a3⟩ := a
  obtain ⟨b1, b2, b3⟩ := b
  unfold tle at *
  simp at *
  omega
/-- May an entry be put? -/
def PutOk (e : Entry) : Prop := EntOk e ∧ e.tag.seq ≠ 0
instance (e : Entry) : Decidable (PutOk e) := by unfold PutOk; infer_instance
/-- The tag that a key has. -/
def tagOf (l : List Entry) (k : ByteArray) : Tag := ((find l k).getD Entry.z).tag
/-- What Put does to the newest entries. -/
def putE (l : List Entry) (e : Entry) : List Entry := if PutOk e then if 0 < cmpT e.tag (tagOf l e.key) then put l e else l else l
theorem putE_srt (l : List Entry) (e : Entry) (h : Srt l) : Srt (putE l e) := by
  unfold putE
  split
  · split
    · exact srt_put h
    · exact h
  · exact h
theorem tagOf_put {l : List Entry} (hs : Srt l) (c : Entry) (k : ByteArray) : tagOf (put l c) k = if c.key = k then c.tag else tagOf l k := by
  unfold tagOf
  rw [find_put hs]
  split <;> rfl
theorem find_putE {l : List Entry} (hs : Srt l) (e : Entry) (k : ByteArray) : find (putE l e) k = if PutOk e ∧ e.key = k ∧ ¬ tle e.tag (tagOf l k) then some e else find l k := by
  unfold putE
  by_cases h1 : PutOk e
  · rw [if_pos h1]
    by_cases h3 : 0 < cmpT e.tag (tagOf l e.key)
    · rw [if_pos h3, find_put hs]
      by_cases h2 : e.key = k
      · subst h2
        rw [if_pos rfl]
        exact (if_pos ⟨h1, rfl, cmpT_gt.1 h3⟩).symm
      · rw [if_neg h2]
        exact (if_neg (fun h => h2 h.2.1)).symm
    · rw [if_neg h3]
      refine (if_neg ?_).symm
      rintro ⟨_, rfl, h⟩
      exact h3 (cmpT_gt.2 h)
  · rw [if_neg h1]
    exact (if_neg (fun h => h1 h.1)).symm
theorem tagOf_putE {l : List Entry} (hs : Srt l) (e : Entry) (k : ByteArray) : tagOf (putE l e) k = if PutOk e ∧ e.key = k ∧ ¬ tle e.tag (tagOf l k) then e.tag else tagOf l k := by
  unfold tagOf
  rw [find_putE hs]
  unfold tagOf
  split <;> rfl
theorem putE_comm {l : List Entry} (hs : Srt l) (x y : Entry) (hd : x = y ∨ ¬ (x.key = y.key ∧ x.tag = y.tag)) : putE (putE l x) y = putE (putE l y) x := by
  rcases hd with rfl | hd
  · rfl
  · refine srt_ext (putE_srt _ _ (putE_srt _ _ hs)) (putE_srt _ _ (putE_srt _ _ hs)) (fun k => ?_)
    rw [find_putE (putE_srt _ _ hs), find_putE (putE_srt _ _ hs), tagOf_putE hs, tagOf_putE hs, find_putE hs, find_putE hs]
    generalize tagOf l k = t
    generalize find l k = o
    have c1 : tle x.tag t → ¬ tle y.tag t → tle x.tag y.tag := fun p q => (tle_tot x.tag y.tag).elim id (fun r => absurd (tle_tr r p) q)
    have c2 : tle y.tag t → ¬ tle x.tag t → tle y.tag x.tag := fun p q => (tle_tot y.tag x.tag).elim id (fun r => absurd (tle_tr r p) q)
    by_cases hx1 : PutOk x <;> by_cases hx2 : x.key = k <;> by_cases hy1 : PutOk y <;> by_cases hy2 : y.key = k
    case pos =>
      have c3 : tle x.tag y.tag → ¬ tle y.tag x.tag := fun p q => hd ⟨hx2.trans hy2.symm, tle_anti p q⟩
      by_cases a1 : tle x.tag t <;> by_cases a2 : tle y.tag t <;> by_cases b1 : tle x.tag y.tag <;> by_cases b2 : tle y.tag x.tag
      all_goals first
        | exact absurd (c1 a1 a2) b1
        | exact absurd (c2 a2 a1) b2
        | exact absurd b2 (c3 b1)
        | exact ((tle_tot x.tag y.tag).elim b1 b2).elim
        | (simp only [hx1, hx2, hy1, hy2, a1, a2, b1, b2, true_and, and_true, not_true_eq_false, not_false_eq_true, if_true, if_false]; done)
    all_goals (simp only [hx1, hx2, hy1, hy2, true_and, and_true, false_and, and_false, if_false]; done)
/-- The entries, from one on, backwards, round. -/
theorem round_perm (l : List Entry) (at_ : Nat) (h : 0 < l.length) : l.Perm ((List.range l.length).map (fun i => l.getD ((l.length - 1 - i + at_) % l.length) Entry.z)) := by
  have h1 : (List.range l.length).map (fun i => l.getD ((l.length - 1 - i + at_) % l.length) Entry.z) = ((List.range l.length).map (fun j => l.getD ((j + at_) % l.length) Entry.z)).reverse := by
    apply List.ext_getElem
    · simp
    · intro i h1 h2
      simp at h1 h2
      simp [List.getElem_reverse]
  have h2 : (List.range l.length).map (fun j => l.getD ((j + at_) % l.length) Entry.z) = l.drop (at_ % l.length) ++ l.take (at_ % l.length) := by
    have hm := Nat.mod_lt at_ h
    apply List.ext_getElem
    · simp; omega
    · intro i h1 h2
      simp at h1
      rw [List.getElem_append]
      simp only [List.getElem_map, List.getElem_range, List.length_drop]
      by_cases hi : i < l.length - at_ % l.length
      · rw [dif_pos hi, List.getElem_drop]
        have : (i + at_) % l.length = at_ % l.length + i := by
          rw [← Nat.add_mod_mod, Nat.mod_eq_of_lt (by omega)]; omega
        rw [this, List.getD_eq_getElem?_getD, List.getElem?_eq_getElem (by omega)]
        rfl
      · rw [dif_neg hi, List.getElem_take]
        have : (i + at_) % l.length = i - (l.length - at_ % l.length) := by
          rw [← Nat.add_mod_mod, Nat.mod_eq_sub_mod (by omega), Nat.mod_eq_of_lt (by omega)]; omega
        rw [this, List.getD_eq_getElem?_getD, List.getElem?_eq_getElem (by omega)]
        rfl
  rw [h1, h2]
  refine List.Perm.trans ?_ (List.reverse_perm _).symm
  refine List.Perm.trans ?_ List.perm_append_comm
  rw [List.take_append_drop]
/-- The law: whichever way round, the same lasts. -/
theorem orders_same (l : List Entry) (at_ : Nat) (hd : ∀ i k : Nat, k < i → ∀ x y : Entry, l[i]? = some x → l[k]? = some y → ¬ (x.key = y.key ∧ x.tag = y.tag)) (h : 0 < l.length) :
    l.foldl putE [] = ((List.range l.length).map (fun i => l.getD ((l.length - 1 - i + at_) % l.length) Entry.z)).foldl putE [] := by
  refine fold_perm (I := Srt) (fun z x hz => putE_srt z x hz) (round_perm l at_ h) (fun x hx y hy z hz => putE_comm hz x y ?_) [] List.Pairwise.nil
  obtain ⟨i, hi⟩ := List.mem_iff_getElem?.1 hx
  obtain ⟨k, hk⟩ := List.mem_iff_getElem?.1 hy
  rcases Nat.lt_trichotomy i k with h | h | h
  · exact .inr (fun e => hd k i h y x hk hi ⟨e.1.symm, e.2.symm⟩)
  · subst h; exact .inl (Option.some.inj (hi.symm.trans hk))
  · exact .inr (hd i k h x y hi hk)
end Sto
end Go.Proofs.Ytmmelfnhhjfaeaa
set_option linter.unusedVariables false
set_option linter.unusedSimpArgs false
namespace Go.Proofs.Ytmmelfnhhjfaeaa
open Go.RowKit Go.Proofs.YtmmelfnhhjfaeaaW.PrintWords
namespace Sto
/-- What a store holds: what lasts of its disk, its tail, its records, how many of them last, its newest entries, those that last, what is to be acknowledged. -/
structure St where
  l : List UInt8
  t : List UInt8
  rs : List Record
  last : Int
  n : List Entry
  z : List Entry
  acks : List Ack
def St.new : St := ⟨[], [], [], 0, [], [], []⟩
structure StoT (w : World) (ok : Nat → Prop) (s l m1 m2 : Nat) (av : Value) (ln : List Nat) (c : Int) (S : St) : Prop where
  blk : Blk w s [.pointer (some ⟨l, 0, none⟩), .map (some m1), .map (some m2), av]
  ty : Ty w 54 s
  log : ∃ c', (0 ≤ c' ∧ c' ≤ c) ∧ LogR w ok ln l S.l S.t c' S.rs S.last
  new : MapE w ok m1 S.n
  las : MapE w ok m2 S.z
  ack : OwnF Ack.k 44 w (fun _ => False) av S.acks
  srt : Srt S.n ∧ Srt S.z
  ne : s ∉ ln ∧ m1 ∉ ln ∧ m2 ∉ ln ∧ m1 ≠ m2 ∧ ∀ k, av.ownBlock = some k → k ∉ ln
def sOwn (s m1 m2 : Nat) (av : Value) (ln : List Nat) : List Nat := s :: m1 :: m2 :: (av.ownBlock.toList ++ ln)
/-- A store: what is its own, what its things lead to (ok); it was synced c times at most. -/
def StoR (w : World) (ok : Nat → Prop) (own : List Nat) (s : Nat) (c : Int) (S : St) : Prop := ∃ l m1 m2 av ln, own = sOwn s m1 m2 av ln ∧ StoT w ok s l m1 m2 av ln c S ∧ ∀ i, ok i → i ∉ own
theorem mem_sOwn {s m1 m2 k : Nat} {av : Value} {ln : List Nat} : k ∈ sOwn s m1 m2 av ln ↔ k = s ∨ k = m1 ∨ k = m2 ∨ av.ownBlock = some k ∨ k ∈ ln := by
  simp [sOwn]
theorem tLogSto : (70 : TypeId) ≠ 54 := by decide
theorem tAckSto : (44 : TypeId) ≠ 54 := by decide
theorem LogR.lt {w : World} {ok : Nat → Prop} {own : List Nat} {b : Nat} {L T : List UInt8} {n : Int} {rs : List Record} {last : Int} (h : LogR w ok own b L T n rs last) : ∀ k ∈ own, k < w.heap.size := by
  obtain ⟨d, rv, dn, rfl, h⟩ := h
  intro k hk
  rcases List.mem_cons.1 hk with rfl | hk
  · exact h.blk.lt
  · rcases List.mem_append.1 hk with hk | hk
    · have h0 : OwnF Record.k 81 w ok rv rs := h.rows
      exact h0.lt (Option.mem_toList.1 hk)
    · exact h.disk.lt k hk
theorem LogR.only {w w' : World} {ok : Nat → Prop} {own S : List Nat} {b : Nat} {L T : List UInt8} {n : Int} {rs : List Record} {last : Int} (h : LogR w ok own b L T n rs last) (o : Only S w w') (hS : ∀ k ∈ own, k ∉ S) (hn : ∀ i, ok i → i ∉ S) : LogR w' ok own b L T n rs last := by
  obtain ⟨d, rv, dn, rfl, h⟩ := h
  have h0 : OwnF Record.k 81 w ok rv rs := h.rows
  have hb := hS b List.mem_cons_self
  exact ⟨d, rv, dn, rfl, h.blk.only o hb, h.ty.only o hb, h0.only o (fun k hk e => hS k (List.mem_cons_of_mem _ (List.mem_append_left _ (Option.mem_toList.2 e))) hk) (fun i hi _ => hn i hi), h.disk.only o (fun k hk => hS k (List.mem_cons_of_mem _ (List.mem_append_right _ hk))), h.nb, h.nr⟩
theorem LogR.mono {w : World} {ok ok' : Nat → Prop} {own : List Nat} {b : Nat} {L T : List UInt8} {n : Int} {rs : List Record} {last : Int} (h : LogR w ok own b L T n rs last) (hk : ∀ i, ok i → ok' i) : LogR w ok' own b L T n rs last := by
  obtain ⟨d, rv, dn, rfl, h⟩ := h
  have h0 : OwnF Record.k 81 w ok rv rs := h.rows
  exact ⟨d, rv, dn, rfl, h.blk, h.ty, h0.mono hk, h.disk, h.nb, h.nr⟩
theorem LogR.bound {w : World} {ok : Nat → Prop} {own : List Nat} {b : Nat} {L T : List UInt8} {n : Int} {rs : List Record} {last : Int} (h : LogR w ok own b L T n rs last) : LogR w (fun i => ok i ∧ i < w.heap.size) own b L T n rs last := by
  obtain ⟨d, rv, dn, rfl, h⟩ := h
  have h0 : OwnF Record.k 81 w ok rv rs := h.rows
  exact ⟨d, rv, dn, rfl, h.blk, h.ty, h0.bound, h.disk, h.nb, h.nr⟩
theorem StoR.lt {w : World} {ok : Nat → Prop} {own : List Nat} {s : Nat} {c : Int} {S : St} (h : StoR w ok own s c S) : ∀ k ∈ own, k < w.heap.size := by
  obtain ⟨l, m1, m2, av, ln, rfl, h, _⟩ := h
  intro k hk
  rcases mem_sOwn.1 hk with rfl | rfl | rfl | e | e
  · exact h.blk.lt
  · exact h.new.lt
  · exact h.las.lt
  · exact h.ack.lt e
  · obtain ⟨c', _, hl⟩ := h.log
    exact LogR.lt hl k e
theorem StoR.only {w w' : World} {ok : Nat → Prop} {own D : List Nat} {s : Nat} {c : Int} {S : St} (h : StoR w ok own s c S) (o : Only D w w') (hD : ∀ k ∈ own, k ∉ D) (hn : ∀ i, ok i → i ∉ D) : StoR w' ok own s c S := by
  obtain ⟨l, m1, m2, av, ln, rfl, h, hf⟩ := h
  have d0 := hD s (mem_sOwn.2 (.inl rfl))
  refine ⟨l, m1, m2, av, ln, rfl, ⟨h.blk.only o d0, h.ty.only o d0, ?_, h.new.only o (hD m1 (mem_sOwn.2 (.inr (.inl rfl)))) hn, h.las.only o (hD m2 (mem_sOwn.2 (.inr (.inr (.inl rfl))))) hn, h.ack.only o (fun k hk e => hD k (mem_sOwn.2 (.inr (.inr (.inr (.inl e))))) hk) (fun i hi => hi.elim), h.srt, h.ne⟩, hf⟩
  obtain ⟨c', hc, hl⟩ := h.log
  exact ⟨c', hc, LogR.only hl o (fun k hk => hD k (mem_sOwn.2 (.inr (.inr (.inr (.inr hk)))))) hn⟩
theorem StoR.on {w w' : World} {ok : Nat → Prop} {own : List Nat} {s : Nat} {c : Int} {S : St} (h : StoR w ok own s c S) (hb : Below w.heap.size w w') : StoR w' ok own s c S := h.only (Only.of_below [] hb) (by simp) (by simp)
theorem StoR.bound {w : World} {ok : Nat → Prop} {own : List Nat} {s : Nat} {c : Int} {S : St} (h : StoR w ok own s c S) : StoR w (fun i => ok i ∧ i < w.heap.size) own s c S := by
  obtain ⟨l, m1, m2, av, ln, rfl, h, hf⟩ := h
  obtain ⟨c', hc, hl⟩ := h.log
  exact ⟨l, m1, m2, av, ln, rfl, ⟨h.blk, h.ty, ⟨c', hc, LogR.bound hl⟩, h.new.bound, h.las.bound, h.ack, h.srt, h.ne⟩, fun i hi => hf i hi.1⟩
def StoNewTold (w : World) (e : Ending) (w' : World) : Prop := ∃ s own, e = .returned (.pointer (some ⟨s, 0, none⟩)) ∧ StoR w' (fun _ => False) own s 0 St.new ∧ (∀ k ∈ own, w.heap.size ≤ k) ∧ Below w.heap.size w w'
theorem MapE.nil {w : World} {b : Nat} (h : MapL w 9 b []) : MapE w (fun _ => False) b [] := ⟨fun _ => (.bool true, .bool true), h, fun c hc => by cases hc⟩
def EmptyTold (w : World) (l : Nat) (e : Ending) (w' : World) : Prop := ∃ s m1 m2, e = .returned (.pointer (some ⟨s, 0, none⟩)) ∧ Blk w' s [.pointer (some ⟨l, 0, none⟩), .map (some m1), .map (some m2), .slice none 0 0] ∧ Ty w' 54 s ∧ MapE w' (fun _ => False) m1 [] ∧ MapE w' (fun _ => False) m2 [] ∧ (w.heap.size ≤ s ∧ w.heap.size ≤ m1 ∧ w.heap.size ≤ m2 ∧ m1 ≠ m2) ∧ Below w.heap.size w w'
set_option maxRecDepth 100000 in
theorem empty_calls (w : World) (l : Nat) : Calls Try.prog 13 #[.pointer (some ⟨l, 0, none⟩)] w (EmptyTold w l) := by
  have hmm : ∀ W : World, (Instr.makeMap 52 none).run Try.prog W = .ok (.map (some W.heap.size)) (W.alloc (.map #[] 0)) := fun W => run_makeMap _ W
  go_enter Try.func13, Try.ntmps13
  go_wp2
  go_ret
  have e0 : ∀ (W : World) (o : Obj), (W.alloc o).heap.size = W.heap.size + 1 := fun W o => Array.size_push _
  have h1 : MapL (w.alloc (.map #[] 0)) 9 w.heap.size [] := MapL.made _ _
  have h2 : MapL ((w.alloc (.map #[] 0)).alloc (.map #[] 0)) 9 (w.heap.size + 1) [] := by
    have := MapL.made (w.alloc (.map #[] 0)) 9
    rwa [e0] at this
  have b1 := below_alloc (Below.refl w.heap.size w) (.map #[] 0)
  have b2 := below_alloc (Below.refl _ (w.alloc (.map #[] 0))) (.map #[] 0)
  have h1' := (MapE.nil h1).below b2
  obtain ⟨W, hW⟩ : ∃ W, W = (w.alloc (.map #[] 0)).alloc (.map #[] 0) := ⟨_, rfl⟩
  have hs : W.heap.size = w.heap.size + 1 + 1 := by rw [hW, e0, e0]
  have hb : Below w.heap.size w W := by rw [hW]; exact Below.then_ b1 b2 (Nat.le_refl _)
  rw [← hW] at h2 h1' ⊢
  have b3 := below_alloc (Below.refl _ W) (.cells #[.pointer (some ⟨l, 0, none⟩), .map (some w.heap.size), .map (some (w.heap.size + 1)), .slice none 0 0] 54)
  rw [← hs]
  exact ⟨W.heap.size, w.heap.size, w.heap.size + 1, rfl, Blk.new_ _ _ _ rfl rfl, Ty.new _ _ _ _, h1'.below b3, (MapE.nil h2).below b3, ⟨by omega, by omega, by omega, by omega⟩, Below.then_ hb b3 (Nat.le_refl _)⟩
set_option maxRecDepth 100000 in
theorem new_calls (w : World) : Calls Try.prog 5 #[] w (StoNewTold w) := by
  have HN := Aside0.mk (walNew_calls w)
  have HE := Aside0.mk (fun W l => empty_calls W l)
  go_enter Try.func5, Try.ntmps5
  go_wp2_with (first
    | ((with_reducible refine HN.out.mono ?_); rintro e w1 ⟨l, ln, rfl, hl, hln, hb⟩; have HL := Aside0.mk hl; have HLN := Aside0.mk hln; have HB := Aside0.mk hb; clear hl hln hb)
    | ((with_reducible refine (HE.out _ _).mono ?_); rintro e w2 ⟨s, m1, m2, rfl, k1, k2, k3, k4, k5, k6⟩; have HK := Aside0.mk (And.intro k1 (And.intro k2 (And.intro k3 (And.intro k4 (And.intro k5 k6))))); clear k1 k2 k3 k4 k5 k6))
  go_ret
  obtain ⟨k1, k2, k3, k4, ⟨g1, g2, g3, g4⟩, k6⟩ := HK.out
  have hlt := LogR.lt HL.out
  have hs := HB.out.size
  have hn : ∀ q, w1.heap.size ≤ q → q ∉ ln := fun q h hm => by have := hlt q hm; omega
  refine ⟨s, sOwn s m1 m2 (.slice none 0 0) ln, rfl, ⟨l, m1, m2, .slice none 0 0, ln, rfl, ⟨k1, k2, ⟨0, by omega, LogR.only (S := []) HL.out (Only.of_below [] k6) (by simp) (by simp)⟩, k3, k4, OwnF.none_ _ _ _ _, ⟨List.Pairwise.nil, List.Pairwise.nil⟩, hn s g1, hn m1 g2, hn m2 g3, g4, fun k h => by cases h⟩, fun i hi => hi.elim⟩, fun k hk => ?_, Below.then_ HB.out k6 (Nat.le_refl _)⟩
  rcases mem_sOwn.1 hk with rfl | rfl | rfl | e | e
  · omega
  · omega
  · omega
  · cases e
  · exact HLN.out k e
end Sto
end Go.Proofs.Ytmmelfnhhjfaeaa
set_option linter.unusedVariables false
set_option linter.unusedSimpArgs false
namespace Go.Proofs.Ytmmelfnhhjfaeaa
open Go.RowKit Go.Proofs.YtmmelfnhhjfaeaaW.PrintWords
open Tags
namespace Sto
def layE (l : List Entry) (e : Entry) : List Entry := if 0 ≤ cmpT e.tag (tagOf l e.key) then put l e else l
/-- What a call leaves of a store. -/
def StoTold (ok : Nat → Prop) (own : List Nat) (s : Nat) (c : Int) (S : St) (r : Value) (w : World) (e : Ending) (w' : World) : Prop := ∃ ok' own', e = .returned r ∧ StoR w' ok' own' s c S ∧ Next own own' w w' ∧ ∀ i, ok' i → ok i ∨ w.heap.size ≤ i
theorem Blk.four {w : World} {b : Nat} {x0 x1 x2 x3 : Value} (h : Blk w b [x0, x1, x2, x3]) : (w.cell? ⟨b, 0, none⟩ = some x0 ∧ w.cell? ⟨b, 1, none⟩ = some x1 ∧ w.cell? ⟨b, 2, none⟩ = some x2 ∧ w.cell? ⟨b, 3, none⟩ = some x3) ∧ w.frozen? ⟨b, 0, none⟩ = false ∧ w.frozen? ⟨b, 1, none⟩ = false ∧ w.frozen? ⟨b, 2, none⟩ = false ∧ w.frozen? ⟨b, 3, none⟩ = false :=
  ⟨⟨h.cell 0 rfl, h.cell 1 rfl, h.cell 2 rfl, h.cell 3 rfl⟩, h.frozen 0 rfl, h.frozen 1 rfl, h.frozen 2 rfl, h.frozen 3 rfl⟩
set_option maxRecDepth 100000 in
theorem field_T (k : ByteArray) (a1 a2 a3 : Int) (h : Bool) (v : Value) (w : World) : (Instr.field 30 (.agg #[.string k, .int .i64 a1, .int .i64 a2, .int .i64 a3, .bool h, v]) 1).run Try.prog w = .ok (.agg #[.int .i64 a1, .int .i64 a2, .int .i64 a3]) w := by
  rfl
/-- The newest entries with one more. -/
theorem StoR.lay {w w1 w2 : World} {ok : Nat → Prop} {s l m1 m2 : Nat} {av : Value} {ln : List Nat} {c : Int} {S : St} {N' : List Entry} (h : StoT w ok s l m1 m2 av ln c S) (hf : ∀ i, ok i → i ∉ sOwn s m1 m2 av ln) (hb : Below w.heap.size w w1) (ho : Only [m1] w1 w2) {ok' : Nat → Prop} (hok : ∀ i, ok' i → (ok i ∧ i < w.heap.size) ∨ (w.heap.size ≤ i ∧ i < w1.heap.size)) (hok2 : ∀ i, ok i → i < w.heap.size → ok' i) (hm : MapE w2 ok' m1 N') (hs : Srt N') :
    StoR w2 ok' (sOwn s m1 m2 av ln) s c { S with n := N' } ∧ Next (sOwn s m1 m2 av ln) (sOwn s m1 m2 av ln) w w2 := by
  have hlt := StoR.lt (show StoR w ok (sOwn s m1 m2 av ln) s c S from ⟨l, m1, m2, av, ln, rfl, h, hf⟩)
  have hm1 : m1 ∈ sOwn s m1 m2 av ln := mem_sOwn.2 (.inr (.inl rfl))
  have hn : ∀ i, ok' i → i ∉ sOwn s m1 m2 av ln := fun i hi hm => by
    rcases hok i hi with ⟨h1, _⟩ | ⟨h1, _⟩
    · exact hf i h1 hm
    · have := hlt i hm
      omega
  have hnm : ∀ i, ok' i → i ∉ [m1] := fun i hi hm => hn i hi (by rw [show i = m1 by simpa using hm]; exact hm1)
  have hns : s ≠ m1 := fun e => h.new.noTy 54 (e ▸ h.ty)
  have hna : ∀ k ∈ [m1], av.ownBlock ≠ some k := fun k hk e => by
    rw [show k = m1 by simpa using hk] at e
    exact h.new.noTy _ (h.ack.ty e)
  obtain ⟨c', hc, hl⟩ := h.log
  have hl1 : LogR w1 ok' ln l S.l S.t c' S.rs S.last := LogR.only (S := []) (LogR.mono (LogR.bound hl) (fun i hi => hok2 i hi.1 hi.2)) (Only.of_below [] hb) (by simp) (by simp)
  refine ⟨⟨l, m1, m2, av, ln, rfl, ⟨(h.blk.on hb).only ho (by simp; exact hns), (h.ty.below hb).only ho (by simp; exact hns), ⟨c', hc, LogR.only hl1 ho (fun k hk hm => h.ne.2.1 (by rwa [show k = m1 by simpa using hm] at hk)) hnm⟩, hm, (((h.las.bound.below hb).mono (fun i hi => hok2 i hi.1 hi.2))).only ho (by simp; exact fun e => h.ne.2.2.2.1 e.symm) hnm, (h.ack.on hb).only ho hna (fun i hi => hi.elim), ⟨hs, h.srt.2⟩, h.ne⟩, hn⟩, ⟨(Only.of_below _ hb).trans (ho.mono (fun i hi => .inl (by rw [show i = m1 by simpa using hi]; exact hm1))), fun k hk => .inl hk⟩⟩
set_option maxRecDepth 100000 in
theorem lay_calls (e : Entry) (A : Option Addr) (cp : Nat) (w : World) (ok : Nat → Prop) (own : List Nat) (s : Nat) (c : Int) (S : St) (h : StoR w ok own s c S) (hK : Entry.k.K w e (ecs e A cp)) (hb : e.val.b.length ≤ 140737488351232) :
    Calls Try.prog 20 #[.pointer (some ⟨s, 0, none⟩), .agg (ecs e A cp).toArray] w (StoTold ok own s c { S with n := layE S.n e } (.tuple #[]) w) := by
  obtain ⟨l, m1, m2, av, ln, rfl, h, hf⟩ := h
  have HT := Aside0.mk h
  have HF := Aside0.mk hf
  have HK := Aside0.mk hK
  obtain ⟨_, _, he, hks, hr1, hr2, hr3, _, _⟩ := Entry.open_ hK
  obtain ⟨o, A0, cp0, ho, hfk, hlook⟩ := h.new.look_or e.key hks
  have HO := Aside0.mk ho
  have HTG : Aside0 (tagOf S.n e.key = o.tag) := ⟨by rw [ho]; rfl⟩
  obtain ⟨x, hx⟩ : ∃ x, x = cmpT e.tag o.tag := ⟨_, rfl⟩
  have HCM : Aside0 (∀ W, Calls Try.prog 17 #[.agg #[.int .i64 e.tag.seq, .int .i64 e.tag.who, .int .i64 e.tag.op], .agg #[.int .i64 o.tag.seq, .int .i64 o.tag.who, .int .i64 o.tag.op]] W fun r w' => r = .returned (.int .i64 x) ∧ Below W.heap.size W w') := ⟨fun W => by rw [hx]; exact compareT_calls e.tag o.tag W⟩
  have HX := Aside0.mk hx
  have HLE : Aside0 (e.val.b.length ≤ 140737488351232 ∧ e.key.size ≤ 140737488351232) := ⟨hb, hks⟩
  obtain ⟨⟨k0, k1, k2, k3⟩, _⟩ := Blk.four h.blk
  have hm1lt := h.new.lt
  have hslt := h.blk.lt
  have HLK : Aside0 (∀ w', Below w.heap.size w w' → (Instr.lookup 52 (.map (some m1)) (.string e.key) false).run Try.prog w' = .ok (.agg (ecs o A0 cp0).toArray) w') := ⟨fun w' h' => hlook false w' (h'.block m1 hm1lt)⟩
  clear h hf hK he hr1 hr2 hr3 ho hfk hlook hx hb
  obtain ⟨ek, ⟨a1, a2, a3⟩, ⟨eh, eb⟩⟩ := e
  obtain ⟨ok_, ⟨o1, o2, o3⟩, ⟨oh, ob⟩⟩ := o
  dsimp only [ecs] at *
  go_enter Try.func20, Try.ntmps20
  go_wp2
  generalize hX : World.alloc _ _ = W
  have HB0 : Aside0 (Below w.heap.size w W) := ⟨by rw [← hX]; exact below_alloc (Below.refl _ _) _⟩
  have HX0 : Aside0 (Blk W w.heap.size [.string ek, .int .i64 a1, .int .i64 a2, .int .i64 a3, .bool eh, .slice A eb.length cp]) := ⟨by rw [← hX]; exact Blk.new_ _ _ _ rfl rfl⟩
  obtain ⟨eb0, heb0⟩ : ∃ b, b = w.heap.size := ⟨_, rfl⟩
  rw [← heb0] at HX0 ⊢
  have HEB := Aside0.mk heb0
  have HSL : Aside0 (Blk W s [.pointer (some ⟨l, 0, none⟩), .map (some m1), .map (some m2), av]) := ⟨HT.out.blk.on HB0.out⟩
  have HLW : Aside0 (∀ w', Below W.heap.size W w' → (Instr.lookup 52 (.map (some m1)) (.string ek) false).run Try.prog w' = .ok (.agg #[.string ok_, .int .i64 o1, .int .i64 o2, .int .i64 o3, .bool oh, .slice A0 ob.length cp0]) w') := ⟨fun w' h' => HLK.out w' (HB0.out.trans (h'.mono HB0.out.size))⟩
  have hlw := HLW.out
  have rf := fun w' => field_T ok_ o1 o2 o3 oh (.slice A0 ob.length cp0) w'
  clear hX heb0 k0 k1 k2 k3 HLK
  obtain ⟨⟨k0, k1, k2, k3⟩, _⟩ := Blk.four HSL.out
  obtain ⟨⟨x0, x1, x2, x3, x4, x5⟩, _⟩ := HX0.out.six
  have k1 := fun w' (h : Below W.heap.size W w') => pw_cell_below h k1
  have x0 := fun w' (h : Below W.heap.size W w') => pw_cell_below h x0
  have x1 := fun w' (h : Below W.heap.size W w') => pw_cell_below h x1
  have x2 := fun w' (h : Below W.heap.size W w') => pw_cell_below h x2
  have x3 := fun w' (h : Below W.heap.size W w') => pw_cell_below h x3
  refine wp_region_noPanic ?_
  refine wp_region_held_drew (S := Below W.heap.size W) (by kernel_rfl) (below_drew (Below.refl _ _)) (fun hHeld => ?_)
  (refine takeH 0 4 (v := ?_) rfl rfl (by kernel_rfl) (by kernel_rfl) (by kernel_rfl) (fun _ _ _ h => h) hHeld rfl ?_ ?_; rotate_left; (focus (intro w' hSw; go_simp; try with_reducible rfl)))
  (try simp only [Act.put, List.setIfInBounds_toArray, List.set_cons_zero, List.set_cons_succ])
  (refine takeH 1 5 (v := ?_) rfl rfl (by kernel_rfl) (by kernel_rfl) (by kernel_rfl) (fun _ _ _ h => h) hHeld rfl ?_ ?_; rotate_left; (focus (intro w' hSw; go_simp; try with_reducible rfl)))
  (try simp only [Act.put, List.setIfInBounds_toArray, List.set_cons_zero, List.set_cons_succ])
  (refine takeH 2 6 (v := ?_) rfl rfl (by kernel_rfl) (by kernel_rfl) (by kernel_rfl) (fun _ _ _ h => h) hHeld rfl ?_ ?_; rotate_left; (focus (intro w' hSw; go_simp; try with_reducible rfl)))
  (try simp only [Act.put, List.setIfInBounds_toArray, List.set_cons_zero, List.set_cons_succ])
  (refine takeH 3 7 (v := ?_) rfl rfl (by kernel_rfl) (by kernel_rfl) (by kernel_rfl) (fun _ _ _ h => h) hHeld rfl ?_ ?_; rotate_left; (focus (intro w' hSw; go_simp; try with_reducible rfl)))
  (try simp only [Act.put, List.setIfInBounds_toArray, List.set_cons_zero, List.set_cons_succ])
  (refine takeH 4 8 (v := ?_) rfl rfl (by kernel_rfl) (by kernel_rfl) (by kernel_rfl) (fun _ _ _ h => h) hHeld rfl ?_ ?_; rotate_left; (focus (intro w' hSw; go_simp; try with_reducible rfl)))
  (try simp only [Act.put, List.setIfInBounds_toArray, List.set_cons_zero, List.set_cons_succ])
  (refine takeH 5 9 (v := ?_) rfl rfl (by kernel_rfl) (by kernel_rfl) (by kernel_rfl) (fun _ _ _ h => h) hHeld rfl ?_ ?_; rotate_left; (focus (intro w' hSw; go_simp; try with_reducible rfl)))
  (try simp only [Act.put, List.setIfInBounds_toArray, List.set_cons_zero, List.set_cons_succ])
  (refine takeH 6 10 (v := ?_) rfl rfl (by kernel_rfl) (by kernel_rfl) (by kernel_rfl) (fun _ _ _ h => h) hHeld rfl ?_ ?_; rotate_left; (focus (intro w' hSw; go_simp; try with_reducible rfl)))
  (try simp only [Act.put, List.setIfInBounds_toArray, List.set_cons_zero, List.set_cons_succ])
  (refine takeH 7 11 (v := ?_) rfl rfl (by kernel_rfl) (by kernel_rfl) (by kernel_rfl) (fun _ _ _ h => h) hHeld rfl ?_ ?_; rotate_left; (focus (intro w' hSw; go_simp; try with_reducible rfl)))
  (try simp only [Act.put, List.setIfInBounds_toArray, List.set_cons_zero, List.set_cons_succ])
  (refine takeH 8 12 (v := ?_) rfl rfl (by kernel_rfl) (by kernel_rfl) (by kernel_rfl) (fun _ _ _ h => h) hHeld rfl ?_ ?_; rotate_left; (focus (intro w' hSw; go_simp; try with_reducible rfl)))
  (try simp only [Act.put, List.setIfInBounds_toArray, List.set_cons_zero, List.set_cons_succ])
  (refine takeH 9 13 (v := ?_) rfl rfl (by kernel_rfl) (by kernel_rfl) (by kernel_rfl) (fun _ _ _ h => h) hHeld rfl ?_ ?_; rotate_left; (focus (intro w' hSw; go_simp; try with_reducible rfl)))
  (try simp only [Act.put, List.setIfInBounds_toArray, List.set_cons_zero, List.set_cons_succ])
  refine wpAnyH_ready (rs := [10]) (by kernel_rfl) (by simp) ?_
  refine AllReadyH.cons rfl (fun K hK => ?_) AllReadyH.nil
  go_simp
  refine (HCM.out _).mono ?_
  rintro r w2 ⟨rfl, h1⟩
  have H1 := Aside0.mk (Below.then_ (below_drew (Below.refl W.heap.size W)) h1 (Nat.le_refl _))
  clear h1
  refine hK.out _ _ (H1.out) (fun hHeld => ?_)
  clear hK K
  (try simp only [Act.put, List.setIfInBounds_toArray, List.set_cons_zero, List.set_cons_succ])
  (refine takeH 11 15 (v := ?_) rfl rfl (by kernel_rfl) (by kernel_rfl) (by kernel_rfl) (fun _ _ _ h => h) hHeld rfl ?_ ?_; rotate_left; (focus (intro w' hSw; go_simp; try with_reducible rfl)))
  (try simp only [Act.put, List.setIfInBounds_toArray, List.set_cons_zero, List.set_cons_succ])
  refine wpAnyH_done (by kernel_rfl) ?_ _
  refine NoPanic.normal ?_
  clear k0 k1 k2 k3 x0 x1 x2 x3 x4 x5 hlw HLW rf hHeld
  have HB2 := Aside0.mk (Below.then_ HB0.out H1.out (Nat.le_refl _))
  by_cases hge : 0 ≤ x
  · have HGE := Aside0.mk hge
    have hgt : ¬ x < 0 := by omega
    have HX2 := Aside0.mk (HX0.out.on H1.out)
    have HS2 := Aside0.mk (HT.out.blk.on HB2.out)
    obtain ⟨⟨k0, k1, k2, k3⟩, _⟩ := Blk.four HS2.out
    obtain ⟨⟨x0, x1, x2, x3, x4, x5⟩, _⟩ := HX2.out.six
    have HNM : Aside0 (s ≠ m1 ∧ eb0 ≠ m1) := ⟨fun e => HT.out.new.noTy 54 (e ▸ HT.out.ty), fun e => by have := HT.out.new.lt; have := HEB.out; omega⟩
    have HCP := Aside0.mk (fun W' (hb' : Below w.heap.size w W') => Tags.copy_calls ⟨ek, ⟨a1, a2, a3⟩, ⟨eh, eb⟩⟩ A cp W' (by
      obtain ⟨A6, c6, he, q1, q2, q3, q4, q5, q6⟩ := Entry.open_ HK.out
      dsimp only at he q1 q2 q3 q4 q5 q6
      simp only [List.cons.injEq, Value.slice.injEq, true_and, and_true] at he
      obtain ⟨rfl, rfl⟩ := he
      exact Entry.mk_ W' ⟨ek, ⟨a1, a2, a3⟩, ⟨eh, eb⟩⟩ q1 q2 q3 q4 q5 (Kd.C_below q6 hb')) HLE.out.1)
    have hnm := HNM.out
    obtain ⟨hn1, hn2⟩ := hnm
    have l1 := fun w' (h : Only [m1] w2 w') => (h.cell (p := ⟨s, 1, none⟩) (World.block_lt_of_cell? _ _ k1) (by simp; exact hn1)).trans k1
    have l0 := fun i v (hv : w2.cell? ⟨eb0, i, none⟩ = some v) w' (h : Only [m1] w2 w') => (h.cell (p := ⟨eb0, i, none⟩) (World.block_lt_of_cell? _ _ hv) (by simp; exact hn2)).trans hv
    have x0 := l0 0 _ x0
    have x1 := l0 1 _ x1
    have x2 := l0 2 _ x2
    have x3 := l0 3 _ x3
    have x4 := l0 4 _ x4
    have x5 := l0 5 _ x5
    clear k0 k1 k2 k3 l0
    go_wp2
    refine wp_region_noPanic ?_
    refine wp_region_held_drew (S := Only [m1] w2) (by kernel_rfl) ((Only.refl _ _).drew) (fun hHeld => ?_)
    (refine takeH 0 16 (v := ?_) rfl rfl (by kernel_rfl) (by kernel_rfl) (by kernel_rfl) (fun _ _ _ h => h) hHeld rfl ?_ ?_; rotate_left; (focus (intro w' hSw; go_simp; try with_reducible rfl)))
    (try simp only [Act.put, List.setIfInBounds_toArray, List.set_cons_zero, List.set_cons_succ])
    (refine takeH 1 17 (v := ?_) rfl rfl (by kernel_rfl) (by kernel_rfl) (by kernel_rfl) (fun _ _ _ h => h) hHeld rfl ?_ ?_; rotate_left; (focus (intro w' hSw; go_simp; try with_reducible rfl)))
    (try simp only [Act.put, List.setIfInBounds_toArray, List.set_cons_zero, List.set_cons_succ])
    (refine takeH 2 18 (v := ?_) rfl rfl (by kernel_rfl) (by kernel_rfl) (by kernel_rfl) (fun _ _ _ h => h) hHeld rfl ?_ ?_; rotate_left; (focus (intro w' hSw; go_simp; try with_reducible rfl)))
    (try simp only [Act.put, List.setIfInBounds_toArray, List.set_cons_zero, List.set_cons_succ])
    (refine takeH 3 19 (v := ?_) rfl rfl (by kernel_rfl) (by kernel_rfl) (by kernel_rfl) (fun _ _ _ h => h) hHeld rfl ?_ ?_; rotate_left; (focus (intro w' hSw; go_simp; try with_reducible rfl)))
    (try simp only [Act.put, List.setIfInBounds_toArray, List.set_cons_zero, List.set_cons_succ])
    (refine takeH 4 20 (v := ?_) rfl rfl (by kernel_rfl) (by kernel_rfl) (by kernel_rfl) (fun _ _ _ h => h) hHeld rfl ?_ ?_; rotate_left; (focus (intro w' hSw; go_simp; try with_reducible rfl)))
    (try simp only [Act.put, List.setIfInBounds_toArray, List.set_cons_zero, List.set_cons_succ])
    (refine takeH 5 21 (v := ?_) rfl rfl (by kernel_rfl) (by kernel_rfl) (by kernel_rfl) (fun _ _ _ h => h) hHeld rfl ?_ ?_; rotate_left; (focus (intro w' hSw; go_simp; try with_reducible rfl)))
    (try simp only [Act.put, List.setIfInBounds_toArray, List.set_cons_zero, List.set_cons_succ])
    (refine takeH 6 22 (v := ?_) rfl rfl (by kernel_rfl) (by kernel_rfl) (by kernel_rfl) (fun _ _ _ h => h) hHeld rfl ?_ ?_; rotate_left; (focus (intro w' hSw; go_simp; try with_reducible rfl)))
    (try simp only [Act.put, List.setIfInBounds_toArray, List.set_cons_zero, List.set_cons_succ])
    refine wpAnyH_ready (rs := [7]) (by kernel_rfl) (by simp) ?_
    refine AllReadyH.cons rfl (fun K hK => ?_) AllReadyH.nil
    go_simp
    refine (HCP.out _ (Below.then_ HB2.out (below_drew (Below.refl w2.heap.size w2)) (Nat.le_refl _))).mono ?_
    rintro r w3 ⟨cs, rfl, hbk, hfk, hb3⟩
    obtain ⟨A', c', rfl, _⟩ := ecs_of hfk
    have HC3 := Aside0.mk (And.intro hfk (Below.then_ (below_drew (Below.refl w2.heap.size w2)) hb3 (Nat.le_refl _)))
    clear hbk hfk hb3
    refine hK.out _ _ ((Only.of_below _ HC3.out.2)) (fun hHeld => ?_)
    clear hK K
    (try simp only [Act.put, List.setIfInBounds_toArray, List.set_cons_zero, List.set_cons_succ])
    have HB3 := Aside0.mk (Below.then_ HB2.out HC3.out.2 (Nat.le_refl _))
    obtain ⟨ok3, hok3⟩ : ∃ ok3 : Nat → Prop, ok3 = fun i => (ok i ∧ i < w.heap.size) ∨ (w.heap.size ≤ i ∧ i < w3.heap.size) := ⟨_, rfl⟩
    have hm3 : MapE w3 ok3 m1 S.n := (HT.out.new.bound.below HB3.out).mono (fun i hi => by rw [hok3]; exact .inl hi)
    have hfk3 : Kd.FK Entry.k w3 ok3 ⟨ek, ⟨a1, a2, a3⟩, ⟨eh, eb⟩⟩ (ecs ⟨ek, ⟨a1, a2, a3⟩, ⟨eh, eb⟩⟩ A' c').toArray.toList := Foot.mono (Foot.bound HC3.out.1) (fun i hi => by rw [hok3]; exact .inr ⟨Nat.le_trans HB2.out.size hi.1, hi.2⟩)
    have hbm : ∀ i, ok3 i → i ≠ m1 := by
      rintro i hi rfl
      rw [hok3] at hi
      rcases hi with ⟨h, _⟩ | ⟨h, _⟩
      · exact HF.out _ h (mem_sOwn.2 (.inr (.inl rfl)))
      · have := HT.out.new.lt
        omega
    obtain ⟨w4, hrun, hm4, hg4⟩ := hm3.put HT.out.srt.1 (c := ⟨ek, ⟨a1, a2, a3⟩, ⟨eh, eb⟩⟩) HLE.out.2 hfk3 hbm
    have ho4 : Only [m1] w3 w4 := (Only.refl [m1] w3).grown hg4 (fun k hk => by injection hk with hk; subst hk; exact .inl (by simp))
    have HFIN := Aside0.mk (StoR.lay HT.out HF.out HB3.out ho4 (fun i hi => by rw [hok3] at hi; exact hi) (fun i h1 h2 => by rw [hok3]; exact .inl ⟨h1, h2⟩) hm4 (srt_put HT.out.srt.1))
    have HO4 := Aside0.mk ho4
    have HOK3 : Aside0 (∀ i, ok3 i → ok i ∨ w.heap.size ≤ i) := ⟨fun i hi => by
      rw [hok3] at hi
      rcases hi with ⟨h, _⟩ | ⟨h, _⟩
      · exact .inl h
      · exact .inr h⟩
    clear hok3 hm3 hfk3 hbm hm4 hg4 ho4
    dsimp only [ecs] at *
    refine wpAnyH_ready (rs := [8]) (by kernel_rfl) (by simp) ?_
    refine AllReadyH.cons rfl (fun K hK => ?_) AllReadyH.nil
    go_simp
    refine hK.out _ _ ((Only.of_below _ HC3.out.2).trans HO4.out) (fun hHeld => ?_)
    clear hK K
    (try simp only [Act.put, List.setIfInBounds_toArray, List.set_cons_zero, List.set_cons_succ])
    refine wpAnyH_done (by kernel_rfl) ?_ _
    refine NoPanic.normal ?_
    go_wp2
    refine bodyPost_end (v := .tuple #[]) (by simp [results, Try.results20, go_sem]; try rfl) rfl ?_
    refine ⟨ok3, _, rfl, ?_, HFIN.out.2, HOK3.out⟩
    have := HFIN.out.1
    unfold layE
    rw [HTG.out]
    dsimp only
    rw [if_pos (by rw [← HX.out]; exact HGE.out)]
    exact this
  · have HLT := Aside0.mk hge
    have hgt : x < 0 := by omega
    go_wp2
    refine bodyPost_end (v := .tuple #[]) (by simp [results, Try.results20, go_sem]; try rfl) rfl ?_
    refine ⟨_, _, rfl, ?_, ⟨Only.of_below _ HB2.out, fun k hk => .inl hk⟩, fun i hi => .inl hi⟩
    unfold layE
    rw [HTG.out]
    dsimp only
    rw [if_neg (by rw [← HX.out]; have := HLT.out; omega)]
    exact StoR.on ⟨l, m1, m2, av, ln, rfl, HT.out, HF.out⟩ HB2.out
end Sto
end Go.Proofs.Ytmmelfnhhjfaeaa
set_option linter.unusedVariables false
set_option linter.unusedSimpArgs false
namespace Go.Proofs.Ytmmelfnhhjfaeaa
open Go.RowKit Go.Proofs.YtmmelfnhhjfaeaaW.PrintWords
open Tags
namespace Sto
/-- Its log has turned. -/
theorem StoR.log {w w1 w2 : World} {ok okl : Nat → Prop} {s l m1 m2 : Nat} {av : Value} {ln ln' : List Nat} {c c0 c2 : Int} {S : St} {L T : List UInt8} {rs : List Record} {last : Int} (h : StoT w ok s l m1 m2 av ln c S) (hf : ∀ i, ok i → i ∉ sOwn s m1 m2 av ln) (hb : Below w.heap.size w w1) (hl : LogR w2 okl ln' l L T c0 rs last) (hn : Next ln ln' w1 w2) (hc : 0 ≤ c0 ∧ c0 ≤ c2)
    (hokl : ∀ i, okl i → (ok i ∧ i < w.heap.size) ∨ (w.heap.size ≤ i ∧ i ∉ ln')) :
    ∃ ok', StoR w2 ok' (sOwn s m1 m2 av ln') s c2 { S with l := L, t := T, rs := rs, last := last } ∧ Next (sOwn s m1 m2 av ln) (sOwn s m1 m2 av ln') w w2 ∧ ∀ i, ok' i → ok i ∨ w.heap.size ≤ i := by
  have hs1 := hb.size
  have hs2 := hn.only.size
  have hlt := StoR.lt (show StoR w ok (sOwn s m1 m2 av ln) s c S from ⟨l, m1, m2, av, ln, rfl, h, hf⟩)
  have hln : ∀ q, q < w.heap.size → q ∉ ln → q ∉ ln' := fun q hq h1 h2 => by
    rcases hn.own q h2 with h3 | h3
    · exact h1 h3
    · omega
  have h1 := mem_sOwn (s := s) (m1 := m1) (m2 := m2) (av := av) (ln := ln) (k := s) |>.2 (.inl rfl)
  have h2 := mem_sOwn (s := s) (m1 := m1) (m2 := m2) (av := av) (ln := ln) (k := m1) |>.2 (.inr (.inl rfl))
  have h3 := mem_sOwn (s := s) (m1 := m1) (m2 := m2) (av := av) (ln := ln) (k := m2) |>.2 (.inr (.inr (.inl rfl)))
  have hokn : ∀ i, ok i → i ∉ ln := fun i hi hm => hf i hi (mem_sOwn.2 (.inr (.inr (.inr (.inr hm)))))
  refine ⟨fun i => (ok i ∧ i < w.heap.size) ∨ (w.heap.size ≤ i ∧ i ∉ ln'), ⟨l, m1, m2, av, ln', rfl, ⟨(h.blk.on hb).only hn.only h.ne.1, (h.ty.below hb).only hn.only h.ne.1, ⟨c0, hc, LogR.mono hl hokl⟩, ?_, ?_, (h.ack.on hb).only hn.only (fun k hk e => h.ne.2.2.2.2 k e hk) (fun i hi => hi.elim), h.srt, hln s (hlt s h1) h.ne.1, hln m1 (hlt m1 h2) h.ne.2.1, hln m2 (hlt m2 h3) h.ne.2.2.1, h.ne.2.2.2.1, fun k hk => hln k (h.ack.lt hk) (h.ne.2.2.2.2 k hk)⟩, ?_⟩, ⟨(Only.of_below _ hb).trans (hn.only.mono (fun i hi => .inl (mem_sOwn.2 (.inr (.inr (.inr (.inr hi))))))), ?_⟩, fun i hi => ?_⟩
  · exact ((h.new.bound.below hb).only hn.only h.ne.2.1 (fun i hi hm => hokn i hi.1 hm)).mono (fun i hi => .inl hi)
  · exact ((h.las.bound.below hb).only hn.only h.ne.2.2.1 (fun i hi hm => hokn i hi.1 hm)).mono (fun i hi => .inl hi)
  · rintro i (hi | hi) hm
    · rcases mem_sOwn.1 hm with e | e | e | e | e
      · exact hf i hi.1 (mem_sOwn.2 (.inl e))
      · exact hf i hi.1 (mem_sOwn.2 (.inr (.inl e)))
      · exact hf i hi.1 (mem_sOwn.2 (.inr (.inr (.inl e))))
      · exact hf i hi.1 (mem_sOwn.2 (.inr (.inr (.inr (.inl e)))))
      · exact hln i hi.2 (hokn i hi.1) e
    · have := hi.1
      rcases mem_sOwn.1 hm with e | e | e | e | e
      · have := hlt s h1
        omega
      · have := hlt m1 h2
        omega
      · have := hlt m2 h3
        omega
      · have := h.ack.lt e
        omega
      · exact hi.2 e
  · intro k hk
    rcases mem_sOwn.1 hk with e | e | e | e | e
    · exact .inl (mem_sOwn.2 (.inl e))
    · exact .inl (mem_sOwn.2 (.inr (.inl e)))
    · exact .inl (mem_sOwn.2 (.inr (.inr (.inl e))))
    · exact .inl (mem_sOwn.2 (.inr (.inr (.inr (.inl e)))))
    · rcases hn.own k e with h | h
      · exact .inl (mem_sOwn.2 (.inr (.inr (.inr (.inr h)))))
      · exact .inr (by omega)
  · rcases hi with h | h
    · exact .inl h.1
    · exact .inr h.1
/-- Its acknowledgements have turned. -/
theorem StoR.ack {w w1 w2 : World} {ok : Nat → Prop} {s l m1 m2 : Nat} {av v : Value} {ln : List Nat} {c : Int} {S : St} {acks : List Ack} (h : StoT w ok s l m1 m2 av ln c S) (hf : ∀ i, ok i → i ∉ sOwn s m1 m2 av ln) (hb : Below w.heap.size w w1) (hv : OwnF Ack.k 44 w2 (fun _ => False) v acks) (ho : Only av.ownBlock.toList w1 w2) (hat : v.ownBlock = av.ownBlock ∨ v.ownBlock = none ∨ ∃ q, v.ownBlock = some q ∧ w.heap.size ≤ q) :
    ∃ ok', StoR (w2.setCell ⟨s, 3, none⟩ v) ok' (sOwn s m1 m2 v ln) s c { S with acks := acks } ∧ Next (sOwn s m1 m2 av ln) (sOwn s m1 m2 v ln) w (w2.setCell ⟨s, 3, none⟩ v) ∧ ∀ i, ok' i → ok i ∨ w.heap.size ≤ i := by
  have hs1 := hb.size
  have hs2 := ho.size
  have hlt := StoR.lt (show StoR w ok (sOwn s m1 m2 av ln) s c S from ⟨l, m1, m2, av, ln, rfl, h, hf⟩)
  have hav : ∀ q, q ∈ av.ownBlock.toList → av.ownBlock = some q := fun q hq => Option.mem_toList.1 hq
  have hon : Only [s] w2 (w2.setCell ⟨s, 3, none⟩ v) := (Only.refl _ _).set _ (.inl (by simp))
  obtain ⟨hn1, hn2, hn3, hn4, hn5⟩ := h.ne
  have hsa : s ∉ av.ownBlock.toList := fun hm => h.ack.ne h.ty tAckSto (hav _ hm)
  have hma : ∀ {m : Nat} {N : List Entry}, MapE w ok m N → m ∉ av.ownBlock.toList := fun hm hq => hm.noTy _ (h.ack.ty (hav _ hq))
  have hms : ∀ {m : Nat} {N : List Entry}, MapE w ok m N → m ∉ [s] := fun {m N} hm hq => hm.noTy 54 (by rw [show m = s by simpa using hq]; exact h.ty)
  have hoka : ∀ i, ok i → i ∉ av.ownBlock.toList := fun i hi hm => hf i hi (mem_sOwn.2 (.inr (.inr (.inr (.inl (hav _ hm))))))
  have hoks : ∀ i, ok i → i ∉ [s] := fun i hi hm => hf i hi (mem_sOwn.2 (.inl (by simpa using hm)))
  have hmv : ∀ {N : List Entry} {m : Nat}, MapE w ok m N → MapE (w2.setCell ⟨s, 3, none⟩ v) (fun i => ok i ∧ i < w.heap.size) m N := fun {N m} hm =>
    ((hm.bound.below hb).only ho (hma hm) (fun i hi => hoka i hi.1)).only hon (hms hm) (fun i hi => hoks i hi.1)
  have hvn : ∀ k, v.ownBlock = some k → av.ownBlock = some k ∨ w.heap.size ≤ k := fun k hk => by
    rcases hat with e | e | ⟨q, e, hq⟩
    · exact .inl (e ▸ hk)
    · rw [e] at hk; cases hk
    · rw [e] at hk
      injection hk with hk
      exact .inr (by omega)
  have hts : Ty w2 54 s := (h.ty.below hb).only ho hsa
  obtain ⟨c', hc, hl⟩ := h.log
  have hl2 : LogR (w2.setCell ⟨s, 3, none⟩ v) (fun i => ok i ∧ i < w.heap.size) ln l S.l S.t c' S.rs S.last :=
    LogR.only (LogR.only (LogR.only (S := []) (LogR.bound hl) (Only.of_below [] hb) (by simp) (by simp)) ho (fun k hk hm => hn5 k (hav _ hm) hk) (fun i hi => hoka i hi.1)) hon (fun k hk hm => hn1 (by rwa [show k = s by simpa using hm] at hk)) (fun i hi => hoks i hi.1)
  refine ⟨fun i => ok i ∧ i < w.heap.size, ⟨l, m1, m2, v, ln, rfl, ⟨((h.blk.on hb).only ho hsa).set 3 _, hts.set _ _, ⟨c', hc, hl2⟩, hmv h.new, hmv h.las, hv.only hon (fun k hk => by rw [show k = s by simpa using hk]; exact hv.ne hts tAckSto) (fun i hi => hi.elim), h.srt, hn1, hn2, hn3, hn4, fun k hk hm => ?_⟩, ?_⟩, ⟨?_, ?_⟩, fun i hi => .inl hi.1⟩
  · rcases hvn k hk with e | e
    · exact hn5 k e hm
    · have := LogR.lt hl k hm
      omega
  · rintro i ⟨hi, hi2⟩ hm
    rcases mem_sOwn.1 hm with e | e | e | e | e
    · exact hf i hi (mem_sOwn.2 (.inl e))
    · exact hf i hi (mem_sOwn.2 (.inr (.inl e)))
    · exact hf i hi (mem_sOwn.2 (.inr (.inr (.inl e))))
    · rcases hvn i e with e | e
      · exact hf i hi (mem_sOwn.2 (.inr (.inr (.inr (.inl e)))))
      · omega
    · exact hf i hi (mem_sOwn.2 (.inr (.inr (.inr (.inr e)))))
  · refine ((Only.of_below _ hb).trans (ho.mono (fun i hi => .inl (mem_sOwn.2 (.inr (.inr (.inr (.inl (hav _ hi))))))))).trans (hon.mono (fun i hi => .inl (mem_sOwn.2 (.inl (by simpa using hi)))))
  · intro k hk
    rcases mem_sOwn.1 hk with e | e | e | e | e
    · exact .inl (mem_sOwn.2 (.inl e))
    · exact .inl (mem_sOwn.2 (.inr (.inl e)))
    · exact .inl (mem_sOwn.2 (.inr (.inr (.inl e))))
    · rcases hvn k e with e | e
      · exact .inl (mem_sOwn.2 (.inr (.inr (.inr (.inl e)))))
      · exact .inr e
    · exact .inl (mem_sOwn.2 (.inr (.inr (.inr (.inr e)))))
def PutAll (e : Entry) (who : Int) : Prop := PutOk e ∧ 0 ≤ who ∧ who ≤ 1048575
instance (e : Entry) (who : Int) : Decidable (PutAll e who) := by unfold PutAll; infer_instance
/-- Put: what the store holds then. -/
def St.put (S : St) (e : Entry) (who : Int) : St :=
  if PutAll e who then
    if 0 < cmpT e.tag (tagOf S.n e.key) then { S with t := S.t ++ Pack.frameB 1 (Pack.entB e), rs := S.rs ++ [⟨1, Pack.entB e⟩], n := Sto.put S.n e, acks := S.acks ++ [⟨who, e.key, e.tag⟩] }
    else { S with acks := S.acks ++ [⟨who, e.key, e.tag⟩] }
  else S
def putC (e : Entry) (who : Int) : Int := if PutAll e who then 0 else 2
set_option maxRecDepth 100000 in
theorem put_bad (e : Entry) (who : Int) (A : Option Addr) (cp : Nat) (w : World) (ok : Nat → Prop) (own : List Nat) (s : Nat) (c : Int) (S : St) (h : StoR w ok own s c S) (hK : Entry.k.K w e (ecs e A cp)) (hb : e.val.b.length ≤ 140737488351232) (hno : ¬ PutAll e who) :
    Calls Try.prog 6 #[.pointer (some ⟨s, 0, none⟩), .agg (ecs e A cp).toArray, .int .i64 who] w (StoTold ok own s c (S.put e who) (.int .i64 (putC e who)) w) := by
  have HFIN : Aside0 (∀ w', Below w.heap.size w w' → StoTold ok own s c (S.put e who) (.int .i64 (putC e who)) w (.returned (.int .i64 2)) w') := ⟨fun w' hb => by
    unfold St.put putC
    rw [if_neg hno, if_neg hno]
    exact ⟨ok, own, rfl, h.on hb, ⟨Only.of_below _ hb, fun k hk => .inl hk⟩, fun i hi => .inl hi⟩⟩
  obtain ⟨_, _, he, hks, hr1, hr2, hr3, _, _⟩ := Entry.open_ hK
  have HR : Aside0 (∀ W, Calls Try.prog 15 #[.agg #[.string e.key, .int .i64 e.tag.seq, .int .i64 e.tag.who, .int .i64 e.tag.op, .bool e.val.has, .slice A e.val.b.length cp]] W fun r w' => r = .returned (.int .i64 (rgt e)) ∧ Below W.heap.size W w') := ⟨fun W => right_calls e.key e.tag.seq e.tag.who e.tag.op e.val.has A cp e.val.b W hks hb⟩
  have HN := Aside0.mk (fun W => none_calls e.tag.seq e.tag.who e.tag.op W)
  have hcase : rgt e = 2 ∨ (rgt e = 0 ∧ (e.tag.seq == 0) = true) ∨ (rgt e = 0 ∧ (e.tag.seq == 0) = false ∧ who < 0) ∨ (rgt e = 0 ∧ (e.tag.seq == 0) = false ∧ ¬ who < 0 ∧ 1048575 < who) := by
    by_cases h1 : EntOk e
    · rw [rgt_ok h1]
      by_cases h2 : e.tag.seq = 0
      · simp [h2]
      · have : ¬ (0 ≤ who ∧ who ≤ 1048575) := fun h3 => hno ⟨⟨h1, h2⟩, h3⟩
        simp [h2]
        omega
    · exact .inl (rgt_no h1)
  obtain ⟨rg, hrg⟩ : ∃ r, r = rgt e := ⟨_, rfl⟩
  rw [← hrg] at HR hcase
  clear h hK hno hrg he hr1 hr2 hr3
  obtain ⟨ek, ⟨a1, a2, a3⟩, ⟨eh, eb⟩⟩ := e
  dsimp only [ecs] at *
  have hrun : ∀ hyp : (rg = 2 ∨ (rg = 0 ∧ (a1 == 0) = true) ∨ (rg = 0 ∧ (a1 == 0) = false ∧ who < 0) ∨ (rg = 0 ∧ (a1 == 0) = false ∧ ¬ who < 0 ∧ 1048575 < who)), Calls Try.prog 6 #[.pointer (some ⟨s, 0, none⟩), .agg #[.string ek, .int .i64 a1, .int .i64 a2, .int .i64 a3, .bool eh, .slice A eb.length cp], .int .i64 who] w (StoTold ok own s c (S.put ⟨ek, ⟨a1, a2, a3⟩, ⟨eh, eb⟩⟩ who) (.int .i64 (putC ⟨ek, ⟨a1, a2, a3⟩, ⟨eh, eb⟩⟩ who)) w) := by
    intro hyp
    clear hcase
    rcases hyp with rfl | ⟨rfl, h1⟩ | ⟨rfl, h1, h2⟩ | ⟨rfl, h1, h2, h3⟩ <;>
    · go_enter Try.func6, Try.ntmps6
      go_upto_region 3 with (fail)
      generalize hX : World.alloc _ _ = W
      have HB0 : Aside0 (Below w.heap.size w W) := ⟨by rw [← hX]; exact below_alloc (Below.refl _ _) _⟩
      have HX0 : Aside0 (Blk W w.heap.size [.string ek, .int .i64 a1, .int .i64 a2, .int .i64 a3, .bool eh, .slice A eb.length cp]) := ⟨by rw [← hX]; exact Blk.new_ _ _ _ rfl rfl⟩
      clear hX
      obtain ⟨⟨x0, x1, x2, x3, x4, x5⟩, _⟩ := HX0.out.six
      have x0 := fun w' (h : Below W.heap.size W w') => pw_cell_below h x0
      have x1 := fun w' (h : Below W.heap.size W w') => pw_cell_below h x1
      have x2 := fun w' (h : Below W.heap.size W w') => pw_cell_below h x2
      have x3 := fun w' (h : Below W.heap.size W w') => pw_cell_below h x3
      have x4 := fun w' (h : Below W.heap.size W w') => pw_cell_below h x4
      have x5 := fun w' (h : Below W.heap.size W w') => pw_cell_below h x5
      go_wp2_with (first
        | ((with_reducible refine (HR.out _).mono ?_); rintro r w1 ⟨rfl, hb⟩; have HB1 := Aside0.mk hb; have x1 := x1 _ hb; have x2 := x2 _ hb; have x3 := x3 _ hb; clear hb)
        | ((with_reducible refine (HN.out _).mono ?_); rintro r w2 ⟨rfl, hb⟩; have HB1 := Aside0.mk (Below.then_ HB1.out hb (Nat.le_refl _)); clear hb))
      go_ret
      exact HFIN.out _ (Below.then_ HB0.out HB1.out (Nat.le_refl _))
  exact hrun hcase
end Sto
end Go.Proofs.Ytmmelfnhhjfaeaa
set_option linter.unusedVariables false
set_option linter.unusedSimpArgs false
namespace Go.Proofs.Ytmmelfnhhjfaeaa
open Go.RowKit Go.Proofs.YtmmelfnhhjfaeaaW.PrintWords
open Tags
namespace Sto
theorem infoAck : (Try.prog.info? 44).map (fun i => (i.zero, i.size, i.bytes)) = some (some (.agg #[.int .i64 0, .string ByteArray.empty, .int .i64 0, .int .i64 0, .int .i64 0]), 5, 48) := by kernel_rfl
/-- A row of one, where it lies. -/
theorem row_oneF {w : World} {ok : Nat → Prop} {A : Option Addr} {c : Nat} {x : List UInt8} (hl : x.length ≤ c) (h : Kd.F kU8 w ok A x.length x) (hok : ok w.heap.size) : Kd.F Hash.kRow (w.alloc (.cells #[.slice A x.length c] 24)) ok (some ⟨w.heap.size, 0, none⟩) 1 [x] := by
  have hb := below_alloc (Below.refl w.heap.size w) (.cells #[.slice A x.length c] 24)
  have h' : Kd.F kU8 (w.alloc (.cells #[.slice A x.length c] 24)) ok A x.length x := Foot.step h (fun i _ hi => hb.block i hi)
  have hc := cell_new w #[.slice A x.length c] 24 (0, 0) 0 _ rfl
  intro W' hW
  refine Hash.row_one (x := x) ?_ hl (h' W' hW)
  rw [World.cell?_of_block (w := w.alloc (.cells #[.slice A x.length c] 24)) (hW _ hok (by rw [show (w.alloc (.cells #[.slice A x.length c] 24)).heap.size = w.heap.size + 1 from Array.size_push _]; exact Nat.lt_succ_self _))]
  exact hc
theorem StoT.on {w W : World} {ok : Nat → Prop} {s l m1 m2 : Nat} {av : Value} {ln : List Nat} {c : Int} {S : St} (h : StoT w ok s l m1 m2 av ln c S) (hb : Below w.heap.size w W) : StoT W (fun i => ok i ∧ i < w.heap.size) s l m1 m2 av ln c S := by
  obtain ⟨c', hc, hl⟩ := h.log
  exact ⟨h.blk.on hb, h.ty.below hb, ⟨c', hc, LogR.only (S := []) (LogR.bound hl) (Only.of_below [] hb) (by simp) (by simp)⟩, h.new.bound.below hb, h.las.bound.below hb, h.ack.on hb, h.srt, h.ne⟩
theorem putFin {w W w6 : World} {ok ok6 : Nat → Prop} {own own6 : List Nat} {s : Nat} {c : Int} {S S6 : St} {e : Entry} {who : Int} {r : Value} {a : Ack} (hB : Below w.heap.size w W) (hN : Next own own6 W w6) (hok : ∀ i, ok6 i → ok i ∨ w.heap.size ≤ i) (hp : S.put e who = { S6 with acks := S6.acks ++ [a] }) :
    ∀ (ok9 : Nat → Prop) (own9 : List Nat) (w9 : World), StoR w9 ok9 own9 s c { S6 with acks := S6.acks ++ [a] } → Next own6 own9 w6 w9 → (∀ i, ok9 i → ok6 i ∨ w6.heap.size ≤ i) → StoTold ok own s c (S.put e who) r w (.returned r) w9 := by
  intro ok9 own9 w9 h n j
  refine ⟨ok9, own9, rfl, by rw [hp]; exact h, Next.ahead hB (hN.trans n), fun i hi => ?_⟩
  rcases j i hi with h1 | h1
  · exact hok i h1
  · exact .inr (Nat.le_trans hB.size (Nat.le_trans hN.only.size h1))
set_option maxRecDepth 100000 in
set_option maxHeartbeats 1000000 in
theorem put_good (e : Entry) (who : Int) (A : Option Addr) (cp : Nat) (w : World) (ok : Nat → Prop) (own : List Nat) (s : Nat) (c : Int) (S : St) (h : StoR w ok own s c S) (hc : c ≤ 1000000) (hE : Kd.FK Entry.k w (fun i => i ∉ own) e (ecs e A cp)) (hl : S.l.length + S.t.length ≤ 4000000) (hrs : S.rs.length ≤ 1000000) (hak : S.acks.length ≤ 1000000) (hgo : PutAll e who) :
    Calls Try.prog 6 #[.pointer (some ⟨s, 0, none⟩), .agg (ecs e A cp).toArray, .int .i64 who] w (StoTold ok own s c (S.put e who) (.int .i64 0) w) := by
  obtain ⟨l, m1, m2, av, ln, rfl, h, hf⟩ := h
  have HT := Aside0.mk h
  have HF := Aside0.mk hf
  have HE := Aside0.mk hE
  have HEO := Aside0.mk hgo.1.1
  have HLL := Aside0.mk (And.intro hl (And.intro hrs hak))
  obtain ⟨_, _, he, hks, hr1, hr2, hr3, _, _⟩ := Entry.open_ (Kd.FK_now hE)
  have HRG : Aside0 (InR .i64 who ∧ e.key.size ≤ 140737488351232 ∧ InR .i64 e.tag.seq ∧ InR .i64 e.tag.who ∧ InR .i64 e.tag.op) := ⟨InR.mk64 (by have := hgo.2; omega) (by have := hgo.2; omega), hks, hr1, hr2, hr3⟩
  have hb : e.val.b.length ≤ 60000 := hgo.1.1.2.2.1
  have HR : Aside0 (∀ W, Calls Try.prog 15 #[.agg #[.string e.key, .int .i64 e.tag.seq, .int .i64 e.tag.who, .int .i64 e.tag.op, .bool e.val.has, .slice A e.val.b.length cp]] W fun r w' => r = .returned (.int .i64 0) ∧ Below W.heap.size W w') := ⟨fun W => by
    have := right_calls e.key e.tag.seq e.tag.who e.tag.op e.val.has A cp e.val.b W hks (by omega)
    rw [show (⟨e.key, ⟨e.tag.seq, e.tag.who, e.tag.op⟩, ⟨e.val.has, e.val.b⟩⟩ : Entry) = e from rfl, rgt_ok hgo.1.1] at this
    exact this⟩
  have HN : Aside0 (∀ W, Calls Try.prog 16 #[.agg #[.int .i64 e.tag.seq, .int .i64 e.tag.who, .int .i64 e.tag.op]] W fun r w' => r = .returned (.bool false) ∧ Below W.heap.size W w') := ⟨fun W => by
    have := none_calls e.tag.seq e.tag.who e.tag.op W
    rw [show (e.tag.seq == 0) = false by simpa using hgo.1.2] at this
    exact this⟩
  have hw1 : ¬ who < 0 := by have := hgo.2; omega
  have hw2 : ¬ 1048575 < who := by have := hgo.2; omega
  obtain ⟨o, A0, cp0, ho, hfk, hlook⟩ := h.new.look_or e.key hks
  have HTG : Aside0 (tagOf S.n e.key = o.tag) := ⟨by rw [ho]; rfl⟩
  obtain ⟨x, hx⟩ : ∃ x, x = cmpT e.tag o.tag := ⟨_, rfl⟩
  have HCM : Aside0 (∀ W, Calls Try.prog 17 #[.agg #[.int .i64 e.tag.seq, .int .i64 e.tag.who, .int .i64 e.tag.op], .agg #[.int .i64 o.tag.seq, .int .i64 o.tag.who, .int .i64 o.tag.op]] W fun r w' => r = .returned (.int .i64 x) ∧ Below W.heap.size W w') := ⟨fun W => by rw [hx]; exact compareT_calls e.tag o.tag W⟩
  have HPA : Aside0 (S.put e who = if 0 < x then { S with t := S.t ++ Pack.frameB 1 (Pack.entB e), rs := S.rs ++ [⟨1, Pack.entB e⟩], n := put S.n e, acks := S.acks ++ [⟨who, e.key, e.tag⟩] } else { S with acks := S.acks ++ [⟨who, e.key, e.tag⟩] }) := ⟨by
    unfold St.put
    rw [if_pos hgo, HTG.out, hx]⟩
  have HX := Aside0.mk hx
  have hm1lt := h.new.lt
  have HLK : Aside0 (∀ w', Below w.heap.size w w' → (Instr.lookup 52 (.map (some m1)) (.string e.key) false).run Try.prog w' = .ok (.agg (ecs o A0 cp0).toArray) w') := ⟨fun w' h' => hlook false w' (h'.block m1 hm1lt)⟩
  have HEL : Aside0 ((Pack.entB e).length ≤ 65536) := ⟨by have := Pack.entB_le e; have := hgo.1.1.2.1; omega⟩
  clear h hf hE hgo he hks hr1 hr2 hr3 hl hrs hak ho hfk hlook hx hm1lt
  obtain ⟨ek, ⟨a1, a2, a3⟩, ⟨eh, eb⟩⟩ := e
  obtain ⟨ok_, ⟨o1, o2, o3⟩, ⟨oh, ob⟩⟩ := o
  dsimp only [ecs] at *
  go_enter Try.func6, Try.ntmps6
  go_upto_region 3 with (fail)
  generalize hX : World.alloc _ _ = W
  have HB0 : Aside0 (Below w.heap.size w W) := ⟨by rw [← hX]; exact below_alloc (Below.refl _ _) _⟩
  have HX0 : Aside0 (Blk W w.heap.size [.string ek, .int .i64 a1, .int .i64 a2, .int .i64 a3, .bool eh, .slice A eb.length cp]) := ⟨by rw [← hX]; exact Blk.new_ _ _ _ rfl rfl⟩
  obtain ⟨eb0, heb0⟩ : ∃ b, b = w.heap.size := ⟨_, rfl⟩
  rw [← heb0] at HX0 ⊢
  have HEB := Aside0.mk heb0
  clear hX heb0
  obtain ⟨⟨x0, x1, x2, x3, x4, x5⟩, _⟩ := HX0.out.six
  have x0 := fun w' (h : Below W.heap.size W w') => pw_cell_below h x0
  have x1 := fun w' (h : Below W.heap.size W w') => pw_cell_below h x1
  have x2 := fun w' (h : Below W.heap.size W w') => pw_cell_below h x2
  have x3 := fun w' (h : Below W.heap.size W w') => pw_cell_below h x3
  have x4 := fun w' (h : Below W.heap.size W w') => pw_cell_below h x4
  have x5 := fun w' (h : Below W.heap.size W w') => pw_cell_below h x5
  go_upto_region 5 with (first
    | ((with_reducible refine (HR.out _).mono ?_); rintro r w1 ⟨rfl, hb⟩; have HB1 := Aside0.mk hb; have x1 := x1 _ hb; have x2 := x2 _ hb; have x3 := x3 _ hb; clear hb)
    | ((with_reducible refine (HN.out _).mono ?_); rintro r w2 ⟨rfl, hb⟩; have HB2 := Aside0.mk (Below.then_ HB1.out hb (Nat.le_refl _)); clear hb))
  have HX2 := Aside0.mk (HX0.out.on HB2.out)
  have HBW2 := Aside0.mk (Below.then_ HB0.out HB2.out (Nat.le_refl _))
  have HS2 := Aside0.mk (HT.out.blk.on HBW2.out)
  have HLW : Aside0 (∀ w', Below w2.heap.size w2 w' → (Instr.lookup 52 (.map (some m1)) (.string ek) false).run Try.prog w' = .ok (.agg #[.string ok_, .int .i64 o1, .int .i64 o2, .int .i64 o3, .bool oh, .slice A0 ob.length cp0]) w') := ⟨fun w' h' => HLK.out w' (HBW2.out.trans (h'.mono HBW2.out.size))⟩
  have hlw := HLW.out
  have rf := fun w' => field_T ok_ o1 o2 o3 oh (.slice A0 ob.length cp0) w'
  clear x0 x1 x2 x3 x4 x5
  obtain ⟨⟨k0, k1, k2, k3⟩, _⟩ := Blk.four HS2.out
  obtain ⟨⟨x0, x1, x2, x3, x4, x5⟩, _⟩ := HX2.out.six
  have k1 := fun w' (h : Below w2.heap.size w2 w') => pw_cell_below h k1
  have x0 := fun w' (h : Below w2.heap.size w2 w') => pw_cell_below h x0
  have x1 := fun w' (h : Below w2.heap.size w2 w') => pw_cell_below h x1
  have x2 := fun w' (h : Below w2.heap.size w2 w') => pw_cell_below h x2
  have x3 := fun w' (h : Below w2.heap.size w2 w') => pw_cell_below h x3
  refine wp_region_noPanic ?_
  refine wp_region_held_drew (S := Below w2.heap.size w2) (by kernel_rfl) (below_drew (Below.refl _ _)) (fun hHeld => ?_)
  (refine takeH 0 30 (v := ?_) rfl rfl (by kernel_rfl) (by kernel_rfl) (by kernel_rfl) (fun _ _ _ h => h) hHeld rfl ?_ ?_; rotate_left; (focus (intro w' hSw; go_simp; try with_reducible rfl)))
  (try simp only [Act.put, List.setIfInBounds_toArray, List.set_cons_zero, List.set_cons_succ])
  (refine takeH 1 31 (v := ?_) rfl rfl (by kernel_rfl) (by kernel_rfl) (by kernel_rfl) (fun _ _ _ h => h) hHeld rfl ?_ ?_; rotate_left; (focus (intro w' hSw; go_simp; try with_reducible rfl)))
  (try simp only [Act.put, List.setIfInBounds_toArray, List.set_cons_zero, List.set_cons_succ])
  (refine takeH 2 32 (v := ?_) rfl rfl (by kernel_rfl) (by kernel_rfl) (by kernel_rfl) (fun _ _ _ h => h) hHeld rfl ?_ ?_; rotate_left; (focus (intro w' hSw; go_simp; try with_reducible rfl)))
  (try simp only [Act.put, List.setIfInBounds_toArray, List.set_cons_zero, List.set_cons_succ])
  (refine takeH 3 33 (v := ?_) rfl rfl (by kernel_rfl) (by kernel_rfl) (by kernel_rfl) (fun _ _ _ h => h) hHeld rfl ?_ ?_; rotate_left; (focus (intro w' hSw; go_simp; try with_reducible rfl)))
  (try simp only [Act.put, List.setIfInBounds_toArray, List.set_cons_zero, List.set_cons_succ])
  (refine takeH 4 34 (v := ?_) rfl rfl (by kernel_rfl) (by kernel_rfl) (by kernel_rfl) (fun _ _ _ h => h) hHeld rfl ?_ ?_; rotate_left; (focus (intro w' hSw; go_simp; try with_reducible rfl)))
  (try simp only [Act.put, List.setIfInBounds_toArray, List.set_cons_zero, List.set_cons_succ])
  (refine takeH 5 35 (v := ?_) rfl rfl (by kernel_rfl) (by kernel_rfl) (by kernel_rfl) (fun _ _ _ h => h) hHeld rfl ?_ ?_; rotate_left; (focus (intro w' hSw; go_simp; try with_reducible rfl)))
  (try simp only [Act.put, List.setIfInBounds_toArray, List.set_cons_zero, List.set_cons_succ])
  (refine takeH 6 36 (v := ?_) rfl rfl (by kernel_rfl) (by kernel_rfl) (by kernel_rfl) (fun _ _ _ h => h) hHeld rfl ?_ ?_; rotate_left; (focus (intro w' hSw; go_simp; try with_reducible rfl)))
  (try simp only [Act.put, List.setIfInBounds_toArray, List.set_cons_zero, List.set_cons_succ])
  (refine takeH 7 37 (v := ?_) rfl rfl (by kernel_rfl) (by kernel_rfl) (by kernel_rfl) (fun _ _ _ h => h) hHeld rfl ?_ ?_; rotate_left; (focus (intro w' hSw; go_simp; try with_reducible rfl)))
  (try simp only [Act.put, List.setIfInBounds_toArray, List.set_cons_zero, List.set_cons_succ])
  (refine takeH 8 38 (v := ?_) rfl rfl (by kernel_rfl) (by kernel_rfl) (by kernel_rfl) (fun _ _ _ h => h) hHeld rfl ?_ ?_; rotate_left; (focus (intro w' hSw; go_simp; try with_reducible rfl)))
  (try simp only [Act.put, List.setIfInBounds_toArray, List.set_cons_zero, List.set_cons_succ])
  (refine takeH 9 39 (v := ?_) rfl rfl (by kernel_rfl) (by kernel_rfl) (by kernel_rfl) (fun _ _ _ h => h) hHeld rfl ?_ ?_; rotate_left; (focus (intro w' hSw; go_simp; try with_reducible rfl)))
  (try simp only [Act.put, List.setIfInBounds_toArray, List.set_cons_zero, List.set_cons_succ])
  refine wpAnyH_ready (rs := [10]) (by kernel_rfl) (by simp) ?_
  refine AllReadyH.cons rfl (fun K hK => ?_) AllReadyH.nil
  go_simp
  refine (HCM.out _).mono ?_
  rintro r w3 ⟨rfl, h1⟩
  have H3 := Aside0.mk (Below.then_ (below_drew (Below.refl w2.heap.size w2)) h1 (Nat.le_refl _))
  clear h1
  refine hK.out _ _ (H3.out) (fun hHeld => ?_)
  clear hK K
  (try simp only [Act.put, List.setIfInBounds_toArray, List.set_cons_zero, List.set_cons_succ])
  (refine takeH 11 41 (v := ?_) rfl rfl (by kernel_rfl) (by kernel_rfl) (by kernel_rfl) (fun _ _ _ h => h) hHeld rfl ?_ ?_; rotate_left; (focus (intro w' hSw; go_simp; try with_reducible rfl)))
  (try simp only [Act.put, List.setIfInBounds_toArray, List.set_cons_zero, List.set_cons_succ])
  refine wpAnyH_done (by kernel_rfl) ?_ _
  refine NoPanic.normal ?_
  clear k0 k1 k2 k3 x0 x1 x2 x3 x4 x5 hlw HLW rf hHeld HLK
  have HX3 := Aside0.mk (HX2.out.on H3.out)
  have HBW3 := Aside0.mk (Below.then_ HB2.out H3.out (Nat.le_refl _))
  have HTW : Aside0 (StoR W (fun i => ok i ∧ i < w.heap.size) (sOwn s m1 m2 av ln) s c S) := ⟨(StoR.bound ⟨l, m1, m2, av, ln, rfl, HT.out, HF.out⟩).on HB0.out⟩
  have HEN : Aside0 (eb0 ∉ sOwn s m1 m2 av ln ∧ eb0 < W.heap.size) := ⟨fun hm => by have := StoR.lt (show StoR w ok (sOwn s m1 m2 av ln) s c S from ⟨l, m1, m2, av, ln, rfl, HT.out, HF.out⟩) eb0 hm; have := HEB.out; omega, HX0.out.lt⟩
  by_cases hgt : 0 < x
  · have hge : 0 ≤ x := by omega
    obtain ⟨c', hc', hlog⟩ := HT.out.log
    have HC' := Aside0.mk hc'
    have HLG := Aside0.mk (LogR.bound hlog)
    have HLN : Aside0 (∀ k ∈ ln, k < w.heap.size) := ⟨LogR.lt hlog⟩
    have HCC : Aside0 (kU8.C w A eb.length eb) := ⟨by
      obtain ⟨A6, c6, he, _, _, _, _, _, g5⟩ := Entry.open_ (Kd.FK_now HE.out)
      dsimp only at he g5
      simp only [List.cons.injEq, Value.slice.injEq, true_and, and_true] at he
      obtain ⟨rfl, rfl⟩ := he
      exact g5⟩
    have HBY := Aside0.mk (Pack.entB_calls ⟨ek, ⟨a1, a2, a3⟩, ⟨eh, eb⟩⟩ A cp w3 HEO.out (Kd.C_below HCC.out (Below.then_ HB0.out HBW3.out (Nat.le_refl _))))
    obtain ⟨bs, hbs⟩ : ∃ bs, bs = Pack.entB ⟨ek, ⟨a1, a2, a3⟩, ⟨eh, eb⟩⟩ := ⟨_, rfl⟩
    rw [← hbs] at HBY HPA HEL
    dsimp only at HBY
    have HGT := Aside0.mk hgt
    clear hc' hlog hbs
    obtain ⟨⟨x0, x1, x2, x3, x4, x5⟩, _⟩ := HX3.out.six
    go_upto_region 7 with (first
      | ((with_reducible refine HBY.out.mono ?_); rintro r w4 ⟨v4, rfl, hG⟩; obtain ⟨Av, cv, rfl, hcv, hF⟩ := hG.foot; have HF4 := Aside0.mk (Kd.F_mono hF (ok' := fun i => w3.heap.size ≤ i) (fun i hi => hi.elim (fun h => h.elim) id)); have HB4 := Aside0.mk hG.bl; have HCV := Aside0.mk hcv; clear hG hF hcv))
    clear x0 x1 x2 x3 x4 x5
    have HB04 := Aside0.mk (Below.then_ HBW3.out HB4.out (Nat.le_refl _))
    have HBW4 := Aside0.mk (Below.then_ HB0.out HB04.out (Nat.le_refl _))
    have HBA : Aside0 (Below w4.heap.size w4 (w4.alloc (.cells #[.slice Av bs.length cv] 24))) := ⟨below_alloc (Below.refl _ _) _⟩
    have HBW5 := Aside0.mk (Below.then_ HBW4.out HBA.out (Nat.le_refl _))
    have HB05 := Aside0.mk (Below.then_ HB04.out HBA.out (Nat.le_refl _))
    have HAPP := Aside0.mk (walAppend_calls (w4.alloc (.cells #[.slice Av bs.length cv] 24)) (fun i => ok i ∧ i < w.heap.size) ln l S.l S.t c' S.rs S.last (LogR.only (S := []) HLG.out (Only.of_below [] HBW5.out) (by simp) (by simp)) (fun i hi hm => HF.out i hi.1 (mem_sOwn.2 (.inr (.inr (.inr (.inr hm)))))) 1 (by decide) bs (some ⟨w4.heap.size, 0, none⟩) 1 (Kd.F_mono (row_oneF HCV.out HF4.out HB4.out.size) (fun i hi hm => by have := HLN.out i hm; have := HBW3.out.size; have := HB0.out.size; have : w3.heap.size ≤ i := hi; omega)) (by have := HLL.out.1; have := HEL.out; omega) HEL.out HLL.out.2.1)
    rw [show (((1 : UInt8).toNat : Nat) : Int) = 1 from rfl] at HAPP
    obtain ⟨⟨k0, k1, k2, k3⟩, g0, g1, g2, g3⟩ := Blk.four (HT.out.blk.on HBW4.out)
    go_upto_region 10 with (first
      | ((with_reducible refine HAPP.out.mono ?_); rintro r w5 ⟨ln', rfl, hl5, hn5⟩; have HL5 := Aside0.mk (And.intro hl5 hn5); clear hl5 hn5))
    clear k0 k1 k2 k3 g0 g1 g2 g3 HAPP
    obtain ⟨ok5, h5, n5, j5⟩ := StoR.log (StoT.on HT.out HB0.out) (fun i hi => HF.out i hi.1) HB05.out HL5.out.1 HL5.out.2 HC'.out (fun i hi => by
      have hs0 := HB0.out.size
      have hs5 := HB05.out.size
      rcases hi with ⟨h1, _⟩ | ⟨h1, h2⟩
      · exact .inl ⟨h1, Nat.lt_of_lt_of_le h1.2 hs0⟩
      · exact .inr ⟨Nat.le_trans hs5 h1, h2⟩)
    have HX5 := Aside0.mk (HX0.out.only n5.only HEN.out.1)
    have HE5 := Aside0.mk (n5.foot (Foot.step HE.out (fun i _ hi => HB0.out.block i hi)))
    have HN5 := Aside0.mk n5
    have HJ5 := Aside0.mk j5
    have HLAY := Aside0.mk (lay_calls ⟨ek, ⟨a1, a2, a3⟩, ⟨eh, eb⟩⟩ A cp w5 ok5 _ s c _ h5 (Kd.FK_now HE5.out) (by have := hb; dsimp only at this ⊢; omega))
    dsimp only [ecs] at HLAY
    clear h5 n5 j5
    obtain ⟨⟨x0, x1, x2, x3, x4, x5⟩, _⟩ := HX5.out.six
    go_upto_region 11 with (first
      | ((with_reducible refine HLAY.out.mono ?_); rintro r w6 ⟨ok6', own6', rfl, h6, n6, j6⟩; have H6' := Aside0.mk (And.intro h6 (And.intro (HN5.out.trans n6) j6)); clear h6 n6 j6))
    obtain ⟨S6, hS6⟩ : ∃ S6 : St, S6 = { l := S.l, t := S.t ++ Pack.frameB 1 bs, rs := S.rs ++ [⟨1, bs⟩], last := S.last, n := layE S.n ⟨ek, ⟨a1, a2, a3⟩, ⟨eh, eb⟩⟩, z := S.z, acks := S.acks } := ⟨_, rfl⟩
    have HPUT : Aside0 (S.put ⟨ek, ⟨a1, a2, a3⟩, ⟨eh, eb⟩⟩ who = { S6 with acks := S6.acks ++ [⟨who, ek, ⟨a1, a2, a3⟩⟩] }) := ⟨by
      rw [HPA.out, if_pos HGT.out, hS6]
      unfold layE
      rw [HTG.out]
      dsimp only
      rw [if_pos (by rw [← HX.out]; exact Int.le_of_lt HGT.out)]⟩
    have HAL : Aside0 (S6.acks.length ≤ 1000000) := ⟨by rw [hS6]; exact HLL.out.2.2⟩
    have HS6 := Aside0.mk hS6
    clear hS6 hgt x0 x1 x2 x3 x4 x5
    have hj6 : ∀ i, ok6' i → ok i ∨ w.heap.size ≤ i := fun i hi => by
      have hs0 := HB0.out.size
      have hs5 := HN5.out.only.size
      rcases H6'.out.2.2 i hi with h | h
      · rcases HJ5.out i h with h | h
        · exact .inl h.1
        · exact .inr (Nat.le_trans hs0 h)
      · exact .inr (Nat.le_trans hs0 (Nat.le_trans hs5 h))
    have he6 : eb0 ∉ own6' := fun hm => by
      rcases H6'.out.2.1.own eb0 hm with h | h
      · exact HEN.out.1 h
      · have := HEN.out.2
        omega
    have HJ6 := Aside0.mk hj6
    have HE6 := Aside0.mk he6
    clear hj6 he6
    obtain ⟨ok6, own6, H6, HN6, HOK6, HNB6, HX6⟩ : ∃ ok6 own6, Aside0 (StoR w6 ok6 own6 s c S6) ∧ Aside0 (Next (sOwn s m1 m2 av ln) own6 W w6) ∧ Aside0 (∀ i, ok6 i → ok i ∨ w.heap.size ≤ i) ∧ Aside0 (eb0 ∉ own6) ∧ Aside0 (Blk w6 eb0 [.string ek, .int .i64 a1, .int .i64 a2, .int .i64 a3, .bool eh, .slice A eb.length cp]) := ⟨ok6', own6', ⟨by rw [HS6.out]; exact H6'.out.1⟩, ⟨H6'.out.2.1⟩, HJ6, HE6, ⟨HX0.out.only H6'.out.2.1.only HEN.out.1⟩⟩
    have HPF := Aside0.mk (putFin (s := s) (c := c) (r := .int .i64 0) HB0.out HN6.out HOK6.out HPUT.out)
    obtain ⟨l6, n1, n2, av6, ln6, hown6, h6, hf6⟩ := H6.out
    subst hown6
    obtain ⟨RA, rc, rfl, _, _⟩ := h6.ack.reads
    have HT6 := Aside0.mk h6
    have HF6 := Aside0.mk hf6
    have hne6 : eb0 ∉ s :: (Value.slice RA S6.acks.length rc).ownBlock.toList := fun hm => HNB6.out (by
      rcases List.mem_cons.1 hm with h | h
      · exact mem_sOwn.2 (.inl h)
      · exact mem_sOwn.2 (.inr (.inr (.inr (.inl (Option.mem_toList.1 h))))))
    obtain ⟨⟨y0, y1, y2, y3, y4, y5⟩, _⟩ := HX6.out.six
    have l0 := fun i v (hv : w6.cell? ⟨eb0, i, none⟩ = some v) w' (h : Only (s :: (Value.slice RA S6.acks.length rc).ownBlock.toList) w6 w') => (h.cell (p := ⟨eb0, i, none⟩) (World.block_lt_of_cell? _ _ hv) hne6).trans hv
    have y0 := l0 0 _ y0
    have y1 := l0 1 _ y1
    have y2 := l0 2 _ y2
    have y3 := l0 3 _ y3
    clear h6 hf6 l0 hne6 y4 y5
    obtain ⟨w7, hw7⟩ : ∃ w7, w7 = World.drew w6 := ⟨_, rfl⟩
    have HBD7 : Aside0 (Below w6.heap.size w6 w7) := ⟨by rw [hw7]; exact below_drew (Below.refl _ _)⟩
    have HB7 := Aside0.mk (HT6.out.blk.on HBD7.out)
    have HTY7 := Aside0.mk (HT6.out.ty.below HBD7.out)
    have HA7 := Aside0.mk (HT6.out.ack.on HBD7.out)
    have HOD7 := Aside0.mk (Only.of_below (s :: (Value.slice RA S6.acks.length rc).ownBlock.toList) HBD7.out)
    have HAK : Aside0 (Kd.FK Ack.k w7 (fun _ => False) ⟨who, ek, ⟨a1, a2, a3⟩⟩ (#[Value.int .i64 who, .string ek, .int .i64 a1, .int .i64 a2, .int .i64 a3]).toList) := ⟨fun W' _ => Ack.mk_ W' ⟨who, ek, ⟨a1, a2, a3⟩⟩ HRG.out.1 HRG.out.2.1 HRG.out.2.2.1 HRG.out.2.2.2.1 HRG.out.2.2.2.2⟩
    obtain ⟨⟨k0, k1, k2, k3⟩, g0, g1, g2, g3⟩ := Blk.four HB7.out
    refine wp_region_noPanic ?_
    refine wp_region_held_drew (S := Only (s :: (Value.slice RA S6.acks.length rc).ownBlock.toList) w6) (by kernel_rfl) ((Only.refl _ _).drew) (fun hHeld => ?_)
    rw [← hw7]
    clear hw7 hHeld
    have hHeld := HOD7.out
    (refine takeH 0 60 (v := ?_) rfl rfl (by kernel_rfl) (by kernel_rfl) (by kernel_rfl) (fun _ _ _ h => h) hHeld rfl ?_ ?_; rotate_left; (focus (intro w' hSw; go_simp; try with_reducible rfl)))
    (try simp only [Act.put, List.setIfInBounds_toArray, List.set_cons_zero, List.set_cons_succ])
    (refine takeH 1 61 (v := ?_) rfl rfl (by kernel_rfl) (by kernel_rfl) (by kernel_rfl) (fun _ _ _ h => h) hHeld rfl ?_ ?_; rotate_left; (focus (intro w' hSw; go_simp; try with_reducible rfl)))
    (try simp only [Act.put, List.setIfInBounds_toArray, List.set_cons_zero, List.set_cons_succ])
    (refine takeH 2 62 (v := ?_) rfl rfl (by kernel_rfl) (by kernel_rfl) (by kernel_rfl) (fun _ _ _ h => h) hHeld rfl ?_ ?_; rotate_left; (focus (intro w' hSw; go_simp; try with_reducible rfl)))
    (try simp only [Act.put, List.setIfInBounds_toArray, List.set_cons_zero, List.set_cons_succ])
    (refine takeH 3 63 (v := ?_) rfl rfl (by kernel_rfl) (by kernel_rfl) (by kernel_rfl) (fun _ _ _ h => h) hHeld rfl ?_ ?_; rotate_left; (focus (intro w' hSw; go_simp; try with_reducible rfl)))
    (try simp only [Act.put, List.setIfInBounds_toArray, List.set_cons_zero, List.set_cons_succ])
    (refine takeH 5 65 (v := ?_) rfl rfl (by kernel_rfl) (by kernel_rfl) (by kernel_rfl) (fun _ _ _ h => h) hHeld rfl ?_ ?_; rotate_left; (focus (intro w' hSw; go_simp; try with_reducible rfl)))
    (try simp only [Act.put, List.setIfInBounds_toArray, List.set_cons_zero, List.set_cons_succ])
    (refine takeH 6 66 (v := ?_) rfl rfl (by kernel_rfl) (by kernel_rfl) (by kernel_rfl) (fun _ _ _ h => h) hHeld rfl ?_ ?_; rotate_left; (focus (intro w' hSw; go_simp; try with_reducible rfl)))
    (try simp only [Act.put, List.setIfInBounds_toArray, List.set_cons_zero, List.set_cons_succ])
    (refine takeH 7 67 (v := ?_) rfl rfl (by kernel_rfl) (by kernel_rfl) (by kernel_rfl) (fun _ _ _ h => h) hHeld rfl ?_ ?_; rotate_left; (focus (intro w' hSw; go_simp; try with_reducible rfl)))
    (try simp only [Act.put, List.setIfInBounds_toArray, List.set_cons_zero, List.set_cons_succ])
    (refine takeH 8 68 (v := ?_) rfl rfl (by kernel_rfl) (by kernel_rfl) (by kernel_rfl) (fun _ _ _ h => h) hHeld rfl ?_ ?_; rotate_left; (focus (intro w' hSw; go_simp; try with_reducible rfl)))
    (try simp only [Act.put, List.setIfInBounds_toArray, List.set_cons_zero, List.set_cons_succ])
    (refine takeH 9 69 (v := ?_) rfl rfl (by kernel_rfl) (by kernel_rfl) (by kernel_rfl) (fun _ _ _ h => h) hHeld rfl ?_ ?_; rotate_left; (focus (intro w' hSw; go_simp; try with_reducible rfl)))
    (try simp only [Act.put, List.setIfInBounds_toArray, List.set_cons_zero, List.set_cons_succ])
    (refine takeH 10 70 (v := ?_) rfl rfl (by kernel_rfl) (by kernel_rfl) (by kernel_rfl) (fun _ _ _ h => h) hHeld rfl ?_ ?_; rotate_left; (focus (intro w' hSw; go_simp; try with_reducible rfl)))
    (try simp only [Act.put, List.setIfInBounds_toArray, List.set_cons_zero, List.set_cons_succ])
    refine wpAnyH_ready (rs := [4, 11]) (by kernel_rfl) (by simp) ?_
    refine AllReadyH.cons rfl (fun K hK => ?_) (AllReadyH.cons rfl (fun K hK => ?_) AllReadyH.nil)
    · go_simp
      refine hK.out _ _ HOD7.out (fun hHeld => ?_)
      clear hK K
      (try simp only [Act.put, List.setIfInBounds_toArray, List.set_cons_zero, List.set_cons_succ])
      refine wpAnyH_ready (rs := [11]) (by kernel_rfl) (by simp) ?_
      refine AllReadyH.cons rfl (fun K hK => ?_) AllReadyH.nil
      go_simp
      refine hK.out _ _ ((HOD7.out.alloc _)) (fun hHeld => ?_)
      clear hK K
      (try simp only [Act.put, List.setIfInBounds_toArray, List.set_cons_zero, List.set_cons_succ])
      refine wpAnyH_ready (rs := [12]) (by kernel_rfl) (by simp) ?_
      refine AllReadyH.cons rfl (fun K hK => ?_) AllReadyH.nil
      refine OwnF.step_push (d := Ack.k) (y := ⟨who, ek, ⟨a1, a2, a3⟩⟩) (ok := fun _ => False) rfl _ _ 35 (.agg #[.int .i64 0, .string ByteArray.empty, .int .i64 0, .int .i64 0, .int .i64 0]) 48 rfl Try.underlying35 infoAck rfl (by decide) (by omega) HA7.out (fun q _ h => h) #[.int .i64 who, .string ek, .int .i64 a1, .int .i64 a2, .int .i64 a3] HAK.out rfl rfl (by have := HAL.out; omega) ?_
      intro v8 w8 hv8 o8 hown8
      obtain ⟨A8, c8, rfl, _, _⟩ := hv8.reads
      rw [List.length_append] at hv8 hown8 ⊢
      have HV8 := Aside0.mk hv8
      have HO8 := Aside0.mk o8
      have HW8 := Aside0.mk hown8
      have HB8 := Aside0.mk (HB7.out.only o8 (fun hm => HA7.out.ne HTY7.out tAckSto (Option.mem_toList.1 hm)))
      have HSB8 := Aside0.mk (HOD7.out.trans (HO8.out.mono (S' := s :: (Value.slice RA S6.acks.length rc).ownBlock.toList) (fun i hi => .inl (List.mem_cons_of_mem _ hi))))
      clear hv8 o8 hown8 k0 k1 k2 k3 g0 g1 g2 g3
      obtain ⟨⟨k0, k1, k2, k3⟩, g0, g1, g2, g3⟩ := Blk.four HB8.out
      refine hK.out _ _ HSB8.out (fun hHeld => ?_)
      clear hK K
      (try simp only [Act.put, List.setIfInBounds_toArray, List.set_cons_zero, List.set_cons_succ])
      (refine takeH 13 73 (v := ?_) rfl rfl (by kernel_rfl) (by kernel_rfl) (by kernel_rfl) (fun _ _ _ h => h) hHeld rfl ?_ ?_; rotate_left; (focus (intro w' hSw; go_simp; try with_reducible rfl)))
      (try simp only [Act.put, List.setIfInBounds_toArray, List.set_cons_zero, List.set_cons_succ])
      (refine takeH 14 74 (v := ?_) rfl rfl (by kernel_rfl) (by kernel_rfl) (by kernel_rfl) (fun _ _ _ h => h) hHeld rfl ?_ ?_; rotate_left; (focus (intro w' hSw; go_simp; try with_reducible rfl)))
      (try simp only [Act.put, List.setIfInBounds_toArray, List.set_cons_zero, List.set_cons_succ])
      refine wpAnyH_ready (rs := [15]) (by kernel_rfl) (by simp) ?_
      refine AllReadyH.cons rfl (fun K hK => ?_) AllReadyH.nil
      go_simp
      refine hK.out _ _ (HSB8.out.set (p := ⟨s, 3, none⟩) _ (.inl List.mem_cons_self)) (fun hHeld => ?_)
      clear hK K
      (try simp only [Act.put, List.setIfInBounds_toArray, List.set_cons_zero, List.set_cons_succ])
      refine wpAnyH_done (by kernel_rfl) ?_ _
      refine NoPanic.normal ?_
      go_wp2
      go_ret
      obtain ⟨ok9, h9, n9, j9⟩ := StoR.ack HT6.out HF6.out HBD7.out HV8.out HO8.out (HW8.out.elim .inl (fun ⟨q, h1, h2⟩ => .inr (.inr ⟨q, h1, Nat.le_trans HBD7.out.size h2⟩)))
      exact HPF.out _ _ _ h9 n9 j9
    · go_simp
      refine hK.out _ _ (HOD7.out.alloc _) (fun hHeld => ?_)
      clear hK K
      (try simp only [Act.put, List.setIfInBounds_toArray, List.set_cons_zero, List.set_cons_succ])
      have kk0 := pw_cell_below (below_alloc (Below.refl _ _) (.cells #[.int .i64 who, .string ek, .int .i64 a1, .int .i64 a2, .int .i64 a3] 44)) k3
      refine wpAnyH_ready (rs := [4]) (by kernel_rfl) (by simp) ?_
      refine AllReadyH.cons rfl (fun K hK => ?_) AllReadyH.nil
      go_simp
      refine hK.out _ _ ((HOD7.out.alloc _)) (fun hHeld => ?_)
      clear hK K
      (try simp only [Act.put, List.setIfInBounds_toArray, List.set_cons_zero, List.set_cons_succ])
      refine wpAnyH_ready (rs := [12]) (by kernel_rfl) (by simp) ?_
      refine AllReadyH.cons rfl (fun K hK => ?_) AllReadyH.nil
      refine OwnF.step_push (d := Ack.k) (y := ⟨who, ek, ⟨a1, a2, a3⟩⟩) (ok := fun _ => False) rfl _ _ 35 (.agg #[.int .i64 0, .string ByteArray.empty, .int .i64 0, .int .i64 0, .int .i64 0]) 48 rfl Try.underlying35 infoAck rfl (by decide) (by omega) HA7.out (fun q _ h => h) #[.int .i64 who, .string ek, .int .i64 a1, .int .i64 a2, .int .i64 a3] HAK.out rfl rfl (by have := HAL.out; omega) ?_
      intro v8 w8 hv8 o8 hown8
      obtain ⟨A8, c8, rfl, _, _⟩ := hv8.reads
      rw [List.length_append] at hv8 hown8 ⊢
      have HV8 := Aside0.mk hv8
      have HO8 := Aside0.mk o8
      have HW8 := Aside0.mk hown8
      have HB8 := Aside0.mk (HB7.out.only o8 (fun hm => HA7.out.ne HTY7.out tAckSto (Option.mem_toList.1 hm)))
      have HSB8 := Aside0.mk (HOD7.out.trans (HO8.out.mono (S' := s :: (Value.slice RA S6.acks.length rc).ownBlock.toList) (fun i hi => .inl (List.mem_cons_of_mem _ hi))))
      clear hv8 o8 hown8 k0 k1 k2 k3 g0 g1 g2 g3
      obtain ⟨⟨k0, k1, k2, k3⟩, g0, g1, g2, g3⟩ := Blk.four HB8.out
      refine hK.out _ _ HSB8.out (fun hHeld => ?_)
      clear hK K
      (try simp only [Act.put, List.setIfInBounds_toArray, List.set_cons_zero, List.set_cons_succ])
      (refine takeH 13 73 (v := ?_) rfl rfl (by kernel_rfl) (by kernel_rfl) (by kernel_rfl) (fun _ _ _ h => h) hHeld rfl ?_ ?_; rotate_left; (focus (intro w' hSw; go_simp; try with_reducible rfl)))
      (try simp only [Act.put, List.setIfInBounds_toArray, List.set_cons_zero, List.set_cons_succ])
      (refine takeH 14 74 (v := ?_) rfl rfl (by kernel_rfl) (by kernel_rfl) (by kernel_rfl) (fun _ _ _ h => h) hHeld rfl ?_ ?_; rotate_left; (focus (intro w' hSw; go_simp; try with_reducible rfl)))
      (try simp only [Act.put, List.setIfInBounds_toArray, List.set_cons_zero, List.set_cons_succ])
      refine wpAnyH_ready (rs := [15]) (by kernel_rfl) (by simp) ?_
      refine AllReadyH.cons rfl (fun K hK => ?_) AllReadyH.nil
      go_simp
      refine hK.out _ _ (HSB8.out.set (p := ⟨s, 3, none⟩) _ (.inl List.mem_cons_self)) (fun hHeld => ?_)
      clear hK K
      (try simp only [Act.put, List.setIfInBounds_toArray, List.set_cons_zero, List.set_cons_succ])
      refine wpAnyH_done (by kernel_rfl) ?_ _
      refine NoPanic.normal ?_
      go_wp2
      go_ret
      obtain ⟨ok9, h9, n9, j9⟩ := StoR.ack HT6.out HF6.out HBD7.out HV8.out HO8.out (HW8.out.elim .inl (fun ⟨q, h1, h2⟩ => .inr (.inr ⟨q, h1, Nat.le_trans HBD7.out.size h2⟩)))
      exact HPF.out _ _ _ h9 n9 j9
  · have hle : x ≤ 0 := by omega
    obtain ⟨S6, hS6⟩ : ∃ S6, S6 = S := ⟨_, rfl⟩
    obtain ⟨w6, hw6⟩ : ∃ w6, w6 = w3 := ⟨_, rfl⟩
    have HPUT : Aside0 (S.put ⟨ek, ⟨a1, a2, a3⟩, ⟨eh, eb⟩⟩ who = { S6 with acks := S6.acks ++ [⟨who, ek, ⟨a1, a2, a3⟩⟩] }) := ⟨by rw [HPA.out, if_neg hgt, hS6]⟩
    have HAL : Aside0 (S6.acks.length ≤ 1000000) := ⟨by rw [hS6]; exact HLL.out.2.2⟩
    have HS6 := Aside0.mk hS6
    have HW6 := Aside0.mk hw6
    clear hS6 hgt
    go_wp2
    rw [← HW6.out]
    clear hw6
    obtain ⟨ok6, own6, H6, HN6, HOK6, HNB6, HX6⟩ : ∃ ok6 own6, Aside0 (StoR w6 ok6 own6 s c S6) ∧ Aside0 (Next (sOwn s m1 m2 av ln) own6 W w6) ∧ Aside0 (∀ i, ok6 i → ok i ∨ w.heap.size ≤ i) ∧ Aside0 (eb0 ∉ own6) ∧ Aside0 (Blk w6 eb0 [.string ek, .int .i64 a1, .int .i64 a2, .int .i64 a3, .bool eh, .slice A eb.length cp]) := ⟨fun i => ok i ∧ i < w.heap.size, sOwn s m1 m2 av ln, ⟨by rw [HS6.out, HW6.out]; exact HTW.out.on HBW3.out⟩, ⟨by rw [HW6.out]; exact ⟨Only.of_below _ HBW3.out, fun k hk => .inl hk⟩⟩, ⟨fun i hi => .inl hi.1⟩, ⟨HEN.out.1⟩, ⟨by rw [HW6.out]; exact HX3.out⟩⟩
    have HPF := Aside0.mk (putFin (s := s) (c := c) (r := .int .i64 0) HB0.out HN6.out HOK6.out HPUT.out)
    obtain ⟨l6, n1, n2, av6, ln6, hown6, h6, hf6⟩ := H6.out
    subst hown6
    obtain ⟨RA, rc, rfl, _, _⟩ := h6.ack.reads
    have HT6 := Aside0.mk h6
    have HF6 := Aside0.mk hf6
    have hne6 : eb0 ∉ s :: (Value.slice RA S6.acks.length rc).ownBlock.toList := fun hm => HNB6.out (by
      rcases List.mem_cons.1 hm with h | h
      · exact mem_sOwn.2 (.inl h)
      · exact mem_sOwn.2 (.inr (.inr (.inr (.inl (Option.mem_toList.1 h))))))
    obtain ⟨⟨y0, y1, y2, y3, y4, y5⟩, _⟩ := HX6.out.six
    have l0 := fun i v (hv : w6.cell? ⟨eb0, i, none⟩ = some v) w' (h : Only (s :: (Value.slice RA S6.acks.length rc).ownBlock.toList) w6 w') => (h.cell (p := ⟨eb0, i, none⟩) (World.block_lt_of_cell? _ _ hv) hne6).trans hv
    have y0 := l0 0 _ y0
    have y1 := l0 1 _ y1
    have y2 := l0 2 _ y2
    have y3 := l0 3 _ y3
    clear h6 hf6 l0 hne6 y4 y5
    obtain ⟨w7, hw7⟩ : ∃ w7, w7 = World.drew w6 := ⟨_, rfl⟩
    have HBD7 : Aside0 (Below w6.heap.size w6 w7) := ⟨by rw [hw7]; exact below_drew (Below.refl _ _)⟩
    have HB7 := Aside0.mk (HT6.out.blk.on HBD7.out)
    have HTY7 := Aside0.mk (HT6.out.ty.below HBD7.out)
    have HA7 := Aside0.mk (HT6.out.ack.on HBD7.out)
    have HOD7 := Aside0.mk (Only.of_below (s :: (Value.slice RA S6.acks.length rc).ownBlock.toList) HBD7.out)
    have HAK : Aside0 (Kd.FK Ack.k w7 (fun _ => False) ⟨who, ek, ⟨a1, a2, a3⟩⟩ (#[Value.int .i64 who, .string ek, .int .i64 a1, .int .i64 a2, .int .i64 a3]).toList) := ⟨fun W' _ => Ack.mk_ W' ⟨who, ek, ⟨a1, a2, a3⟩⟩ HRG.out.1 HRG.out.2.1 HRG.out.2.2.1 HRG.out.2.2.2.1 HRG.out.2.2.2.2⟩
    obtain ⟨⟨k0, k1, k2, k3⟩, g0, g1, g2, g3⟩ := Blk.four HB7.out
    refine wp_region_noPanic ?_
    refine wp_region_held_drew (S := Only (s :: (Value.slice RA S6.acks.length rc).ownBlock.toList) w6) (by kernel_rfl) ((Only.refl _ _).drew) (fun hHeld => ?_)
    rw [← hw7]
    clear hw7 hHeld
    have hHeld := HOD7.out
    (refine takeH 0 60 (v := ?_) rfl rfl (by kernel_rfl) (by kernel_rfl) (by kernel_rfl) (fun _ _ _ h => h) hHeld rfl ?_ ?_; rotate_left; (focus (intro w' hSw; go_simp; try with_reducible rfl)))
    (try simp only [Act.put, List.setIfInBounds_toArray, List.set_cons_zero, List.set_cons_succ])
    (refine takeH 1 61 (v := ?_) rfl rfl (by kernel_rfl) (by kernel_rfl) (by kernel_rfl) (fun _ _ _ h => h) hHeld rfl ?_ ?_; rotate_left; (focus (intro w' hSw; go_simp; try with_reducible rfl)))
    (try simp only [Act.put, List.setIfInBounds_toArray, List.set_cons_zero, List.set_cons_succ])
    (refine takeH 2 62 (v := ?_) rfl rfl (by kernel_rfl) (by kernel_rfl) (by kernel_rfl) (fun _ _ _ h => h) hHeld rfl ?_ ?_; rotate_left; (focus (intro w' hSw; go_simp; try with_reducible rfl)))
    (try simp only [Act.put, List.setIfInBounds_toArray, List.set_cons_zero, List.set_cons_succ])
    (refine takeH 3 63 (v := ?_) rfl rfl (by kernel_rfl) (by kernel_rfl) (by kernel_rfl) (fun _ _ _ h => h) hHeld rfl ?_ ?_; rotate_left; (focus (intro w' hSw; go_simp; try with_reducible rfl)))
    (try simp only [Act.put, List.setIfInBounds_toArray, List.set_cons_zero, List.set_cons_succ])
    (refine takeH 5 65 (v := ?_) rfl rfl (by kernel_rfl) (by kernel_rfl) (by kernel_rfl) (fun _ _ _ h => h) hHeld rfl ?_ ?_; rotate_left; (focus (intro w' hSw; go_simp; try with_reducible rfl)))
    (try simp only [Act.put, List.setIfInBounds_toArray, List.set_cons_zero, List.set_cons_succ])
    (refine takeH 6 66 (v := ?_) rfl rfl (by kernel_rfl) (by kernel_rfl) (by kernel_rfl) (fun _ _ _ h => h) hHeld rfl ?_ ?_; rotate_left; (focus (intro w' hSw; go_simp; try with_reducible rfl)))
    (try simp only [Act.put, List.setIfInBounds_toArray, List.set_cons_zero, List.set_cons_succ])
    (refine takeH 7 67 (v := ?_) rfl rfl (by kernel_rfl) (by kernel_rfl) (by kernel_rfl) (fun _ _ _ h => h) hHeld rfl ?_ ?_; rotate_left; (focus (intro w' hSw; go_simp; try with_reducible rfl)))
    (try simp only [Act.put, List.setIfInBounds_toArray, List.set_cons_zero, List.set_cons_succ])
    (refine takeH 8 68 (v := ?_) rfl rfl (by kernel_rfl) (by kernel_rfl) (by kernel_rfl) (fun _ _ _ h => h) hHeld rfl ?_ ?_; rotate_left; (focus (intro w' hSw; go_simp; try with_reducible rfl)))
    (try simp only [Act.put, List.setIfInBounds_toArray, List.set_cons_zero, List.set_cons_succ])
    (refine takeH 9 69 (v := ?_) rfl rfl (by kernel_rfl) (by kernel_rfl) (by kernel_rfl) (fun _ _ _ h => h) hHeld rfl ?_ ?_; rotate_left; (focus (intro w' hSw; go_simp; try with_reducible rfl)))
    (try simp only [Act.put, List.setIfInBounds_toArray, List.set_cons_zero, List.set_cons_succ])
    (refine takeH 10 70 (v := ?_) rfl rfl (by kernel_rfl) (by kernel_rfl) (by kernel_rfl) (fun _ _ _ h => h) hHeld rfl ?_ ?_; rotate_left; (focus (intro w' hSw; go_simp; try with_reducible rfl)))
    (try simp only [Act.put, List.setIfInBounds_toArray, List.set_cons_zero, List.set_cons_succ])
    refine wpAnyH_ready (rs := [4, 11]) (by kernel_rfl) (by simp) ?_
    refine AllReadyH.cons rfl (fun K hK => ?_) (AllReadyH.cons rfl (fun K hK => ?_) AllReadyH.nil)
    · go_simp
      refine hK.out _ _ HOD7.out (fun hHeld => ?_)
      clear hK K
      (try simp only [Act.put, List.setIfInBounds_toArray, List.set_cons_zero, List.set_cons_succ])
      refine wpAnyH_ready (rs := [11]) (by kernel_rfl) (by simp) ?_
      refine AllReadyH.cons rfl (fun K hK => ?_) AllReadyH.nil
      go_simp
      refine hK.out _ _ ((HOD7.out.alloc _)) (fun hHeld => ?_)
      clear hK K
      (try simp only [Act.put, List.setIfInBounds_toArray, List.set_cons_zero, List.set_cons_succ])
      refine wpAnyH_ready (rs := [12]) (by kernel_rfl) (by simp) ?_
      refine AllReadyH.cons rfl (fun K hK => ?_) AllReadyH.nil
      refine OwnF.step_push (d := Ack.k) (y := ⟨who, ek, ⟨a1, a2, a3⟩⟩) (ok := fun _ => False) rfl _ _ 35 (.agg #[.int .i64 0, .string ByteArray.empty, .int .i64 0, .int .i64 0, .int .i64 0]) 48 rfl Try.underlying35 infoAck rfl (by decide) (by omega) HA7.out (fun q _ h => h) #[.int .i64 who, .string ek, .int .i64 a1, .int .i64 a2, .int .i64 a3] HAK.out rfl rfl (by have := HAL.out; omega) ?_
      intro v8 w8 hv8 o8 hown8
      obtain ⟨A8, c8, rfl, _, _⟩ := hv8.reads
      rw [List.length_append] at hv8 hown8 ⊢
      have HV8 := Aside0.mk hv8
      have HO8 := Aside0.mk o8
      have HW8 := Aside0.mk hown8
      have HB8 := Aside0.mk (HB7.out.only o8 (fun hm => HA7.out.ne HTY7.out tAckSto (Option.mem_toList.1 hm)))
      have HSB8 := Aside0.mk (HOD7.out.trans (HO8.out.mono (S' := s :: (Value.slice RA S6.acks.length rc).ownBlock.toList) (fun i hi => .inl (List.mem_cons_of_mem _ hi))))
      clear hv8 o8 hown8 k0 k1 k2 k3 g0 g1 g2 g3
      obtain ⟨⟨k0, k1, k2, k3⟩, g0, g1, g2, g3⟩ := Blk.four HB8.out
      refine hK.out _ _ HSB8.out (fun hHeld => ?_)
      clear hK K
      (try simp only [Act.put, List.setIfInBounds_toArray, List.set_cons_zero, List.set_cons_succ])
      (refine takeH 13 73 (v := ?_) rfl rfl (by kernel_rfl) (by kernel_rfl) (by kernel_rfl) (fun _ _ _ h => h) hHeld rfl ?_ ?_; rotate_left; (focus (intro w' hSw; go_simp; try with_reducible rfl)))
      (try simp only [Act.put, List.setIfInBounds_toArray, List.set_cons_zero, List.set_cons_succ])
      (refine takeH 14 74 (v := ?_) rfl rfl (by kernel_rfl) (by kernel_rfl) (by kernel_rfl) (fun _ _ _ h => h) hHeld rfl ?_ ?_; rotate_left; (focus (intro w' hSw; go_simp; try with_reducible rfl)))
      (try simp only [Act.put, List.setIfInBounds_toArray, List.set_cons_zero, List.set_cons_succ])
      refine wpAnyH_ready (rs := [15]) (by kernel_rfl) (by simp) ?_
      refine AllReadyH.cons rfl (fun K hK => ?_) AllReadyH.nil
      go_simp
      refine hK.out _ _ (HSB8.out.set (p := ⟨s, 3, none⟩) _ (.inl List.mem_cons_self)) (fun hHeld => ?_)
      clear hK K
      (try simp only [Act.put, List.setIfInBounds_toArray, List.set_cons_zero, List.set_cons_succ])
      refine wpAnyH_done (by kernel_rfl) ?_ _
      refine NoPanic.normal ?_
      go_wp2
      go_ret
      obtain ⟨ok9, h9, n9, j9⟩ := StoR.ack HT6.out HF6.out HBD7.out HV8.out HO8.out (HW8.out.elim .inl (fun ⟨q, h1, h2⟩ => .inr (.inr ⟨q, h1, Nat.le_trans HBD7.out.size h2⟩)))
      exact HPF.out _ _ _ h9 n9 j9
    · go_simp
      refine hK.out _ _ (HOD7.out.alloc _) (fun hHeld => ?_)
      clear hK K
      (try simp only [Act.put, List.setIfInBounds_toArray, List.set_cons_zero, List.set_cons_succ])
      have kk0 := pw_cell_below (below_alloc (Below.refl _ _) (.cells #[.int .i64 who, .string ek, .int .i64 a1, .int .i64 a2, .int .i64 a3] 44)) k3
      refine wpAnyH_ready (rs := [4]) (by kernel_rfl) (by simp) ?_
      refine AllReadyH.cons rfl (fun K hK => ?_) AllReadyH.nil
      go_simp
      refine hK.out _ _ ((HOD7.out.alloc _)) (fun hHeld => ?_)
      clear hK K
      (try simp only [Act.put, List.setIfInBounds_toArray, List.set_cons_zero, List.set_cons_succ])
      refine wpAnyH_ready (rs := [12]) (by kernel_rfl) (by simp) ?_
      refine AllReadyH.cons rfl (fun K hK => ?_) AllReadyH.nil
      refine OwnF.step_push (d := Ack.k) (y := ⟨who, ek, ⟨a1, a2, a3⟩⟩) (ok := fun _ => False) rfl _ _ 35 (.agg #[.int .i64 0, .string ByteArray.empty, .int .i64 0, .int .i64 0, .int .i64 0]) 48 rfl Try.underlying35 infoAck rfl (by decide) (by omega) HA7.out (fun q _ h => h) #[.int .i64 who, .string ek, .int .i64 a1, .int .i64 a2, .int .i64 a3] HAK.out rfl rfl (by have := HAL.out; omega) ?_
      intro v8 w8 hv8 o8 hown8
      obtain ⟨A8, c8, rfl, _, _⟩ := hv8.reads
      rw [List.length_append] at hv8 hown8 ⊢
      have HV8 := Aside0.mk hv8
      have HO8 := Aside0.mk o8
      have HW8 := Aside0.mk hown8
      have HB8 := Aside0.mk (HB7.out.only o8 (fun hm => HA7.out.ne HTY7.out tAckSto (Option.mem_toList.1 hm)))
      have HSB8 := Aside0.mk (HOD7.out.trans (HO8.out.mono (S' := s :: (Value.slice RA S6.acks.length rc).ownBlock.toList) (fun i hi => .inl (List.mem_cons_of_mem _ hi))))
      clear hv8 o8 hown8 k0 k1 k2 k3 g0 g1 g2 g3
      obtain ⟨⟨k0, k1, k2, k3⟩, g0, g1, g2, g3⟩ := Blk.four HB8.out
      refine hK.out _ _ HSB8.out (fun hHeld => ?_)
      clear hK K
      (try simp only [Act.put, List.setIfInBounds_toArray, List.set_cons_zero, List.set_cons_succ])
      (refine takeH 13 73 (v := ?_) rfl rfl (by kernel_rfl) (by kernel_rfl) (by kernel_rfl) (fun _ _ _ h => h) hHeld rfl ?_ ?_; rotate_left; (focus (intro w' hSw; go_simp; try with_reducible rfl)))
      (try simp only [Act.put, List.setIfInBounds_toArray, List.set_cons_zero, List.set_cons_succ])
      (refine takeH 14 74 (v := ?_) rfl rfl (by kernel_rfl) (by kernel_rfl) (by kernel_rfl) (fun _ _ _ h => h) hHeld rfl ?_ ?_; rotate_left; (focus (intro w' hSw; go_simp; try with_reducible rfl)))
      (try simp only [Act.put, List.setIfInBounds_toArray, List.set_cons_zero, List.set_cons_succ])
      refine wpAnyH_ready (rs := [15]) (by kernel_rfl) (by simp) ?_
      refine AllReadyH.cons rfl (fun K hK => ?_) AllReadyH.nil
      go_simp
      refine hK.out _ _ (HSB8.out.set (p := ⟨s, 3, none⟩) _ (.inl List.mem_cons_self)) (fun hHeld => ?_)
      clear hK K
      (try simp only [Act.put, List.setIfInBounds_toArray, List.set_cons_zero, List.set_cons_succ])
      refine wpAnyH_done (by kernel_rfl) ?_ _
      refine NoPanic.normal ?_
      go_wp2
      go_ret
      obtain ⟨ok9, h9, n9, j9⟩ := StoR.ack HT6.out HF6.out HBD7.out HV8.out HO8.out (HW8.out.elim .inl (fun ⟨q, h1, h2⟩ => .inr (.inr ⟨q, h1, Nat.le_trans HBD7.out.size h2⟩)))
      exact HPF.out _ _ _ h9 n9 j9
end Sto
end Go.Proofs.Ytmmelfnhhjfaeaa
namespace Go.Proofs
open Go.Shelf
def Try.cloneM_ren : Go.Shelf.Ren := ⟨fun | 5 => 38 | 7 => 46 | n => n, fun | 23 => 52 | 25 => 9 | 3 => 30 | 4 => 4 | 20 => 20 | n => n, fun | n => n⟩
theorem Try.cloneM : Go.Proofs.SlLaysW.n5 Try.prog Try.cloneM_ren := {
  mixed := by kernel_rfl
  f5 := ⟨Try.f38.name, by decide, Try.func38.trans (congrArg some (by kernel_rfl))⟩
  f7 := Try.func46.trans (congrArg some (by kernel_rfl))
  t4 := Try.underlying4
  a4 := Try.isAgg4
  z4 := Try.sizeOf4
  v4 := Try.zeroValue4
  t20 := Try.underlying20
  a20 := Try.isAgg20
  z20 := Try.sizeOf20
  v20 := Try.zeroValue20
  t23 := Try.underlying52
  a23 := Try.isAgg52
  z23 := Try.sizeOf52
  v23 := Try.zeroValue52 }
end Go.Proofs
set_option linter.unusedVariables false
set_option linter.unusedSimpArgs false
namespace Go.Proofs.Ytmmelfnhhjfaeaa
open Go.RowKit Go.Proofs.YtmmelfnhhjfaeaaW.PrintWords
open Tags
theorem OwnF.foot {α : Type} {d : Kd α} {t : TypeId} {w : World} {ok : Nat → Prop} {v : Value} {xs : List α} (h : OwnF d t w ok v xs) : ∃ A c, v = .slice A xs.length c ∧ xs.length ≤ c ∧ Kd.F d w (fun i => ok i ∨ v.ownBlock = some i) A xs.length xs := by
  obtain ⟨A, c, rfl, hc⟩ := OwnRow.slice_ h
  refine ⟨A, c, rfl, hc, fun W' hW => ?_⟩
  obtain ⟨inner, ho, hr⟩ := h
  have h' : OwnRow (d.K W') t d.sz W' 0 (.slice A xs.length c) xs := ⟨inner, own_move ho (fun k hk => hW k (.inr hk) (own_lt ho k hk)), hr.imp_ (fun p c hp => hp W' (fun k hk hlt => hW k (.inl hk) hlt))⟩
  obtain ⟨A', c', he, _, hr'⟩ := h'.reads
  injection he with h1 h2 h3
  subst h1
  exact hr'
namespace Sto
/-- A copy's block: the same entries, stamps and clock. -/
theorem MapE.clone {w w1 : World} {ok : Nat → Prop} {b b1 : Nat} {l : List Entry} (h : MapE w ok b l) (ho : Below w.heap.size w w1) (hb : w1.heap[b1]? = w.heap[b]?) : MapE w1 ok b1 l := by
  obtain ⟨g, ⟨es, cl, h1, h2, h3, h4⟩, h5⟩ := h
  exact ⟨g, ⟨es, cl, hb.trans h1, h2, h3, h4⟩, fun c hc => (h5 c hc).only (S := []) (Only.of_below [] ho) (by simp)⟩
theorem clone_map (mb : Nat) (l : List Entry) (ok : Nat → Prop) (w : World) (h : MapE w ok mb l) :
    Calls Try.prog 38 #[.map (some mb)] w fun e w' => e = .returned (.map (some w.heap.size)) ∧ MapE w' ok w.heap.size l ∧ Below w.heap.size w w' := by
  have h' := h
  obtain ⟨g, ⟨es, cl, hb, _⟩, _⟩ := h
  refine (AnyW.maps_Clone Try.cloneM mb es cl w hb).mono ?_
  rintro e w' ⟨rfl, rfl⟩
  have hB := below_alloc (Below.refl w.heap.size w) (.map es cl)
  exact ⟨rfl, h'.clone hB ((heap_alloc_new w _).trans hb.symm), hB⟩
theorem StoR.settle {w w1 : World} {ok : Nat → Prop} {s l m1 m2 b : Nat} {av : Value} {ln : List Nat} {c : Int} {S : St} (h : StoT w ok s l m1 m2 av ln c S) (hf : ∀ i, ok i → i ∉ sOwn s m1 m2 av ln) (hb : Below w.heap.size w w1) (hm : MapE w1 (fun i => ok i ∧ i < w.heap.size) b S.n) (hge : w.heap.size ≤ b) :
    ∃ ok', StoR (w1.setCell ⟨s, 2, none⟩ (.map (some b))) ok' (sOwn s m1 b av ln) s c { S with z := S.n } ∧ Next (sOwn s m1 m2 av ln) (sOwn s m1 b av ln) w (w1.setCell ⟨s, 2, none⟩ (.map (some b))) ∧ ∀ i, ok' i → ok i ∨ w.heap.size ≤ i := by
  have hR : StoR w ok (sOwn s m1 m2 av ln) s c S := ⟨l, m1, m2, av, ln, rfl, h, hf⟩
  have hlt := StoR.lt hR
  have h1 := StoT.on h hb
  obtain ⟨hn1, hn2, hn3, hn4, hn5⟩ := h.ne
  have hsl := h.blk.lt
  have hml := h.new.lt
  have hon : Only [s] w1 (w1.setCell ⟨s, 2, none⟩ (.map (some b))) := (Only.refl _ _).set _ (.inl (by simp))
  have hoks : ∀ i, ok i ∧ i < w.heap.size → i ∉ [s] := fun i hi hq => hf i hi.1 (mem_sOwn.2 (.inl (by simpa using hq)))
  obtain ⟨c', hc, hl⟩ := h1.log
  refine ⟨fun i => ok i ∧ i < w.heap.size, ⟨l, m1, b, av, ln, rfl, ⟨h1.blk.set 2 _, h1.ty.set _ _, ⟨c', hc, LogR.only hl hon (fun k hk hq => hn1 (by rwa [show k = s by simpa using hq] at hk)) hoks⟩, h1.new.only hon (fun hq => h1.new.noTy 54 (by rw [show m1 = s by simpa using hq]; exact h1.ty)) hoks, hm.only hon (by simp; omega) hoks, h1.ack.only hon (fun k hk e => h1.ack.ne h1.ty tAckSto (by rwa [show k = s by simpa using hk] at e)) (fun i hi => hi.elim), ⟨h.srt.1, h.srt.1⟩, hn1, hn2, fun hm => ?_, by omega, hn5⟩, ?_⟩, ⟨?_, ?_⟩, fun i hi => .inl hi.1⟩
  · have := hlt b (mem_sOwn.2 (.inr (.inr (.inr (.inr hm)))))
    omega
  · rintro i ⟨hi, hi2⟩ hm
    rcases mem_sOwn.1 hm with e | e | e | e | e
    · exact hf i hi (mem_sOwn.2 (.inl e))
    · exact hf i hi (mem_sOwn.2 (.inr (.inl e)))
    · omega
    · exact hf i hi (mem_sOwn.2 (.inr (.inr (.inr (.inl e)))))
    · exact hf i hi (mem_sOwn.2 (.inr (.inr (.inr (.inr e)))))
  · exact (Only.of_below _ hb).trans (hon.mono (fun i hi => .inl (mem_sOwn.2 (.inl (by simpa using hi)))))
  · intro k hk
    rcases mem_sOwn.1 hk with e | e | e | e | e
    · exact .inl (mem_sOwn.2 (.inl e))
    · exact .inl (mem_sOwn.2 (.inr (.inl e)))
    · exact .inr (by omega)
    · exact .inl (mem_sOwn.2 (.inr (.inr (.inr (.inl e)))))
    · exact .inl (mem_sOwn.2 (.inr (.inr (.inr (.inr e)))))
set_option maxRecDepth 100000 in
theorem settle_calls (w : World) (ok : Nat → Prop) (own : List Nat) (s : Nat) (c : Int) (S : St) (h : StoR w ok own s c S) :
    Calls Try.prog 22 #[.pointer (some ⟨s, 0, none⟩)] w (StoTold ok own s c { S with z := S.n } (.tuple #[]) w) := by
  obtain ⟨l, m1, m2, av, ln, rfl, h, hf⟩ := h
  have HT := Aside0.mk h
  have HF := Aside0.mk hf
  have HCL := Aside0.mk (clone_map m1 S.n _ w h.new.bound)
  obtain ⟨⟨k0, k1, k2, k3⟩, g0, g1, g2, g3⟩ := Blk.four h.blk
  clear h hf
  go_enter Try.func22, Try.ntmps22
  go_wp2_with (first | ((with_reducible refine HCL.out.mono ?_); rintro r w1 ⟨rfl, hm, hb⟩; have HM := Aside0.mk (And.intro hm hb); have HBK := Aside0.mk (HT.out.blk.on hb); clear hm hb k0 k1 k2 k3 g0 g1 g2 g3; obtain ⟨⟨k0, k1, k2, k3⟩, g0, g1, g2, g3⟩ := Blk.four HBK.out))
  refine bodyPost_end (v := .tuple #[]) (by simp [results, Try.results22, go_sem]; try rfl) rfl ?_
  obtain ⟨ok', h1, h2, h3⟩ := StoR.settle HT.out HF.out HM.out.2 HM.out.1 (Nat.le_refl _)
  exact ⟨ok', _, rfl, h1, h2, h3⟩
def St.tick (S : St) : St := { l := S.l ++ S.t, t := [], rs := S.rs, last := S.rs.length, n := S.n, z := S.n, acks := [] }
/-- What Tick leaves, and tells: its row lies elsewhere than the store. -/
def TickTold (ok : Nat → Prop) (own : List Nat) (s : Nat) (c : Int) (S : St) (w : World) (e : Ending) (w' : World) : Prop := ∃ ok' own' A cp, e = .returned (.tuple #[.slice A S.acks.length cp, .int .i64 0]) ∧ S.acks.length ≤ cp ∧ Kd.F Ack.k w' (fun i => i ∉ own' ∧ (i ∈ own ∨ w.heap.size ≤ i)) A S.acks.length S.acks ∧ StoR w' ok' own' s (c + 1) S.tick ∧ Next own own' w w' ∧ ∀ i, ok' i → ok i ∨ w.heap.size ≤ i
set_option maxRecDepth 100000 in
theorem tick_calls (w : World) (ok : Nat → Prop) (own : List Nat) (s : Nat) (c : Int) (S : St) (h : StoR w ok own s c S) (hc : c ≤ 1000000) (hl : S.l.length + S.t.length ≤ 140737488355328) :
    Calls Try.prog 7 #[.pointer (some ⟨s, 0, none⟩)] w (TickTold ok own s c S w) := by
  obtain ⟨l, m1, m2, av, ln, rfl, h, hf⟩ := h
  have HT := Aside0.mk h
  have HF := Aside0.mk hf
  obtain ⟨c', hc', hlog⟩ := h.log
  have HC' := Aside0.mk hc'
  have HSY := Aside0.mk (walSync_calls w (fun i => ok i ∧ i < w.heap.size) ln l S.l S.t c' S.rs S.last (LogR.bound hlog) (fun i hi hm => hf i hi.1 (mem_sOwn.2 (.inr (.inr (.inr (.inr hm)))))) (by omega) hl)
  have HSE := Aside0.mk (fun W ok own S h => settle_calls W ok own s (c + 1) S h)
  obtain ⟨⟨k0, k1, k2, k3⟩, g0, g1, g2, g3⟩ := Blk.four h.blk
  clear h hf hc' hlog hl
  go_enter Try.func7, Try.ntmps7
  go_upto_region 6 with (first | ((with_reducible refine HSY.out.mono ?_); rintro r w1 ⟨ln', n', rfl, hl1, hn', hx1⟩; obtain ⟨ok1, h1, n1, j1⟩ := StoR.log (c2 := c + 1) HT.out HF.out (Below.refl _ _) hl1 hx1 (by have := HC'.out; omega) (fun i hi => .inl hi.1); have H1 := Aside0.mk h1; have N1 := Aside0.mk (And.intro n1 j1); clear hl1 hn' hx1 h1 n1 j1))
  go_upto_region 7 with (first | ((with_reducible refine (HSE.out _ _ _ _ H1.out).mono ?_); rintro r w2 ⟨ok2, own2, rfl, h2, n2, j2⟩; have N2 := Aside0.mk (And.intro (N1.out.1.trans n2) (fun i hi => (j2 i hi).elim (N1.out.2 i) (fun h => .inr (Nat.le_trans N1.out.1.only.size h)))); have H2 := Aside0.mk h2; clear h2 n2 j2))
  obtain ⟨l2, n1, n2, av2, ln2, hown2, h2, hf2⟩ := H2.out
  subst hown2
  have HT2 := Aside0.mk h2
  have HF2 := Aside0.mk hf2
  clear k0 k1 k2 k3 g0 g1 g2 g3
  obtain ⟨⟨k0, k1, k2, k3⟩, g0, g1, g2, g3⟩ := Blk.four h2.blk
  clear h2 hf2
  go_wp2
  go_ret2
  obtain ⟨A, cp, hav, hcp, hfo⟩ := OwnF.foot HT2.out.ack
  have hna : ∀ k, av2.ownBlock = some k → k ≠ s ∧ k ≠ n1 ∧ k ≠ n2 ∧ k ∉ ln2 := fun k hk => ⟨fun e => HT2.out.ack.ne HT2.out.ty tAckSto (e ▸ hk), fun e => HT2.out.new.noTy _ (HT2.out.ack.ty (e ▸ hk)), fun e => HT2.out.las.noTy _ (HT2.out.ack.ty (e ▸ hk)), HT2.out.ne.2.2.2.2 k hk⟩
  obtain ⟨ok3, h3, n3, j3⟩ := StoR.ack (v := .slice none 0 0) (acks := []) HT2.out HF2.out (Below.refl _ _) (OwnF.none_ _ _ _ _) ((Only.refl _ _)) (.inr (.inl rfl))
  have hn := N2.out.1.trans n3
  refine ⟨ok3, _, A, cp, by rw [hav]; rfl, hcp, ?_, h3, hn, fun i hi => ?_⟩
  · refine Foot.mono (Foot.only hfo ((Only.refl [s] w2).set (p := ⟨s, 3, none⟩) _ (.inl (by simp))) (fun i hi hm => ?_)) (fun i hi => ?_)
    · rcases hi with hi | hi
      · exact hi
      · exact (hna i hi).1 (by simpa using hm)
    · rcases hi with hi | hi
      · exact hi.elim
      · refine ⟨fun hm => ?_, N2.out.1.own i (mem_sOwn.2 (.inr (.inr (.inr (.inl hi)))))⟩
        obtain ⟨q1, q2, q3, q4⟩ := hna i hi
        rcases mem_sOwn.1 hm with e | e | e | e | e
        · exact q1 e
        · exact q2 e
        · exact q3 e
        · cases e
        · exact q4 e
  · rcases j3 i hi with h | h
    · exact N2.out.2 i h
    · exact .inr (Nat.le_trans N2.out.1.only.size h)
end Sto
end Go.Proofs.Ytmmelfnhhjfaeaa
set_option linter.unusedVariables false
set_option linter.unusedSimpArgs false
namespace Go.Proofs.Ytmmelfnhhjfaeaa
open Go.RowKit Go.Proofs.YtmmelfnhhjfaeaaW.PrintWords
/-- An element whose things lie elsewhere than in this row, from block B on. -/
def RFB {α : Type} (d : Kd α) (B : Nat) (W : World) (row : Option Nat) (x : α) (cs : List Value) : Prop := Kd.FK d W (fun k => some k ≠ row ∧ B ≤ k) x cs
namespace RFB
variable {α : Type} {d : Kd α} {B : Nat} {W W1 : World} {row : Option Nat} {v v1 : Value} {x : α} {cs : List Value} {ds : List α} {t : TypeId} {base size g : Nat}
theorem one (h : RFB d B W row x cs) : ∀ u ∈ cs, u.oneCell' = true := d.K_one (Kd.FK_now h)
theorem below (h : RFB d B W row x cs) (hb : Below W.heap.size W W1) : RFB d B W1 row x cs := Foot.step h (fun k _ hlt => hb.block k hlt)
theorem grown (h : RFB d B W v.ownBlock x cs) (hg : W.grownBy W1 v.ownBlock) (hat : v1.ownBlock = v.ownBlock ∨ ∃ b, v1.ownBlock = some b ∧ W.heap.size ≤ b) : RFB d B W1 v1.ownBlock x cs := by
  refine Foot.mono ((Foot.bound h).step (fun k hk hlt => hg.block k hlt hk.1.1)) (fun k hk => ⟨?_, hk.1.2⟩)
  rcases hat with hat | ⟨b, hat, hlt⟩
  · rw [hat]; exact hk.1.1
  · rw [hat]
    intro e
    injection e with e
    have := hk.2
    omega
theorem row_ (h : OwnRow (RFB d B W v.ownBlock) t size W base v ds) (hb : Below W.heap.size W W1) : OwnRow (RFB d B W1 v.ownBlock) t size W1 base v ds :=
  (h.imp_ (fun _ _ h => h.below hb)).below hb
theorem only_ {S : List Nat} (h : OwnRow (RFB d B W v.ownBlock) t size W base v ds) (hb : Only S W W1) (hS : ∀ i ∈ S, some i ≠ v.ownBlock ∧ i < B) : OwnRow (RFB d B W1 v.ownBlock) t size W1 base v ds := by
  obtain ⟨inner, ho, hr⟩ := h
  refine ⟨inner, own_move ho (fun k hk => hb.block k (own_lt ho k hk) (fun hm => (hS k hm).1 hk.symm)), hr.imp_ (fun p c hp => Foot.step hp (fun k hk hlt => hb.block k hlt (fun hm => Nat.not_lt_of_le hk.2 (hS k hm).2)))⟩
theorem new_ {N : Nat} (h : Kd.FK d W (fun k => N ≤ k) x cs) (hN : B ≤ N) (hv : ∀ b, v.ownBlock = some b → b < N) : RFB d B W v.ownBlock x cs :=
  Foot.mono h (fun k hk => ⟨fun e => absurd (hv k e.symm) (Nat.not_lt_of_le hk), Nat.le_trans hN hk⟩)
theorem row_lt {R : α → List Value → Prop} (h : OwnRow R t size W base v ds) : ∀ b, v.ownBlock = some b → b < W.heap.size := by
  obtain ⟨inner, ho, _⟩ := h
  exact own_lt ho
theorem reads_one (h : RFB d B W row x cs) (hl : cs.length = size) (hB : Blk W g cs) : ReadsRow (RFB d B W row) size W (some ⟨g, 0, none⟩) 1 [x] := by
  refine ⟨rfl, by omega, fun _ => ⟨_, rfl, fun j p hj => ?_⟩⟩
  rcases j with _ | j
  · simp at hj
    subst hj
    exact ⟨cs, hl, h, fun i u hu => by rw [add_plain]; simpa using hB.cell i hu⟩
  · simp at hj
/-- What the row reads as lies from block B on. -/
theorem foot (h : OwnRow (RFB d B W v.ownBlock) t d.sz W B v ds) : ∃ A c, v = .slice A ds.length c ∧ ds.length ≤ c ∧ Kd.F d W (fun k => B ≤ k) A ds.length ds := by
  obtain ⟨A, c, rfl, hc⟩ := h.slice_
  refine ⟨A, c, rfl, hc, fun W' hW => ?_⟩
  obtain ⟨inner, ho, hr⟩ := h
  have h' : OwnRow (d.K W') t d.sz W' B (.slice A ds.length c) ds := ⟨inner, own_move ho (fun k hk => hW k (own_base ho k hk) (own_lt ho k hk)), hr.imp_ (fun p c hp => hp W' (fun k hk hlt => hW k hk.2 hlt))⟩
  obtain ⟨A', c', he, _, hr'⟩ := h'.reads
  injection he with h1 h2 h3
  subst h1
  exact hr'
end RFB
/-- An element of a row that lies in ok. -/
theorem F_elem {α β : Type} {d : Kd α} {d' : Kd β} {W : World} {ok : Nat → Prop} {A : Option Addr} {n k : Nat} {xs : List α} {x : α} {y : β} {cs : List Value} (h : Kd.F d W ok A n xs)
    (hi : ∀ W', d.C W' A n xs → d'.K W' y cs) : Kd.FK d' W ok y cs := Foot.imp h hi
end Go.Proofs.Ytmmelfnhhjfaeaa
set_option linter.unusedVariables false
set_option linter.unusedSimpArgs false
namespace Go.Proofs.Ytmmelfnhhjfaeaa
open Go.RowKit Go.Proofs.YtmmelfnhhjfaeaaW.PrintWords
namespace StrRow
theorem str_at {w : World} {A : Option Addr} {n : Nat} {xs : List ByteArray} (h : kStr.C w A n xs) (k : Nat) (h1 : k < n) : ∃ ad x, A = some ad ∧ Aside0 (xs[k]? = some x) ∧ w.cell? (ad.add k) = some (.string x) ∧ x.size ≤ 140737488351232 := by
  have hl : xs.length = n := h.1
  obtain ⟨ad, c, e, _, hK, hc0⟩ := Kd.C_get h ByteArray.empty (k : Int) (by omega) (by omega)
  have hc : ∀ j u, c[j]? = some u → w.cell? (ad.add (k * 1 + j)) = some u := hc0
  have hx : xs[k]? = some (xs.getD k ByteArray.empty) := by simp [List.getD_eq_getElem?_getD, show k < xs.length by omega]
  have hK' : kStr.K w (xs.getD k ByteArray.empty) c := hK
  generalize xs.getD k ByteArray.empty = x at hK' hx
  obtain ⟨rfl, hs⟩ := hK'
  exact ⟨ad, x, e, ⟨hx⟩, by have := hc 0 _ rfl; simpa using this, hs⟩
/-- A slice of texts of the call's own, as a row that is read. -/
theorem own_C {w : World} {B : Nat} {v : Value} {l : List ByteArray} (h : w.ownsRow B 9 1 v l.length (l.map Value.string)) (hs : ∀ x ∈ l, x.size ≤ 140737488351232) : ∃ A c, v = .slice A l.length c ∧ l.length ≤ c ∧ kStr.C w A l.length l ∧ ∀ ad, A = some ad → B ≤ ad.block := by
  rcases h.2 with ⟨rfl, h0⟩ | ⟨g, cap, cur, rfl, hb, hh, hn, hm, hz, ht⟩
  · have : l = [] := List.eq_nil_of_length_eq_zero h0
    subst this
    exact ⟨none, 0, rfl, Nat.le_refl _, Kd.C_nil _ _, fun ad e => by cases e⟩
  · have hm' : cap ≤ 9223372036854775807 := by simpa [maxLen] using hm
    refine ⟨_, cap, rfl, hn, ⟨rfl, by omega, fun _ => ⟨_, rfl, fun j q hj => ⟨[.string q], rfl, ⟨rfl, hs q (List.mem_of_getElem? hj)⟩, fun i u hu => ?_⟩⟩⟩, fun ad e => by injection e with e; rw [← e]; exact hb⟩
    obtain rfl : i = 0 := by
      rcases i with _ | i
      · rfl
      · simp at hu
    simp at hu
    subst hu
    have hc := h.cells (g := g) rfl j (.string q) (by rw [List.getElem?_map, hj]; rfl)
    have e1 : j * kStr.sz + 0 = j := by show j * 1 + 0 = j; omega
    rw [e1]
    exact hc
/-- A row whose elements lead nowhere, where others are written. -/
theorem C_only {w w1 : World} {S : List Nat} {A : Option Addr} {n : Nat} {xs : List ByteArray} (h : kStr.C w A n xs) (o : Only S w w1) (hA : ∀ ad, A = some ad → ad.block ∉ S) : kStr.C w1 A n xs := by
  obtain ⟨h1, h2, h3⟩ := h
  refine ⟨h1, h2, fun hn => ?_⟩
  obtain ⟨ad, e, hc⟩ := h3 hn
  refine ⟨ad, e, fun j p hj => ?_⟩
  obtain ⟨cs, k1, k2, k3⟩ := hc j p hj
  refine ⟨cs, k1, k2, fun q u hq => ?_⟩
  have hx := k3 q u hq
  have hb := World.block_lt_of_cell? w _ hx
  rw [← hx]
  exact o.cell hb (by rw [adr_block]; exact hA ad e)
theorem txt_ne {a b : ByteArray} (h : a ≠ b) : ¬ a.toList = b.toList := fun e => h (by
  rw [ByteArray.toList_eq, ByteArray.toList_eq] at e
  exact ByteArray.ext (Array.toList_inj.1 e))
def hasS (xs : List ByteArray) (x : ByteArray) : Bool := xs.any (fun y => decide (y = x))
theorem hasS_iff {xs : List ByteArray} {x : ByteArray} : hasS xs x = true ↔ x ∈ xs := by
  unfold hasS
  simp only [List.any_eq_true, decide_eq_true_eq]
  exact ⟨fun ⟨y, h, e⟩ => e ▸ h, fun h => ⟨x, h, rfl⟩⟩
theorem hasS_no {xs : List ByteArray} {x : ByteArray} (h : x ∉ xs) : hasS xs x = false := by
  cases e : hasS xs x with
  | false => rfl
  | true => exact absurd (hasS_iff.1 e) h
end StrRow
end Go.Proofs.Ytmmelfnhhjfaeaa
namespace Go.Proofs
open Go.RowKit Go.Maps Go.Sort Go.Shelf
def Try.keys41_ren : Go.Shelf.Ren := ⟨fun | 7 => 41 | 10 => 49 | n => n, fun | 23 => 52 | 26 => 9 | 3 => 30 | 28 => 88 | 0 => 0 | 27 => 87 | 33 => 100 | 4 => 4 | n => n, fun | n => n⟩
theorem Try.keys41 : Go.Proofs.SlLaysZ.n7 Try.prog Try.keys41_ren := {
  mixed := by kernel_rfl
  f7 := ⟨Try.f41.name, by decide, Try.func41.trans (congrArg some (by kernel_rfl))⟩
  f10 := ⟨Try.f49.name, by decide, Try.func49.trans (congrArg some (by kernel_rfl))⟩
  t0 := Try.underlying0
  a0 := Try.isAgg0
  z0 := Try.sizeOf0
  v0 := Try.zeroValue0
  t4 := Try.underlying4
  a4 := Try.isAgg4
  z4 := Try.sizeOf4
  v4 := Try.zeroValue4
  t23 := Try.underlying52
  a23 := Try.isAgg52
  z23 := Try.sizeOf52
  v23 := Try.zeroValue52
  t26 := Try.underlying9
  a26 := Try.isAgg9
  z26 := Try.sizeOf9
  v26 := Try.zeroValue9
  t27 := Try.underlying87
  a27 := Try.isAgg87
  z27 := Try.sizeOf87
  v27 := Try.zeroValue87
  t28 := Try.underlying88
  a28 := Try.isAgg88
  z28 := Try.sizeOf88
  v28 := Try.zeroValue88
  t33 := Try.underlying100
  a33 := Try.isAgg100
  z33 := Try.sizeOf100
  v33 := Try.zeroValue100 }
def Try.sorted40_ren : Go.Shelf.Ren := ⟨fun | 6 => 40 | 8 => 47 | 9 => 48 | 11 => 52 | 13 => 54 | 12 => 53 | 23 => 65 | 24 => 66 | 14 => 56 | 15 => 57 | 16 => 58 | 17 => 59 | 18 => 60 | 19 => 61 | 20 => 62 | 21 => 63 | 22 => 64 | 25 => 67 | 26 => 68 | 27 => 69 | 28 => 70 | 29 => 71 | 30 => 72 | 31 => 73 | n => n, fun | 26 => 9 | 28 => 88 | 24 => 85 | 0 => 0 | 3 => 3 | 37 => 102 | 48 => 96 | 50 => 94 | 4 => 4 | 40 => 110 | 39 => 109 | 45 => 115 | 5 => 5 | 9 => 9 | 51 => 119 | 55 => 123 | 57 => 125 | 58 => 126 | 33 => 100 | n => n, fun | n => n⟩
theorem Try.sorted40 : Go.Proofs.SlLaysZ.n6 Try.prog Try.sorted40_ren := {
  mixed := by kernel_rfl
  f6 := ⟨Try.f40.name, by decide, Try.func40.trans (congrArg some (by kernel_rfl))⟩
  f8 := ⟨Try.f47.name, by decide, Try.func47.trans (congrArg some (by kernel_rfl))⟩
  f11 := ⟨Try.f52.name, by decide, Try.func52.trans (congrArg some (by kernel_rfl))⟩
  t0 := Try.underlying0
  a0 := Try.isAgg0
  z0 := Try.sizeOf0
  v0 := Try.zeroValue0
  t24 := Try.underlying85
  a24 := Try.isAgg85
  z24 := Try.sizeOf85
  v24 := Try.zeroValue85
  t26 := Try.underlying9
  a26 := Try.isAgg9
  z26 := Try.sizeOf9
  v26 := Try.zeroValue9
  t28 := Try.underlying88
  a28 := Try.isAgg88
  z28 := Try.sizeOf88
  v28 := Try.zeroValue88
  i26 := by kernel_rfl }
def Try.sort48_ren : Go.Shelf.Ren := ⟨fun | 6 => 48 | 8 => 54 | 9 => 53 | 19 => 65 | 20 => 66 | 21 => 56 | 22 => 57 | 23 => 58 | 24 => 59 | 25 => 60 | 26 => 61 | 27 => 62 | 28 => 63 | 29 => 64 | 36 => 67 | 31 => 68 | 32 => 69 | 37 => 70 | 38 => 71 | 39 => 72 | 41 => 73 | n => n, fun | 27 => 85 | 29 => 9 | 3 => 3 | 32 => 102 | 26 => 85 | 0 => 0 | 44 => 96 | 46 => 94 | 4 => 4 | 36 => 110 | 35 => 109 | 41 => 115 | 5 => 5 | 9 => 9 | 53 => 119 | 57 => 123 | 63 => 125 | 64 => 126 | n => n, fun | n => n⟩
theorem Try.sort48 : Go.Proofs.SlLaysM.n6 Try.prog Try.sort48_ren := {
  mixed := by kernel_rfl
  f6 := ⟨Try.f48.name, by decide, Try.func48.trans (congrArg some (by kernel_rfl))⟩
  f8 := Try.func54.trans (congrArg some (by kernel_rfl))
  f9 := ⟨Try.f53.name, by decide, Try.func53.trans (congrArg some (by kernel_rfl))⟩
  f19 := Try.func65.trans (congrArg some (by kernel_rfl))
  f20 := Try.func66.trans (congrArg some (by kernel_rfl))
  f21 := ⟨Try.f56.name, by decide, Try.func56.trans (congrArg some (by kernel_rfl))⟩
  f22 := ⟨Try.f57.name, by decide, Try.func57.trans (congrArg some (by kernel_rfl))⟩
  f23 := ⟨Try.f58.name, by decide, Try.func58.trans (congrArg some (by kernel_rfl))⟩
  f24 := ⟨Try.f59.name, by decide, Try.func59.trans (congrArg some (by kernel_rfl))⟩
  f25 := ⟨Try.f60.name, by decide, Try.func60.trans (congrArg some (by kernel_rfl))⟩
  f26 := ⟨Try.f61.name, by decide, Try.func61.trans (congrArg some (by kernel_rfl))⟩
  f27 := ⟨Try.f62.name, by decide, Try.func62.trans (congrArg some (by kernel_rfl))⟩
  f28 := ⟨Try.f63.name, by decide, Try.func63.trans (congrArg some (by kernel_rfl))⟩
  f29 := ⟨Try.f64.name, by decide, Try.func64.trans (congrArg some (by kernel_rfl))⟩
  f31 := Try.func68.trans (congrArg some (by kernel_rfl))
  f32 := Try.func69.trans (congrArg some (by kernel_rfl))
  f36 := ⟨Try.f67.name, by decide, Try.func67.trans (congrArg some (by kernel_rfl))⟩
  f37 := ⟨Try.f70.name, by decide, Try.func70.trans (congrArg some (by kernel_rfl))⟩
  f38 := ⟨Try.f71.name, by decide, Try.func71.trans (congrArg some (by kernel_rfl))⟩
  f39 := ⟨Try.f72.name, by decide, Try.func72.trans (congrArg some (by kernel_rfl))⟩
  f41 := ⟨Try.f73.name, by decide, Try.func73.trans (congrArg some (by kernel_rfl))⟩
  t0 := Try.underlying0
  a0 := Try.isAgg0
  z0 := Try.sizeOf0
  v0 := Try.zeroValue0
  t3 := Try.underlying3
  a3 := Try.isAgg3
  z3 := Try.sizeOf3
  v3 := Try.zeroValue3
  t4 := Try.underlying4
  a4 := Try.isAgg4
  z4 := Try.sizeOf4
  v4 := Try.zeroValue4
  t5 := Try.underlying5
  a5 := Try.isAgg5
  z5 := Try.sizeOf5
  v5 := Try.zeroValue5
  t9 := Try.underlying9
  a9 := Try.isAgg9
  z9 := Try.sizeOf9
  v9 := Try.zeroValue9
  t26 := Try.underlying85
  a26 := Try.isAgg85
  z26 := Try.sizeOf85
  v26 := Try.zeroValue85
  t27 := Try.underlying85
  a27 := Try.isAgg85
  z27 := Try.sizeOf85
  v27 := Try.zeroValue85
  t29 := Try.underlying9
  a29 := Try.isAgg9
  z29 := Try.sizeOf9
  v29 := Try.zeroValue9
  t32 := Try.underlying102
  a32 := Try.isAgg102
  z32 := Try.sizeOf102
  v32 := Try.zeroValue102
  t35 := Try.underlying109
  a35 := Try.isAgg109
  z35 := Try.sizeOf109
  v35 := Try.zeroValue109
  t36 := Try.underlying110
  a36 := Try.isAgg110
  z36 := Try.sizeOf110
  v36 := Try.zeroValue110
  t41 := Try.underlying115
  a41 := Try.isAgg115
  z41 := Try.sizeOf115
  v41 := Try.zeroValue115
  t44 := Try.underlying96
  a44 := Try.isAgg96
  z44 := Try.sizeOf96
  v44 := Try.zeroValue96
  t46 := Try.underlying94
  a46 := Try.isAgg94
  z46 := Try.sizeOf94
  v46 := Try.zeroValue94
  t53 := Try.underlying119
  a53 := Try.isAgg119
  z53 := Try.sizeOf119
  v53 := Try.zeroValue119
  t57 := Try.underlying123
  a57 := Try.isAgg123
  z57 := Try.sizeOf123
  v57 := Try.zeroValue123
  t63 := Try.underlying125
  a63 := Try.isAgg125
  z63 := Try.sizeOf125
  v63 := Try.zeroValue125
  t64 := Try.underlying126
  a64 := Try.isAgg126
  z64 := Try.sizeOf126
  v64 := Try.zeroValue126 }


theorem Try.sorts40 (m : Nat) : AnyZ.SortsIn Try.prog Try.sorted40_ren Fence.wide m :=
  ⟨fun blk off cap ss W hH hblk hsz => callsIn_wide.2 (AnyM.slices_Sort_string Try.sort48 blk off cap ss W hH hblk hsz),
   fun p cap W => callsIn_wide.2 (AnyM.slices_Sort_string_none Try.sort48 p cap W)⟩

theorem Try.maps_Keys_41 (mb : Option Nat) (W : World) : CallsIn Fence.wide 5 Try.prog 41 #[.map mb] W fun e w' => e = .returned (.func (.func 49) #[] #[.pointer (some ⟨W.heap.size, 0, none⟩)]) ∧ w' = W.alloc (.cells #[.map mb] 52) :=
  AnyZ.keys_in Try.keys41 Fence.wide 5 trivial rfl mb W

set_option maxHeartbeats 1000000 in
theorem Try.slices_Sorted_keys_40_41 {H : Type} (b nn : Nat) (D0 : DataW H) (R : Value → Option (DataW H × List MemPlace)) (w : World) (hown : w.ownsMap Try.prog 9 R b nn D0) (hmax : Maps.size D0 ≤ maxLen) (hbytes : Maps.size D0 * 16 ≤ 140737488355328) :
    CallsIn Fence.wide 5 Try.prog 40 #[.func (.func 49) #[] #[.pointer (some ⟨w.heap.size, 0, none⟩)]] (w.alloc (.cells #[.map (some b)] 52)) fun e w' => ∃ (v : Value) (ss : List (List UInt8)), e = .returned v ∧ ss.Perm (strKeys D0) ∧
      w'.ownsRow (w.alloc (.cells #[.map (some b)] 52)).heap.size 9 1 v ss.length ((ss.mergeSort (fun x y => decide (x ≤ y))).map encStr) ∧ (v = .slice none 0 0 ↔ ss = []) ∧ Below (w.alloc (.cells #[.map (some b)] 52)).heap.size (w.alloc (.cells #[.map (some b)] 52)) w' := by
  have hbl := hown.lt
  have hseq : SeqGives Fence.wide 2 Try.prog 49 #[.pointer (some ⟨w.heap.size, 0, none⟩)] encStr (fun ss => ss.Perm (strKeys D0)) (Maps.size D0) (w.alloc (.cells #[.map (some b)] 52)) :=
    AnyZ.keys_gives (ρ := Try.keys41_ren) { Try.keys41 with } Fence.wide _ trivial rfl (by omega) w.heap.size b nn D0 _ (by simp) (by simp) (by
      obtain ⟨es, clock, hb, Ft, hs, hD⟩ := hown
      exact ⟨es, clock, (Below.heap_alloc _ _ b hbl).trans hb, Ft, hs, hD⟩)
  exact AnyZ.sorted_in Try.sorted40 Fence.wide 5 trivial trivial trivial trivial rfl (by omega) (Try.sorts40 _) (enters_of Try.func48 (by kernel_rfl) rfl) 49 #[.pointer (some ⟨w.heap.size, 0, none⟩)] trivial (enters_of Try.func49 (by kernel_rfl) rfl) _ _ hmax hbytes _ hseq

set_option maxHeartbeats 1000000 in
theorem Try.slices_Sorted_keys_nil_40_41 (w : World) :
    CallsIn Fence.wide 5 Try.prog 40 #[.func (.func 49) #[] #[.pointer (some ⟨w.heap.size, 0, none⟩)]] (w.alloc (.cells #[.map none] 52)) fun e w' => ∃ (v : Value) (ss : List (List UInt8)), e = .returned v ∧ ss = [] ∧
      w'.ownsRow (w.alloc (.cells #[.map none] 52)).heap.size 9 1 v ss.length ((ss.mergeSort (fun x y => decide (x ≤ y))).map encStr) ∧ (v = .slice none 0 0 ↔ ss = []) ∧ Below (w.alloc (.cells #[.map none] 52)).heap.size (w.alloc (.cells #[.map none] 52)) w' := by
  have hseq : SeqGives Fence.wide 2 Try.prog 49 #[.pointer (some ⟨w.heap.size, 0, none⟩)] encStr (fun ss : List (List UInt8) => ss = []) 0 (w.alloc (.cells #[.map none] 52)) :=
    AnyZ.keys_gives_nil (ρ := Try.keys41_ren) { Try.keys41 with } Fence.wide _ trivial rfl w.heap.size _ (by simp) (by simp)
  exact AnyZ.sorted_in Try.sorted40 Fence.wide 5 trivial trivial trivial trivial rfl (by omega) (Try.sorts40 _) (enters_of Try.func48 (by kernel_rfl) rfl) 49 #[.pointer (some ⟨w.heap.size, 0, none⟩)] trivial (enters_of Try.func49 (by kernel_rfl) rfl) _ 0 (Nat.zero_le _) (by omega) _ hseq



end Go.Proofs
set_option linter.unusedVariables false
set_option linter.unusedSimpArgs false
namespace Go.Proofs.Ytmmelfnhhjfaeaa
open Go.RowKit Go.Proofs.YtmmelfnhhjfaeaaW.PrintWords
open Tags
namespace Sto
def nilR (v : Value) : Option (DataW Nat × List MemPlace) := some (.nil, [])
def keyB (v : Value) : List UInt8 := match v with
  | .string s => s.data.toList
  | _ => []
theorem keyB_of {v : Value} {kl : Lit} (h : keyOf Try.prog 9 v = some kl) : strOf kl = keyB v := by
  obtain ⟨x, rfl, rfl, _⟩ := Maps.keyOf_str Try.underlying9 h
  simp [strOf, keyB, encStr]
/-- A map block in the words of the kit. -/
theorem map_owns {w : World} {b : Nat} {E : List (Value × Value)} (h : MapL w 9 b E) (hE : E.length ≤ 1000000) :
    ∃ D : DataW Nat, w.ownsMap Try.prog 9 nilR b E.length D ∧ Maps.size D = E.length ∧ (strKeys D).Perm (E.map fun x => keyB x.1) := by
  obtain ⟨es, clock, hb, hs, hk, hp⟩ := h
  have hsz : es.size = E.length := by have := hp.length_eq; unfold ents at this; simpa using this
  have hrd : ∀ x ∈ es.toList, ∃ y, WideElems.rd Try.prog 9 nilR x = some y ∧ strOf y.1 = keyB x.key := by
    intro x hx
    obtain ⟨l, hl⟩ := hk x hx
    exact ⟨(l, .nil), by simp [WideElems.rd, hl, nilR], keyB_of hl⟩
  refine ⟨_, ⟨es, clock, hb, ⟨by unfold maxLen; omega, hs, fun x hx => let ⟨y, hy, _⟩ := hrd x hx; ⟨y, hy⟩⟩, Nat.le_of_eq hsz, rfl⟩, ?_, ?_⟩
  · rw [Maps.size_eq, length_sorted, List.length_map, Array.length_toList]
    exact hsz
  · show ((_ : List (Lit × DataW Nat)).map fun p => strOf p.1).Perm _
    refine ((WideShapes.sorted_perm _).map _).trans ?_
    rw [List.map_map]
    refine List.Perm.trans ?_ (hp.map _)
    unfold ents
    rw [List.map_map]
    rw [List.map_congr_left (f := (fun p : Lit × DataW Nat => strOf p.1) ∘ WideElems.rg Try.prog 9 nilR) (g := (fun x : Value × Value => keyB x.1) ∘ fun e : MapEntry => (e.key, e.val))]
    intro x hx
    obtain ⟨y, h1, h2⟩ := hrd x hx
    simp [WideElems.rg, h1, h2]
theorem kl_sorted {l : List Entry} (h : Srt l) : (l.map kl).mergeSort (fun x y => decide (x ≤ y)) = l.map kl := by
  refine List.mergeSort_of_pairwise ?_
  unfold Srt at h
  rw [List.pairwise_map]
  exact h.imp fun h => by simpa using List.le_of_lt h
/-- slices.Sorted(maps.Keys(m)): the keys, in order. -/
theorem sorted_c {w : World} {ok : Nat → Prop} {mb : Nat} {l : List Entry} (h : MapE w ok mb l) (hs : Srt l) (hl : l.length ≤ 1000000) :
    Calls Try.prog 41 #[.map (some mb)] w fun e w1 => e = .returned (.func (.func 49) #[] #[.pointer (some ⟨w.heap.size, 0, none⟩)]) ∧ Below w.heap.size w w1 ∧
      Calls Try.prog 40 #[.func (.func 49) #[] #[.pointer (some ⟨w.heap.size, 0, none⟩)]] w1 fun e w2 => ∃ v, e = .returned v ∧ w2.ownsRow w1.heap.size 9 1 v l.length ((l.map fun c => c.key).map Value.string) ∧ Below w1.heap.size w1 w2 := by
  obtain ⟨g, hm, hg⟩ := h
  obtain ⟨D, hown, hsz, hk⟩ := map_owns hm (by rw [List.length_map]; exact hl)
  rw [List.length_map] at hsz
  refine ((callsIn_wide (n := 5)).1 (Try.maps_Keys_41 (some mb) w)).mono ?_
  rintro e w1 ⟨rfl, rfl⟩
  refine ⟨rfl, below_alloc (Below.refl _ _) _, ?_⟩
  refine ((callsIn_wide (n := 5)).1 (Try.slices_Sorted_keys_40_41 mb _ D nilR w hown (by rw [hsz]; unfold maxLen; omega) (by rw [hsz]; omega))).mono ?_
  rintro e w2 ⟨v, ss, rfl, hp, hr, _, hb⟩
  have hkk : (l.map g).map (fun x => keyB x.1) = l.map kl := by
    rw [List.map_map]
    exact List.map_congr_left fun c hc => by show keyB (g c).1 = kl c; rw [(hg c hc).1]; rfl
  rw [hkk] at hk
  have hpp := hp.trans hk
  have hlen : ss.length = l.length := by rw [hpp.length_eq, List.length_map]
  have hms : ss.mergeSort (fun x y => decide (x ≤ y)) = l.map kl := (mergeSort_of_perm hpp).trans (kl_sorted hs)
  rw [hlen, hms, List.map_map] at hr
  refine ⟨v, rfl, ?_, hb⟩
  rw [List.map_map]
  rw [List.map_congr_left (f := Value.string ∘ fun c : Entry => c.key) (g := encStr ∘ kl)]
  · exact hr
  · intro c _
    simp [encStr, kl]
/-- What All tells: a row of its own. -/
def AllTold (w : World) (l : List Entry) (r : Ending) (w' : World) : Prop :=
  ∃ A c, r = .returned (.slice A l.length c) ∧ l.length ≤ c ∧ Kd.F Entry.k w' (fun k => w.heap.size ≤ k) A l.length l ∧ Below w.heap.size w w'
theorem infoEnt : (Try.prog.info? 30).map (fun i => (i.zero, i.size, i.bytes)) = some (some (.agg #[.string ByteArray.empty, .int .i64 0, .int .i64 0, .int .i64 0, .bool false, .slice none 0 0]), 6, 72) := by kernel_rfl
set_option maxRecDepth 100000 in
set_option maxHeartbeats 1000000 in
theorem sorted_calls (mb : Nat) (ok : Nat → Prop) (l : List Entry) (w : World) (h : MapE w ok mb l) (hs : Srt l) (hl : l.length ≤ 1000000) (hbd : ∀ c ∈ l, c.key.size ≤ 1000000 ∧ c.val.b.length ≤ 1000000) :
    Calls Try.prog 24 #[.map (some mb)] w (AllTold w l) := by
  have HM := Aside0.mk h
  have HSR := Aside0.mk hs
  have HBD := Aside0.mk hbd
  have HS := Aside0.mk (sorted_c h hs hl)
  clear h hs hbd
  go_enter Try.func24, Try.ntmps24
  go_wp2_with (first | ((with_reducible refine HS.out.mono ?_); rintro e w1 ⟨rfl, hb1, hc1⟩; have HB1 := Aside0.mk hb1; have HC1 := Aside0.mk hc1; clear hb1 hc1) | ((with_reducible refine HC1.out.mono ?_); rintro e w2 ⟨v, rfl, ho2, hb2⟩; obtain ⟨A1, c1, rfl, hn1, hC2, hA2⟩ := StrRow.own_C (l := l.map fun c => c.key) (by rw [List.length_map]; exact ho2) (fun x hx => by obtain ⟨c, hc, rfl⟩ := List.mem_map.1 hx; have := (HBD.out c hc).1; omega); rw [List.length_map] at hn1 hC2 ⊢; have HB2 := Aside0.mk (Below.then_ HB1.out hb2 (Nat.le_refl _)); have HC2 := Aside0.mk hC2; clear hb2 ho2 hC2 hA2))
  go_loopg [3, 10] l.length (fun gk v3 v16 wr => ∃ k : Nat, v16 = .int .i64 (k : Int) ∧ k ≤ l.length ∧ Aside0 (gk + k = l.length) ∧ Aside0 (Below w2.heap.size w2 wr) ∧ Aside0 (OwnRow (RFB Entry.k w2.heap.size wr v3.ownBlock) 30 6 wr w2.heap.size v3 (l.take k)))
  case atStart => exact ⟨0, rfl, Nat.zero_le _, ⟨rfl⟩, ⟨Below.refl _ _⟩, ⟨OwnRow.none_ _ _ _ _ _⟩⟩
  case round =>
    obtain ⟨k, rfl, hk, HGK, HBR, HO⟩ := hrel
    have HB : Aside0 (Below w.heap.size w wr) := ⟨Below.then_ HB2.out HBR.out (Nat.le_refl _)⟩
    by_cases hlt : k < l.length
    · obtain ⟨ad, x, rfl, HX, hcx, hxs⟩ := StrRow.str_at (Kd.C_below HC2.out HBR.out) k hlt
      obtain ⟨c, hc⟩ : ∃ c, l[k]? = some c := ⟨_, List.getElem?_eq_getElem hlt⟩
      have hcm : c ∈ l := List.mem_of_getElem? hc
      have hxc : c.key = x := by have := HX.out; rw [List.getElem?_map, hc] at this; simpa using this
      have hky := HBD.out c hcm
      subst hxc
      have HTK : Aside0 (l.take (k + 1) = l.take k ++ [c]) := ⟨by rw [List.take_add_one, hc]; rfl⟩
      have HFD : Aside0 (find l c.key = some c) := ⟨find_of HSR.out hcm⟩
      have hbk0 := HM.out.below HB.out
      obtain ⟨o, Ao, co, hoe, hfk, hlk⟩ := hbk0.look_or c.key (by omega)
      rw [HFD.out] at hoe hlk
      obtain rfl : o = c := hoe
      have rl := hlk false wr rfl
      have HFO := Aside0.mk (Kd.FK_now hfk)
      have HCP : Aside0 (Calls Try.prog 36 #[.agg #[.string o.key, .int .i64 o.tag.seq, .int .i64 o.tag.who, .int .i64 o.tag.op, .bool o.val.has, .slice Ao o.val.b.length co]] wr (CopyTold wr o)) := ⟨copy_calls o Ao co wr HFO.out (by omega)⟩
      clear hfk hlk hbk0 hcm hky
      simp only [ecs, Bool.false_eq_true, if_false] at rl
      have hlk : (l.take k).length = k := by rw [List.length_take]; omega
      have HLK := Aside0.mk hlk
      clear hlk
      go_wp2_with (first
        | ((with_reducible refine HCP.out.mono ?_); rintro e w6 ⟨cs, rfl, hbk, hfk, hb6⟩; obtain ⟨A', c', rfl, _⟩ := ecs_of hfk; have HFK := Aside0.mk hfk; have HB6 := Aside0.mk hb6; have HB8 : Aside0 (∀ ob, Below wr.heap.size wr (w6.alloc ob)) := ⟨fun ob => below_alloc hb6 ob⟩; dsimp only [ecs]; clear hfk hbk hb6)
        | (at_builtin; refine own_append_rows (w0 := w2) (R := RFB Entry.k w2.heap.size _ u3.ownBlock) w2.heap.size rfl _ _ 22 30 _ 6 72 rfl Try.underlying22 infoEnt rfl (by omega) (by omega) u3 (l.take k) [o] (some ⟨w6.heap.size, 0, none⟩) 1 1 rfl (by show Value.slice _ 1 1 = _; simp) (RFB.row_ HO.out (HB8.out _)) (RFB.reads_one (RFB.below (RFB.new_ HFK.out HBR.out.size (fun b hb => RFB.row_lt HO.out b hb)) (below_alloc (Below.refl _ _) _)) rfl (Blk.new_ _ _ _ rfl rfl)) (fun _ _ h => h.one) (Below.then_ HBR.out (HB8.out _) (Nat.le_refl _)) (Below.then_ HBR.out (HB8.out _) (Nat.le_refl _)).size (by rw [HLK.out]; omega) ?_; intro v1 w9 hown hB9 hg9 hat9; have HOW := Aside0.mk (OwnRow.imp_ hown (fun _ _ h => RFB.grown h hg9 hat9)); have HB9 := Aside0.mk hB9; have HG9 := Aside0.mk hg9; clear hown hB9 hg9 hat9))
      go_roundg (l.length - (k + 1))
      case measure => have := HGK.out; omega
      case rel => exact ⟨k + 1, by go_num, by omega, ⟨by omega⟩, HB9, ⟨by rw [HTK.out]; exact HOW.out⟩⟩
    · obtain rfl : k = l.length := by omega
      go_wp2
      obtain ⟨A, c, rfl, h1, h2⟩ := RFB.foot (d := Entry.k) HO.out
      rw [List.take_length] at h1 h2 ⊢
      go_ret
      exact ⟨A, c, rfl, h1, Foot.mono h2 (fun i hi => Nat.le_trans HB2.out.size hi), HB.out⟩
set_option maxRecDepth 100000 in
theorem all_calls (w : World) (ok : Nat → Prop) (own : List Nat) (s : Nat) (c : Int) (S : St) (h : StoR w ok own s c S) (hl : S.z.length ≤ 1000000) (hbd : ∀ c ∈ S.z, c.key.size ≤ 1000000 ∧ c.val.b.length ≤ 1000000) :
    Calls Try.prog 9 #[.pointer (some ⟨s, 0, none⟩)] w (AllTold w S.z) := by
  obtain ⟨l, m1, m2, av, ln, rfl, h, hf⟩ := h
  have HS := Aside0.mk (sorted_calls m2 ok S.z w h.las h.srt.2 hl hbd)
  obtain ⟨⟨k0, k1, k2, k3⟩, g0, g1, g2, g3⟩ := Blk.four h.blk
  clear h hf hl hbd
  go_enter Try.func9, Try.ntmps9
  go_wp2_with (first | ((with_reducible refine HS.out.mono ?_); rintro r w1 ⟨A, cp, rfl, q1, q2, q3⟩; have HQ := Aside0.mk (And.intro q1 (And.intro q2 q3)); clear q1 q2 q3))
  go_ret
  exact ⟨A, cp, rfl, HQ.out.1, HQ.out.2.1, HQ.out.2.2⟩
end Sto
end Go.Proofs.Ytmmelfnhhjfaeaa
set_option linter.unusedVariables false
set_option linter.unusedSimpArgs false
namespace Go.Proofs.Ytmmelfnhhjfaeaa
open Go.RowKit Go.Proofs.YtmmelfnhhjfaeaaW.PrintWords
open Tags
namespace Sto
theorem ret6 {w W9 : World} {b : Nat} {y0 y1 y2 y3 y4 y5 v0 v1 v2 v3 v4 v5 : Value} (h : Blk w b [y0, y1, y2, y3, y4, y5]) (e : (((((w.setCell ⟨b, 0, none⟩ v0).setCell ⟨b, 1, none⟩ v1).setCell ⟨b, 2, none⟩ v2).setCell ⟨b, 3, none⟩ v3).setCell ⟨b, 4, none⟩ v4).setCell ⟨b, 5, none⟩ v5 = W9) :
    (W9.cell? ⟨b, 0, none⟩ = some v0 ∧ W9.cell? ⟨b, 1, none⟩ = some v1 ∧ W9.cell? ⟨b, 2, none⟩ = some v2 ∧ W9.cell? ⟨b, 3, none⟩ = some v3 ∧ W9.cell? ⟨b, 4, none⟩ = some v4 ∧ W9.cell? ⟨b, 5, none⟩ = some v5) ∧ Only [b] w W9 := by
  subst e
  have hB := (((((h.set 0 v0).set 1 v1).set 2 v2).set 3 v3).set 4 v4).set 5 v5
  refine ⟨(Blk.six (hB.cast rfl)).1, ?_⟩
  exact ((((((Only.refl [b] w).set (p := ⟨b, 0, none⟩) v0 (.inl (by simp))).set (p := ⟨b, 1, none⟩) v1 (.inl (by simp))).set (p := ⟨b, 2, none⟩) v2 (.inl (by simp))).set (p := ⟨b, 3, none⟩) v3 (.inl (by simp))).set (p := ⟨b, 4, none⟩) v4 (.inl (by simp))).set (p := ⟨b, 5, none⟩) v5 (.inl (by simp))
theorem izr : InR .i64 0 := InR.mk64 (by decide) (by decide)
/-- What is told of a key: an entry of its own. -/
def GetTold (w : World) (o : Entry) (e : Ending) (w' : World) : Prop := ∃ A c, e = .returned (.agg (ecs o A c).toArray) ∧ Kd.FK Entry.k w' (fun i => w.heap.size ≤ i) o (ecs o A c) ∧ Below w.heap.size w w'
def ofE (l : List Entry) (k : ByteArray) : Entry := (find l k).getD ⟨k, Tag.z, Val.z⟩
set_option maxRecDepth 100000 in
theorem of_calls (mb : Nat) (ok : Nat → Prop) (l : List Entry) (key : ByteArray) (w : World) (h : MapE w ok mb l) (hk : key.size ≤ 140737488351232) (hbd : ∀ c ∈ l, c.val.b.length ≤ 1000000) :
    Calls Try.prog 25 #[.map (some mb), .string key] w (GetTold w (ofE l key)) := by
  obtain ⟨o, Ao, co, hoe, hfk, hlk⟩ := h.look_or key hk
  have hmlt := h.lt
  have HK := Aside0.mk hk
  have HFK := Aside0.mk hfk
  cases hf : find l key with
  | none =>
    rw [hf] at hoe hlk
    obtain rfl : o = Entry.z := hoe
    have HO : Aside0 (ofE l key = ⟨key, Tag.z, Val.z⟩) := ⟨by unfold ofE; rw [hf]; rfl⟩
    have RL : Aside0 (∀ w', Below w.heap.size w w' → (Instr.lookup 52 (.map (some mb)) (.string key) true).run Try.prog w' = .ok (.tuple #[.agg #[.string ByteArray.empty, .int .i64 0, .int .i64 0, .int .i64 0, .bool false, .slice Ao 0 co], .bool false]) w') := ⟨fun w' hb => hlk true w' (hb.block mb hmlt)⟩
    clear hlk hfk hf h hbd hk
    go_enter Try.func25, Try.ntmps25
    go_upto_region 1 with (fail)
    generalize hX : World.alloc _ _ = W0
    have HB0 : Aside0 (Below w.heap.size w W0) := ⟨by rw [← hX]; exact below_alloc (Below.refl _ _) _⟩
    have HX0 : Aside0 (Blk W0 w.heap.size [.string ByteArray.empty, .int .i64 0, .int .i64 0, .int .i64 0, .bool false, .slice none 0 0]) := ⟨by rw [← hX]; exact Blk.new_ _ _ _ rfl rfl⟩
    have rl := RL.out _ HB0.out
    clear hX
    obtain ⟨⟨x0, x1, x2, x3, x4, x5⟩, g0, g1, g2, g3, g4, g5⟩ := HX0.out.six
    go_upto_region 3 with (fail)
    generalize hX1 : World.alloc _ _ = W1
    have HB1 : Aside0 (Below W0.heap.size W0 W1) := ⟨by rw [← hX1]; exact below_alloc (Below.refl _ _) _⟩
    have HBW1 := Aside0.mk (Below.then_ HB0.out HB1.out (Nat.le_refl _))
    have HX1 := Aside0.mk (HX0.out.on HB1.out)
    clear hX1 x0 x1 x2 x3 x4 x5 g0 g1 g2 g3 g4 g5 rl
    obtain ⟨⟨x0, x1, x2, x3, x4, x5⟩, g0, g1, g2, g3, g4, g5⟩ := HX1.out.six
    go_wp2
    generalize hW9 : World.setCell _ _ _ = W9
    have h9 := ret6 HX1.out hW9
    clear hW9
    have H9 := Aside0.mk h9.2
    obtain ⟨z0, z1, z2, z3, z4, z5⟩ := h9.1
    clear h9
    refine bodyPost_ret (v := .agg #[.string key, .int .i64 0, .int .i64 0, .int .i64 0, .bool false, .slice none 0 0]) (by simp [results, Try.results25, go_sem, z0, z1, z2, z3, z4, z5]; try rfl) rfl ?_
    rw [HO.out]
    exact ⟨none, 0, rfl, fun W' _ => Entry.mk_ W' ⟨key, Tag.z, Val.z⟩ HK.out izr izr izr (Nat.le_refl _) (Kd.C_nil _ _), ((Only.of_below [w.heap.size] HBW1.out).trans H9.out).below (by simp) (Nat.le_refl _)⟩
  | some c =>
    rw [hf] at hoe hlk
    obtain rfl : o = c := hoe
    have HO : Aside0 (ofE l key = o) := ⟨by unfold ofE; rw [hf]; rfl⟩
    have hm := (find_mem hf).1
    have HBL := Aside0.mk (hbd o hm)
    have RL : Aside0 (∀ w', Below w.heap.size w w' → (Instr.lookup 52 (.map (some mb)) (.string key) true).run Try.prog w' = .ok (.tuple #[.agg (ecs o Ao co).toArray, .bool true]) w') := ⟨fun w' hb => hlk true w' (hb.block mb hmlt)⟩
    clear hlk hfk hf h hbd hk hm
    rw [HO.out]
    obtain ⟨ek, ⟨a1, a2, a3⟩, ⟨eh, eb⟩⟩ := o
    dsimp only [ecs] at *
    go_enter Try.func25, Try.ntmps25
    go_upto_region 1 with (fail)
    generalize hX : World.alloc _ _ = W0
    have HB0 : Aside0 (Below w.heap.size w W0) := ⟨by rw [← hX]; exact below_alloc (Below.refl _ _) _⟩
    have HX0 : Aside0 (Blk W0 w.heap.size [.string ByteArray.empty, .int .i64 0, .int .i64 0, .int .i64 0, .bool false, .slice none 0 0]) := ⟨by rw [← hX]; exact Blk.new_ _ _ _ rfl rfl⟩
    have rl := RL.out _ HB0.out
    clear hX
    obtain ⟨⟨x0, x1, x2, x3, x4, x5⟩, g0, g1, g2, g3, g4, g5⟩ := HX0.out.six
    go_upto_region 4 with (fail)
    generalize hX1 : World.alloc _ _ = W1
    have HB1 : Aside0 (Below W0.heap.size W0 W1) := ⟨by rw [← hX1]; exact below_alloc (Below.refl _ _) _⟩
    have HBW1 := Aside0.mk (Below.then_ HB0.out HB1.out (Nat.le_refl _))
    have HX1 := Aside0.mk (HX0.out.on HB1.out)
    have HE1 : Aside0 (Blk W1 W0.heap.size [.string ek, .int .i64 a1, .int .i64 a2, .int .i64 a3, .bool eh, .slice Ao eb.length co]) := ⟨by rw [← hX1]; exact Blk.new_ _ _ _ rfl rfl⟩
    have HCP := Aside0.mk (copy_calls ⟨ek, ⟨a1, a2, a3⟩, ⟨eh, eb⟩⟩ Ao co W1 (Kd.FK_now (Foot.step HFK.out (fun i _ hi => HBW1.out.block i hi))) (by have := HBL.out; dsimp only at this ⊢; omega))
    dsimp only at HCP
    clear hX1 x0 x1 x2 x3 x4 x5 g0 g1 g2 g3 g4 g5 rl
    obtain ⟨⟨x0, x1, x2, x3, x4, x5⟩, _⟩ := HE1.out.six
    go_wp2_with (first
      | ((with_reducible refine HCP.out.mono ?_); rintro r w6 ⟨cs, rfl, hbk, hfk, hb6⟩; obtain ⟨A', c', rfl, _⟩ := ecs_of hfk; dsimp only [ecs] at *; have HFK6 := Aside0.mk hfk; have HB6 := Aside0.mk hb6; have HX6 := Aside0.mk (HX1.out.on hb6); clear hbk hfk hb6 x0 x1 x2 x3 x4 x5; obtain ⟨⟨x0, x1, x2, x3, x4, x5⟩, g0, g1, g2, g3, g4, g5⟩ := HX6.out.six))
    generalize hW9 : World.setCell _ _ _ = W9
    have h9 := ret6 HX6.out hW9
    clear hW9
    have H9 := Aside0.mk h9.2
    obtain ⟨z0, z1, z2, z3, z4, z5⟩ := h9.1
    clear h9
    refine bodyPost_ret (v := .agg #[.string ek, .int .i64 a1, .int .i64 a2, .int .i64 a3, .bool eh, .slice A' eb.length c']) (by simp [results, Try.results25, go_sem, z0, z1, z2, z3, z4, z5]; try rfl) rfl ?_
    have hs := HBW1.out.size
    have hw := HX0.out.lt
    have hs1 := HB1.out.size
    refine ⟨A', c', rfl, Foot.mono (Foot.only HFK6.out H9.out (fun i hi hm => ?_)) (fun i hi => Nat.le_trans hs hi), ((Only.of_below [w.heap.size] (Below.then_ HBW1.out HB6.out (Nat.le_refl _))).trans H9.out).below (by simp) (Nat.le_refl _)⟩
    have hi' : W1.heap.size ≤ i := hi
    have : i = w.heap.size := by simpa using hm
    omega
set_option maxRecDepth 100000 in
theorem get_calls (w : World) (ok : Nat → Prop) (own : List Nat) (s : Nat) (c : Int) (S : St) (key : ByteArray) (h : StoR w ok own s c S) (hk : key.size ≤ 140737488351232) (hbd : ∀ c ∈ S.z, c.val.b.length ≤ 1000000) :
    Calls Try.prog 10 #[.pointer (some ⟨s, 0, none⟩), .string key] w (GetTold w (ofE S.z key)) := by
  obtain ⟨l, m1, m2, av, ln, rfl, h, hf⟩ := h
  have HOF : Aside0 (∀ W, Below w.heap.size w W → Calls Try.prog 25 #[.map (some m2), .string key] W (GetTold W (ofE S.z key))) := ⟨fun W hb => of_calls m2 ok S.z key W (h.las.below hb) hk hbd⟩
  have HS := Aside0.mk h.blk
  obtain ⟨o, ho⟩ : ∃ o, o = ofE S.z key := ⟨_, rfl⟩
  rw [← ho] at HOF ⊢
  clear h hf hk hbd ho
  obtain ⟨ek, ⟨a1, a2, a3⟩, ⟨eh, eb⟩⟩ := o
  go_enter Try.func10, Try.ntmps10
  go_upto_region 3 with (fail)
  generalize hX : World.alloc _ _ = W0
  have HB0 : Aside0 (Below w.heap.size w W0) := ⟨by rw [← hX]; exact below_alloc (Below.refl _ _) _⟩
  have HX0 : Aside0 (Blk W0 w.heap.size [.string ByteArray.empty, .int .i64 0, .int .i64 0, .int .i64 0, .bool false, .slice none 0 0]) := ⟨by rw [← hX]; exact Blk.new_ _ _ _ rfl rfl⟩
  obtain ⟨⟨k0, k1, k2, k3⟩, _⟩ := Blk.four (HS.out.on HB0.out)
  clear hX
  go_wp2_with (first
    | ((with_reducible refine (HOF.out _ HB0.out).mono ?_); rintro r w6 ⟨A', c', rfl, hfk, hb6⟩; dsimp only [ecs] at *; have HFK6 := Aside0.mk hfk; have HB6 := Aside0.mk hb6; have HX6 := Aside0.mk (HX0.out.on hb6); clear hfk hb6 k0 k1 k2 k3; obtain ⟨⟨x0, x1, x2, x3, x4, x5⟩, g0, g1, g2, g3, g4, g5⟩ := HX6.out.six))
  generalize hW9 : World.setCell _ _ _ = W9
  have h9 := ret6 HX6.out hW9
  clear hW9
  have H9 := Aside0.mk h9.2
  obtain ⟨z0, z1, z2, z3, z4, z5⟩ := h9.1
  clear h9
  refine bodyPost_ret (v := .agg #[.string ek, .int .i64 a1, .int .i64 a2, .int .i64 a3, .bool eh, .slice A' eb.length c']) (by simp [results, Try.results10, go_sem, z0, z1, z2, z3, z4, z5]; try rfl) rfl ?_
  have hs := HB0.out.size
  have hw := HX0.out.lt
  refine ⟨A', c', rfl, Foot.mono (Foot.only HFK6.out H9.out (fun i hi hm => ?_)) (fun i hi => Nat.le_trans hs hi), ((Only.of_below [w.heap.size] (Below.then_ HB0.out HB6.out (Nat.le_refl _))).trans H9.out).below (by simp) (Nat.le_refl _)⟩
  have hi' : W0.heap.size ≤ i := hi
  have : i = w.heap.size := by simpa using hm
  omega
set_option maxRecDepth 100000 in
theorem compact_none (w : World) : Calls Try.prog 12 #[.pointer none] w fun e w' => e = .returned (.int .i64 1) ∧ w = w' := by
  go_enter Try.func12, Try.ntmps12
  go_wp2
  go_ret
  exact ⟨rfl, rfl⟩
end Sto
end Go.Proofs.Ytmmelfnhhjfaeaa
