/- CellsWhole's law, plain: what is whole tells all. -/
import Derived.Test.YtgfjkpnaabiecaaTabP
set_option linter.unusedVariables false
set_option linter.unusedSimpArgs false
namespace Go.Proofs.Ytgfjkpnaabiecaa
open Go.RowKit Go.Proofs.YtgfjkpnaabiecaaW.PrintWords
namespace Tab
open Tags
def tle (a b : Tag) : Prop := a.seq < b.seq ∨ (a.seq = b.seq ∧ (a.who < b.who ∨ (a.who = b.who ∧ a.op ≤ b.op)))
theorem cmp3_cases (x y : Int) : (x < y ∧ cmp3 x y = -1) ∨ (x = y ∧ cmp3 x y = 0) ∨ (y < x ∧ cmp3 x y = 1) := by
  rcases Int.lt_trichotomy x y with h | h | h
  · exact .inl ⟨h, cmp3_lt h⟩
  · exact .inr (.inl ⟨h, by rw [h, cmp3_eq]⟩)
  · exact .inr (.inr ⟨h, cmp3_gt h⟩)
theorem or3_cases (x y z : Int) : (x ≠ 0 ∧ or3 x y z = x) ∨ (x = 0 ∧ y ≠ 0 ∧ or3 x y z = y) ∨ (x = 0 ∧ y = 0 ∧ or3 x y z = z) := by
  unfold or3
  by_cases hx : x = 0
  · by_cases hy : y = 0
    · exact .inr (.inr ⟨hx, hy, by rw [if_neg (by simp [hx]), if_neg (by simp [hy])]⟩)
    · exact .inr (.inl ⟨hx, hy, by rw [if_neg (by simp [hx]), if_pos hy]⟩)
  · exact .inl ⟨hx, if_pos hx⟩
theorem cmpT_ge {a b : Tag} : 0 ≤ cmpT a b ↔ tle b a := by
  unfold cmpT tle
  have h0 := or3_cases (cmp3 a.seq b.seq) (cmp3 a.who b.who) (cmp3 a.op b.op)
  have h1 := cmp3_cases a.seq b.seq
  have h2 := cmp3_cases a.who b.who
  have h3 := cmp3_cases a.op b.op
  omega
theorem cmpT_le {a b : Tag} : ¬ 0 < cmpT a b ↔ tle a b := by
  unfold cmpT tle
  have h0 := or3_cases (cmp3 a.seq b.seq) (cmp3 a.who b.who) (cmp3 a.op b.op)
  have h1 := cmp3_cases a.seq b.seq
  have h2 := cmp3_cases a.who b.who
  have h3 := cmp3_cases a.op b.op
  omega
theorem tle_refl (a : Tag) : tle a a := by unfold tle; omega
theorem tle_tr {a b c : Tag} (h : tle a b) (k : tle b c) : tle a c := by unfold tle at *; omega
theorem tle_tot (a b : Tag) : tle a b ∨ tle b a := by unfold tle; omega
theorem find_put {l : List Cell} {c : Cell} (hs : Srt l) (k : ByteArray) : find (put l c) k = if c.e.key = k then some c else find l k := by
  split
  · rename_i h
    subst h
    exact find_of (srt_put hs) ((mem_put hs).2 (.inl rfl))
  · rename_i h
    cases hf : find l k with
    | some d =>
      obtain ⟨h1, rfl⟩ := find_mem hf
      exact find_of (srt_put hs) ((mem_put hs).2 (.inr ⟨h1, fun e => h e.symm⟩))
    | none =>
      refine find_no fun x hx => ?_
      rcases (mem_put hs).1 hx with rfl | ⟨hx, _⟩
      · exact h
      · exact find_none hf x hx
theorem find_del_same (l : List Cell) (k : ByteArray) : find (del l k) k = none := find_no fun x hx => (mem_del.1 hx).2
/-- What is known of the one key. -/
structure KInv (T : Tb) (key : ByteArray) (best : Tag) (kept : Entry) : Prop where
  kk : kept.key = key
  up : ∀ c, find T.l key = some c → tle best kept.tag ∨ tle best c.e.tag
  no : find T.l key = none → tle best kept.tag
  cl : ∀ c, find T.l key = some c → c.clean = true → tle c.e.tag kept.tag
  wh : ∀ c, find T.l key = some c → c.whole = true → tle best c.e.tag
  zr : find T.l key = none → tokAt T key = 0 → best = Tag.z
namespace KInv
variable {T T' : Tb} {n : Int} {key : ByteArray} {best : Tag} {kept : Entry}
theorem same (h : KInv T key best kept) (hf : find T'.l key = find T.l key) (ht : tokAt T' key = 0 → tokAt T key = 0) : KInv T' key best kept :=
  ⟨h.kk, fun c hc => h.up c (hf ▸ hc), fun hc => h.no (hf ▸ hc), fun c hc => h.cl c (hf ▸ hc), fun c hc => h.wh c (hf ▸ hc), fun hc h0 => h.zr (hf ▸ hc) (ht h0)⟩
theorem lay_far (h : KInv T key best kept) (hs : Srt T.l) {c : Cell} (hk : c.e.key ≠ key) : KInv (lay T c) key best kept :=
  h.same (by show find (put T.l _) key = _; rw [find_put hs, if_neg hk]) (fun h => h)
/-- A cell of the key is laid. -/
theorem lay_at (h : KInv T key best kept) (hs : Srt T.l) {c : Cell} {best' : Tag} {kept' : Entry} (hk : c.e.key = key) (hkk : kept'.key = key) (h1 : tle best' kept'.tag ∨ tle best' c.e.tag) (h2 : c.clean = true → tle c.e.tag kept'.tag) (h3 : c.whole = true → tle best' c.e.tag) : KInv (lay T c) key best' kept' := by
  have hf : find (lay T c).l key = some { c with used := T.uses + 1 } := by show find (put T.l _) key = _; rw [find_put hs, if_pos hk]
  refine ⟨hkk, fun d hd => ?_, fun hd => ?_, fun d hd => ?_, fun d hd => ?_, fun hd => ?_⟩ <;> rw [hf] at hd
  · injection hd with hd; subst hd; exact h1
  · cases hd
  · injection hd with hd; subst hd; exact h2
  · injection hd with hd; subst hd; exact h3
  · cases hd
theorem tok_in (w : Wf T n) (k : ByteArray) : (Hash.bkt k T.room.buckets).toNat < T.tok.length := by
  obtain ⟨b0, b1⟩ := Hash.bkt_bd k (n := T.room.buckets) w.rm.2.2.2.2.1
  have := w.tl
  generalize Hash.bkt k T.room.buckets = b at *
  omega
theorem tok_ge (w : Wf T n) (k : ByteArray) : 0 ≤ tokAt T k := by
  unfold tokAt
  have hi := tok_in w k
  generalize (Hash.bkt k T.room.buckets).toNat = i at *
  rw [List.getD_eq_getElem?_getD, List.getElem?_eq_getElem hi]
  exact (w.tk _ (List.getElem_mem hi)).1
theorem tok_drop (w : Wf T n) (j k : ByteArray) : tokAt T k ≤ tokAt (drop T j) k ∧ (j = k → 1 ≤ tokAt (drop T j) k) := by
  have h0 := tok_ge w k
  have hi := tok_in w k
  have hj := tok_in w j
  unfold tokAt at *
  show _ ≤ (bump T.tok (Hash.bkt j T.room.buckets).toNat).getD (Hash.bkt k T.room.buckets).toNat 0 ∧ (j = k → 1 ≤ (bump T.tok (Hash.bkt j T.room.buckets).toNat).getD (Hash.bkt k T.room.buckets).toNat 0)
  have he : j = k → (Hash.bkt j T.room.buckets).toNat = (Hash.bkt k T.room.buckets).toNat := fun e => by rw [e]
  generalize (Hash.bkt k T.room.buckets).toNat = i at *
  generalize (Hash.bkt j T.room.buckets).toNat = i' at *
  rw [bump_get _ _ hj]
  simp only [List.getD_eq_getElem?_getD, List.getElem?_set] at *
  by_cases e : i' = i
  · subst e
    simp only [if_true, hi, List.getElem?_eq_getElem hi, Option.getD_some] at *
    omega
  · rw [if_neg e]
    exact ⟨Int.le_refl _, fun h => absurd (he h) e⟩
/-- What is clean is dropped. -/
theorem drop_ (h : KInv T key best kept) (w : Wf T n) {j : ByteArray} (hc : ∀ c, find T.l j = some c → c.clean = true) : KInv (drop T j) key best kept := by
  obtain ⟨t1, t2⟩ := tok_drop w j key
  have h0 := tok_ge w key
  by_cases e : j = key
  · subst e
    have hf : find (drop T j).l j = none := find_del_same _ _
    have h1 := t2 rfl
    refine ⟨h.kk, fun d hd => ?_, fun _ => ?_, fun d hd => ?_, fun d hd => ?_, fun _ h2 => by omega⟩
    · rw [hf] at hd; cases hd
    · cases hc0 : find T.l j with
      | none => exact h.no hc0
      | some c =>
        rcases h.up c hc0 with h3 | h3
        · exact h3
        · exact tle_tr h3 (h.cl c hc0 (hc c hc0))
    · rw [hf] at hd; cases hd
    · rw [hf] at hd; cases hd
  · exact h.same (find_del (fun e' => e e'.symm)) (fun h2 => by omega)
theorem vict_ (e : Entry) : ∀ (f : Nat) (T : Tb) (n : Int), KInv T key best kept → Wf T n → KInv (drops T (victF f T e).1) key best kept
  | 0, T, n, h, w => h
  | f + 1, T, n, h, w => by
    unfold victF
    split
    · exact h
    · cases hp : pick T.l e.key with
      | none => exact h
      | some c =>
        obtain ⟨p1, p2, p3⟩ := pick_mem hp
        refine vict_ e f (drop T c.e.key) (n + 1) (h.drop_ w (fun d hd => ?_)) (w.drop_ _)
        have := find_of w.srt p1
        rw [this] at hd
        injection hd with hd
        rw [← hd]; exact p2
theorem make_ (h : KInv T key best kept) (w : Wf T n) (e : Entry) : KInv (makeT T e) key best kept := by
  unfold makeT
  split
  · exact vict_ e _ T n h w
  · exact h
end KInv
end Tab
end Go.Proofs.Ytgfjkpnaabiecaa
