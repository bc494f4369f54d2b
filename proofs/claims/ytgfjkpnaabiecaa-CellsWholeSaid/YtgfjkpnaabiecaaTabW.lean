/- Layer cells: a table in memory: its block, its map, its tokens. -/
import Derived.Test.YtgfjkpnaabiecaaTabM
import Derived.StringKeys
set_option linter.unusedVariables false
set_option linter.unusedSimpArgs false
namespace Go.Proofs.Ytgfjkpnaabiecaa
open Go.RowKit Go.Proofs.YtgfjkpnaabiecaaW.PrintWords
open Go.Maps (Keyed)
namespace Tab
theorem lawK : Keyed Try.prog 9 := Go.Maps.string_keyed Try.underlying9
theorem keyS {s : ByteArray} (h : s.size ≤ 140737488351232) : IsKey 9 (.string s) := ⟨_, Go.WideMaps.keyOf_string_mk Try.underlying9 (by unfold maxLen; omega)⟩
/-- A cell as a map holds it: what it leads to lies in ok. -/
def CE (w : World) (c : Cell) (x : Value × Value) : Prop := x.1 = .string c.e.key ∧ ∃ cs, x.2 = .agg cs ∧ BK Cell.k w c cs.toList
theorem CE.only {w w1 : World} {c : Cell} {x : Value × Value} {S : List Nat} (h : CE w c x) (k : Only S w w1) (hn : ∀ i ∈ S, ¬ Ty w 5 i) : CE w1 c x := by
  obtain ⟨h1, cs, h2, h3⟩ := h
  exact ⟨h1, cs, h2, h3.only k hn⟩
/-- Block b is a map of the cells l. -/
def MapT (w : World) (b : Nat) (l : List Cell) : Prop := ∃ g : Cell → Value × Value, MapL w 9 b (l.map g) ∧ ∀ c ∈ l, CE w c (g c)
theorem zeroC (w : World) : (zeroValue 47).run Try.prog w = .ok (.agg #[.string ByteArray.empty, .int .i64 0, .int .i64 0, .int .i64 0, .bool false, .slice none 0 0, .bool false, .bool false, .int .i64 0]) w := by kernel_rfl
section
variable {w w1 : World} {b : Nat} {l : List Cell}
theorem MapT.noTy (h : MapT w b l) (t : TypeId) : ¬ Ty w t b := by obtain ⟨g, h1, _⟩ := h; exact h1.noTy
theorem MapT.only {S : List Nat} (h : MapT w b l) (k : Only S w w1) (hb : b ∉ S) (hn : ∀ i ∈ S, ¬ Ty w 5 i) : MapT w1 b l := by
  obtain ⟨g, h1, h2⟩ := h
  exact ⟨g, h1.only k hb, fun c hc => (h2 c hc).only k hn⟩
theorem MapT.lt (h : MapT w b l) : b < w.heap.size := by obtain ⟨g, h1, _⟩ := h; exact h1.lt
theorem MapT.perm {l' : List Cell} (h : MapT w b l) (p : l.Perm l') : MapT w b l' := by
  obtain ⟨g, h1, h2⟩ := h
  exact ⟨g, h1.perm (p.map g), fun c hc => h2 c (p.mem_iff.2 hc)⟩
theorem MapT.key_no (h : MapT w b l) {k : ByteArray} (hf : find l k = none) {g : Cell → Value × Value} (hg : ∀ c ∈ l, CE w c (g c)) : ∀ v, (Value.string k, v) ∉ l.map g := by
  intro v hv
  obtain ⟨c, hc, he⟩ := List.mem_map.1 hv
  have h1 := (hg c hc).1
  rw [he] at h1
  injection h1 with h1
  exact find_none hf c hc h1.symm
/-- m[k], there. -/
theorem MapT.look (h : MapT w b l) {k : ByteArray} {c : Cell} (hf : find l k = some c) (hk : k.size ≤ 140737488351232) :
    ∃ cs, (∀ q, (Instr.lookup 81 (.map (some b)) (.string k) q).run Try.prog w = .ok (if q then .tuple #[.agg cs, .bool true] else .agg cs) w) ∧ BK Cell.k w c cs.toList := by
  obtain ⟨g, h1, h2⟩ := h
  obtain ⟨hc, rfl⟩ := find_mem hf
  obtain ⟨e1, cs, e2, e3⟩ := h2 c hc
  refine ⟨cs, fun q => ?_, e3⟩
  refine h1.look_old lawK Try.underlying81 q (keyS hk) (List.mem_map.2 ⟨c, hc, ?_⟩)
  rw [← e1, ← e2]
/-- m[k], not there. -/
theorem MapT.look_no (h : MapT w b l) {k : ByteArray} (hf : find l k = none) (hk : k.size ≤ 140737488351232) :
    ∀ q, (Instr.lookup 81 (.map (some b)) (.string k) q).run Try.prog w = .ok (if q then .tuple #[.agg #[.string ByteArray.empty, .int .i64 0, .int .i64 0, .int .i64 0, .bool false, .slice none 0 0, .bool false, .bool false, .int .i64 0], .bool false] else .agg #[.string ByteArray.empty, .int .i64 0, .int .i64 0, .int .i64 0, .bool false, .slice none 0 0, .bool false, .bool false, .int .i64 0]) w := by
  have h' := h
  obtain ⟨g, h1, h2⟩ := h
  intro q
  exact h1.look_new lawK Try.underlying81 (zeroC w) q (keyS hk) (h'.key_no hf h2)
/-- The cells of a cell. -/
def ccs (c : Cell) (A : Option Addr) (cp : Nat) : List Value := [.string c.e.key, .int .i64 c.e.tag.seq, .int .i64 c.e.tag.who, .int .i64 c.e.tag.op, .bool c.e.val.has, .slice A c.e.val.b.length cp, .bool c.whole, .bool c.clean, .int .i64 c.used]
theorem ccs_of {w : World} {c : Cell} {cs : Array Value} (h : BK Cell.k w c cs.toList) : ∃ A cp, cs = (ccs c A cp).toArray ∧ BK Cell.k w c (ccs c A cp) := by
  obtain ⟨A, cp, he, _⟩ := Cell.open_ h.now
  exact ⟨A, cp, by rw [show ccs c A cp = cs.toList from he.symm], by rw [show ccs c A cp = cs.toList from he.symm]; exact h⟩
theorem bk_z (w : World) : BK Cell.k w Cell.z (ccs Cell.z none 0) := fun W' _ => Cell.mk_ W' Cell.z (by decide) (InR.mk64 (by decide) (by decide)) (InR.mk64 (by decide) (by decide)) (InR.mk64 (by decide) (by decide)) (Nat.le_refl _) (Kd.C_nil _ _) (InR.mk64 (by decide) (by decide))
/-- m[k], there or not. -/
theorem MapT.look_or (h : MapT w b l) (k : ByteArray) (hk : k.size ≤ 140737488351232) :
    ∃ o A cp, o = (find l k).getD Cell.z ∧ BK Cell.k w o (ccs o A cp) ∧ ∀ q w', w'.heap[b]? = w.heap[b]? → (Instr.lookup 81 (.map (some b)) (.string k) q).run Try.prog w' = .ok (if q then .tuple #[.agg (ccs o A cp).toArray, .bool (find l k).isSome] else .agg (ccs o A cp).toArray) w' := by
  have h' := h
  obtain ⟨g, h1, h2⟩ := h
  cases hf : find l k with
  | none =>
    exact ⟨Cell.z, none, 0, rfl, bk_z w, fun q w' he => (h1.move he).look_new lawK Try.underlying81 (zeroC w') q (keyS hk) (h'.key_no hf h2)⟩
  | some c =>
    obtain ⟨hc, rfl⟩ := find_mem hf
    obtain ⟨e1, cs, e2, e3⟩ := h2 c hc
    obtain ⟨A, cp, rfl, e4⟩ := ccs_of e3
    exact ⟨c, A, cp, rfl, e4, fun q w' he => (h1.move he).look_old lawK Try.underlying81 q (keyS hk) (List.mem_map.2 ⟨c, hc, by rw [← e1, ← e2]⟩)⟩
/-- len(m). -/
theorem MapT.len (h : MapT w b l) (ty : TypeId) : ∀ w', w'.heap[b]? = w.heap[b]? → (Builtin.len_ #[81] ty #[.map (some b)]).run Try.prog w' = .ok (.int .i64 (l.length : Int)) w' := by
  intro w' he
  obtain ⟨g, ⟨es, cl, hb, hs, hk, hp⟩, _⟩ := h
  have : es.size = l.length := by have := hp.length_eq; unfold ents at this; simpa using this
  simp [Builtin.len_, run_underlying Try.underlying81, MapKept.run_getObj_map (he.trans hb), goInt, this, Result.andThen]
theorem only_grown {S : List Nat} {row : Nat} (hg : w.grownBy w1 (some row)) (hr : row ∈ S) : Only S w w1 := (Only.refl S w).grown hg (fun k hk => by injection hk with hk; subst hk; exact .inl hr)
/-- m[k] = c. -/
theorem MapT.put (h : MapT w b l) (hs : Srt l) {c : Cell} {cs : Array Value} (hk : c.e.key.size ≤ 140737488351232) (hc : BK Cell.k w c cs.toList) :
    ∃ w', (Instr.mapUpdate 81 (.map (some b)) (.string c.e.key) (.agg cs)).run Try.prog w = .ok () w' ∧ MapT w' b (put l c) ∧ w.grownBy w' (some b) := by
  have h' := h
  obtain ⟨g, h1, h2⟩ := h
  have hn : ∀ i ∈ [b], ¬ Ty w 5 i := fun i hm => by simp at hm; subst hm; exact h'.noTy _
  have key : ∀ w', MapL w' 9 b ((.string c.e.key, .agg cs) :: (del l c.e.key).map g) → w.grownBy w' (some b) → MapT w' b (Tab.put l c) := by
    intro w' hm hg
    have ho := only_grown (S := [b]) hg (by simp)
    refine MapT.perm (l := c :: del l c.e.key) ⟨fun x => if x.e.key = c.e.key then (.string c.e.key, .agg cs) else g x, ?_, fun x hx => ?_⟩ (put_perm hs).symm
    · rw [List.map_cons]
      simp only [if_true]
      have : (del l c.e.key).map (fun x => if x.e.key = c.e.key then (Value.string c.e.key, Value.agg cs) else g x) = (del l c.e.key).map g := List.map_congr_left (fun x hx => if_neg (mem_del.1 hx).2)
      rw [this]
      exact hm
    · rcases List.mem_cons.1 hx with rfl | hx
      · simp only [if_true]
        exact ⟨rfl, cs, rfl, hc.only ho hn⟩
      · simp only [if_neg (mem_del.1 hx).2]
        exact (h2 x (mem_del.1 hx).1).only ho hn
  cases hf : find l c.e.key with
  | none =>
    obtain ⟨w', r1, r2, r3⟩ := h1.put_new lawK Try.underlying81 (.agg cs) (keyS hk) (h'.key_no hf h2)
    exact ⟨w', r1, key w' (by rw [del_none hf]; exact r2) r3, r3⟩
  | some c0 =>
    obtain ⟨hm0, hk0⟩ := find_mem hf
    obtain ⟨e1, cs0, e2, _⟩ := h2 c0 hm0
    have hp : (l.map g).Perm ((.string c.e.key, .agg cs0) :: (del l c.e.key).map g) := by
      have := (del_perm hs hf).map g
      rw [List.map_cons, show g c0 = (.string c.e.key, .agg cs0) from by rw [← hk0, ← e1, ← e2]] at this
      exact this
    obtain ⟨w', r1, r2, r3⟩ := h1.put_old lawK Try.underlying81 (.agg cs) (keyS hk) hp
    exact ⟨w', r1, key w' r2 r3, r3⟩
/-- delete(m, k). -/
theorem MapT.drop (h : MapT w b l) (hs : Srt l) {k : ByteArray} (hk : k.size ≤ 140737488351232) (ty : TypeId) :
    ∃ w', (Builtin.delete_ #[81, 9] ty #[.map (some b), .string k]).run Try.prog w = .ok (.tuple #[]) w' ∧ MapT w' b (del l k) ∧ w.grownBy w' (some b) := by
  have h' := h
  obtain ⟨g, h1, h2⟩ := h
  have hn : ∀ i ∈ [b], ¬ Ty w 5 i := fun i hm => by simp at hm; subst hm; exact h'.noTy _
  have key : ∀ w', MapL w' 9 b ((del l k).map g) → w.grownBy w' (some b) → MapT w' b (del l k) := fun w' hm hg =>
    ⟨g, hm, fun x hx => (h2 x (mem_del.1 hx).1).only (only_grown (S := [b]) hg (by simp)) hn⟩
  cases hf : find l k with
  | none =>
    obtain ⟨w', r1, r2, r3⟩ := h1.del_new (ty := ty) lawK Try.underlying81 (keyS hk) (h'.key_no hf h2)
    exact ⟨w', r1, key w' (by rw [del_none hf]; exact r2) r3, r3⟩
  | some c0 =>
    obtain ⟨hm0, hk0⟩ := find_mem hf
    obtain ⟨e1, cs0, e2, _⟩ := h2 c0 hm0
    have hp : (l.map g).Perm ((.string k, .agg cs0) :: (del l k).map g) := by
      have := (del_perm hs hf).map g
      rw [List.map_cons, show g c0 = (.string k, .agg cs0) from by rw [← hk0, ← e1, ← e2]] at this
      exact this
    obtain ⟨w', r1, r2, r3⟩ := h1.del_old (ty := ty) lawK Try.underlying81 (keyS hk) hp
    exact ⟨w', r1, key w' r2 r3, r3⟩
end
end Tab
/-- A table in memory: block p, its map in block mb, its tokens in block tb. -/
structure TbR (w : World) (p mb tb : Nat) (T : Tb) : Prop where
  blk : ∃ cap, T.tok.length ≤ cap ∧ Blk w p [.int .i64 T.room.cells, .int .i64 T.room.bytes, .int .i64 T.room.buckets, .bool T.room.fresh, .map (some mb), .slice (some ⟨tb, 0, none⟩) T.tok.length cap, .int .i64 T.uses, .int .i64 ((Tab.szs T.l : Nat) : Int)]
  pty : Ty w 83 p
  tok : Blk w tb (T.tok.map (.int .i64))
  tty : Ty w 3 tb
  map : Tab.MapT w mb T.l
  srt : Tab.Srt T.l
namespace TbR
variable {w w1 : World} {p mb tb : Nat} {T : Tb}
theorem only {S : List Nat} (h : TbR w p mb tb T) (k : Only S w w1) (h1 : p ∉ S) (h2 : mb ∉ S) (h3 : tb ∉ S) (hn : ∀ i ∈ S, ¬ Ty w 5 i) : TbR w1 p mb tb T := by
  obtain ⟨⟨cap, hc, hb⟩, hp, ht, hty, hm, hs⟩ := h
  exact ⟨⟨cap, hc, hb.only k h1⟩, hp.only k h1, ht.only k h3, hty.only k h3, hm.only k h2 hn, hs⟩
theorem below (h : TbR w p mb tb T) (k : Below w.heap.size w w1) : TbR w1 p mb tb T := h.only (S := []) (Only.of_below [] k) (by simp) (by simp) (by simp) (by simp)
theorem ne (h : TbR w p mb tb T) : p ≠ mb ∧ p ≠ tb ∧ mb ≠ tb :=
  ⟨fun e => h.map.noTy _ (e ▸ h.pty), fun e => (h.pty.ne (t' := 3) (by decide)) (e ▸ h.tty), fun e => h.map.noTy _ (e ▸ h.tty)⟩
theorem noB (h : TbR w p mb tb T) : ∀ i ∈ [p, mb, tb], ¬ Ty w 5 i := by
  intro i hi
  simp at hi
  rcases hi with rfl | rfl | rfl
  · exact h.pty.ne (by decide)
  · exact h.map.noTy _
  · exact h.tty.ne (by decide)
theorem lt (h : TbR w p mb tb T) : p < w.heap.size ∧ mb < w.heap.size ∧ tb < w.heap.size := ⟨h.pty.lt, h.map.lt, h.tty.lt⟩
end TbR
end Go.Proofs.Ytgfjkpnaabiecaa
