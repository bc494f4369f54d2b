/- CellsWhole: what a round of the loop holds: the loop's things and d's box. -/
import Derived.Test.YtgfjkpnaabiecaaTabU
set_option linter.unusedVariables false
set_option linter.unusedSimpArgs false
namespace Go.Proofs.Ytgfjkpnaabiecaa
open Go.RowKit Go.Proofs.YtgfjkpnaabiecaaW.PrintWords
namespace Tab
open Tags
abbrev dcs (x : Do) (A : Option Addr) (c : Nat) : List Value := [.int .i64 x.kind, .string x.e.key, .int .i64 x.e.tag.seq, .int .i64 x.e.tag.who, .int .i64 x.e.tag.op, .bool x.e.val.has, .slice A x.e.val.b.length c, .int .i64 x.token]
/-- A round's things: the loop's, and d's box dB. -/
structure RS (w : World) (p mb tb bB kB dB : Nat) (T : Tb) (best : Tag) (kept : Entry) (A : Option Addr) (c : Nat) (x : Do) (A6 : Option Addr) (c6 : Nat) (wr : World) : Prop where
  s : WS w p mb tb bB kB T best kept A c wr
  d : Blk wr dB (dcs x A6 c6)
  dt : Ty wr 39 dB
  g : w.heap.size ≤ dB
namespace RS
variable {w wr w1 : World} {p mb tb bB kB dB : Nat} {T T' : Tb} {best : Tag} {kept : Entry} {A : Option Addr} {c : Nat} {x : Do} {A6 : Option Addr} {c6 : Nat}
theorem ne (h : RS w p mb tb bB kB dB T best kept A c x A6 c6 wr) : dB ∉ [p, mb, tb] ∧ dB ≠ bB ∧ dB ≠ kB := by
  have n1 := h.s.t.pty
  have n2 := h.s.t.tty
  have n3 := h.s.t.map.noTy
  refine ⟨fun hm => ?_, ?_, ?_⟩
  · simp at hm
    rcases hm with rfl | rfl | rfl
    · exact (h.dt.ne (t' := 83) (by decide)) n1
    · exact n3 _ h.dt
    · exact (h.dt.ne (t' := 3) (by decide)) n2
  · rintro rfl; exact (h.dt.ne (t' := 32) (by decide)) h.s.bt
  · rintro rfl; exact (h.dt.ne (t' := 37) (by decide)) h.s.kt
theorem start (h : WS w p mb tb bB kB T best kept A c wr) (x : Do) (A6 : Option Addr) (c6 : Nat) : RS w p mb tb bB kB wr.heap.size T best kept A c x A6 c6 (wr.alloc (.cells (dcs x A6 c6).toArray 39)) :=
  ⟨h.below (below_alloc (Below.refl _ _) _), Blk.new_ _ _ _ rfl (by simp), ty_new rfl, h.bl.size⟩
theorem below (h : RS w p mb tb bB kB dB T best kept A c x A6 c6 wr) (k : Below wr.heap.size wr w1) : RS w p mb tb bB kB dB T best kept A c x A6 c6 w1 :=
  ⟨h.s.below k, h.d.on k, h.dt.below k, h.g⟩
theorem told (h : RS w p mb tb bB kB dB T best kept A c x A6 c6 wr) (ht : TbR w1 p mb tb T') (o : Only [p, mb, tb] wr w1) : RS w p mb tb bB kB dB T' best kept A c x A6 c6 w1 :=
  ⟨h.s.told ht o, h.d.only o h.ne.1, h.dt.only o h.ne.1, h.g⟩
theorem setB (h : RS w p mb tb bB kB dB T best kept A c x A6 c6 wr) (best' : Tag) : RS w p mb tb bB kB dB T best' kept A c x A6 c6 (((wr.setCell ⟨bB, 0, none⟩ (.int .i64 best'.seq)).setCell ⟨bB, 1, none⟩ (.int .i64 best'.who)).setCell ⟨bB, 2, none⟩ (.int .i64 best'.op)) := by
  have o : Only [bB] wr (((wr.setCell ⟨bB, 0, none⟩ (.int .i64 best'.seq)).setCell ⟨bB, 1, none⟩ (.int .i64 best'.who)).setCell ⟨bB, 2, none⟩ (.int .i64 best'.op)) := (((Only.refl [bB] wr).set (p := ⟨bB, 0, none⟩) _ (.inl (by simp))).set (p := ⟨bB, 1, none⟩) _ (.inl (by simp))).set (p := ⟨bB, 2, none⟩) _ (.inl (by simp))
  obtain ⟨n1, n2, n3⟩ := h.ne
  exact ⟨h.s.setB o (((h.s.b.set 0 (.int .i64 best'.seq)).set 1 (.int .i64 best'.who)).set 2 (.int .i64 best'.op)) (((h.s.bt.set _ _).set _ _).set _ _), h.d.only o (by simp; exact n2), h.dt.only o (by simp; exact n2), h.g⟩
theorem setK (h : RS w p mb tb bB kB dB T best kept A c x A6 c6 wr) (kept' : Entry) (A' : Option Addr) (c' : Nat) (hf : Kd.FK Entry.k wr (fun i => i ∉ [p, mb, tb, bB, kB]) kept' (ecs kept' A' c')) :
    RS w p mb tb bB kB dB T best kept' A' c' x A6 c6 ((((((wr.setCell ⟨kB, 0, none⟩ (.string kept'.key)).setCell ⟨kB, 1, none⟩ (.int .i64 kept'.tag.seq)).setCell ⟨kB, 2, none⟩ (.int .i64 kept'.tag.who)).setCell ⟨kB, 3, none⟩ (.int .i64 kept'.tag.op)).setCell ⟨kB, 4, none⟩ (.bool kept'.val.has)).setCell ⟨kB, 5, none⟩ (.slice A' kept'.val.b.length c')) := by
  have o : Only [kB] wr ((((((wr.setCell ⟨kB, 0, none⟩ (.string kept'.key)).setCell ⟨kB, 1, none⟩ (.int .i64 kept'.tag.seq)).setCell ⟨kB, 2, none⟩ (.int .i64 kept'.tag.who)).setCell ⟨kB, 3, none⟩ (.int .i64 kept'.tag.op)).setCell ⟨kB, 4, none⟩ (.bool kept'.val.has)).setCell ⟨kB, 5, none⟩ (.slice A' kept'.val.b.length c')) := ((((((Only.refl [kB] wr).set (p := ⟨kB, 0, none⟩) _ (.inl (by simp))).set (p := ⟨kB, 1, none⟩) _ (.inl (by simp))).set (p := ⟨kB, 2, none⟩) _ (.inl (by simp))).set (p := ⟨kB, 3, none⟩) _ (.inl (by simp))).set (p := ⟨kB, 4, none⟩) _ (.inl (by simp))).set (p := ⟨kB, 5, none⟩) _ (.inl (by simp))
  obtain ⟨n1, n2, n3⟩ := h.ne
  exact ⟨h.s.setK o ((((((h.s.k.set 0 _).set 1 _).set 2 _).set 3 _).set 4 _).set 5 _) ((((((h.s.kt.set _ _).set _ _).set _ _).set _ _).set _ _).set _ _) hf, h.d.only o (by simp; exact n3), h.dt.only o (by simp; exact n3), h.g⟩
/-- Its cells, as the walk wants them. -/
theorem cells (h : RS w p mb tb bB kB dB T best kept A c x A6 c6 wr) :
    (wr.cell? ⟨dB, 0, none⟩ = some (.int .i64 x.kind) ∧ wr.cell? ⟨dB, 1, none⟩ = some (.string x.e.key) ∧ wr.cell? ⟨dB, 2, none⟩ = some (.int .i64 x.e.tag.seq) ∧ wr.cell? ⟨dB, 3, none⟩ = some (.int .i64 x.e.tag.who) ∧ wr.cell? ⟨dB, 4, none⟩ = some (.int .i64 x.e.tag.op) ∧ wr.cell? ⟨dB, 5, none⟩ = some (.bool x.e.val.has) ∧ wr.cell? ⟨dB, 6, none⟩ = some (.slice A6 x.e.val.b.length c6) ∧ wr.cell? ⟨dB, 7, none⟩ = some (.int .i64 x.token)) ∧
    (wr.cell? ⟨bB, 0, none⟩ = some (.int .i64 best.seq) ∧ wr.cell? ⟨bB, 1, none⟩ = some (.int .i64 best.who) ∧ wr.cell? ⟨bB, 2, none⟩ = some (.int .i64 best.op)) ∧
    (wr.cell? ⟨kB, 0, none⟩ = some (.string kept.key) ∧ wr.cell? ⟨kB, 1, none⟩ = some (.int .i64 kept.tag.seq) ∧ wr.cell? ⟨kB, 2, none⟩ = some (.int .i64 kept.tag.who) ∧ wr.cell? ⟨kB, 3, none⟩ = some (.int .i64 kept.tag.op) ∧ wr.cell? ⟨kB, 4, none⟩ = some (.bool kept.val.has) ∧ wr.cell? ⟨kB, 5, none⟩ = some (.slice A kept.val.b.length c)) :=
  ⟨h.d.eight.1, ⟨h.s.b.cell 0 rfl, h.s.b.cell 1 rfl, h.s.b.cell 2 rfl⟩, h.s.k.six.1⟩
theorem frozen (h : RS w p mb tb bB kB dB T best kept A c x A6 c6 wr) :
    (wr.frozen? ⟨bB, 0, none⟩ = false ∧ wr.frozen? ⟨bB, 1, none⟩ = false ∧ wr.frozen? ⟨bB, 2, none⟩ = false) ∧
    (wr.frozen? ⟨kB, 0, none⟩ = false ∧ wr.frozen? ⟨kB, 1, none⟩ = false ∧ wr.frozen? ⟨kB, 2, none⟩ = false ∧ wr.frozen? ⟨kB, 3, none⟩ = false ∧ wr.frozen? ⟨kB, 4, none⟩ = false ∧ wr.frozen? ⟨kB, 5, none⟩ = false) :=
  ⟨⟨h.s.b.frozen 0 (v := .int .i64 best.seq) rfl, h.s.b.frozen 1 (v := .int .i64 best.who) rfl, h.s.b.frozen 2 (v := .int .i64 best.op) rfl⟩, h.s.k.six.2⟩
end RS
theorem srt_lt {l : List Cell} (hs : Srt l) {i j : Nat} (h : i < j) {a b : Cell} (ha : l[i]? = some a) (hb : l[j]? = some b) : kl a < kl b := by
  obtain ⟨h1, rfl⟩ := List.getElem?_eq_some_iff.1 ha
  obtain ⟨h2, rfl⟩ := List.getElem?_eq_some_iff.1 hb
  exact (List.pairwise_iff_getElem.1 hs) i j h1 h2 h
/-- Element k of a row that lies in ok: its cells, and its entry. -/
theorem cell_atF {w : World} {ok : Nat → Prop} {A : Option Addr} {n : Nat} {xs : List Cell} (h : Kd.F Cell.k w ok A n xs) (k : Nat) (h1 : k < n) : ∃ ad x A5 c5, A = some ad ∧ Aside0 (xs[k]? = some x) ∧ w.cell? (ad.add (k * 9)) = some (.string x.e.key) ∧ w.cell? ⟨(ad.add (k * 9)).block, (ad.add (k * 9)).off + 1, none⟩ = some (.int .i64 x.e.tag.seq) ∧ w.cell? ⟨(ad.add (k * 9)).block, (ad.add (k * 9)).off + 2, none⟩ = some (.int .i64 x.e.tag.who) ∧ w.cell? ⟨(ad.add (k * 9)).block, (ad.add (k * 9)).off + 3, none⟩ = some (.int .i64 x.e.tag.op) ∧ w.cell? ⟨(ad.add (k * 9)).block, (ad.add (k * 9)).off + 4, none⟩ = some (.bool x.e.val.has) ∧ w.cell? ⟨(ad.add (k * 9)).block, (ad.add (k * 9)).off + 5, none⟩ = some (.slice A5 x.e.val.b.length c5) ∧ Aside0 (Kd.FK Entry.k w ok x.e (ecs x.e A5 c5)) ∧ Aside0 (ok ad.block) := by
  have hl : xs.length = n := Kd.F_len h
  obtain ⟨ad, c, e, _, hK, hc0, hok⟩ := Kd.F_get h Cell.z (k : Int) (by omega) (by omega)
  have hc : ∀ j u, c[j]? = some u → w.cell? (ad.add (k * 9 + j)) = some u := hc0
  have hx : xs[k]? = some (xs.getD k Cell.z) := by simp [List.getD_eq_getElem?_getD, show k < xs.length by omega]
  have hK' : Kd.FK Cell.k w ok (xs.getD k Cell.z) c := hK
  generalize xs.getD k Cell.z = x at hK' hx
  obtain ⟨A5, c5, rfl, _⟩ := Cell.open_ (Kd.FK_now hK')
  have hE : Kd.FK Entry.k w ok x.e (ecs x.e A5 c5) := Foot.imp hK' (fun W' hK => by
    obtain ⟨A6, c6, he, s0, r1, r2, r3, l5, g5, r8⟩ := Cell.open_ hK
    simp only [List.cons.injEq, Value.slice.injEq, true_and, and_true] at he
    obtain ⟨rfl, rfl⟩ := he
    exact Entry.mk_ W' x.e s0 r1 r2 r3 l5 g5)
  exact ⟨ad, x, A5, c5, e, ⟨hx⟩, hc 0 _ rfl, by rw [← add_field _ _ 1 (by omega)]; exact hc 1 _ rfl, by rw [← add_field _ _ 2 (by omega)]; exact hc 2 _ rfl, by rw [← add_field _ _ 3 (by omega)]; exact hc 3 _ rfl, by rw [← add_field _ _ 4 (by omega)]; exact hc 4 _ rfl, by rw [← add_field _ _ 5 (by omega)]; exact hc 5 _ rfl, ⟨hE⟩, ⟨hok (by decide)⟩⟩
end Tab
end Go.Proofs.Ytgfjkpnaabiecaa
