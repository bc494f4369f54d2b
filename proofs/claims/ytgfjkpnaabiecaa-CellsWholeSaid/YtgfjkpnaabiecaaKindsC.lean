/- How structs read. (Printed by wip/tools/kinds.py.) -/
import Derived.Test.YtgfjkpnaabiecaaBase
namespace Go.Proofs.Ytgfjkpnaabiecaa
open Go.RowKit Go.Proofs.YtgfjkpnaabiecaaW.PrintWords
/-! ### api.Tag -/
structure Tag where
  seq : Int
  who : Int
  op : Int
def Tag.z : Tag := ⟨(0 : Int), (0 : Int), (0 : Int)⟩
def Tag.k : Kd Tag := Kd.iso (Kd.pair (kInt .i64) (Kd.pair (kInt .i64) (kInt .i64))) (fun x : Tag => (x.seq, x.who, x.op))
theorem Tag.k_sz : Tag.k.sz = 3 := rfl
theorem Tag.open_ {w : World} {x : Tag} {cs : List Value} (h : Tag.k.K w x cs) : cs = [.int .i64 x.seq, .int .i64 x.who, .int .i64 x.op] ∧ InR .i64 x.seq ∧ InR .i64 x.who ∧ InR .i64 x.op := by
  obtain ⟨_, _, rfl, ⟨rfl, r0⟩, ⟨_, _, rfl, ⟨rfl, r1⟩, ⟨rfl, r2⟩⟩⟩ := h
  exact ⟨rfl, r0, r1, r2⟩
theorem Tag.mk_ (w : World) (x : Tag) (r0 : InR .i64 x.seq) (r1 : InR .i64 x.who) (r2 : InR .i64 x.op) : Tag.k.K w x [.int .i64 x.seq, .int .i64 x.who, .int .i64 x.op] := ⟨_, _, rfl, ⟨rfl, r0⟩, ⟨_, _, rfl, ⟨rfl, r1⟩, ⟨rfl, r2⟩⟩⟩
theorem Tag.at_ {w : World} {A : Option Addr} {n : Nat} {xs : List Tag} (h : Tag.k.C w A n xs) (k : Nat) (h1 : k < n) : ∃ ad x , A = some ad ∧ Aside0 (xs[k]? = some x) ∧ w.cell? (ad.add (k * 3)) = some (.int .i64 x.seq) ∧ w.cell? ⟨(ad.add (k * 3)).block, (ad.add (k * 3)).off + 1, none⟩ = some (.int .i64 x.who) ∧ w.cell? ⟨(ad.add (k * 3)).block, (ad.add (k * 3)).off + 2, none⟩ = some (.int .i64 x.op) ∧ Aside0 (Tag.k.K w x [.int .i64 x.seq, .int .i64 x.who, .int .i64 x.op]) := by
  have hl : xs.length = n := h.1
  obtain ⟨ad, c, e, _, hK, hc0⟩ := Kd.C_get h Tag.z (k : Int) (by omega) (by omega)
  have hc : ∀ j u, c[j]? = some u → w.cell? (ad.add (k * 3 + j)) = some u := hc0
  have hx : xs[k]? = some (xs.getD k Tag.z) := by simp [List.getD_eq_getElem?_getD, show k < xs.length by omega]
  have hK' : Tag.k.K w (xs.getD k Tag.z) c := hK
  generalize xs.getD k Tag.z = x at hK' hx
  have hK2 := hK'
  obtain ⟨rfl, r0, r1, r2⟩ := Tag.open_ hK'
  exact ⟨ad, x, e, ⟨hx⟩, hc 0 _ rfl, by rw [← add_field _ _ 1 (by omega)]; exact hc 1 _ rfl, by rw [← add_field _ _ 2 (by omega)]; exact hc 2 _ rfl, ⟨hK2⟩⟩

/-! ### api.Val -/
structure Val where
  has : Bool
  b : (List UInt8)
def Val.z : Val := ⟨false, ([] : List UInt8)⟩
def Val.k : Kd Val := Kd.iso (Kd.pair Kd.bool (Kd.slice 5 kU8)) (fun x : Val => (x.has, x.b))
theorem Val.k_sz : Val.k.sz = 2 := rfl
theorem Val.open_ {w : World} {x : Val} {cs : List Value} (h : Val.k.K w x cs) : ∃ A1 c1, cs = [.bool x.has, .slice A1 x.b.length c1] ∧ x.b.length ≤ c1 ∧ kU8.C w A1 x.b.length x.b := by
  obtain ⟨_, _, rfl, rfl, ⟨A1, c1, rfl, l1, g1⟩⟩ := h
  exact ⟨A1, c1, rfl, l1, g1⟩
theorem Val.mk_ (w : World) (x : Val) {A1 : Option Addr} {c1 : Nat} (l1 : x.b.length ≤ c1) (g1 : kU8.C w A1 x.b.length x.b) : Val.k.K w x [.bool x.has, .slice A1 x.b.length c1] := ⟨_, _, rfl, rfl, ⟨A1, c1, rfl, l1, g1⟩⟩
theorem Val.at_ {w : World} {A : Option Addr} {n : Nat} {xs : List Val} (h : Val.k.C w A n xs) (k : Nat) (h1 : k < n) : ∃ ad x A1 c1, A = some ad ∧ Aside0 (xs[k]? = some x) ∧ w.cell? (ad.add (k * 2)) = some (.bool x.has) ∧ w.cell? ⟨(ad.add (k * 2)).block, (ad.add (k * 2)).off + 1, none⟩ = some (.slice A1 x.b.length c1) ∧ Aside0 (Val.k.K w x [.bool x.has, .slice A1 x.b.length c1]) := by
  have hl : xs.length = n := h.1
  obtain ⟨ad, c, e, _, hK, hc0⟩ := Kd.C_get h Val.z (k : Int) (by omega) (by omega)
  have hc : ∀ j u, c[j]? = some u → w.cell? (ad.add (k * 2 + j)) = some u := hc0
  have hx : xs[k]? = some (xs.getD k Val.z) := by simp [List.getD_eq_getElem?_getD, show k < xs.length by omega]
  have hK' : Val.k.K w (xs.getD k Val.z) c := hK
  generalize xs.getD k Val.z = x at hK' hx
  have hK2 := hK'
  obtain ⟨A1, c1, rfl, l1, g1⟩ := Val.open_ hK'
  exact ⟨ad, x, A1, c1, e, ⟨hx⟩, hc 0 _ rfl, by rw [← add_field _ _ 1 (by omega)]; exact hc 1 _ rfl, ⟨hK2⟩⟩

/-! ### api.Entry -/
structure Entry where
  key : ByteArray
  tag : Tag
  val : Val
def Entry.z : Entry := ⟨ByteArray.empty, Tag.z, Val.z⟩
def Entry.k : Kd Entry := Kd.iso (Kd.pair kStr (Kd.pair Tag.k Val.k)) (fun x : Entry => (x.key, x.tag, x.val))
theorem Entry.k_sz : Entry.k.sz = 6 := rfl
theorem Entry.open_ {w : World} {x : Entry} {cs : List Value} (h : Entry.k.K w x cs) : ∃ A5 c5, cs = [.string x.key, .int .i64 x.tag.seq, .int .i64 x.tag.who, .int .i64 x.tag.op, .bool x.val.has, .slice A5 x.val.b.length c5] ∧ x.key.size ≤ 140737488351232 ∧ InR .i64 x.tag.seq ∧ InR .i64 x.tag.who ∧ InR .i64 x.tag.op ∧ x.val.b.length ≤ c5 ∧ kU8.C w A5 x.val.b.length x.val.b := by
  obtain ⟨_, _, rfl, ⟨rfl, s0⟩, ⟨_, _, rfl, h1, h4⟩⟩ := h
  obtain ⟨rfl, r1, r2, r3⟩ := Tag.open_ h1
  obtain ⟨A5, c5, rfl, l5, g5⟩ := Val.open_ h4
  exact ⟨A5, c5, rfl, s0, r1, r2, r3, l5, g5⟩
theorem Entry.mk_ (w : World) (x : Entry) (s0 : x.key.size ≤ 140737488351232) (r1 : InR .i64 x.tag.seq) (r2 : InR .i64 x.tag.who) (r3 : InR .i64 x.tag.op) {A5 : Option Addr} {c5 : Nat} (l5 : x.val.b.length ≤ c5) (g5 : kU8.C w A5 x.val.b.length x.val.b) : Entry.k.K w x [.string x.key, .int .i64 x.tag.seq, .int .i64 x.tag.who, .int .i64 x.tag.op, .bool x.val.has, .slice A5 x.val.b.length c5] := ⟨_, _, rfl, ⟨rfl, s0⟩, ⟨_, _, rfl, Tag.mk_ w _ r1 r2 r3, (Val.mk_ w _ l5 g5)⟩⟩
theorem Entry.at_ {w : World} {A : Option Addr} {n : Nat} {xs : List Entry} (h : Entry.k.C w A n xs) (k : Nat) (h1 : k < n) : ∃ ad x A5 c5, A = some ad ∧ Aside0 (xs[k]? = some x) ∧ w.cell? (ad.add (k * 6)) = some (.string x.key) ∧ w.cell? ⟨(ad.add (k * 6)).block, (ad.add (k * 6)).off + 1, none⟩ = some (.int .i64 x.tag.seq) ∧ w.cell? ⟨(ad.add (k * 6)).block, (ad.add (k * 6)).off + 2, none⟩ = some (.int .i64 x.tag.who) ∧ w.cell? ⟨(ad.add (k * 6)).block, (ad.add (k * 6)).off + 3, none⟩ = some (.int .i64 x.tag.op) ∧ w.cell? ⟨(ad.add (k * 6)).block, (ad.add (k * 6)).off + 4, none⟩ = some (.bool x.val.has) ∧ w.cell? ⟨(ad.add (k * 6)).block, (ad.add (k * 6)).off + 5, none⟩ = some (.slice A5 x.val.b.length c5) ∧ Aside0 (Entry.k.K w x [.string x.key, .int .i64 x.tag.seq, .int .i64 x.tag.who, .int .i64 x.tag.op, .bool x.val.has, .slice A5 x.val.b.length c5]) := by
  have hl : xs.length = n := h.1
  obtain ⟨ad, c, e, _, hK, hc0⟩ := Kd.C_get h Entry.z (k : Int) (by omega) (by omega)
  have hc : ∀ j u, c[j]? = some u → w.cell? (ad.add (k * 6 + j)) = some u := hc0
  have hx : xs[k]? = some (xs.getD k Entry.z) := by simp [List.getD_eq_getElem?_getD, show k < xs.length by omega]
  have hK' : Entry.k.K w (xs.getD k Entry.z) c := hK
  generalize xs.getD k Entry.z = x at hK' hx
  have hK2 := hK'
  obtain ⟨A5, c5, rfl, s0, r1, r2, r3, l5, g5⟩ := Entry.open_ hK'
  exact ⟨ad, x, A5, c5, e, ⟨hx⟩, hc 0 _ rfl, by rw [← add_field _ _ 1 (by omega)]; exact hc 1 _ rfl, by rw [← add_field _ _ 2 (by omega)]; exact hc 2 _ rfl, by rw [← add_field _ _ 3 (by omega)]; exact hc 3 _ rfl, by rw [← add_field _ _ 4 (by omega)]; exact hc 4 _ rfl, by rw [← add_field _ _ 5 (by omega)]; exact hc 5 _ rfl, ⟨hK2⟩⟩

/-! ### api.Cell -/
structure Cell where
  e : Entry
  whole : Bool
  clean : Bool
  used : Int
def Cell.z : Cell := ⟨Entry.z, false, false, (0 : Int)⟩
def Cell.k : Kd Cell := Kd.iso (Kd.pair Entry.k (Kd.pair Kd.bool (Kd.pair Kd.bool (kInt .i64)))) (fun x : Cell => (x.e, x.whole, x.clean, x.used))
theorem Cell.k_sz : Cell.k.sz = 9 := rfl
theorem Cell.open_ {w : World} {x : Cell} {cs : List Value} (h : Cell.k.K w x cs) : ∃ A5 c5, cs = [.string x.e.key, .int .i64 x.e.tag.seq, .int .i64 x.e.tag.who, .int .i64 x.e.tag.op, .bool x.e.val.has, .slice A5 x.e.val.b.length c5, .bool x.whole, .bool x.clean, .int .i64 x.used] ∧ x.e.key.size ≤ 140737488351232 ∧ InR .i64 x.e.tag.seq ∧ InR .i64 x.e.tag.who ∧ InR .i64 x.e.tag.op ∧ x.e.val.b.length ≤ c5 ∧ kU8.C w A5 x.e.val.b.length x.e.val.b ∧ InR .i64 x.used := by
  obtain ⟨_, _, rfl, h0, ⟨_, _, rfl, rfl, ⟨_, _, rfl, rfl, ⟨rfl, r8⟩⟩⟩⟩ := h
  obtain ⟨A5, c5, rfl, s0, r1, r2, r3, l5, g5⟩ := Entry.open_ h0
  exact ⟨A5, c5, rfl, s0, r1, r2, r3, l5, g5, r8⟩
theorem Cell.mk_ (w : World) (x : Cell) (s0 : x.e.key.size ≤ 140737488351232) (r1 : InR .i64 x.e.tag.seq) (r2 : InR .i64 x.e.tag.who) (r3 : InR .i64 x.e.tag.op) {A5 : Option Addr} {c5 : Nat} (l5 : x.e.val.b.length ≤ c5) (g5 : kU8.C w A5 x.e.val.b.length x.e.val.b) (r8 : InR .i64 x.used) : Cell.k.K w x [.string x.e.key, .int .i64 x.e.tag.seq, .int .i64 x.e.tag.who, .int .i64 x.e.tag.op, .bool x.e.val.has, .slice A5 x.e.val.b.length c5, .bool x.whole, .bool x.clean, .int .i64 x.used] := ⟨_, _, rfl, Entry.mk_ w _ s0 r1 r2 r3 l5 g5, ⟨_, _, rfl, rfl, ⟨_, _, rfl, rfl, ⟨rfl, r8⟩⟩⟩⟩
theorem Cell.at_ {w : World} {A : Option Addr} {n : Nat} {xs : List Cell} (h : Cell.k.C w A n xs) (k : Nat) (h1 : k < n) : ∃ ad x A5 c5, A = some ad ∧ Aside0 (xs[k]? = some x) ∧ w.cell? (ad.add (k * 9)) = some (.string x.e.key) ∧ w.cell? ⟨(ad.add (k * 9)).block, (ad.add (k * 9)).off + 1, none⟩ = some (.int .i64 x.e.tag.seq) ∧ w.cell? ⟨(ad.add (k * 9)).block, (ad.add (k * 9)).off + 2, none⟩ = some (.int .i64 x.e.tag.who) ∧ w.cell? ⟨(ad.add (k * 9)).block, (ad.add (k * 9)).off + 3, none⟩ = some (.int .i64 x.e.tag.op) ∧ w.cell? ⟨(ad.add (k * 9)).block, (ad.add (k * 9)).off + 4, none⟩ = some (.bool x.e.val.has) ∧ w.cell? ⟨(ad.add (k * 9)).block, (ad.add (k * 9)).off + 5, none⟩ = some (.slice A5 x.e.val.b.length c5) ∧ w.cell? ⟨(ad.add (k * 9)).block, (ad.add (k * 9)).off + 6, none⟩ = some (.bool x.whole) ∧ w.cell? ⟨(ad.add (k * 9)).block, (ad.add (k * 9)).off + 7, none⟩ = some (.bool x.clean) ∧ w.cell? ⟨(ad.add (k * 9)).block, (ad.add (k * 9)).off + 8, none⟩ = some (.int .i64 x.used) ∧ Aside0 (Cell.k.K w x [.string x.e.key, .int .i64 x.e.tag.seq, .int .i64 x.e.tag.who, .int .i64 x.e.tag.op, .bool x.e.val.has, .slice A5 x.e.val.b.length c5, .bool x.whole, .bool x.clean, .int .i64 x.used]) := by
  have hl : xs.length = n := h.1
  obtain ⟨ad, c, e, _, hK, hc0⟩ := Kd.C_get h Cell.z (k : Int) (by omega) (by omega)
  have hc : ∀ j u, c[j]? = some u → w.cell? (ad.add (k * 9 + j)) = some u := hc0
  have hx : xs[k]? = some (xs.getD k Cell.z) := by simp [List.getD_eq_getElem?_getD, show k < xs.length by omega]
  have hK' : Cell.k.K w (xs.getD k Cell.z) c := hK
  generalize xs.getD k Cell.z = x at hK' hx
  have hK2 := hK'
  obtain ⟨A5, c5, rfl, s0, r1, r2, r3, l5, g5, r8⟩ := Cell.open_ hK'
  exact ⟨ad, x, A5, c5, e, ⟨hx⟩, hc 0 _ rfl, by rw [← add_field _ _ 1 (by omega)]; exact hc 1 _ rfl, by rw [← add_field _ _ 2 (by omega)]; exact hc 2 _ rfl, by rw [← add_field _ _ 3 (by omega)]; exact hc 3 _ rfl, by rw [← add_field _ _ 4 (by omega)]; exact hc 4 _ rfl, by rw [← add_field _ _ 5 (by omega)]; exact hc 5 _ rfl, by rw [← add_field _ _ 6 (by omega)]; exact hc 6 _ rfl, by rw [← add_field _ _ 7 (by omega)]; exact hc 7 _ rfl, by rw [← add_field _ _ 8 (by omega)]; exact hc 8 _ rfl, ⟨hK2⟩⟩

/-! ### api.Reply -/
structure Reply where
  e : Entry
  whole : Bool
  token : Int
def Reply.z : Reply := ⟨Entry.z, false, (0 : Int)⟩
def Reply.k : Kd Reply := Kd.iso (Kd.pair Entry.k (Kd.pair Kd.bool (kInt .i64))) (fun x : Reply => (x.e, x.whole, x.token))
theorem Reply.k_sz : Reply.k.sz = 8 := rfl
theorem Reply.open_ {w : World} {x : Reply} {cs : List Value} (h : Reply.k.K w x cs) : ∃ A5 c5, cs = [.string x.e.key, .int .i64 x.e.tag.seq, .int .i64 x.e.tag.who, .int .i64 x.e.tag.op, .bool x.e.val.has, .slice A5 x.e.val.b.length c5, .bool x.whole, .int .i64 x.token] ∧ x.e.key.size ≤ 140737488351232 ∧ InR .i64 x.e.tag.seq ∧ InR .i64 x.e.tag.who ∧ InR .i64 x.e.tag.op ∧ x.e.val.b.length ≤ c5 ∧ kU8.C w A5 x.e.val.b.length x.e.val.b ∧ InR .i64 x.token := by
  obtain ⟨_, _, rfl, h0, ⟨_, _, rfl, rfl, ⟨rfl, r7⟩⟩⟩ := h
  obtain ⟨A5, c5, rfl, s0, r1, r2, r3, l5, g5⟩ := Entry.open_ h0
  exact ⟨A5, c5, rfl, s0, r1, r2, r3, l5, g5, r7⟩
theorem Reply.mk_ (w : World) (x : Reply) (s0 : x.e.key.size ≤ 140737488351232) (r1 : InR .i64 x.e.tag.seq) (r2 : InR .i64 x.e.tag.who) (r3 : InR .i64 x.e.tag.op) {A5 : Option Addr} {c5 : Nat} (l5 : x.e.val.b.length ≤ c5) (g5 : kU8.C w A5 x.e.val.b.length x.e.val.b) (r7 : InR .i64 x.token) : Reply.k.K w x [.string x.e.key, .int .i64 x.e.tag.seq, .int .i64 x.e.tag.who, .int .i64 x.e.tag.op, .bool x.e.val.has, .slice A5 x.e.val.b.length c5, .bool x.whole, .int .i64 x.token] := ⟨_, _, rfl, Entry.mk_ w _ s0 r1 r2 r3 l5 g5, ⟨_, _, rfl, rfl, ⟨rfl, r7⟩⟩⟩
theorem Reply.at_ {w : World} {A : Option Addr} {n : Nat} {xs : List Reply} (h : Reply.k.C w A n xs) (k : Nat) (h1 : k < n) : ∃ ad x A5 c5, A = some ad ∧ Aside0 (xs[k]? = some x) ∧ w.cell? (ad.add (k * 8)) = some (.string x.e.key) ∧ w.cell? ⟨(ad.add (k * 8)).block, (ad.add (k * 8)).off + 1, none⟩ = some (.int .i64 x.e.tag.seq) ∧ w.cell? ⟨(ad.add (k * 8)).block, (ad.add (k * 8)).off + 2, none⟩ = some (.int .i64 x.e.tag.who) ∧ w.cell? ⟨(ad.add (k * 8)).block, (ad.add (k * 8)).off + 3, none⟩ = some (.int .i64 x.e.tag.op) ∧ w.cell? ⟨(ad.add (k * 8)).block, (ad.add (k * 8)).off + 4, none⟩ = some (.bool x.e.val.has) ∧ w.cell? ⟨(ad.add (k * 8)).block, (ad.add (k * 8)).off + 5, none⟩ = some (.slice A5 x.e.val.b.length c5) ∧ w.cell? ⟨(ad.add (k * 8)).block, (ad.add (k * 8)).off + 6, none⟩ = some (.bool x.whole) ∧ w.cell? ⟨(ad.add (k * 8)).block, (ad.add (k * 8)).off + 7, none⟩ = some (.int .i64 x.token) ∧ Aside0 (Reply.k.K w x [.string x.e.key, .int .i64 x.e.tag.seq, .int .i64 x.e.tag.who, .int .i64 x.e.tag.op, .bool x.e.val.has, .slice A5 x.e.val.b.length c5, .bool x.whole, .int .i64 x.token]) := by
  have hl : xs.length = n := h.1
  obtain ⟨ad, c, e, _, hK, hc0⟩ := Kd.C_get h Reply.z (k : Int) (by omega) (by omega)
  have hc : ∀ j u, c[j]? = some u → w.cell? (ad.add (k * 8 + j)) = some u := hc0
  have hx : xs[k]? = some (xs.getD k Reply.z) := by simp [List.getD_eq_getElem?_getD, show k < xs.length by omega]
  have hK' : Reply.k.K w (xs.getD k Reply.z) c := hK
  generalize xs.getD k Reply.z = x at hK' hx
  have hK2 := hK'
  obtain ⟨A5, c5, rfl, s0, r1, r2, r3, l5, g5, r7⟩ := Reply.open_ hK'
  exact ⟨ad, x, A5, c5, e, ⟨hx⟩, hc 0 _ rfl, by rw [← add_field _ _ 1 (by omega)]; exact hc 1 _ rfl, by rw [← add_field _ _ 2 (by omega)]; exact hc 2 _ rfl, by rw [← add_field _ _ 3 (by omega)]; exact hc 3 _ rfl, by rw [← add_field _ _ 4 (by omega)]; exact hc 4 _ rfl, by rw [← add_field _ _ 5 (by omega)]; exact hc 5 _ rfl, by rw [← add_field _ _ 6 (by omega)]; exact hc 6 _ rfl, by rw [← add_field _ _ 7 (by omega)]; exact hc 7 _ rfl, ⟨hK2⟩⟩

/-! ### api.Room -/
structure Room where
  cells : Int
  bytes : Int
  buckets : Int
  fresh : Bool
def Room.z : Room := ⟨(0 : Int), (0 : Int), (0 : Int), false⟩
def Room.k : Kd Room := Kd.iso (Kd.pair (kInt .i64) (Kd.pair (kInt .i64) (Kd.pair (kInt .i64) Kd.bool))) (fun x : Room => (x.cells, x.bytes, x.buckets, x.fresh))
theorem Room.k_sz : Room.k.sz = 4 := rfl
theorem Room.open_ {w : World} {x : Room} {cs : List Value} (h : Room.k.K w x cs) : cs = [.int .i64 x.cells, .int .i64 x.bytes, .int .i64 x.buckets, .bool x.fresh] ∧ InR .i64 x.cells ∧ InR .i64 x.bytes ∧ InR .i64 x.buckets := by
  obtain ⟨_, _, rfl, ⟨rfl, r0⟩, ⟨_, _, rfl, ⟨rfl, r1⟩, ⟨_, _, rfl, ⟨rfl, r2⟩, rfl⟩⟩⟩ := h
  exact ⟨rfl, r0, r1, r2⟩
theorem Room.mk_ (w : World) (x : Room) (r0 : InR .i64 x.cells) (r1 : InR .i64 x.bytes) (r2 : InR .i64 x.buckets) : Room.k.K w x [.int .i64 x.cells, .int .i64 x.bytes, .int .i64 x.buckets, .bool x.fresh] := ⟨_, _, rfl, ⟨rfl, r0⟩, ⟨_, _, rfl, ⟨rfl, r1⟩, ⟨_, _, rfl, ⟨rfl, r2⟩, rfl⟩⟩⟩
theorem Room.at_ {w : World} {A : Option Addr} {n : Nat} {xs : List Room} (h : Room.k.C w A n xs) (k : Nat) (h1 : k < n) : ∃ ad x , A = some ad ∧ Aside0 (xs[k]? = some x) ∧ w.cell? (ad.add (k * 4)) = some (.int .i64 x.cells) ∧ w.cell? ⟨(ad.add (k * 4)).block, (ad.add (k * 4)).off + 1, none⟩ = some (.int .i64 x.bytes) ∧ w.cell? ⟨(ad.add (k * 4)).block, (ad.add (k * 4)).off + 2, none⟩ = some (.int .i64 x.buckets) ∧ w.cell? ⟨(ad.add (k * 4)).block, (ad.add (k * 4)).off + 3, none⟩ = some (.bool x.fresh) ∧ Aside0 (Room.k.K w x [.int .i64 x.cells, .int .i64 x.bytes, .int .i64 x.buckets, .bool x.fresh]) := by
  have hl : xs.length = n := h.1
  obtain ⟨ad, c, e, _, hK, hc0⟩ := Kd.C_get h Room.z (k : Int) (by omega) (by omega)
  have hc : ∀ j u, c[j]? = some u → w.cell? (ad.add (k * 4 + j)) = some u := hc0
  have hx : xs[k]? = some (xs.getD k Room.z) := by simp [List.getD_eq_getElem?_getD, show k < xs.length by omega]
  have hK' : Room.k.K w (xs.getD k Room.z) c := hK
  generalize xs.getD k Room.z = x at hK' hx
  have hK2 := hK'
  obtain ⟨rfl, r0, r1, r2⟩ := Room.open_ hK'
  exact ⟨ad, x, e, ⟨hx⟩, hc 0 _ rfl, by rw [← add_field _ _ 1 (by omega)]; exact hc 1 _ rfl, by rw [← add_field _ _ 2 (by omega)]; exact hc 2 _ rfl, by rw [← add_field _ _ 3 (by omega)]; exact hc 3 _ rfl, ⟨hK2⟩⟩

/-! ### icehouseref11.Do -/
structure Do where
  kind : Int
  e : Entry
  token : Int
def Do.z : Do := ⟨(0 : Int), Entry.z, (0 : Int)⟩
def Do.k : Kd Do := Kd.iso (Kd.pair (kInt .i64) (Kd.pair Entry.k (kInt .i64))) (fun x : Do => (x.kind, x.e, x.token))
theorem Do.k_sz : Do.k.sz = 8 := rfl
theorem Do.open_ {w : World} {x : Do} {cs : List Value} (h : Do.k.K w x cs) : ∃ A6 c6, cs = [.int .i64 x.kind, .string x.e.key, .int .i64 x.e.tag.seq, .int .i64 x.e.tag.who, .int .i64 x.e.tag.op, .bool x.e.val.has, .slice A6 x.e.val.b.length c6, .int .i64 x.token] ∧ InR .i64 x.kind ∧ x.e.key.size ≤ 140737488351232 ∧ InR .i64 x.e.tag.seq ∧ InR .i64 x.e.tag.who ∧ InR .i64 x.e.tag.op ∧ x.e.val.b.length ≤ c6 ∧ kU8.C w A6 x.e.val.b.length x.e.val.b ∧ InR .i64 x.token := by
  obtain ⟨_, _, rfl, ⟨rfl, r0⟩, ⟨_, _, rfl, h1, ⟨rfl, r7⟩⟩⟩ := h
  obtain ⟨A6, c6, rfl, s1, r2, r3, r4, l6, g6⟩ := Entry.open_ h1
  exact ⟨A6, c6, rfl, r0, s1, r2, r3, r4, l6, g6, r7⟩
theorem Do.mk_ (w : World) (x : Do) (r0 : InR .i64 x.kind) (s1 : x.e.key.size ≤ 140737488351232) (r2 : InR .i64 x.e.tag.seq) (r3 : InR .i64 x.e.tag.who) (r4 : InR .i64 x.e.tag.op) {A6 : Option Addr} {c6 : Nat} (l6 : x.e.val.b.length ≤ c6) (g6 : kU8.C w A6 x.e.val.b.length x.e.val.b) (r7 : InR .i64 x.token) : Do.k.K w x [.int .i64 x.kind, .string x.e.key, .int .i64 x.e.tag.seq, .int .i64 x.e.tag.who, .int .i64 x.e.tag.op, .bool x.e.val.has, .slice A6 x.e.val.b.length c6, .int .i64 x.token] := ⟨_, _, rfl, ⟨rfl, r0⟩, ⟨_, _, rfl, Entry.mk_ w _ s1 r2 r3 r4 l6 g6, ⟨rfl, r7⟩⟩⟩
theorem Do.at_ {w : World} {A : Option Addr} {n : Nat} {xs : List Do} (h : Do.k.C w A n xs) (k : Nat) (h1 : k < n) : ∃ ad x A6 c6, A = some ad ∧ Aside0 (xs[k]? = some x) ∧ w.cell? (ad.add (k * 8)) = some (.int .i64 x.kind) ∧ w.cell? ⟨(ad.add (k * 8)).block, (ad.add (k * 8)).off + 1, none⟩ = some (.string x.e.key) ∧ w.cell? ⟨(ad.add (k * 8)).block, (ad.add (k * 8)).off + 2, none⟩ = some (.int .i64 x.e.tag.seq) ∧ w.cell? ⟨(ad.add (k * 8)).block, (ad.add (k * 8)).off + 3, none⟩ = some (.int .i64 x.e.tag.who) ∧ w.cell? ⟨(ad.add (k * 8)).block, (ad.add (k * 8)).off + 4, none⟩ = some (.int .i64 x.e.tag.op) ∧ w.cell? ⟨(ad.add (k * 8)).block, (ad.add (k * 8)).off + 5, none⟩ = some (.bool x.e.val.has) ∧ w.cell? ⟨(ad.add (k * 8)).block, (ad.add (k * 8)).off + 6, none⟩ = some (.slice A6 x.e.val.b.length c6) ∧ w.cell? ⟨(ad.add (k * 8)).block, (ad.add (k * 8)).off + 7, none⟩ = some (.int .i64 x.token) ∧ Aside0 (Do.k.K w x [.int .i64 x.kind, .string x.e.key, .int .i64 x.e.tag.seq, .int .i64 x.e.tag.who, .int .i64 x.e.tag.op, .bool x.e.val.has, .slice A6 x.e.val.b.length c6, .int .i64 x.token]) := by
  have hl : xs.length = n := h.1
  obtain ⟨ad, c, e, _, hK, hc0⟩ := Kd.C_get h Do.z (k : Int) (by omega) (by omega)
  have hc : ∀ j u, c[j]? = some u → w.cell? (ad.add (k * 8 + j)) = some u := hc0
  have hx : xs[k]? = some (xs.getD k Do.z) := by simp [List.getD_eq_getElem?_getD, show k < xs.length by omega]
  have hK' : Do.k.K w (xs.getD k Do.z) c := hK
  generalize xs.getD k Do.z = x at hK' hx
  have hK2 := hK'
  obtain ⟨A6, c6, rfl, r0, s1, r2, r3, r4, l6, g6, r7⟩ := Do.open_ hK'
  exact ⟨ad, x, A6, c6, e, ⟨hx⟩, hc 0 _ rfl, by rw [← add_field _ _ 1 (by omega)]; exact hc 1 _ rfl, by rw [← add_field _ _ 2 (by omega)]; exact hc 2 _ rfl, by rw [← add_field _ _ 3 (by omega)]; exact hc 3 _ rfl, by rw [← add_field _ _ 4 (by omega)]; exact hc 4 _ rfl, by rw [← add_field _ _ 5 (by omega)]; exact hc 5 _ rfl, by rw [← add_field _ _ 6 (by omega)]; exact hc 6 _ rfl, by rw [← add_field _ _ 7 (by omega)]; exact hc 7 _ rfl, ⟨hK2⟩⟩

end Go.Proofs.Ytgfjkpnaabiecaa
