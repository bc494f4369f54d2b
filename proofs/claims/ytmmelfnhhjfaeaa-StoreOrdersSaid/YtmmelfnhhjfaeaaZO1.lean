/- Lemmas for the row (words on memory, contracts of the program's functions): Base, KindsC, App, Copy, Blk, Maps, Frame, Tags, Hash, PackM, Grow, Grow2, Grow3, PackA. -/
import Derived.Test.YtmmelfnhhjfaeaaWMore
import Derived.Test.YtmmelfnhhjfaeaaProg
import Derived.OpenShut
import Derived.WalkSpells
import Derived.Maps.Own
import Derived.Maps.OwnOps
import Derived.Maps.OwnSet
import Derived.StillTailTactics
import Derived.Laws.Bits64
import Derived.IntWalk
import Derived.Laws.OwnMore
namespace Go.Proofs.Ytmmelfnhhjfaeaa
open Go.RowKit Go.Proofs.YtmmelfnhhjfaeaaW.PrintWords
/-- A number is one of its kind. -/
def InR (k : IntKind) (x : Int) : Prop := (Lit.int k x).wf = true
theorem InR.i64 {x : Int} (h : InR .i64 x) : -9223372036854775808 ≤ x ∧ x ≤ 9223372036854775807 := _root_.Go.bounds_i64 h
theorem InR.mk64 {x : Int} (h0 : -9223372036854775808 ≤ x) (h1 : x ≤ 9223372036854775807) : InR .i64 x := WalkArith.wf_i64 (by omega)
/-- A scalar with a condition. -/
def scalarP {α : Type} (enc : α → Value) (ok : α → Prop) (h1 : ∀ x, (enc x).oneCell' = true) : Kd α where
  sz := 1
  E := []
  K := fun _ x cs => cs = [enc x] ∧ ok x
  M := fun _ _ _ x cs => cs = [enc x] ∧ ok x
  K_len := fun h => by rw [h.1]; rfl
  K_one := fun h u hu => by
    rw [h.1] at hu
    rw [List.mem_singleton.1 hu]
    exact h1 _
  K_below := fun _ h => h
  K_of_M := fun h => h
  M_mono := fun _ h => h
  M_bound := fun h => h
  M_move := fun _ h => h
  M_lower := fun _ h => h
def kU8 : Kd UInt8 := Kd.scalar (fun x : UInt8 => Value.int .u8 (x.toNat : Int)) (fun _ => rfl)
def kInt (k : IntKind) : Kd Int := scalarP (Value.int k) (InR k) (fun _ => rfl)
def kStr : Kd ByteArray := scalarP Value.string (fun s => s.size ≤ 140737488351232) (fun _ => rfl)
theorem bcell {W w1 : World} (hb : Below W.heap.size W w1) : (∀ b o, b < W.heap.size → w1.cell? ⟨b, o, none⟩ = W.cell? ⟨b, o, none⟩) ∧ (∀ b o, b < W.heap.size → w1.frozen? ⟨b, o, none⟩ = W.frozen? ⟨b, o, none⟩) :=
  ⟨fun b o h => hb.cell (p := ⟨b, o, none⟩) h, fun b o h => hb.frozen (p := ⟨b, o, none⟩) h⟩
theorem Below.then_ {B : Nat} {w w1 w2 : World} (h : Below B w w1) (k : Below w1.heap.size w1 w2) (hB : B ≤ w.heap.size) : Below B w w2 := h.trans (k.mono (Nat.le_trans hB h.size))
theorem cell_new (w : World) (cs : Array Value) (t : TypeId) (fr : Nat × Nat) (i : Nat) (v : Value) (h : cs[i]? = some v) : (w.alloc (.cells cs t fr)).cell? ⟨w.heap.size, i, none⟩ = some v := by
  unfold World.cell?
  rw [heap_alloc_new]
  simp [h]
theorem cell_new2 (w : World) (o : Obj) (cs : Array Value) (t : TypeId) (fr : Nat × Nat) (i : Nat) (v : Value) (h : cs[i]? = some v) : ((w.alloc o).alloc (.cells cs t fr)).cell? ⟨w.heap.size + 1, i, none⟩ = some v := by
  have := cell_new (w.alloc o) cs t fr i v h
  simpa using this
theorem cell_alloc {w : World} {a : Addr} {v : Value} (h : w.cell? a = some v) : ∀ o, (w.alloc o).cell? a = some v := fun o => pw_cell_below (below_alloc (Below.refl _ _) o) h
/-- Bytes, as the kit's whole numbers. -/
theorem kU8_nums {w : World} {A : Option Addr} {n : Nat} {xs : List UInt8} (h : kU8.C w A n xs) : (Kd.int .u8).C w A n (xs.map fun x => (x.toNat : Int)) := by
  obtain ⟨h1, h2, h3⟩ := h
  refine ⟨by simpa using h1, h2, fun hn => ?_⟩
  obtain ⟨ad, e, hc⟩ := h3 hn
  refine ⟨ad, e, fun j p hj => ?_⟩
  rw [List.getElem?_map] at hj
  obtain ⟨q, hq, rfl⟩ := Option.map_eq_some_iff.1 hj
  exact hc j q hq
theorem strOfNums_map (xs : List UInt8) : strOfNums (xs.map fun x => (x.toNat : Int)) = ⟨xs.toArray⟩ := by
  unfold strOfNums
  congr 1
  have : ∀ x : UInt8, ((fun n : Int => UInt8.ofNat n.toNat) ∘ fun x : UInt8 => (x.toNat : Int)) x = x := fun x => by simp
  simp [funext this]
/-- string(b). -/
theorem conv_bytes {w : World} {src dst e : TypeId} {A : Option Addr} {n c : Nat} {xs : List UInt8} (hs : Try.prog.underlying src = some (.slice e)) (he : Try.prog.underlying e = some (.int .u8)) (hd : Try.prog.underlying dst = some .string)
    (h : kU8.C w A n xs) : (convert src dst (.slice A n c)).run Try.prog w = .ok (.string ⟨xs.toArray⟩) w := by
  rw [Kd.C_string hs he hd (kU8_nums h), strOfNums_map]
end Go.Proofs.Ytmmelfnhhjfaeaa
namespace Go.Proofs.Ytmmelfnhhjfaeaa
open Go.RowKit Go.Proofs.YtmmelfnhhjfaeaaW.PrintWords
/-! ### api.Tag -/
structure Tag where
  seq : Int
  who : Int
  op : Int
def Tag.z : Tag := ⟨(0 : Int), (0 : Int), (0 : Int)⟩
def Tag.k : Kd Tag := Kd.iso (Kd.pair (kInt .i64) (Kd.pair (kInt .i64) (kInt .i64))) (fun x : Tag => (x.seq, x.who, x.op))
theorem Tag.k_sz : Tag.k.sz = 3 := rfl
theorem Tag.open_ {w : World} {x : Tag} {cs : List Value} (h : Tag.k.K w x cs) : cs = [.int .i64 x.seq, .int .i64 x.who, .int .i64 x.op] ∧ InR .i64 x.seq ∧ InR .i64 x.who ∧ InR .i64 x.op := by
  obtain ⟨_, _, rfl, ⟨rfl, r0⟩, ⟨_, _, rfl, ⟨rfl, r1⟩, ⟨rfl, r2⟩⟩⟩ := h
  exact ⟨rfl, r0, r1, r2⟩
theorem Tag.mk_ (w : World) (x : Tag) (r0 : InR .i64 x.seq) (r1 : InR .i64 x.who) (r2 : InR .i64 x.op) : Tag.k.K w x [.int .i64 x.seq, .int .i64 x.who, .int .i64 x.op] := ⟨_, _, rfl, ⟨rfl, r0⟩, ⟨_, _, rfl, ⟨rfl, r1⟩, ⟨rfl, r2⟩⟩⟩
theorem Tag.at_ {w : World} {A : Option Addr} {n : Nat} {xs : List Tag} (h : Tag.k.C w A n xs) (k : Nat) (h1 : k < n) : ∃ ad x , A = some ad ∧ Aside0 (xs[k]? = some x) ∧ w.cell? (ad.add (k * 3)) = some (.int .i64 x.seq) ∧ w.cell? ⟨(ad.add (k * 3)).block, (ad.add (k * 3)).off + 1, none⟩ = some (.int .i64 x.who) ∧ w.cell? ⟨(ad.add (k * 3)).block, (ad.add (k * 3)).off + 2, none⟩ = some (.int .i64 x.op) ∧ Aside0 (Tag.k.K w x [.int .i64 x.seq, .int .i64 x.who, .int .i64 x.op]) := by
  have hl : xs.length = n := h.1
  obtain ⟨ad, c, e, _, hK, hc0⟩ := Kd.C_get h Tag.z (k : Int) (by omega) (by omega)
  have hc : ∀ j u, c[j]? = some u → w.cell? (ad.add (k * 3 + j)) = some u := hc0
  have hx : xs[k]? = some (xs.getD k Tag.z) := by simp [List.getD_eq_getElem?_getD, show k < xs.length by omega]
  have hK' : Tag.k.K w (xs.getD k Tag.z) c := hK
  generalize xs.getD k Tag.z = x at hK' hx
  have hK2 := hK'
  obtain ⟨rfl, r0, r1, r2⟩ := Tag.open_ hK'
  exact ⟨ad, x, e, ⟨hx⟩, hc 0 _ rfl, by rw [← add_field _ _ 1 (by omega)]; exact hc 1 _ rfl, by rw [← add_field _ _ 2 (by omega)]; exact hc 2 _ rfl, ⟨hK2⟩⟩

/-! ### api.Val -/
structure Val where
  has : Bool
  b : (List UInt8)
def Val.z : Val := ⟨false, ([] : List UInt8)⟩
def Val.k : Kd Val := Kd.iso (Kd.pair Kd.bool (Kd.slice 5 kU8)) (fun x : Val => (x.has, x.b))
theorem Val.k_sz : Val.k.sz = 2 := rfl
theorem Val.open_ {w : World} {x : Val} {cs : List Value} (h : Val.k.K w x cs) : ∃ A1 c1, cs = [.bool x.has, .slice A1 x.b.length c1] ∧ x.b.length ≤ c1 ∧ kU8.C w A1 x.b.length x.b := by
  obtain ⟨_, _, rfl, rfl, ⟨A1, c1, rfl, l1, g1⟩⟩ := h
  exact ⟨A1, c1, rfl, l1, g1⟩
theorem Val.mk_ (w : World) (x : Val) {A1 : Option Addr} {c1 : Nat} (l1 : x.b.length ≤ c1) (g1 : kU8.C w A1 x.b.length x.b) : Val.k.K w x [.bool x.has, .slice A1 x.b.length c1] := ⟨_, _, rfl, rfl, ⟨A1, c1, rfl, l1, g1⟩⟩
theorem Val.at_ {w : World} {A : Option Addr} {n : Nat} {xs : List Val} (h : Val.k.C w A n xs) (k : Nat) (h1 : k < n) : ∃ ad x A1 c1, A = some ad ∧ Aside0 (xs[k]? = some x) ∧ w.cell? (ad.add (k * 2)) = some (.bool x.has) ∧ w.cell? ⟨(ad.add (k * 2)).block, (ad.add (k * 2)).off + 1, none⟩ = some (.slice A1 x.b.length c1) ∧ Aside0 (Val.k.K w x [.bool x.has, .slice A1 x.b.length c1]) := by
  have hl : xs.length = n := h.1
  obtain ⟨ad, c, e, _, hK, hc0⟩ := Kd.C_get h Val.z (k : Int) (by omega) (by omega)
  have hc : ∀ j u, c[j]? = some u → w.cell? (ad.add (k * 2 + j)) = some u := hc0
  have hx : xs[k]? = some (xs.getD k Val.z) := by simp [List.getD_eq_getElem?_getD, show k < xs.length by omega]
  have hK' : Val.k.K w (xs.getD k Val.z) c := hK
  generalize xs.getD k Val.z = x at hK' hx
  have hK2 := hK'
  obtain ⟨A1, c1, rfl, l1, g1⟩ := Val.open_ hK'
  exact ⟨ad, x, A1, c1, e, ⟨hx⟩, hc 0 _ rfl, by rw [← add_field _ _ 1 (by omega)]; exact hc 1 _ rfl, ⟨hK2⟩⟩

/-! ### api.Entry -/
structure Entry where
  key : ByteArray
  tag : Tag
  val : Val
def Entry.z : Entry := ⟨ByteArray.empty, Tag.z, Val.z⟩
def Entry.k : Kd Entry := Kd.iso (Kd.pair kStr (Kd.pair Tag.k Val.k)) (fun x : Entry => (x.key, x.tag, x.val))
theorem Entry.k_sz : Entry.k.sz = 6 := rfl
theorem Entry.open_ {w : World} {x : Entry} {cs : List Value} (h : Entry.k.K w x cs) : ∃ A5 c5, cs = [.string x.key, .int .i64 x.tag.seq, .int .i64 x.tag.who, .int .i64 x.tag.op, .bool x.val.has, .slice A5 x.val.b.length c5] ∧ x.key.size ≤ 140737488351232 ∧ InR .i64 x.tag.seq ∧ InR .i64 x.tag.who ∧ InR .i64 x.tag.op ∧ x.val.b.length ≤ c5 ∧ kU8.C w A5 x.val.b.length x.val.b := by
  obtain ⟨_, _, rfl, ⟨rfl, s0⟩, ⟨_, _, rfl, h1, h4⟩⟩ := h
  obtain ⟨rfl, r1, r2, r3⟩ := Tag.open_ h1
  obtain ⟨A5, c5, rfl, l5, g5⟩ := Val.open_ h4
  exact ⟨A5, c5, rfl, s0, r1, r2, r3, l5, g5⟩
theorem Entry.mk_ (w : World) (x : Entry) (s0 : x.key.size ≤ 140737488351232) (r1 : InR .i64 x.tag.seq) (r2 : InR .i64 x.tag.who) (r3 : InR .i64 x.tag.op) {A5 : Option Addr} {c5 : Nat} (l5 : x.val.b.length ≤ c5) (g5 : kU8.C w A5 x.val.b.length x.val.b) : Entry.k.K w x [.string x.key, .int .i64 x.tag.seq, .int .i64 x.tag.who, .int .i64 x.tag.op, .bool x.val.has, .slice A5 x.val.b.length c5] := ⟨_, _, rfl, ⟨rfl, s0⟩, ⟨_, _, rfl, Tag.mk_ w _ r1 r2 r3, (Val.mk_ w _ l5 g5)⟩⟩
theorem Entry.at_ {w : World} {A : Option Addr} {n : Nat} {xs : List Entry} (h : Entry.k.C w A n xs) (k : Nat) (h1 : k < n) : ∃ ad x A5 c5, A = some ad ∧ Aside0 (xs[k]? = some x) ∧ w.cell? (ad.add (k * 6)) = some (.string x.key) ∧ w.cell? ⟨(ad.add (k * 6)).block, (ad.add (k * 6)).off + 1, none⟩ = some (.int .i64 x.tag.seq) ∧ w.cell? ⟨(ad.add (k * 6)).block, (ad.add (k * 6)).off + 2, none⟩ = some (.int .i64 x.tag.who) ∧ w.cell? ⟨(ad.add (k * 6)).block, (ad.add (k * 6)).off + 3, none⟩ = some (.int .i64 x.tag.op) ∧ w.cell? ⟨(ad.add (k * 6)).block, (ad.add (k * 6)).off + 4, none⟩ = some (.bool x.val.has) ∧ w.cell? ⟨(ad.add (k * 6)).block, (ad.add (k * 6)).off + 5, none⟩ = some (.slice A5 x.val.b.length c5) ∧ Aside0 (Entry.k.K w x [.string x.key, .int .i64 x.tag.seq, .int .i64 x.tag.who, .int .i64 x.tag.op, .bool x.val.has, .slice A5 x.val.b.length c5]) := by
  have hl : xs.length = n := h.1
  obtain ⟨ad, c, e, _, hK, hc0⟩ := Kd.C_get h Entry.z (k : Int) (by omega) (by omega)
  have hc : ∀ j u, c[j]? = some u → w.cell? (ad.add (k * 6 + j)) = some u := hc0
  have hx : xs[k]? = some (xs.getD k Entry.z) := by simp [List.getD_eq_getElem?_getD, show k < xs.length by omega]
  have hK' : Entry.k.K w (xs.getD k Entry.z) c := hK
  generalize xs.getD k Entry.z = x at hK' hx
  have hK2 := hK'
  obtain ⟨A5, c5, rfl, s0, r1, r2, r3, l5, g5⟩ := Entry.open_ hK'
  exact ⟨ad, x, A5, c5, e, ⟨hx⟩, hc 0 _ rfl, by rw [← add_field _ _ 1 (by omega)]; exact hc 1 _ rfl, by rw [← add_field _ _ 2 (by omega)]; exact hc 2 _ rfl, by rw [← add_field _ _ 3 (by omega)]; exact hc 3 _ rfl, by rw [← add_field _ _ 4 (by omega)]; exact hc 4 _ rfl, by rw [← add_field _ _ 5 (by omega)]; exact hc 5 _ rfl, ⟨hK2⟩⟩

/-! ### api.Record -/
structure Record where
  kind : UInt8
  b : (List UInt8)
def Record.z : Record := ⟨0, ([] : List UInt8)⟩
def Record.k : Kd Record := Kd.iso (Kd.pair kU8 (Kd.slice 5 kU8)) (fun x : Record => (x.kind, x.b))
theorem Record.k_sz : Record.k.sz = 2 := rfl
theorem Record.open_ {w : World} {x : Record} {cs : List Value} (h : Record.k.K w x cs) : ∃ A1 c1, cs = [.int .u8 (x.kind.toNat : Int), .slice A1 x.b.length c1] ∧ x.b.length ≤ c1 ∧ kU8.C w A1 x.b.length x.b := by
  obtain ⟨_, _, rfl, rfl, ⟨A1, c1, rfl, l1, g1⟩⟩ := h
  exact ⟨A1, c1, rfl, l1, g1⟩
theorem Record.mk_ (w : World) (x : Record) {A1 : Option Addr} {c1 : Nat} (l1 : x.b.length ≤ c1) (g1 : kU8.C w A1 x.b.length x.b) : Record.k.K w x [.int .u8 (x.kind.toNat : Int), .slice A1 x.b.length c1] := ⟨_, _, rfl, rfl, ⟨A1, c1, rfl, l1, g1⟩⟩
theorem Record.at_ {w : World} {A : Option Addr} {n : Nat} {xs : List Record} (h : Record.k.C w A n xs) (k : Nat) (h1 : k < n) : ∃ ad x A1 c1, A = some ad ∧ Aside0 (xs[k]? = some x) ∧ w.cell? (ad.add (k * 2)) = some (.int .u8 (x.kind.toNat : Int)) ∧ w.cell? ⟨(ad.add (k * 2)).block, (ad.add (k * 2)).off + 1, none⟩ = some (.slice A1 x.b.length c1) ∧ Aside0 (Record.k.K w x [.int .u8 (x.kind.toNat : Int), .slice A1 x.b.length c1]) := by
  have hl : xs.length = n := h.1
  obtain ⟨ad, c, e, _, hK, hc0⟩ := Kd.C_get h Record.z (k : Int) (by omega) (by omega)
  have hc : ∀ j u, c[j]? = some u → w.cell? (ad.add (k * 2 + j)) = some u := hc0
  have hx : xs[k]? = some (xs.getD k Record.z) := by simp [List.getD_eq_getElem?_getD, show k < xs.length by omega]
  have hK' : Record.k.K w (xs.getD k Record.z) c := hK
  generalize xs.getD k Record.z = x at hK' hx
  have hK2 := hK'
  obtain ⟨A1, c1, rfl, l1, g1⟩ := Record.open_ hK'
  exact ⟨ad, x, A1, c1, e, ⟨hx⟩, hc 0 _ rfl, by rw [← add_field _ _ 1 (by omega)]; exact hc 1 _ rfl, ⟨hK2⟩⟩

/-! ### api.Ack -/
structure Ack where
  who : Int
  key : ByteArray
  tag : Tag
def Ack.z : Ack := ⟨(0 : Int), ByteArray.empty, Tag.z⟩
def Ack.k : Kd Ack := Kd.iso (Kd.pair (kInt .i64) (Kd.pair kStr Tag.k)) (fun x : Ack => (x.who, x.key, x.tag))
theorem Ack.k_sz : Ack.k.sz = 5 := rfl
theorem Ack.open_ {w : World} {x : Ack} {cs : List Value} (h : Ack.k.K w x cs) : cs = [.int .i64 x.who, .string x.key, .int .i64 x.tag.seq, .int .i64 x.tag.who, .int .i64 x.tag.op] ∧ InR .i64 x.who ∧ x.key.size ≤ 140737488351232 ∧ InR .i64 x.tag.seq ∧ InR .i64 x.tag.who ∧ InR .i64 x.tag.op := by
  obtain ⟨_, _, rfl, ⟨rfl, r0⟩, ⟨_, _, rfl, ⟨rfl, s1⟩, h2⟩⟩ := h
  obtain ⟨rfl, r2, r3, r4⟩ := Tag.open_ h2
  exact ⟨rfl, r0, s1, r2, r3, r4⟩
theorem Ack.mk_ (w : World) (x : Ack) (r0 : InR .i64 x.who) (s1 : x.key.size ≤ 140737488351232) (r2 : InR .i64 x.tag.seq) (r3 : InR .i64 x.tag.who) (r4 : InR .i64 x.tag.op) : Ack.k.K w x [.int .i64 x.who, .string x.key, .int .i64 x.tag.seq, .int .i64 x.tag.who, .int .i64 x.tag.op] := ⟨_, _, rfl, ⟨rfl, r0⟩, ⟨_, _, rfl, ⟨rfl, s1⟩, (Tag.mk_ w _ r2 r3 r4)⟩⟩
theorem Ack.at_ {w : World} {A : Option Addr} {n : Nat} {xs : List Ack} (h : Ack.k.C w A n xs) (k : Nat) (h1 : k < n) : ∃ ad x , A = some ad ∧ Aside0 (xs[k]? = some x) ∧ w.cell? (ad.add (k * 5)) = some (.int .i64 x.who) ∧ w.cell? ⟨(ad.add (k * 5)).block, (ad.add (k * 5)).off + 1, none⟩ = some (.string x.key) ∧ w.cell? ⟨(ad.add (k * 5)).block, (ad.add (k * 5)).off + 2, none⟩ = some (.int .i64 x.tag.seq) ∧ w.cell? ⟨(ad.add (k * 5)).block, (ad.add (k * 5)).off + 3, none⟩ = some (.int .i64 x.tag.who) ∧ w.cell? ⟨(ad.add (k * 5)).block, (ad.add (k * 5)).off + 4, none⟩ = some (.int .i64 x.tag.op) ∧ Aside0 (Ack.k.K w x [.int .i64 x.who, .string x.key, .int .i64 x.tag.seq, .int .i64 x.tag.who, .int .i64 x.tag.op]) := by
  have hl : xs.length = n := h.1
  obtain ⟨ad, c, e, _, hK, hc0⟩ := Kd.C_get h Ack.z (k : Int) (by omega) (by omega)
  have hc : ∀ j u, c[j]? = some u → w.cell? (ad.add (k * 5 + j)) = some u := hc0
  have hx : xs[k]? = some (xs.getD k Ack.z) := by simp [List.getD_eq_getElem?_getD, show k < xs.length by omega]
  have hK' : Ack.k.K w (xs.getD k Ack.z) c := hK
  generalize xs.getD k Ack.z = x at hK' hx
  have hK2 := hK'
  obtain ⟨rfl, r0, s1, r2, r3, r4⟩ := Ack.open_ hK'
  exact ⟨ad, x, e, ⟨hx⟩, hc 0 _ rfl, by rw [← add_field _ _ 1 (by omega)]; exact hc 1 _ rfl, by rw [← add_field _ _ 2 (by omega)]; exact hc 2 _ rfl, by rw [← add_field _ _ 3 (by omega)]; exact hc 3 _ rfl, by rw [← add_field _ _ 4 (by omega)]; exact hc 4 _ rfl, ⟨hK2⟩⟩

end Go.Proofs.Ytmmelfnhhjfaeaa
namespace Go.Proofs.Ytmmelfnhhjfaeaa
open Go.RowKit Go.Proofs.YtmmelfnhhjfaeaaW.PrintWords
theorem OwnRow.base_ {α : Type} {R : α → List Value → Prop} {e : TypeId} {size : Nat} {w : World} {base : Nat} {v : Value} {ps : List α} (h : OwnRow R e size w base v ps) : ∀ k, v.ownBlock = some k → base ≤ k := by
  obtain ⟨inner, ho, _⟩ := h
  exact own_base ho
section
variable {P : Program} {ops : Array Oper} {rest : List Oper} {o : Oper} {a : Act} {Q : Exit → Act → World → Prop} {α : Type} {R : α → List Value → Prop}
/-- append(v, ys...), run. -/
theorem run_append_rows {W : World} (base : Nat) (t e ty : TypeId) (z : Value) (size bytes : Nat)
    (ht : P.underlying t = some (.slice e)) (hinfo : (P.info? e).map (fun i => (i.zero, i.size, i.bytes)) = some (some z, size, bytes)) (hz : z.cells.size = size) (hs0 : 0 < size) (hb0 : 0 < bytes)
    (v : Value) (xs ys : List α) (A : Option Addr) (m c : Nat)
    (HO : OwnRow R e size W base v xs) (HR : ReadsRow R size W A m ys) (h1 : ∀ x cs, R x cs → ∀ u ∈ cs, u.oneCell' = true)
    (hbase : base ≤ W.heap.size) (hl : (xs.length + m) * bytes ≤ 140737488355328) :
    ∃ v1 w1, (Builtin.append_ #[t, t] ty #[v, .slice A m c]).run P W = .ok v1 w1 ∧ OwnRow R e size w1 base v1 (xs ++ ys) ∧ W.grownBy w1 v.ownBlock ∧ (v1.ownBlock = v.ownBlock ∨ ∃ b, v1.ownBlock = some b ∧ W.heap.size ≤ b) := by
  obtain ⟨i0, hi, hzz⟩ := Option.map_eq_some_iff.1 hinfo
  simp only [Prod.mk.injEq] at hzz
  obtain ⟨hz0, hz1, hz2⟩ := hzz
  have hm : ys.length = m := HR.1
  have hlen' : xs.length + m ≤ 140737488355328 := Nat.le_trans (Nat.le_mul_of_pos_right _ hb0) hl
  obtain ⟨inner, hown, hr⟩ := HO
  rcases A with _ | ad
  · have h0 : m = 0 := by
      rcases Nat.eq_zero_or_pos m with h0 | h0
      · exact h0
      · obtain ⟨ad, h, _⟩ := HR.2.2 h0
        cases h
    subst h0
    obtain rfl : ys = [] := List.eq_nil_of_length_eq_zero hm
    refine ⟨v, W, ?_, by rw [List.append_nil]; exact ⟨inner, hown, hr⟩, World.grownBy.refl W _, .inl rfl⟩
    rcases hown.2 with ⟨rfl, hn⟩ | ⟨g, cap, cur, rfl, _, _, hnc, _⟩
    · simp [Builtin.append_, run_underlying ht, sizeOf, typeInfo, hi, Builtin.lenOf, Builtin.firstCells]
    · simp [Builtin.append_, run_underlying ht, sizeOf, typeInfo, hi, Builtin.lenOf, Builtin.firstCells, hnc, storeCells]
  · obtain ⟨news, hnr, hnc⟩ := ReadsRow.inner_ HR
    have hone : ∀ u ∈ news, u.oneCell' = true := by
      intro u hu
      obtain ⟨q, hq, rfl⟩ := List.mem_iff_getElem.1 hu
      have hql : q / size < ys.length := by
        rw [Nat.div_lt_iff_lt_mul hs0]
        rw [← hnr.1]
        exact hq
      have hc := hnr.2 (q / size) _ (List.getElem?_eq_getElem hql)
      refine h1 _ _ hc _ ?_
      rw [List.mem_iff_getElem?]
      refine ⟨q % size, ?_⟩
      rw [List.getElem?_take, if_pos (Nat.mod_lt _ hs0), List.getElem?_drop, Nat.mul_comm, Nat.div_add_mod, List.getElem?_eq_getElem hq]
    obtain ⟨v1, w1, hrun, h2, hg, _, hat⟩ := run_append_own_at (P := P) W base t ty e i0 z size bytes ht hi hz0 hz1 hz2 hz hs0 v xs.length inner hown ad m c news (by rw [hnr.1, hm]) hnc hone (by simp only [maxLen]; omega) hl hbase
    refine ⟨v1, w1, hrun, ⟨inner ++ news, by rw [List.length_append, hm]; exact h2, ?_⟩, hg, ?_⟩
    · refine ⟨by rw [List.length_append, hr.1, hnr.1, List.length_append, Nat.add_mul], fun j p hj => ?_⟩
      rcases Nat.lt_or_ge j xs.length with hj1 | hj1
      · rw [List.getElem?_append_left hj1] at hj
        have := hr.2 j p hj
        have hle : (j + 1) * size ≤ inner.length := by rw [hr.1]; exact Nat.mul_le_mul_right _ hj1
        have hle' : j * size + size ≤ inner.length := by rw [Nat.succ_mul] at hle; exact hle
        rw [List.drop_append_of_le_length (by omega), List.take_append_of_le_length (by rw [List.length_drop]; omega)]
        exact this
      · rw [List.getElem?_append_right hj1] at hj
        have := hnr.2 _ p hj
        have e : j * size = inner.length + (j - xs.length) * size := by rw [hr.1, ← Nat.add_mul]; congr 1; omega
        rw [e, List.drop_append]
        have e2 : inner.drop (inner.length + (j - xs.length) * size) = [] := List.drop_eq_nil_of_le (by omega)
        rw [e2, List.nil_append]
        have e3 : inner.length + (j - xs.length) * size - inner.length = (j - xs.length) * size := by omega
        rw [e3]
        exact this
    · rcases hat with hat | hat
      · exact .inl hat
      · exact .inr ⟨_, hat, Nat.le_refl _⟩
/-- append(v, ys...). -/
theorem own_append_rows {w0 W : World} (base : Nat) (hgd : o.guard = none) (s x : Operand) (t e : TypeId) (z : Value) (size bytes : Nat)
    (ho : o.op = .call { callee := .builtin .append, args := #[s, x], argTypes := #[t, t] })
    (ht : P.underlying t = some (.slice e)) (hinfo : (P.info? e).map (fun i => (i.zero, i.size, i.bytes)) = some (some z, size, bytes)) (hz : z.cells.size = size) (hs0 : 0 < size) (hb0 : 0 < bytes)
    (v : Value) (xs ys : List α) (A : Option Addr) (m c : Nat) (hs : a.eval s = v) (hx : a.eval x = .slice A m c)
    (HO : OwnRow R e size W base v xs) (HR : ReadsRow R size W A m ys) (h1 : ∀ x cs, R x cs → ∀ u ∈ cs, u.oneCell' = true)
    (HB : Below base w0 W) (hbase : base ≤ W.heap.size) (hl : (xs.length + m) * bytes ≤ 140737488355328)
    (h : ∀ v1 w1, OwnRow R e size w1 base v1 (xs ++ ys) → Below base w0 w1 → W.grownBy w1 v.ownBlock → (v1.ownBlock = v.ownBlock ∨ ∃ b, v1.ownBlock = some b ∧ W.heap.size ≤ b) → wpList P ops Q rest (a.put o.dst v1) w1) :
    wpList P ops Q (o :: rest) a W := by
  obtain ⟨v1, w1, hr1, ho1, hg1, hat1⟩ := run_append_rows base t e o.type z size bytes ht hinfo hz hs0 hb0 v xs ys A m c HO HR h1 hbase hl
  refine wpList_plain hgd fun K hK => ?_
  unfold Oper.wp execOp
  simp only [ho, resolve, invoke, builtin, Sem.run_bind, Sem.run_pure, Result.andThen_ok, List.map_toArray, List.map_cons, List.map_nil, hs, hx, hr1]
  exact hK _ _ (h v1 w1 ho1 (HB.grown hg1 hbase (OwnRow.base_ HO)) hg1 hat1)
/-- The same as a step of a region that draws. -/
theorem step_append_rows {W : World} {ops : Array Oper} {K : Act → World → Prop} {E : Prop} (base : Nat) (hgd : o.guard = none) (s x : Operand) (t e : TypeId) (z : Value) (size bytes : Nat)
    (ho : o.op = .call { callee := .builtin .append, args := #[s, x], argTypes := #[t, t] })
    (ht : P.underlying t = some (.slice e)) (hinfo : (P.info? e).map (fun i => (i.zero, i.size, i.bytes)) = some (some z, size, bytes)) (hz : z.cells.size = size) (hs0 : 0 < size) (hb0 : 0 < bytes)
    (v : Value) (xs ys : List α) (A : Option Addr) (m c : Nat) (hs : a.eval s = v) (hx : a.eval x = .slice A m c)
    (HO : OwnRow R e size W base v xs) (HR : ReadsRow R size W A m ys) (h1 : ∀ x cs, R x cs → ∀ u ∈ cs, u.oneCell' = true)
    (hbase : base ≤ W.heap.size) (hl : (xs.length + m) * bytes ≤ 140737488355328)
    (h : ∀ v1 w1, OwnRow R e size w1 base v1 (xs ++ ys) → W.grownBy w1 v.ownBlock → (v1.ownBlock = v.ownBlock ∨ ∃ b, v1.ownBlock = some b ∧ W.heap.size ≤ b) → K (a.put o.dst v1) w1) :
    if Region.wanted o (yielded ops a.tmps) = true then Oper.wp P o a W K Q else E := by
  have hw : Region.wanted o (yielded ops a.tmps) = true := by simp [Region.wanted, hgd]
  rw [if_pos hw]
  obtain ⟨v1, w1, hr1, ho1, hg1, hat1⟩ := run_append_rows base t e o.type z size bytes ht hinfo hz hs0 hb0 v xs ys A m c HO HR h1 hbase hl
  unfold Oper.wp
  simp [execOp, ho, resolve, invoke, builtin, hs, hx, hr1, Result.andThen]
  exact h v1 w1 ho1 hg1 hat1
end
section
variable {α : Type} {R : α → List Value → Prop} {e : TypeId} {size : Nat} {W : World} {base g n cap : Nat} {xs : List α}
theorem own_shape {v : Value} (h : OwnRow R e size W base v xs) (hp : 0 < xs.length) : ∃ g cap, v = .slice (some ⟨g, 0, none⟩) xs.length cap ∧ base ≤ g ∧ xs.length ≤ cap ∧ cap ≤ 9223372036854775807 ∧ g < W.heap.size := by
  obtain ⟨inner, ho, hr⟩ := h
  have hlt := own_lt ho
  rcases ho.2 with ⟨_, h2⟩ | ⟨g, cap, cur, rfl, hb, _, hn, hm, _⟩
  · omega
  · exact ⟨g, cap, rfl, hb, hn, by simpa [maxLen] using hm, hlt g rfl⟩
/-- A cell of an element. -/
theorem own_get (h : OwnRow R e size W base (.slice (some ⟨g, 0, none⟩) n cap) xs) {k i : Nat} {x : α} (hx : xs[k]? = some x) (hi : i < size) :
    ∃ cs, R x cs ∧ cs.length = size ∧ W.cell? ⟨g, k * size + i, none⟩ = cs[i]? ∧ W.frozen? ⟨g, k * size + i, none⟩ = false := by
  obtain ⟨inner, ho, hr⟩ := h
  have hk := (List.getElem?_eq_some_iff.1 hx).1
  have hR := hr.2 k x hx
  have hle : (k + 1) * size ≤ inner.length := by rw [hr.1]; exact Nat.mul_le_mul_right _ hk
  rw [Nat.succ_mul] at hle
  refine ⟨_, hR, by rw [List.length_take, List.length_drop]; omega, ?_, ?_⟩
  · rw [List.getElem?_take, if_pos hi, List.getElem?_drop]
    have hlt : k * size + i < inner.length := by omega
    rw [List.getElem?_eq_getElem hlt]
    have := ho.cells (g := g) rfl (k * size + i) _ (List.getElem?_eq_getElem hlt)
    rwa [add_plain] at this
  · rcases ho.2 with ⟨h', _⟩ | ⟨g', cap', cur, h', _, hh, _⟩
    · cases h'
    · have : g = g' := by injection h' with h'; injection h' with h'; injection h' with h'
      subst this
      simp [World.frozen?, hh]
theorem own_put (h : OwnRow R e size W base (.slice (some ⟨g, 0, none⟩) n cap) xs) {k i : Nat} {x y : α} {u : Value} (hx : xs[k]? = some x) (hi : i < size) (hR : ∀ cs, R x cs → R y (cs.set i u)) :
    OwnRow R e size (W.setCell ⟨g, k * size + i, none⟩ u) base (.slice (some ⟨g, 0, none⟩) n cap) (xs.set k y) ∧ W.grownBy (W.setCell ⟨g, k * size + i, none⟩ u) (some g) := by
  obtain ⟨inner, ho, hr⟩ := h
  have hk := (List.getElem?_eq_some_iff.1 hx).1
  have hle : (k + 1) * size ≤ inner.length := by rw [hr.1]; exact Nat.mul_le_mul_right _ hk
  rw [Nat.succ_mul] at hle
  have hn : n = xs.length := by
    rcases ho.2 with ⟨h', _⟩ | ⟨g', cap', cur, h', _⟩
    · cases h'
    · injection h' with _ h' _
  rw [← hn] at ho
  have hs := ho.stored (k * size + i) u
  refine ⟨⟨inner.set (k * size + i) u, by rw [List.length_set, ← hn]; exact hs.1, by rw [List.length_set, List.length_set]; exact hr.1, fun j p hj => ?_⟩, hs.2⟩
  by_cases hjk : j = k
  · subst hjk
    rw [List.getElem?_set_self hk] at hj
    injection hj with hj
    subst hj
    have h1 := hR _ (hr.2 j x hx)
    have e1 : ((inner.set (j * size + i) u).drop (j * size)).take size = ((inner.drop (j * size)).take size).set i u := by
      rw [List.drop_set, if_neg (by omega), Nat.add_sub_cancel_left, List.take_set]
    rw [e1]
    exact h1
  · rw [List.getElem?_set_ne (fun e => hjk e.symm)] at hj
    have h1 := hr.2 j p hj
    have hjl := (List.getElem?_eq_some_iff.1 hj).1
    have e1 : ((inner.set (k * size + i) u).drop (j * size)).take size = (inner.drop (j * size)).take size := by
      apply List.ext_getElem?
      intro q
      rw [List.getElem?_take, List.getElem?_take]
      split
      · rename_i hq
        rw [List.getElem?_drop, List.getElem?_drop, List.getElem?_set_ne]
        intro e
        rcases Nat.lt_or_gt_of_ne hjk with hlt | hgt
        · have : (j + 1) * size ≤ k * size := Nat.mul_le_mul_right _ hlt
          rw [Nat.succ_mul] at this
          omega
        · have : (k + 1) * size ≤ j * size := Nat.mul_le_mul_right _ hgt
          rw [Nat.succ_mul] at this
          omega
      · rfl
    rw [e1]
    exact h1
end
end Go.Proofs.Ytmmelfnhhjfaeaa
namespace Go.Proofs.Ytmmelfnhhjfaeaa
open Go.RowKit Go.Proofs.YtmmelfnhhjfaeaaW.PrintWords
theorem info8 : (Try.prog.info? 5).map (fun i => (i.zero, i.size, i.bytes)) = some (some (.int .u8 0), 1, 1) := by kernel_rfl
/-- What A points to was made between W and w'. -/
def Fresh (W w' : World) (A : Option Addr) : Prop := ∀ ad, A = some ad → W.heap.size ≤ ad.block ∧ ad.block < w'.heap.size
theorem Fresh.own {α : Type} {R : α → List Value → Prop} {e : TypeId} {size : Nat} {W w' : World} {A : Option Addr} {n c : Nat} {xs : List α} (h : OwnRow R e size w' W.heap.size (.slice A n c) xs) : Fresh W w' A := by
  obtain ⟨inner, ho, hr⟩ := h
  have hlt := own_lt ho
  have hba := own_base ho
  rintro ad rfl
  exact ⟨hba ad.block rfl, hlt ad.block rfl⟩
theorem adr_block (a : Addr) (n : Nat) : (a.add n).block = a.block := by unfold Addr.add; split <;> rfl
theorem kU8_set {w : World} {A : Option Addr} {n g i : Nat} {xs : List UInt8} {v : Value} (h : kU8.C w A n xs) (hA : ∀ ad, A = some ad → ad.block ≠ g) : kU8.C (w.setCell ⟨g, i, none⟩ v) A n xs := by
  obtain ⟨h1, h2, h3⟩ := h
  refine ⟨h1, h2, fun hn => ?_⟩
  obtain ⟨ad, e, hc⟩ := h3 hn
  refine ⟨ad, e, fun j p hj => ?_⟩
  obtain ⟨cs, k1, k2, k3⟩ := hc j p hj
  refine ⟨cs, k1, k2, fun q u hq => ?_⟩
  rw [World.cell?_setCell_other _ _ _ _ (fun e2 => hA ad e ((adr_block ad _).symm.trans (congrArg Addr.block e2.symm)))]
  exact k3 q u hq
section
variable {ops : Array Oper} {rest : List Oper} {o : Oper} {a : Act} {Q : Exit → Act → World → Prop} {W : World} {K : Act → World → Prop} {E : Prop}
/-- In a region that draws. -/
theorem step_copy (hgd : o.guard = none) (s x : Operand) (ho : o.op = .call { callee := .builtin .append, args := #[s, x], argTypes := #[24, 24] })
    (hs : a.eval s = .slice none 0 0) {A : Option Addr} {c : Nat} {xs : List UInt8} (hx : a.eval x = .slice A xs.length c) (HR : kU8.C W A xs.length xs) (hl : xs.length ≤ 140737488355328)
    (h : ∀ A' c' w', xs.length ≤ c' → kU8.C w' A' xs.length xs → Fresh W w' A' → Below W.heap.size W w' → K (a.put o.dst (.slice A' xs.length c')) w') :
    if Region.wanted o (yielded ops a.tmps) = true then Oper.wp Try.prog o a W K Q else E := by
  refine step_append_rows (R := fun x cs => kU8.K W x cs) W.heap.size hgd s x 24 5 (.int .u8 0) 1 1 ho Try.underlying24 info8 rfl (by omega) (by omega) (.slice none 0 0) [] xs A xs.length c hs hx (OwnRow.none_ _ _ _ _ _) HR (fun x cs h => kU8.K_one h) (Nat.le_refl _) (by simp; exact hl) ?_
  intro v1 w1 ho1 hg1 _
  rw [List.nil_append] at ho1
  obtain ⟨A', c', rfl, hc, hr⟩ := OwnRow.reads ho1
  exact h A' c' w1 hc hr (Fresh.own ho1) ((Below.refl W.heap.size W).grown hg1 (Nat.le_refl _) (fun k hk => by cases hk))
/-- In a plain region. -/
theorem own_copy (hgd : o.guard = none) (s x : Operand) (ho : o.op = .call { callee := .builtin .append, args := #[s, x], argTypes := #[24, 24] })
    (hs : a.eval s = .slice none 0 0) {A : Option Addr} {c : Nat} {xs : List UInt8} (hx : a.eval x = .slice A xs.length c) (HR : kU8.C W A xs.length xs) (hl : xs.length ≤ 140737488355328)
    (h : ∀ A' c' w', xs.length ≤ c' → kU8.C w' A' xs.length xs → Fresh W w' A' → Below W.heap.size W w' → wpList Try.prog ops Q rest (a.put o.dst (.slice A' xs.length c')) w') :
    wpList Try.prog ops Q (o :: rest) a W := by
  refine own_append_rows (w0 := W) (R := fun x cs => kU8.K W x cs) W.heap.size hgd s x 24 5 (.int .u8 0) 1 1 ho Try.underlying24 info8 rfl (by omega) (by omega) (.slice none 0 0) [] xs A xs.length c hs hx (OwnRow.none_ _ _ _ _ _) HR (fun x cs h => kU8.K_one h) (Below.refl _ _) (Nat.le_refl _) (by simp; exact hl) ?_
  intro v1 w1 ho1 hb1 _ _
  rw [List.nil_append] at ho1
  obtain ⟨A', c', rfl, hc, hr⟩ := OwnRow.reads ho1
  exact h A' c' w1 hc hr (Fresh.own ho1) hb1
end
end Go.Proofs.Ytmmelfnhhjfaeaa
namespace Go.Proofs.Ytmmelfnhhjfaeaa
open Go.RowKit Go.Proofs.YtmmelfnhhjfaeaaW.PrintWords
/-- Block b holds the cells cs, at its begin; none of them is frozen. -/
def Blk (w : World) (b : Nat) (cs : List Value) : Prop := b < w.heap.size ∧ ∀ i v, cs[i]? = some v → w.cell? ⟨b, i, none⟩ = some v ∧ w.frozen? ⟨b, i, none⟩ = false
namespace Blk
variable {w w' : World} {b g : Nat} {cs xs : List Value}
theorem new (w : World) (cs : List Value) (t : TypeId) : Blk (w.alloc (.cells cs.toArray t)) w.heap.size cs :=
  ⟨by simp, fun i v h => ⟨cell_new w cs.toArray t _ i v (by simpa using h), World.frozen?_alloc_new _ _ _ _⟩⟩
theorem new_ (w : World) (cs : Array Value) (t : TypeId) (hg : g = w.heap.size) (h : cs.toList = xs) : Blk (w.alloc (.cells cs t)) g xs := by
  subst hg; subst h
  exact new w cs.toList t
theorem cast {ds : List Value} (h : Blk w b ds) (e : ds = cs) : Blk w b cs := e ▸ h
theorem lt (h : Blk w b cs) : b < w.heap.size := h.1
theorem below (h : Blk w b cs) {B : Nat} (k : Below B w w') (hB : b < B) : Blk w' b cs :=
  ⟨Nat.lt_of_lt_of_le h.1 k.size, fun i v e => ⟨by rw [k.cell (p := ⟨b, i, none⟩) hB]; exact (h.2 i v e).1, by rw [k.frozen (p := ⟨b, i, none⟩) hB]; exact (h.2 i v e).2⟩⟩
theorem alloc (h : Blk w b cs) (o : Obj) : Blk (w.alloc o) b cs := h.below (B := w.heap.size) ((Below.refl _ w).alloc (Nat.le_refl _) o) h.1
theorem drew (h : Blk w b cs) : Blk w.drew b cs := h
theorem on (h : Blk w b cs) (k : Below w.heap.size w w') : Blk w' b cs := h.below k h.1
theorem set (h : Blk w b cs) (i : Nat) (v : Value) : Blk (w.setCell ⟨b, i, none⟩ v) b (cs.set i v) := by
  refine ⟨by simpa [World.setCell] using h.1, fun j u e => ⟨?_, ?_⟩⟩
  · rw [List.getElem?_set] at e
    by_cases hij : i = j
    · subst hij
      simp only [if_true] at e
      split at e
      · rename_i hl
        simp only [Option.some.injEq] at e
        subst e
        exact World.cell?_setCell_same _ _ _ (h.2 i cs[i] (List.getElem?_eq_getElem hl)).1
      · cases e
    · rw [if_neg hij] at e
      rw [World.cell?_setCell_other _ _ _ _ (by simp)]
      exact (h.2 j u e).1
  · rw [World.frozen?_setCell]
    rw [List.getElem?_set] at e
    by_cases hij : i = j
    · subst hij
      simp only [if_true] at e
      split at e
      · rename_i hl
        exact (h.2 i cs[i] (List.getElem?_eq_getElem hl)).2
      · cases e
    · rw [if_neg hij] at e
      exact (h.2 j u e).2
theorem set_far (h : Blk w b cs) (hb : g ≠ b) (i : Nat) (v : Value) : Blk (w.setCell ⟨g, i, none⟩ v) b cs := by
  refine ⟨by simpa [World.setCell] using h.1, fun j u e => ⟨?_, by rw [World.frozen?_setCell]; exact (h.2 j u e).2⟩⟩
  rw [World.cell?_setCell_other _ _ _ _ (by simp)]
  exact (h.2 j u e).1
theorem cell (h : Blk w b cs) (i : Nat) {v : Value} (e : cs[i]? = some v) : w.cell? ⟨b, i, none⟩ = some v := (h.2 i v e).1
theorem frozen (h : Blk w b cs) (i : Nat) {v : Value} (e : cs[i]? = some v) : w.frozen? ⟨b, i, none⟩ = false := (h.2 i v e).2
end Blk
end Go.Proofs.Ytmmelfnhhjfaeaa
namespace Go.Proofs.Ytmmelfnhhjfaeaa
open Go.RowKit Go.Proofs.YtmmelfnhhjfaeaaW.PrintWords
open Go.Maps (Keyed)
open Go.ChangeMaps (setBlock heap_setBlock_same heap_setBlock_other)
open Go.MapKept
/-- A value that may be a key of type k. -/
def IsKey (k : TypeId) (v : Value) : Prop := ∃ l, keyOf Try.prog k v = some l
def ents (es : Array MapEntry) : List (Value × Value) := es.toList.map fun e => (e.key, e.val)
/-- Block b of w is a map of just the entries E, in whatever order. -/
def MapL (w : World) (k : TypeId) (b : Nat) (E : List (Value × Value)) : Prop :=
  ∃ es clock, w.heap[b]? = some (.map es clock) ∧ Stamped es clock ∧ (∀ e ∈ es.toList, IsKey k e.key) ∧ (ents es).Perm E
section
variable {w : World} {k : TypeId} {b : Nat} {E : List (Value × Value)}
theorem MapL.perm {E' : List (Value × Value)} (h : MapL w k b E) (p : E.Perm E') : MapL w k b E' := by
  obtain ⟨es, cl, hb, hs, hk, hp⟩ := h
  exact ⟨es, cl, hb, hs, hk, hp.trans p⟩
theorem MapL.lt (h : MapL w k b E) : b < w.heap.size := by
  obtain ⟨es, cl, hb, _⟩ := h
  exact (Array.getElem?_eq_some_iff.1 hb).1
theorem MapL.move {w' : World} (h : MapL w k b E) (hb : w'.heap[b]? = w.heap[b]?) : MapL w' k b E := by
  obtain ⟨es, cl, hb', r⟩ := h
  exact ⟨es, cl, hb.trans hb', r⟩
theorem MapL.made (w : World) (k : TypeId) : MapL (w.alloc (.map #[] 0)) k w.heap.size [] :=
  ⟨#[], 0, (MapKept.heap_alloc w _).1, stamped_empty 0, by simp, by simp [ents]⟩
theorem MapL.keys (h : MapL w k b E) : ∀ x ∈ E, IsKey k x.1 := by
  obtain ⟨es, cl, _, _, hk, hp⟩ := h
  intro x hx
  obtain ⟨e, he, rfl⟩ := List.mem_map.1 (hp.mem_iff.2 hx)
  exact hk e he
theorem stamped_keys {es : Array MapEntry} {cl : Nat} (h : Stamped es cl) : (ents es).Pairwise (fun x y => x.1 ≠ y.1) := by
  unfold ents
  rw [List.pairwise_map]
  exact ((stamped_iff es cl).1 h).2.2
theorem MapL.apart (h : MapL w k b E) : E.Pairwise (fun x y => x.1 ≠ y.1) := by
  obtain ⟨es, cl, _, hs, _, hp⟩ := h
  exact (hp.pairwise_iff (fun {a b} (h : a.1 ≠ b.1) => h.symm)).1 (stamped_keys hs)
theorem mem_ents {es : Array MapEntry} {e : MapEntry} (h : e ∈ es.toList) : (e.key, e.val) ∈ ents es := List.mem_map.2 ⟨e, h, rfl⟩
theorem one_of {l : List (Value × Value)} (h : l.Pairwise (fun x y => x.1 ≠ y.1)) {x y : Value × Value} (hx : x ∈ l) (hy : y ∈ l) (e : x.1 = y.1) : x = y := by
  induction l with
  | nil => cases hx
  | cons a r ih =>
    obtain ⟨h1, h2⟩ := List.pairwise_cons.1 h
    rcases List.mem_cons.1 hx with rfl | hx' <;> rcases List.mem_cons.1 hy with rfl | hy'
    · rfl
    · exact absurd e (h1 _ hy')
    · exact absurd e.symm (h1 _ hx')
    · exact ih h2 hx' hy'
/-- m[key], the key there. -/
theorem MapL.look_old (h : MapL w k b E) (K : Keyed Try.prog k) {t e : TypeId} (ht : Try.prog.underlying t = some (.map k e)) (c : Bool) {key v : Value} (hkey : IsKey k key) (hm : (key, v) ∈ E) :
    (Instr.lookup t (.map (some b)) key c).run Try.prog w = .ok (if c then .tuple #[v, .bool true] else v) w := by
  obtain ⟨es, cl, hb, hs, hk, hp⟩ := h
  obtain ⟨l, hl⟩ := hkey
  have hm' := hp.mem_iff.2 hm
  rcases K.find w hl es.toList hk with ⟨h1, h2⟩ | ⟨j, e0, h1, h2, h3⟩
  · obtain ⟨x, hx, hxe⟩ := List.mem_map.1 hm'
    simp only [Prod.mk.injEq] at hxe
    exact absurd hxe.1 (h2 x hx)
  · have := one_of (stamped_keys hs) (mem_ents (List.mem_of_getElem? h2)) hm' h3
    simp only [Prod.mk.injEq] at this
    obtain ⟨_, rfl⟩ := this
    simp [Instr.lookup, run_underlying ht, MapKept.run_getObj_map hb, K.check w _ hl, h1, Result.andThen]
/-- m[key], the key not there. -/
theorem MapL.look_new (h : MapL w k b E) (K : Keyed Try.prog k) {t e : TypeId} (ht : Try.prog.underlying t = some (.map k e)) {z : Value} (hz : (zeroValue e).run Try.prog w = .ok z w) (c : Bool) {key : Value} (hkey : IsKey k key) (hm : ∀ v, (key, v) ∉ E) :
    (Instr.lookup t (.map (some b)) key c).run Try.prog w = .ok (if c then .tuple #[z, .bool false] else z) w := by
  obtain ⟨es, cl, hb, hs, hk, hp⟩ := h
  obtain ⟨l, hl⟩ := hkey
  rcases K.find w hl es.toList hk with ⟨h1, h2⟩ | ⟨j, e0, h1, h2, h3⟩
  · simp [Instr.lookup, run_underlying ht, MapKept.run_getObj_map hb, K.check w _ hl, h1, hz, Result.andThen]
  · exact absurd (hp.mem_iff.1 (mem_ents (List.mem_of_getElem? h2))) (h3 ▸ hm e0.val)
theorem grown_setBlock {es : Array MapEntry} {cl : Nat} (hb : w.heap[b]? = some (.map es cl)) (o : Obj) : w.grownBy (setBlock w b o) (some b) :=
  ⟨rfl, rfl, rfl, by simp [setBlock], fun i _ hi => heap_setBlock_other hb _ (fun e => hi (by rw [e]))⟩
/-- m[key] = val, a new key. -/
theorem MapL.put_new (h : MapL w k b E) (K : Keyed Try.prog k) {t e : TypeId} (ht : Try.prog.underlying t = some (.map k e)) {key : Value} (val : Value) (hkey : IsKey k key) (hm : ∀ v, (key, v) ∉ E) :
    ∃ w', (Instr.mapUpdate t (.map (some b)) key val).run Try.prog w = .ok () w' ∧ MapL w' k b ((key, val) :: E) ∧ w.grownBy w' (some b) := by
  obtain ⟨es, cl, hb, hs, hk, hp⟩ := h
  have hkey' := hkey
  obtain ⟨l, hl⟩ := hkey
  rcases K.find w hl es.toList hk with ⟨h1, h2⟩ | ⟨j, e0, h1, h2, h3⟩
  · refine ⟨setBlock w b (.map (es.push ⟨key, val, cl⟩) (cl + 1)), ?_, ⟨_, _, heap_setBlock_same hb _, stamped_push hs h2, ?_, ?_⟩, grown_setBlock hb _⟩
    · simp [Instr.mapUpdate, run_underlying ht, MapKept.run_getObj_map hb, K.check w false hl, h1, MapKept.run_setObj_map _ hb, Result.andThen, setBlock]
    · intro x hx
      simp only [Array.toList_push, List.mem_append, List.mem_singleton] at hx
      rcases hx with hx | rfl
      · exact hk x hx
      · exact hkey'
    · simp only [ents, Array.toList_push, List.map_append, List.map_cons, List.map_nil]
      exact List.perm_append_singleton _ _ |>.trans (hp.cons _)
  · exact absurd (hp.mem_iff.1 (mem_ents (List.mem_of_getElem? h2))) (h3 ▸ hm e0.val)
theorem modify_list {es : Array MapEntry} {j : Nat} {e0 : MapEntry} (h : es.toList[j]? = some e0) (f : MapEntry → MapEntry) : (es.modify j f).toList = es.toList.set j (f e0) := by
  rw [Array.toList_modify, ChangeMaps.modify_eq_set _ _ _ _ h]
theorem set_perm' {α : Type} (l : List α) (j : Nat) (a b : α) (h : l[j]? = some a) {r : List α} (hp : l.Perm (a :: r)) : (l.set j b).Perm (b :: r) := by
  obtain ⟨hj, rfl⟩ := List.getElem?_eq_some_iff.1 h
  have h1 : (l.set j b).Perm (b :: l.eraseIdx j) := ChangeMaps.set_perm l j hj b
  have h2 : l.Perm (l[j] :: l.eraseIdx j) := by
    have := ChangeMaps.set_perm l j hj l[j]
    rwa [List.set_getElem_self] at this
  exact h1.trans ((h2.symm.trans hp).cons_inv.cons b)
/-- m[key] = val, an old key. -/
theorem MapL.put_old (h : MapL w k b E) (K : Keyed Try.prog k) {t e : TypeId} (ht : Try.prog.underlying t = some (.map k e)) {key v0 : Value} (val : Value) (hkey : IsKey k key) {R : List (Value × Value)} (hR : E.Perm ((key, v0) :: R)) :
    ∃ w', (Instr.mapUpdate t (.map (some b)) key val).run Try.prog w = .ok () w' ∧ MapL w' k b ((key, val) :: R) ∧ w.grownBy w' (some b) := by
  obtain ⟨es, cl, hb, hs, hk, hp⟩ := h
  have hkey' := hkey
  obtain ⟨l, hl⟩ := hkey
  have hm' : (key, v0) ∈ ents es := (hp.trans hR).mem_iff.2 List.mem_cons_self
  rcases K.find w hl es.toList hk with ⟨h1, h2⟩ | ⟨j, e0, h1, h2, h3⟩
  · obtain ⟨x, hx, hxe⟩ := List.mem_map.1 hm'
    simp only [Prod.mk.injEq] at hxe
    exact absurd hxe.1 (h2 x hx)
  · have hj : es[j]? = some e0 := by simpa using h2
    have hone := one_of (stamped_keys hs) (mem_ents (List.mem_of_getElem? h2)) hm' h3
    have hlist := modify_list h2 (fun e' => { e' with key := key, val := val })
    refine ⟨setBlock w b (.map (es.modify j (fun e' => { e' with key := key, val := val })) cl), ?_, ⟨_, _, heap_setBlock_same hb _, stamped_modify hs _ _ (fun _ _ => rfl) (fun e' _ he' => by rw [hj] at he'; cases he'; exact h3.symm), ?_, ?_⟩, grown_setBlock hb _⟩
    · simp [Instr.mapUpdate, run_underlying ht, MapKept.run_getObj_map hb, K.check w false hl, h1, hj, h3, K.stays w hl, MapKept.run_setObj_map _ hb, Result.andThen, setBlock]
    · intro x hx
      rw [hlist] at hx
      rcases List.mem_or_eq_of_mem_set hx with hx | rfl
      · exact hk x hx
      · exact hkey'
    · unfold ents
      rw [hlist, List.map_set]
      refine set_perm' _ j (e0.key, e0.val) (key, val) (by rw [List.getElem?_map, h2]; rfl) ?_
      rw [show (e0.key, e0.val) = (key, v0) from hone]
      exact hp.trans hR
/-- m[key] = val. -/
theorem MapL.put (h : MapL w k b E) (K : Keyed Try.prog k) {t e : TypeId} (ht : Try.prog.underlying t = some (.map k e)) {key : Value} (val : Value) (hkey : IsKey k key) :
    ∃ w' E', (Instr.mapUpdate t (.map (some b)) key val).run Try.prog w = .ok () w' ∧ MapL w' k b E' ∧ w.grownBy w' (some b) ∧ ∀ x ∈ E', x = (key, val) ∨ x ∈ E := by
  by_cases hm : ∃ v, (key, v) ∈ E
  · obtain ⟨v0, hv⟩ := hm
    obtain ⟨l1, l2, rfl⟩ := List.append_of_mem hv
    have hp : (l1 ++ (key, v0) :: l2).Perm ((key, v0) :: (l1 ++ l2)) := List.perm_middle
    obtain ⟨w', h1, h2, h3⟩ := h.put_old K ht val hkey hp
    refine ⟨w', _, h1, h2, h3, fun x hx => ?_⟩
    rcases List.mem_cons.1 hx with rfl | hx
    · exact .inl rfl
    · exact .inr (hp.mem_iff.2 (List.mem_cons_of_mem _ hx))
  · obtain ⟨w', h1, h2, h3⟩ := h.put_new K ht val hkey (fun v hv => hm ⟨v, hv⟩)
    refine ⟨w', _, h1, h2, h3, fun x hx => ?_⟩
    rcases List.mem_cons.1 hx with rfl | hx
    · exact .inl rfl
    · exact .inr hx
/-- delete(m, key), the key there. -/
theorem MapL.del_old (h : MapL w k b E) (K : Keyed Try.prog k) {t e ty : TypeId} (ht : Try.prog.underlying t = some (.map k e)) {key v0 : Value} (hkey : IsKey k key) {R : List (Value × Value)} (hR : E.Perm ((key, v0) :: R)) :
    ∃ w', (Builtin.delete_ #[t, k] ty #[.map (some b), key]).run Try.prog w = .ok (.tuple #[]) w' ∧ MapL w' k b R ∧ w.grownBy w' (some b) := by
  obtain ⟨es, cl, hb, hs, hk, hp⟩ := h
  obtain ⟨l, hl⟩ := hkey
  have hm' : (key, v0) ∈ ents es := (hp.trans hR).mem_iff.2 List.mem_cons_self
  rcases K.find w hl es.toList hk with ⟨h1, h2⟩ | ⟨j, e0, h1, h2, h3⟩
  · obtain ⟨x, hx, hxe⟩ := List.mem_map.1 hm'
    simp only [Prod.mk.injEq] at hxe
    exact absurd hxe.1 (h2 x hx)
  · have hone := one_of (stamped_keys hs) (mem_ents (List.mem_of_getElem? h2)) hm' h3
    have hjs : j < es.size := by simpa using (List.getElem?_eq_some_iff.1 h2).1
    have hlist : (es.eraseIdxIfInBounds j).toList = es.toList.eraseIdx j := by
      unfold Array.eraseIdxIfInBounds
      rw [dif_pos hjs]
      simp
    refine ⟨setBlock w b (.map (es.eraseIdxIfInBounds j) cl), ?_, ⟨_, _, heap_setBlock_same hb _, stamped_erase hs j, ?_, ?_⟩, grown_setBlock hb _⟩
    · simp [Builtin.delete_, run_underlying ht, MapKept.run_getObj_map hb, K.check w _ hl, h1, MapKept.run_setObj_map _ hb, Result.andThen, setBlock]
    · intro x hx
      rw [hlist] at hx
      exact hk x ((List.eraseIdx_sublist _ _).subset hx)
    · unfold ents
      rw [hlist, ChangeMaps.map_eraseIdx]
      have hgj : (es.toList.map fun e => (e.key, e.val))[j]? = some (key, v0) := by rw [List.getElem?_map, h2]; exact congrArg some hone
      obtain ⟨hj', hje⟩ := List.getElem?_eq_some_iff.1 hgj
      have h2' := ChangeMaps.set_perm (es.toList.map fun e => (e.key, e.val)) j hj' (key, v0)
      rw [← hje, List.set_getElem_self, hje] at h2'
      exact (h2'.symm.trans (hp.trans hR)).cons_inv
/-- delete(m, key), the key not there. -/
theorem MapL.del_new (h : MapL w k b E) (K : Keyed Try.prog k) {t e ty : TypeId} (ht : Try.prog.underlying t = some (.map k e)) {key : Value} (hkey : IsKey k key) (hm : ∀ v, (key, v) ∉ E) :
    ∃ w', (Builtin.delete_ #[t, k] ty #[.map (some b), key]).run Try.prog w = .ok (.tuple #[]) w' ∧ MapL w' k b E ∧ w.grownBy w' (some b) := by
  obtain ⟨es, cl, hb, hs, hk, hp⟩ := h
  obtain ⟨l, hl⟩ := hkey
  rcases K.find w hl es.toList hk with ⟨h1, h2⟩ | ⟨j, e0, h1, h2, h3⟩
  · refine ⟨setBlock w b (.map es cl), ?_, ⟨_, _, heap_setBlock_same hb _, hs, hk, hp⟩, grown_setBlock hb _⟩
    simp [Builtin.delete_, run_underlying ht, MapKept.run_getObj_map hb, K.check w _ hl, h1, MapKept.run_setObj_map _ hb, Result.andThen, setBlock]
  · exact absurd (hp.mem_iff.1 (mem_ents (List.mem_of_getElem? h2))) (h3 ▸ hm e0.val)
end
end Go.Proofs.Ytmmelfnhhjfaeaa
namespace Go.Proofs.Ytmmelfnhhjfaeaa
open Go.RowKit Go.Proofs.YtmmelfnhhjfaeaaW.PrintWords
/-- Of w's blocks those of S alone may have turned. -/
structure Only (S : List Nat) (w w' : World) : Prop where
  os : w'.os = w.os
  tape : w'.tape = w.tape
  output : w'.output = w.output
  size : w.heap.size ≤ w'.heap.size
  block : ∀ k, k < w.heap.size → k ∉ S → w'.heap[k]? = w.heap[k]?
namespace Only
variable {S S' : List Nat} {w w1 w2 w3 : World} {B b : Nat}
theorem refl (S : List Nat) (w : World) : Only S w w := ⟨rfl, rfl, rfl, Nat.le_refl _, fun _ _ _ => rfl⟩
theorem trans (h : Only S w w1) (k : Only S w1 w2) : Only S w w2 :=
  ⟨k.os.trans h.os, k.tape.trans h.tape, k.output.trans h.output, Nat.le_trans h.size k.size, fun i hi hn => (k.block i (Nat.lt_of_lt_of_le hi h.size) hn).trans (h.block i hi hn)⟩
theorem then_ (h : Only S w w1) (k : Only S' w1 w2) (hS : ∀ i ∈ S', i ∈ S ∨ w.heap.size ≤ i) : Only S w w2 :=
  ⟨k.os.trans h.os, k.tape.trans h.tape, k.output.trans h.output, Nat.le_trans h.size k.size, fun i hi hn => (k.block i (Nat.lt_of_lt_of_le hi h.size) (fun hm => by
    rcases hS i hm with h1 | h1
    · exact hn h1
    · omega)).trans (h.block i hi hn)⟩
theorem mono (h : Only S w w1) (hS : ∀ i ∈ S, i ∈ S' ∨ w.heap.size ≤ i) : Only S' w w1 :=
  ⟨h.os, h.tape, h.output, h.size, fun i hi hn => h.block i hi (fun hm => by
    rcases hS i hm with h1 | h1
    · exact hn h1
    · omega)⟩
theorem of_below (S : List Nat) (h : Below w.heap.size w w1) : Only S w w1 := ⟨h.os, h.tape, h.output, h.size, fun i hi _ => h.block i hi⟩
theorem on (h : Only S w w1) (k : Below w1.heap.size w1 w2) : Only S w w2 := h.trans (of_below S k)
theorem below (h : Only S w w1) (hS : ∀ i ∈ S, B ≤ i) (hB : B ≤ w.heap.size) : Below B w w1 :=
  ⟨h.os, h.tape, h.output, h.size, fun i hi => h.block i (Nat.lt_of_lt_of_le hi hB) (fun hm => by have := hS i hm; omega)⟩
theorem alloc (h : Only S w w1) (o : Obj) : Only S w (w1.alloc o) := h.on (below_alloc (Below.refl _ _) o)
theorem drew (h : Only S w w1) : Only S w w1.drew := ⟨h.os, h.tape, h.output, h.size, h.block⟩
theorem set (h : Only S w w1) {p : Addr} (u : Value) (hp : p.block ∈ S ∨ w.heap.size ≤ p.block) : Only S w (w1.setCell p u) :=
  h.then_ (S' := [p.block]) ⟨rfl, rfl, rfl, by simp [World.setCell], fun k _ hk => Below.heap_setCell _ _ _ _ (fun e => hk (by simp [e]))⟩ (fun i hi => by simp at hi; rw [hi]; exact hp)
theorem grown (h : Only S w w1) {row : Option Nat} (hg : w1.grownBy w2 row) (hr : ∀ k, row = some k → k ∈ S ∨ w.heap.size ≤ k) : Only S w w2 :=
  ⟨hg.os.trans h.os, hg.tape.trans h.tape, hg.output.trans h.output, Nat.le_trans h.size hg.size, fun i hi hn => (hg.block i (Nat.lt_of_lt_of_le hi h.size) (fun e => by
    rcases hr i e.symm with h1 | h1
    · exact hn h1
    · omega)).trans (h.block i hi hn)⟩
theorem cell (h : Only S w w1) {p : Addr} (hp : p.block < w.heap.size) (hn : p.block ∉ S) : w1.cell? p = w.cell? p := World.cell?_of_block (w := w) (h.block p.block hp hn)
theorem frozen (h : Only S w w1) {p : Addr} (hp : p.block < w.heap.size) (hn : p.block ∉ S) : w1.frozen? p = w.frozen? p := World.frozen?_of_block (w := w) (h.block p.block hp hn)
end Only
theorem Blk.only {S : List Nat} {w w1 : World} {b : Nat} {cs : List Value} (h : Blk w b cs) (k : Only S w w1) (hn : b ∉ S) : Blk w1 b cs :=
  ⟨Nat.lt_of_lt_of_le h.1 k.size, fun i v e => ⟨by rw [k.cell (p := ⟨b, i, none⟩) h.1 hn]; exact (h.2 i v e).1, by rw [k.frozen (p := ⟨b, i, none⟩) h.1 hn]; exact (h.2 i v e).2⟩⟩
theorem MapL.only {S : List Nat} {w w1 : World} {k : TypeId} {b : Nat} {E : List (Value × Value)} (h : MapL w k b E) (o : Only S w w1) (hn : b ∉ S) : MapL w1 k b E := h.move (o.block b h.lt hn)
theorem Foot.only {P : World → Prop} {w w1 : World} {ok : Nat → Prop} {S : List Nat} (h : Foot P w ok) (k : Only S w w1) (hn : ∀ i, ok i → i ∉ S) : Foot P w1 ok := Foot.step h (fun i hi hlt => k.block i hlt (hn i hi))
theorem FK_only {α : Type} {d : Kd α} {w w1 : World} {ok : Nat → Prop} {S : List Nat} {x : α} {c : List Value} (h : Kd.FK d w ok x c) (k : Only S w w1) (hn : ∀ i, ok i → i ∉ S) : Kd.FK d w1 ok x c := Foot.only h k hn
theorem kU8_in' {w : World} {A : Option Addr} {n : Nat} {ok : Nat → Prop} {xs : List UInt8} (h : kU8.C w A n xs) (hA : 0 < n → ∀ ad, A = some ad → ok ad.block) : Foot (fun W => kU8.C W A n xs) w ok := by
  intro W' hW
  obtain ⟨h1, h2, h3⟩ := h
  refine ⟨h1, h2, fun hn => ?_⟩
  obtain ⟨ad, e, hc⟩ := h3 hn
  refine ⟨ad, e, fun j p hj => ?_⟩
  obtain ⟨cs, k1, k2, k3⟩ := hc j p hj
  refine ⟨cs, k1, k2, fun q u hq => ?_⟩
  have hx := k3 q u hq
  have hb := World.block_lt_of_cell? w _ hx
  rw [← hx]
  refine World.cell?_of_block (w := w) (hW _ ?_ hb)
  rw [adr_block]
  exact hA hn ad e
/-- Bytes that are read lie in blocks that are there. -/
theorem kU8_old {w : World} {A : Option Addr} {n : Nat} {xs : List UInt8} (h : kU8.C w A n xs) : Foot (fun W => kU8.C W A n xs) w (fun k => k < w.heap.size) := kU8_in' h (fun hn ad e => by
  obtain ⟨ad', e', hc⟩ := h.2.2 hn
  obtain rfl : ad' = ad := Option.some.inj (e'.symm.trans e)
  have hl : xs.length = n := h.1
  have h0 : xs[0]? = some xs[0] := List.getElem?_eq_getElem (by omega)
  obtain ⟨cs, k1, k2, k3⟩ := hc 0 _ h0
  have k2' : cs = [.int .u8 (xs[0].toNat : Int)] := k2
  have := World.block_lt_of_cell? w _ (k3 0 _ (by rw [k2']; rfl))
  rwa [adr_block] at this)
theorem kU8_in {w : World} {A : Option Addr} {n : Nat} {ok : Nat → Prop} {xs : List UInt8} (h : kU8.C w A n xs) (hA : ∀ ad, A = some ad → ok ad.block) : Foot (fun W => kU8.C W A n xs) w ok := by
  intro W' hW
  obtain ⟨h1, h2, h3⟩ := h
  refine ⟨h1, h2, fun hn => ?_⟩
  obtain ⟨ad, e, hc⟩ := h3 hn
  refine ⟨ad, e, fun j p hj => ?_⟩
  obtain ⟨cs, k1, k2, k3⟩ := hc j p hj
  refine ⟨cs, k1, k2, fun q u hq => ?_⟩
  have hx := k3 q u hq
  have hb := World.block_lt_of_cell? w _ hx
  rw [← hx]
  refine World.cell?_of_block (w := w) (hW _ ?_ hb)
  rw [adr_block]
  exact hA ad e
/-- Block k holds cells of type t. -/
def Ty (w : World) (t : TypeId) (k : Nat) : Prop := ∃ cells fr, w.heap[k]? = some (.cells cells t fr)
namespace Ty
variable {w w1 : World} {t t' : TypeId} {k : Nat} {S : List Nat}
theorem lt (h : Ty w t k) : k < w.heap.size := by obtain ⟨c, fr, h⟩ := h; exact (Array.getElem?_eq_some_iff.1 h).1
theorem only (h : Ty w t k) (o : Only S w w1) (hk : k ∉ S) : Ty w1 t k := by
  have hl := h.lt
  obtain ⟨c, fr, h⟩ := h
  exact ⟨c, fr, (o.block k hl hk).trans h⟩
theorem below (h : Ty w t k) (o : Below w.heap.size w w1) : Ty w1 t k := h.only (S := []) (Only.of_below [] o) (by simp)
theorem ne (h : Ty w t k) (hn : t ≠ t') : ¬ Ty w t' k := by
  obtain ⟨c, fr, h⟩ := h
  rintro ⟨c', fr', h'⟩
  rw [h] at h'
  injection h' with h'
  injection h' with _ h'
  exact hn h'
theorem set (h : Ty w t k) (p : Addr) (u : Value) : Ty (w.setCell p u) t k := by
  obtain ⟨c, fr, h⟩ := h
  simp only [Ty, World.setCell, Array.getElem?_modify]
  by_cases e : p.block = k
  · rw [if_pos e, h]; exact ⟨_, _, rfl⟩
  · rw [if_neg e, h]; exact ⟨_, _, rfl⟩
theorem of_set {p : Addr} {u : Value} (h : Ty (w.setCell p u) t k) : Ty w t k := by
  obtain ⟨c, fr, h⟩ := h
  simp only [World.setCell, Array.getElem?_modify] at h
  by_cases e : p.block = k
  · rw [if_pos e] at h
    obtain ⟨o, ho, h2⟩ := Option.map_eq_some_iff.1 h
    cases o <;> simp at h2
    obtain ⟨_, rfl, rfl⟩ := h2
    exact ⟨_, _, ho⟩
  · rw [if_neg e] at h; exact ⟨_, _, h⟩
theorem new (w : World) (cs : Array Value) (t : TypeId) (fr : Nat × Nat) : Ty (w.alloc (.cells cs t fr)) t w.heap.size := ⟨cs, fr, heap_alloc_new w _⟩
end Ty
theorem Ty.drew {w : World} {t : TypeId} {k : Nat} (h : Ty w t k) : Ty w.drew t k := h
theorem MapL.noTy {w : World} {k t : TypeId} {b : Nat} {E : List (Value × Value)} (h : MapL w k b E) : ¬ Ty w t b := by
  obtain ⟨es, cl, hb, _⟩ := h
  rintro ⟨c, fr, h'⟩
  rw [hb] at h'
  injection h' with h'
  cases h'
/-- A thing whose parts lie in blocks of bytes. -/
def BK {α : Type} (d : Kd α) (w : World) (x : α) (c : List Value) : Prop := Kd.FK d w (Ty w 5) x c
namespace BK
variable {α : Type} {d : Kd α} {w w1 : World} {S : List Nat} {x : α} {c : List Value}
theorem only (h : BK d w x c) (o : Only S w w1) (hS : ∀ i ∈ S, ¬ Ty w 5 i) : BK d w1 x c :=
  Kd.FK_mono (Kd.FK_bound (Foot.step h (fun i hi hlt => o.block i hlt (fun hm => hS i hm hi)))) (fun i hi => hi.1.only o (fun hm => hS i hm hi.1))
theorem below (h : BK d w x c) (o : Below w.heap.size w w1) : BK d w1 x c := h.only (S := []) (Only.of_below [] o) (by simp)
theorem now (h : BK d w x c) : d.K w x c := Kd.FK_now h
end BK
section
variable {ops : Array Oper} {rest : List Oper} {o : Oper} {a : Act} {Q : Exit → Act → World → Prop} {W : World} {K : Act → World → Prop} {E : Prop}
/-- A copy's bytes: what is new, and of bytes. -/
def NewB (W w' : World) (A : Option Addr) : Prop := ∀ ad, A = some ad → W.heap.size ≤ ad.block ∧ Ty w' 5 ad.block
theorem NewB.own {α : Type} {R : α → List Value → Prop} {size : Nat} {W w' : World} {A : Option Addr} {n c : Nat} {xs : List α} (h : OwnRow R 5 size w' W.heap.size (.slice A n c) xs) : NewB W w' A := by
  obtain ⟨inner, ho, hr⟩ := h
  have hba := own_base ho
  have hty := own_typed ho
  rintro ad rfl
  obtain ⟨cells, hc⟩ := hty ad.block rfl
  exact ⟨hba ad.block rfl, cells, (0, 0), hc⟩
theorem stepB_copy (hgd : o.guard = none) (s x : Operand) (ho : o.op = .call { callee := .builtin .append, args := #[s, x], argTypes := #[24, 24] })
    (hs : a.eval s = .slice none 0 0) {A : Option Addr} {c : Nat} {xs : List UInt8} (hx : a.eval x = .slice A xs.length c) (HR : kU8.C W A xs.length xs) (hl : xs.length ≤ 140737488355328)
    (h : ∀ A' c' w', xs.length ≤ c' → kU8.C w' A' xs.length xs → NewB W w' A' → Below W.heap.size W w' → K (a.put o.dst (.slice A' xs.length c')) w') :
    if Region.wanted o (yielded ops a.tmps) = true then Oper.wp Try.prog o a W K Q else E := by
  refine step_append_rows (R := fun x cs => kU8.K W x cs) W.heap.size hgd s x 24 5 (.int .u8 0) 1 1 ho Try.underlying24 info8 rfl (by omega) (by omega) (.slice none 0 0) [] xs A xs.length c hs hx (OwnRow.none_ _ _ _ _ _) HR (fun x cs h => kU8.K_one h) (Nat.le_refl _) (by simp; exact hl) ?_
  intro v1 w1 ho1 hg1 _
  rw [List.nil_append] at ho1
  obtain ⟨A', c', rfl, hc, hr⟩ := OwnRow.reads ho1
  exact h A' c' w1 hc hr (NewB.own ho1) ((Below.refl W.heap.size W).grown hg1 (Nat.le_refl _) (fun k hk => by cases hk))
theorem ownB_copy (hgd : o.guard = none) (s x : Operand) (ho : o.op = .call { callee := .builtin .append, args := #[s, x], argTypes := #[24, 24] })
    (hs : a.eval s = .slice none 0 0) {A : Option Addr} {c : Nat} {xs : List UInt8} (hx : a.eval x = .slice A xs.length c) (HR : kU8.C W A xs.length xs) (hl : xs.length ≤ 140737488355328)
    (h : ∀ A' c' w', xs.length ≤ c' → kU8.C w' A' xs.length xs → NewB W w' A' → Below W.heap.size W w' → wpList Try.prog ops Q rest (a.put o.dst (.slice A' xs.length c')) w') :
    wpList Try.prog ops Q (o :: rest) a W := by
  refine own_append_rows (w0 := W) (R := fun x cs => kU8.K W x cs) W.heap.size hgd s x 24 5 (.int .u8 0) 1 1 ho Try.underlying24 info8 rfl (by omega) (by omega) (.slice none 0 0) [] xs A xs.length c hs hx (OwnRow.none_ _ _ _ _ _) HR (fun x cs h => kU8.K_one h) (Below.refl _ _) (Nat.le_refl _) (by simp; exact hl) ?_
  intro v1 w1 ho1 hb1 _ _
  rw [List.nil_append] at ho1
  obtain ⟨A', c', rfl, hc, hr⟩ := OwnRow.reads ho1
  exact h A' c' w1 hc hr (NewB.own ho1) hb1
end
/-- What a call makes of bytes b: where they are read. -/
theorem u8_BK {w : World} {A : Option Addr} {xs : List UInt8} (h : kU8.C w A xs.length xs) (hA : ∀ ad, A = some ad → Ty w 5 ad.block) : Foot (fun W => kU8.C W A xs.length xs) w (Ty w 5) := kU8_in h hA
/-- All is as it was, but for new blocks, and cell j of block p. -/
def Mod (W : World) (p j : Nat) (w : World) : Prop := Only [p] W w ∧ (∀ i, i ≠ j → w.cell? ⟨p, i, none⟩ = W.cell? ⟨p, i, none⟩) ∧ (∀ i, w.frozen? ⟨p, i, none⟩ = W.frozen? ⟨p, i, none⟩) ∧ ∀ t, Ty W t p → Ty w t p
namespace Mod
variable {W w w1 : World} {p j : Nat}
theorem refl (W : World) (p j : Nat) : Mod W p j W := ⟨Only.refl _ _, fun _ _ => rfl, fun _ => rfl, fun _ h => h⟩
theorem drew (h : Mod W p j w) : Mod W p j w.drew := ⟨h.1.drew, h.2.1, h.2.2.1, fun t k => h.2.2.2 t k⟩
theorem below (h : Mod W p j w) (hp : p < W.heap.size) (k : Below w.heap.size w w1) : Mod W p j w1 :=
  ⟨h.1.on k, fun i hi => (k.cell (p := ⟨p, i, none⟩) (Nat.lt_of_lt_of_le hp h.1.size)).trans (h.2.1 i hi), fun i => (k.frozen (p := ⟨p, i, none⟩) (Nat.lt_of_lt_of_le hp h.1.size)).trans (h.2.2.1 i), fun t ht => (h.2.2.2 t ht).below k⟩
theorem set (h : Mod W p j w) (u : Value) : Mod W p j (w.setCell ⟨p, j, none⟩ u) :=
  ⟨h.1.set u (.inl (by simp)), fun i hi => (World.cell?_setCell_other _ _ _ _ (fun e => hi (by injection e with _ e _; exact e.symm))).trans (h.2.1 i hi), fun i => (World.frozen?_setCell ..).trans (h.2.2.1 i), fun t ht => (h.2.2.2 t ht).set _ _⟩
theorem cell (h : Mod W p j w) {i : Nat} {v : Value} (hi : i ≠ j) (hc : W.cell? ⟨p, i, none⟩ = some v) : w.cell? ⟨p, i, none⟩ = some v := (h.2.1 i hi).trans hc
theorem far (h : Mod W p j w) {b i : Nat} {v : Value} (hb : b ≠ p) (hc : W.cell? ⟨b, i, none⟩ = some v) : w.cell? ⟨b, i, none⟩ = some v :=
  (h.1.cell (p := ⟨b, i, none⟩) (World.block_lt_of_cell? W _ hc) (by simp; exact hb)).trans hc
theorem blk {cs : List Value} (m : Mod W p j w) (h : Blk W p cs) (hj : ∀ v, cs[j]? = some v → w.cell? ⟨p, j, none⟩ = some v) : Blk w p cs :=
  ⟨Nat.lt_of_lt_of_le h.1 m.1.size, fun i v e => ⟨by
    by_cases hi : i = j
    · subst hi; exact hj v e
    · exact m.cell hi (h.2 i v e).1, (m.2.2.1 i).trans (h.2 i v e).2⟩⟩
end Mod
/-- All cells of a block, as the walk wants them. -/
theorem Blk.six {w : World} {b : Nat} {v0 v1 v2 v3 v4 v5 : Value} (h : Blk w b [v0, v1, v2, v3, v4, v5]) :
    (w.cell? ⟨b, 0, none⟩ = some v0 ∧ w.cell? ⟨b, 1, none⟩ = some v1 ∧ w.cell? ⟨b, 2, none⟩ = some v2 ∧ w.cell? ⟨b, 3, none⟩ = some v3 ∧ w.cell? ⟨b, 4, none⟩ = some v4 ∧ w.cell? ⟨b, 5, none⟩ = some v5) ∧
    (w.frozen? ⟨b, 0, none⟩ = false ∧ w.frozen? ⟨b, 1, none⟩ = false ∧ w.frozen? ⟨b, 2, none⟩ = false ∧ w.frozen? ⟨b, 3, none⟩ = false ∧ w.frozen? ⟨b, 4, none⟩ = false ∧ w.frozen? ⟨b, 5, none⟩ = false) :=
  ⟨⟨h.cell 0 rfl, h.cell 1 rfl, h.cell 2 rfl, h.cell 3 rfl, h.cell 4 rfl, h.cell 5 rfl⟩, h.frozen 0 rfl, h.frozen 1 rfl, h.frozen 2 rfl, h.frozen 3 rfl, h.frozen 4 rfl, h.frozen 5 rfl⟩
theorem Blk.eight {w : World} {b : Nat} {v0 v1 v2 v3 v4 v5 v6 v7 : Value} (h : Blk w b [v0, v1, v2, v3, v4, v5, v6, v7]) :
    (w.cell? ⟨b, 0, none⟩ = some v0 ∧ w.cell? ⟨b, 1, none⟩ = some v1 ∧ w.cell? ⟨b, 2, none⟩ = some v2 ∧ w.cell? ⟨b, 3, none⟩ = some v3 ∧ w.cell? ⟨b, 4, none⟩ = some v4 ∧ w.cell? ⟨b, 5, none⟩ = some v5 ∧ w.cell? ⟨b, 6, none⟩ = some v6 ∧ w.cell? ⟨b, 7, none⟩ = some v7) ∧
    (w.frozen? ⟨b, 0, none⟩ = false ∧ w.frozen? ⟨b, 1, none⟩ = false ∧ w.frozen? ⟨b, 2, none⟩ = false ∧ w.frozen? ⟨b, 3, none⟩ = false ∧ w.frozen? ⟨b, 4, none⟩ = false ∧ w.frozen? ⟨b, 5, none⟩ = false ∧ w.frozen? ⟨b, 6, none⟩ = false ∧ w.frozen? ⟨b, 7, none⟩ = false) :=
  ⟨⟨h.cell 0 rfl, h.cell 1 rfl, h.cell 2 rfl, h.cell 3 rfl, h.cell 4 rfl, h.cell 5 rfl, h.cell 6 rfl, h.cell 7 rfl⟩, h.frozen 0 rfl, h.frozen 1 rfl, h.frozen 2 rfl, h.frozen 3 rfl, h.frozen 4 rfl, h.frozen 5 rfl, h.frozen 6 rfl, h.frozen 7 rfl⟩
theorem Blk.nine {w : World} {b : Nat} {v0 v1 v2 v3 v4 v5 v6 v7 v8 : Value} (h : Blk w b [v0, v1, v2, v3, v4, v5, v6, v7, v8]) :
    (w.cell? ⟨b, 0, none⟩ = some v0 ∧ w.cell? ⟨b, 1, none⟩ = some v1 ∧ w.cell? ⟨b, 2, none⟩ = some v2 ∧ w.cell? ⟨b, 3, none⟩ = some v3 ∧ w.cell? ⟨b, 4, none⟩ = some v4 ∧ w.cell? ⟨b, 5, none⟩ = some v5 ∧ w.cell? ⟨b, 6, none⟩ = some v6 ∧ w.cell? ⟨b, 7, none⟩ = some v7 ∧ w.cell? ⟨b, 8, none⟩ = some v8) ∧
    (w.frozen? ⟨b, 0, none⟩ = false ∧ w.frozen? ⟨b, 1, none⟩ = false ∧ w.frozen? ⟨b, 2, none⟩ = false ∧ w.frozen? ⟨b, 3, none⟩ = false ∧ w.frozen? ⟨b, 4, none⟩ = false ∧ w.frozen? ⟨b, 5, none⟩ = false ∧ w.frozen? ⟨b, 6, none⟩ = false ∧ w.frozen? ⟨b, 7, none⟩ = false ∧ w.frozen? ⟨b, 8, none⟩ = false) :=
  ⟨⟨h.cell 0 rfl, h.cell 1 rfl, h.cell 2 rfl, h.cell 3 rfl, h.cell 4 rfl, h.cell 5 rfl, h.cell 6 rfl, h.cell 7 rfl, h.cell 8 rfl⟩, h.frozen 0 rfl, h.frozen 1 rfl, h.frozen 2 rfl, h.frozen 3 rfl, h.frozen 4 rfl, h.frozen 5 rfl, h.frozen 6 rfl, h.frozen 7 rfl, h.frozen 8 rfl⟩
end Go.Proofs.Ytmmelfnhhjfaeaa
set_option linter.unusedVariables false
set_option linter.unusedSimpArgs false
namespace Go.Proofs.Ytmmelfnhhjfaeaa
open Go.RowKit Go.Proofs.YtmmelfnhhjfaeaaW.PrintWords
namespace Tags
def cmp3 (a b : Int) : Int := if a < b then -1 else if b < a then 1 else 0
theorem cmp3_bd (a b : Int) : -1 ≤ cmp3 a b ∧ cmp3 a b ≤ 1 := by unfold cmp3; split <;> (try split) <;> omega
theorem cmp3_lt {a b : Int} (h : a < b) : cmp3 a b = -1 := by unfold cmp3; rw [if_pos h]
theorem cmp3_gt {a b : Int} (h : b < a) : cmp3 a b = 1 := by unfold cmp3; rw [if_neg (by omega), if_pos h]
theorem cmp3_eq (a : Int) : cmp3 a a = 0 := by unfold cmp3; rw [if_neg (by omega), if_neg (by omega)]
/-- The first that is not 0. -/
def or3 (a b c : Int) : Int := if a ≠ 0 then a else if b ≠ 0 then b else c
def cmpT (a b : Tag) : Int := or3 (cmp3 a.seq b.seq) (cmp3 a.who b.who) (cmp3 a.op b.op)
theorem isNaN_calls (a : Int) (w : World) : Calls Try.prog 43 #[.int .i64 a] w fun e w' => e = .returned (.bool false) ∧ w = w' := by
  go_enter Try.func43, Try.ntmps43
  go_wp2
  go_ret
  exact ⟨by simp, rfl⟩
theorem compare_calls (a b : Int) (w : World) : Calls Try.prog 31 #[.int .i64 a, .int .i64 b] w fun e w' => e = .returned (.int .i64 (cmp3 a b)) ∧ w = w' := by
  rcases Int.lt_trichotomy a b with h | h | h
  · have H := Aside0.mk h
    go_enter Try.func31, Try.ntmps31
    go_wp2_with (first | ((with_reducible refine (isNaN_calls _ _).mono ?_); rintro e w' ⟨rfl, rfl⟩))
    go_ret
    exact ⟨by rw [cmp3_lt H.out]; rfl, rfl⟩
  · subst h
    go_enter Try.func31, Try.ntmps31
    go_wp2_with (first | ((with_reducible refine (isNaN_calls _ _).mono ?_); rintro e w' ⟨rfl, rfl⟩))
    go_ret
    exact ⟨by rw [cmp3_eq]; rfl, rfl⟩
  · have H := Aside0.mk h
    have hn : ¬ a < b := by omega
    go_enter Try.func31, Try.ntmps31
    go_wp2_with (first | ((with_reducible refine (isNaN_calls _ _).mono ?_); rintro e w' ⟨rfl, rfl⟩))
    go_ret
    exact ⟨by rw [cmp3_gt H.out]; rfl, rfl⟩
theorem compare_same (a b : Int) (w : World) : Calls Try.prog 31 #[.int .i64 a, .int .i64 b] w fun e w' => e = .returned (.int .i64 (cmp3 a b)) ∧ w' = w := (compare_calls a b w).mono fun _ _ ⟨h1, h2⟩ => ⟨h1, h2.symm⟩
theorem region_tail {P : Program} {id : Nat} {Q : Exit → Act → World → Prop} {a : Act} {w : World} {l : List Oper} (n : Nat) (hm : P.follows .mixedOrders = true) (hB : Region.lexTailB .any l.toArray n = true)
    (h : wpStill P l.toArray w.drew (fun a' => wpList P l.toArray Q (l.drop n) a' w.drew) (l.take n) a) : (Code.region id l.toArray true).wp P Q a w := wp_region_still_tail n hm hB h
def orL : List Int → Int
  | [] => 0
  | x :: r => if x ≠ 0 then x else orL r
theorem orL_drop {xs : List Int} {k : Nat} {x : Int} (h : xs[k]? = some x) : orL (xs.drop k) = if x ≠ 0 then x else orL (xs.drop (k + 1)) := by
  obtain ⟨hk, rfl⟩ := List.getElem?_eq_some_iff.1 h
  rw [List.drop_eq_getElem_cons hk]
  rfl
theorem or_calls (ad : Addr) (c : Nat) (xs : List Int) (w : World) (hc : ∀ k x, xs[k]? = some x → w.cell? (ad.add k) = some (.int .i64 x)) (hn : xs.length ≤ 1000000) :
    Calls Try.prog 30 #[.slice (some ad) xs.length c] w fun e w' => e = .returned (.int .i64 (orL xs)) ∧ w = w' := by
  have HC := Aside0.mk hc
  clear hc
  go_enter Try.func30, Try.ntmps30
  go_wp2
  go_loop [5, 8] (fun _ i => ∃ k : Nat, k ≤ xs.length ∧ i = .int .i64 k ∧ Aside0 (orL (xs.drop k) = orL xs)) (fun _ i => xs.length - (intOf i).toNat)
  case atStart => exact ⟨0, Nat.zero_le _, rfl, ⟨rfl⟩⟩
  case round =>
    obtain ⟨k, hk, rfl, HO⟩ := hrel
    by_cases hlt : k < xs.length
    · obtain ⟨x, hx⟩ : ∃ x, xs[k]? = some x := ⟨_, List.getElem?_eq_getElem hlt⟩
      have hcell := HC.out k x hx
      have HO2 := Aside0.mk (HO.out.symm.trans (orL_drop hx))
      clear hx HO
      by_cases h0 : x = 0
      · subst h0
        go_wp2
        go_round
        case rel => exact ⟨k + 1, by omega, by go_num, ⟨by rw [HO2.out]; rfl⟩⟩
        case measure => simp [intOf]; omega
      · have HN := Aside0.mk h0
        have hb : (x != 0) = true := by simpa using h0
        clear h0
        go_wp2
        go_ret
        exact ⟨by rw [HO2.out, if_pos HN.out]; rfl, rfl⟩
    · obtain rfl : k = xs.length := by omega
      go_wp2
      go_ret
      exact ⟨by rw [← HO.out, List.drop_length]; rfl, rfl⟩
theorem or3_calls (g : Nat) (a b c : Int) (w : World) (h0 : w.cell? ⟨g, 0, none⟩ = some (.int .i64 a)) (h1 : w.cell? ⟨g, 1, none⟩ = some (.int .i64 b)) (h2 : w.cell? ⟨g, 2, none⟩ = some (.int .i64 c)) :
    Calls Try.prog 30 #[.slice (some ⟨g, 0, none⟩) 3 3] w fun e w' => e = .returned (.int .i64 (or3 a b c)) ∧ w = w' := by
  have h := or_calls ⟨g, 0, none⟩ 3 [a, b, c] w (fun k x hx => by
    rw [add_plain]
    rcases k with _ | _ | _ | k
    · simp at hx; subst hx; exact h0
    · simp at hx; subst hx; exact h1
    · simp at hx; subst hx; exact h2
    · simp at hx) (by simp)
  have e : orL [a, b, c] = or3 a b c := by unfold or3; simp only [orL]; split <;> (try split) <;> (try split) <;> simp_all
  rw [e] at h
  exact h
def tagV (a : Tag) : Value := .agg #[.int .i64 a.seq, .int .i64 a.who, .int .i64 a.op]
set_option maxHeartbeats 1000000 in
set_option maxRecDepth 100000 in
theorem compareT_calls (a b : Tag) (w : World) : Calls Try.prog 17 #[.agg #[.int .i64 a.seq, .int .i64 a.who, .int .i64 a.op], .agg #[.int .i64 b.seq, .int .i64 b.who, .int .i64 b.op]] w fun e w' => e = .returned (.int .i64 (cmpT a b)) ∧ Below w.heap.size w w' := by
  obtain ⟨a1, a2, a3⟩ := a
  obtain ⟨b1, b2, b3⟩ := b
  go_enter Try.func17, Try.ntmps17
  go_wp2
  refine region_tail 15 (by kernel_rfl) (by kernel_rfl) ?_
  simp only [List.take_succ_cons, List.take_zero, List.drop_succ_cons, List.drop_zero]
  still_step
  still_step
  still_step
  still_step
  still_call (compare_same _ _ _)
  still_step
  still_step
  still_step
  still_step
  still_call (compare_same _ _ _)
  still_step
  still_step
  still_step
  still_step
  still_call (compare_same _ _ _)
  refine wpStill_nil ?_
  go_wp2_with fail
  refine (or3_calls _ (cmp3 a1 b1) (cmp3 a2 b2) (cmp3 a3 b3) _ (by go_simp) (by go_simp) (by go_simp)).mono ?_
  rintro e w' ⟨rfl, rfl⟩
  go_wp2
  go_ret
  exact ⟨rfl, below_drew (below_alloc (below_alloc (below_alloc (Below.refl _ _) _) _) _)⟩
theorem size_zero (k : ByteArray) : k = ByteArray.empty ↔ k.size = 0 := by
  constructor
  · rintro rfl; rfl
  · intro h; exact ByteArray.ext (Array.eq_empty_of_size_eq_zero h)
theorem ret_i64 {a b : Int} (h : a = b) : Ending.returned (.int .i64 a) = .returned (.int .i64 b) := by rw [h]
def TagOk (t : Tag) : Prop := 0 ≤ t.seq ∧ t.seq ≤ 1099511627775 ∧ 0 ≤ t.who ∧ t.who ≤ 1048575 ∧ 0 ≤ t.op ∧ t.op ≤ 1048575 ∧ (t.seq = 0 → t.who = 0 ∧ t.op = 0)
instance (t : Tag) : Decidable (TagOk t) := by unfold TagOk; infer_instance
def chk (t : Tag) : Int := if TagOk t then 0 else 2
theorem chk_no {t : Tag} (h : ¬ TagOk t) : chk t = 2 := if_neg h
theorem chk_ok {t : Tag} (h : TagOk t) : chk t = 0 := if_pos h
theorem none_calls (a1 a2 a3 : Int) (w : World) : Calls Try.prog 16 #[.agg #[.int .i64 a1, .int .i64 a2, .int .i64 a3]] w fun e w' => e = .returned (.bool (a1 == 0)) ∧ Below w.heap.size w w' := by
  go_enter Try.func16, Try.ntmps16
  go_wp2
  go_ret
  exact ⟨rfl, below_alloc (Below.refl _ _) _⟩
set_option maxRecDepth 100000 in
theorem check_calls (a1 a2 a3 : Int) (w : World) : Calls Try.prog 29 #[.agg #[.int .i64 a1, .int .i64 a2, .int .i64 a3]] w fun e w' => e = .returned (.int .i64 (chk ⟨a1, a2, a3⟩)) ∧ Below w.heap.size w w' := by
  go_enter Try.func29, Try.ntmps29
  go_wp2
  all_goals
    go_ret
    refine ⟨by first | (rw [chk_no (by unfold TagOk; dsimp only; omega)]; rfl) | (rw [chk_ok (by unfold TagOk; dsimp only; omega)]; rfl), ?_⟩
    repeat (first | exact Below.refl _ _ | refine below_alloc ?_ _ | refine below_drew ?_)
def EntOk (e : Entry) : Prop := 1 ≤ e.key.size ∧ e.key.size ≤ 250 ∧ e.val.b.length ≤ 60000 ∧ (e.val.has = false → e.val.b.length = 0) ∧ TagOk e.tag ∧ (e.tag.seq = 0 → e.val.has = false)
instance (e : Entry) : Decidable (EntOk e) := by unfold EntOk; infer_instance
def rgt (e : Entry) : Int := if EntOk e then 0 else 2
theorem rgt_no {e : Entry} (h : ¬ EntOk e) : rgt e = 2 := if_neg h
theorem rgt_ok {e : Entry} (h : EntOk e) : rgt e = 0 := if_pos h
set_option maxRecDepth 100000 in
theorem right_calls (k : ByteArray) (a1 a2 a3 : Int) (h : Bool) (A : Option Addr) (c : Nat) (b : List UInt8) (w : World) (hk : k.size ≤ 140737488351232) (hb : b.length ≤ 140737488351232) :
    Calls Try.prog 15 #[.agg #[.string k, .int .i64 a1, .int .i64 a2, .int .i64 a3, .bool h, .slice A b.length c]] w fun e w' => e = .returned (.int .i64 (rgt ⟨k, ⟨a1, a2, a3⟩, ⟨h, b⟩⟩)) ∧ Below w.heap.size w w' := by
  go_enter Try.func15, Try.ntmps15
  go_wp2_with (first | ((with_reducible refine (check_calls _ _ _ _).mono ?_); rintro e w' ⟨rfl, hb1⟩; have HB := Aside0.mk hb1; have hcc := (bcell hb1).1; have hz : w.heap.size < w'.heap.size := (by have := hb1.size; simp at this; omega); clear hb1) | ((with_reducible refine (none_calls _ _ _ _).mono ?_); rintro e w' ⟨rfl, hb1⟩; have HB2 := Aside0.mk hb1; have hcc2 := (bcell hb1).1; clear hb1))
  all_goals
    have hke : k = ByteArray.empty ↔ k.size = 0 := size_zero k
    go_ret
    refine ⟨?_, ?_⟩
    · refine ret_i64 ?_
      grind [rgt, EntOk, chk]
    · first
      | exact below_alloc (Below.refl _ w) _
      | exact Below.then_ (below_alloc (Below.refl _ w) _) HB.out (Nat.le_refl _)
      | exact Below.then_ (Below.then_ (below_alloc (Below.refl _ w) _) HB.out (Nat.le_refl _)) HB2.out (Nat.le_refl _)
/-- What a copy is: its own bytes. -/
def Copied (W w' : World) (e : Entry) (cs : List Value) : Prop := BK Entry.k w' e cs ∧ Kd.FK Entry.k w' (fun k => W.heap.size ≤ k) e cs ∧ Below W.heap.size W w'
def CopyTold (w : World) (e : Entry) (r : Ending) (w' : World) : Prop := ∃ cs, r = .returned (.agg cs) ∧ Copied w w' e cs.toList
set_option maxRecDepth 100000 in
theorem copy_calls (e : Entry) (A : Option Addr) (c : Nat) (w : World) (hK : Entry.k.K w e [.string e.key, .int .i64 e.tag.seq, .int .i64 e.tag.who, .int .i64 e.tag.op, .bool e.val.has, .slice A e.val.b.length c]) (hl : e.val.b.length ≤ 140737488351232) :
    Calls Try.prog 36 #[.agg #[.string e.key, .int .i64 e.tag.seq, .int .i64 e.tag.who, .int .i64 e.tag.op, .bool e.val.has, .slice A e.val.b.length c]] w (CopyTold w e) := by
  obtain ⟨A5, c5, he, s0, r1, r2, r3, l5, g5⟩ := Entry.open_ hK
  simp only [List.cons.injEq, Value.slice.injEq, true_and, and_true] at he
  obtain ⟨rfl, rfl⟩ := he
  have HG := Aside0.mk g5
  have HR := Aside0.mk (And.intro s0 (And.intro r1 (And.intro r2 r3)))
  clear hK g5 r1 r2 r3 s0
  obtain ⟨ek, ⟨a1, a2, a3⟩, ⟨h, b⟩⟩ := e
  dsimp only at *
  go_enter Try.func36, Try.ntmps36
  go_wp2_with (first | (at_builtin; refine ownB_copy rfl _ _ rfl rfl (A := A) (c := c) (xs := b) rfl (Kd.C_below HG.out (below_alloc (below_alloc (Below.refl _ _) _) _)) (by omega) ?_; intro A' c' w1 hl1 hC1 hF1 hB1; have H1 := Aside0.mk (And.intro hl1 (And.intro hC1 (And.intro hF1 hB1))); have hz : w.heap.size + 1 < w1.heap.size := (by have := hB1.size; simp at this; omega); have B0 := (((Blk.new w [.string ek, .int .i64 a1, .int .i64 a2, .int .i64 a3, .bool h, .slice A b.length c] 30).alloc (.cells #[.string ByteArray.empty, .int .i64 0, .int .i64 0, .int .i64 0, .bool false, .slice none 0 0] 30)).on hB1).six; have B1 := ((Blk.new_ (w.alloc (.cells #[.string ek, .int .i64 a1, .int .i64 a2, .int .i64 a3, .bool h, .slice A b.length c] 30)) #[.string ByteArray.empty, .int .i64 0, .int .i64 0, .int .i64 0, .bool false, .slice none 0 0] 30 (g := w.heap.size + 1) (by simp) rfl).on hB1).six; obtain ⟨⟨x0, x1, x2, x3, x4, x5⟩, f0, f1, f2, f3, f4, f5⟩ := B0; obtain ⟨⟨y0, y1, y2, y3, y4, y5⟩, g0, g1, g2, g3, g4, g5⟩ := B1; clear hl1 hC1 hF1 hB1))
  obtain ⟨⟨h1, h2, h3, h4⟩⟩ := H1
  refine bodyPost_ret (v := .agg #[.string ek, .int .i64 a1, .int .i64 a2, .int .i64 a3, .bool h, .slice A' b.length c']) (by simp [results, Try.results36, go_sem, x0, x1, x2, x3, x4, x5, y0, y1, y2, y3, y4, y5]; try rfl) rfl ?_
  have ho : Only [w.heap.size, w.heap.size + 1] w1 _ := (((((((Only.refl _ w1).set (p := ⟨w.heap.size, 5, none⟩) (.slice A' b.length c') (by simp)).set (p := ⟨w.heap.size + 1, 0, none⟩) (.string ek) (by simp)).set (p := ⟨w.heap.size + 1, 1, none⟩) (.int .i64 a1) (by simp)).set (p := ⟨w.heap.size + 1, 2, none⟩) (.int .i64 a2) (by simp)).set (p := ⟨w.heap.size + 1, 3, none⟩) (.int .i64 a3) (by simp)).set (p := ⟨w.heap.size + 1, 4, none⟩) (.bool h) (by simp)).set (p := ⟨w.heap.size + 1, 5, none⟩) (.slice A' b.length c') (by simp)
  have hn : ∀ ad, A' = some ad → ad.block ∉ [w.heap.size, w.heap.size + 1] := fun ad e => by have := (h3 ad e).1; simp at this; simp; omega
  have hf := Foot.only (kU8_in (ok := fun k => w.heap.size + 2 ≤ k) h2 (fun ad e => by have := (h3 ad e).1; simp at this; omega)) ho (fun i hi => by simp; omega)
  have hg := kU8_in (ok := fun k => Ty w1 5 k ∧ k ∉ [w.heap.size, w.heap.size + 1]) h2 (fun ad e => ⟨(h3 ad e).2, hn ad e⟩)
  have hg := Foot.mono (Foot.only hg ho (fun i hi => hi.2)) (ok' := Ty _ 5) (fun i hi => hi.1.only ho hi.2)
  refine ⟨_, rfl, fun W' hW => Entry.mk_ W' ⟨ek, ⟨a1, a2, a3⟩, ⟨h, b⟩⟩ HR.out.1 HR.out.2.1 HR.out.2.2.1 HR.out.2.2.2 h1 (hg W' hW), fun W' hW => Entry.mk_ W' ⟨ek, ⟨a1, a2, a3⟩, ⟨h, b⟩⟩ HR.out.1 HR.out.2.1 HR.out.2.2.1 HR.out.2.2.2 h1 ?_, ?_⟩
  · exact hf W' (fun k hk hlt => hW k (by omega) hlt)
  · exact (Only.of_below [w.heap.size, w.heap.size + 1] (Below.then_ (below_alloc (below_alloc (Below.refl _ w) _) _) h4 (Nat.le_refl _))).trans ho |>.below (by simp) (Nat.le_refl _)
end Tags
end Go.Proofs.Ytmmelfnhhjfaeaa
set_option linter.unusedVariables false
set_option linter.unusedSimpArgs false
namespace Go.Proofs.Ytmmelfnhhjfaeaa
open Go.RowKit Go.Proofs.YtmmelfnhhjfaeaaW.PrintWords
namespace Hash
def stepN (h c : Nat) : Nat := ((h ^^^ c) * 1099511628211) % 18446744073709551616
def foldN (h : Nat) : Nat := h ^^^ h / 8589934592
def stirN (h : Nat) : Nat := foldN (foldN (foldN h * 18397679294719823053 % 18446744073709551616) * 14181476777654086739 % 18446744073709551616)
def foldB (f : Nat → Nat → Nat) (h : Nat) (l : List UInt8) : Nat := l.foldl (fun h c => f h c.toNat) h
theorem foldB_append (f : Nat → Nat → Nat) (h : Nat) (a b : List UInt8) : foldB f h (a ++ b) = foldB f (foldB f h a) b := List.foldl_append
theorem foldB_snoc (f : Nat → Nat → Nat) (h : Nat) {l : List UInt8} {k : Nat} {x : UInt8} (hx : l[k]? = some x) : foldB f h (l.take (k + 1)) = f (foldB f h (l.take k)) x.toNat := by
  rw [List.take_add_one, hx, foldB_append]; rfl
theorem foldB_flat (f : Nat → Nat → Nat) (h : Nat) {l : List (List UInt8)} {k : Nat} {x : List UInt8} (hx : l[k]? = some x) : foldB f h (l.take (k + 1)).flatten = foldB f (foldB f h (l.take k).flatten) x := by
  rw [List.take_add_one, hx, List.flatten_append, foldB_append]; simp
def sumB (h : Nat) (l : List UInt8) : Nat := foldB stepN h l
def sum0 (l : List UInt8) : Nat := sumB 14695981039346656037 l
def keyN (s : ByteArray) : Nat := stirN (sum0 s.data.toList)
def bkt (s : ByteArray) (n : Int) : Int := ((keyN s % n.toNat : Nat) : Int)
theorem stepN_lt (h c : Nat) : stepN h c < 18446744073709551616 := Nat.mod_lt _ (by decide)
theorem foldN_lt {h : Nat} (hh : h < 18446744073709551616) : foldN h < 18446744073709551616 := Nat.xor_lt_two_pow (n := 64) (by omega) (by omega)
theorem stirN_lt (h : Nat) : stirN h < 18446744073709551616 := foldN_lt (Nat.mod_lt _ (by decide))
theorem sumB_lt {h : Nat} (l : List UInt8) (hh : h < 18446744073709551616) : sumB h l < 18446744073709551616 := by
  induction l generalizing h with
  | nil => exact hh
  | cons c l ih => exact ih (stepN_lt _ _)
theorem sumB_append (h : Nat) (a b : List UInt8) : sumB h (a ++ b) = sumB (sumB h a) b := foldB_append stepN h a b
theorem bkt_bd (s : ByteArray) {n : Int} (hn : 1 ≤ n) : 0 ≤ bkt s n ∧ bkt s n < n := by
  unfold bkt
  have : keyN s % n.toNat < n.toNat := Nat.mod_lt _ (by omega)
  omega
theorem bkt_one (s : ByteArray) : bkt s 1 = 0 := by have := bkt_bd s (n := 1) (by omega); omega
theorem step_calls (h c : Nat) (hh : h < 18446744073709551616) (hc : c < 256) (w : World) : Calls Try.prog 55 #[.int .u64 (h : Int), .int .u8 (c : Int)] w fun e w' => e = .returned (.int .u64 ((stepN h c : Nat) : Int)) ∧ w = w' := by
  have e1 : Go.bits .xor .u64 (h : Int) (c : Int) = ((h ^^^ c : Nat) : Int) := bits_xor_u64_nat _ _ hh (by omega)
  have hx : h ^^^ c < 18446744073709551616 := Nat.xor_lt_two_pow (n := 64) (by omega) (by omega)
  have e2 : IntKind.u64.wrap (((h ^^^ c : Nat) : Int) * 1099511628211) = ((stepN h c : Nat) : Int) := by rw [IntKind.wrap_u64]; unfold stepN; omega
  have e3 : IntKind.u64.wrap (c : Int) = (c : Int) := by rw [IntKind.wrap_u64]; omega
  generalize h ^^^ c = x at e1 e2 hx
  generalize stepN h c = y at e2
  go_enter Try.func55, Try.ntmps55
  go_wp2
  go_ret
  exact ⟨rfl, rfl⟩
def kRow : Kd (List UInt8) := Kd.slice 5 kU8
theorem row_at {w : World} {A : Option Addr} {n : Nat} {xs : List (List UInt8)} (h : kRow.C w A n xs) (k : Nat) (h1 : k < n) : ∃ ad x A1 c1, A = some ad ∧ Aside0 (xs[k]? = some x) ∧ w.cell? (ad.add k) = some (.slice A1 x.length c1) ∧ Aside0 (kU8.C w A1 x.length x) := by
  have hl : xs.length = n := h.1
  obtain ⟨ad, c, e, _, hK, hc0⟩ := Kd.C_get h [] (k : Int) (by omega) (by omega)
  have hc : ∀ j u, c[j]? = some u → w.cell? (ad.add (k * 1 + j)) = some u := hc0
  have hx : xs[k]? = some (xs.getD k []) := by simp [List.getD_eq_getElem?_getD, show k < xs.length by omega]
  have hK' : kRow.K w (xs.getD k []) c := hK
  generalize xs.getD k [] = x at hK' hx
  obtain ⟨A1, c1, rfl, l1, g1⟩ := hK'
  exact ⟨ad, x, A1, c1, e, ⟨hx⟩, by have := hc 0 _ rfl; simpa using this, ⟨g1⟩⟩
theorem u8_at {w : World} {A : Option Addr} {n : Nat} {xs : List UInt8} (h : kU8.C w A n xs) (k : Nat) (h1 : k < n) : ∃ ad x, A = some ad ∧ Aside0 (xs[k]? = some x) ∧ w.cell? (ad.add k) = some (.int .u8 (x.toNat : Int)) := by
  have hl : xs.length = n := h.1
  obtain ⟨ad, c, e, _, hK, hc0⟩ := Kd.C_get h 0 (k : Int) (by omega) (by omega)
  have hc : ∀ j u, c[j]? = some u → w.cell? (ad.add (k * 1 + j)) = some u := hc0
  have hx : xs[k]? = some (xs.getD k 0) := by simp [List.getD_eq_getElem?_getD, show k < xs.length by omega]
  have hK' : kU8.K w (xs.getD k 0) c := hK
  generalize xs.getD k 0 = x at hK' hx
  obtain rfl : c = [.int .u8 (x.toNat : Int)] := hK'
  exact ⟨ad, x, e, ⟨hx⟩, by have := hc 0 _ rfl; simpa using this⟩
theorem sumB_snoc {h : Nat} {l : List UInt8} {k : Nat} {x : UInt8} (hx : l[k]? = some x) : sumB h (l.take (k + 1)) = stepN (sumB h (l.take k)) x.toNat := foldB_snoc stepN h hx
theorem flat_snoc {l : List (List UInt8)} {k : Nat} {x : List UInt8} (h : Nat) (hx : l[k]? = some x) : sumB h (l.take (k + 1)).flatten = sumB (sumB h (l.take k).flatten) x := foldB_flat stepN h hx
set_option maxRecDepth 100000 in
theorem sum_calls (A : Option Addr) (c : Nat) (xs : List (List UInt8)) (w : World) (hr : kRow.C w A xs.length xs) :
    Calls Try.prog 51 #[.slice A xs.length c] w fun e w' => e = .returned (.int .u64 ((sum0 xs.flatten : Nat) : Int)) ∧ w = w' := by
  have hm : xs.length ≤ 9223372036854775807 := hr.2.1
  have HR := Aside0.mk hr
  clear hr
  go_enter Try.func51, Try.ntmps51
  go_wp2
  go_step3
  go_wp2
  go_step3
  go_wp2
  go_loop [3, 10] (fun h i => ∃ (k q : Nat), k ≤ xs.length ∧ i = .int .i64 k ∧ h = .int .u64 (q : Int) ∧ q < 18446744073709551616 ∧ Aside0 (q = sumB 14695981039346656037 (xs.take k).flatten)) (fun _ i => xs.length - (intOf i).toNat)
  case atStart => exact ⟨0, 14695981039346656037, Nat.zero_le _, rfl, rfl, by omega, ⟨rfl⟩⟩
  case round =>
    obtain ⟨k, q, hk, rfl, rfl, hq, HQ⟩ := hrel
    by_cases hlt : k < xs.length
    · obtain ⟨ad, x, A1, c1, rfl, HX, hcell, HC⟩ := row_at HR.out k hlt
      have HF := Aside0.mk ((flat_snoc 14695981039346656037 HX.out).trans (by rw [← HQ.out]))
      have hx1 : x.length ≤ 9223372036854775807 := HC.out.2.1
      clear HX HQ
      by_cases h0 : x.length = 0
      · have H0 := Aside0.mk h0
        have hb0 : ((x.length : Int) == 0) = true := by simp [h0]
        clear h0
        go_wp2
        go_round
        case rel => exact ⟨k + 1, q, by omega, by go_num, rfl, hq, ⟨by rw [HF.out, List.eq_nil_of_length_eq_zero H0.out]; rfl⟩⟩
        case measure => simp [intOf]; omega
      · have hb0 : ((x.length : Int) == 0) = false := by simpa using h0
        clear h0
        go_wp2
        go_loop [3, 19] (fun h i => ∃ (j p : Nat), j ≤ x.length ∧ i = .int .i64 j ∧ h = .int .u64 (p : Int) ∧ p < 18446744073709551616 ∧ Aside0 (p = sumB q (x.take j))) (fun _ i => x.length - (intOf i).toNat)
        case atStart => exact ⟨0, q, Nat.zero_le _, rfl, rfl, hq, ⟨rfl⟩⟩
        case round =>
          obtain ⟨j, p, hj, rfl, rfl, hp, HP⟩ := hrel
          by_cases hlj : j < x.length
          · obtain ⟨ad1, y, rfl, HY, hcy⟩ := u8_at HC.out j hlj
            have HS := Aside0.mk ((sumB_snoc (h := q) HY.out).trans (by rw [← HP.out]))
            have hy : y.toNat < 256 := y.toNat_lt
            clear HY HP
            go_wp2_with (first | ((with_reducible refine (step_calls p y.toNat hp hy _).mono ?_); rintro e w' ⟨rfl, rfl⟩))
            go_round
            case rel => exact ⟨j + 1, _, by omega, by go_num, rfl, stepN_lt _ _, ⟨HS.out.symm⟩⟩
            case measure => simp [intOf]; omega
          · obtain rfl : j = x.length := by omega
            go_wp2
            go_round
            case rel => exact ⟨k + 1, p, by omega, by go_num, rfl, hp, ⟨by rw [HF.out, HP.out, List.take_length]⟩⟩
            case measure => simp [intOf]; omega
    · obtain rfl : k = xs.length := by omega
      go_wp2
      go_ret
      exact ⟨by rw [HQ.out, List.take_length]; rfl, rfl⟩
theorem bytes_C (W : World) (s : ByteArray) (hs : s.size ≤ 9223372036854775807) : kU8.C (Lib.bytesWorld W 5 s) (some ⟨W.heap.size, 0, none⟩) s.data.toList.length s.data.toList := by
  refine ⟨rfl, by rw [data_length]; exact hs, fun _ => ⟨_, rfl, fun j p hj => ⟨[.int .u8 (p.toNat : Int)], rfl, rfl, fun i u hu => ?_⟩⟩⟩
  have hjl : j < s.size := by rw [← data_length]; exact (List.getElem?_eq_some_iff.1 hj).1
  obtain rfl : i = 0 := by rcases i with _ | i <;> simp_all
  simp at hu
  subst hu
  rw [show j * kU8.sz + 0 = j from by show j * 1 + 0 = j; omega, add_plain, Lib.bytesWorld_cell W 5 s j hjl]
  have h' : j < s.data.toList.length := by rw [data_length]; exact hjl
  rw [List.getElem?_eq_getElem h'] at hj
  injection hj with hj
  rw [← hj, List.getD_eq_getElem?_getD, List.getElem?_eq_getElem h']
  rfl
theorem row_one {w : World} {g : Nat} {A : Option Addr} {c : Nat} {x : List UInt8} (hg : w.cell? ⟨g, 0, none⟩ = some (.slice A x.length c)) (hl : x.length ≤ c) (h : kU8.C w A x.length x) : kRow.C w (some ⟨g, 0, none⟩) [x].length [x] := by
  refine ⟨rfl, by simp, fun _ => ⟨_, rfl, fun j p hj => ?_⟩⟩
  obtain rfl : j = 0 := by rcases j with _ | j <;> simp_all
  simp at hj
  subst hj
  refine ⟨[.slice A x.length c], rfl, ⟨A, c, rfl, hl, h⟩, fun i u hu => ?_⟩
  obtain rfl : i = 0 := by rcases i with _ | i <;> simp_all
  simp at hu
  subst hu
  rw [add_plain]
  exact hg
end Hash
end Go.Proofs.Ytmmelfnhhjfaeaa
set_option linter.unusedVariables false
set_option linter.unusedSimpArgs false
namespace Go.Proofs.Ytmmelfnhhjfaeaa
open Go.RowKit Go.Proofs.YtmmelfnhhjfaeaaW.PrintWords
namespace Pack
/-- How many bytes a number takes. -/
def cnt (u : Nat) : Nat := ((List.range 9).find? (fun k => decide (u / 256 ^ k = 0))).getD 8
/-- Byte i of a number. -/
def dig (u i : Nat) : UInt8 := UInt8.ofNat (u / 256 ^ i % 256)
/-- Those below k, the highest first. -/
def digs (u : Nat) : Nat → List UInt8
  | 0 => []
  | k + 1 => dig u k :: digs u k
def numN (u : Nat) : List UInt8 := UInt8.ofNat (cnt u) :: digs u (cnt u)
/-- A number as eight bytes hold it. -/
def u64 (n : Int) : Nat := (n % 18446744073709551616).toNat
def numB (n : Int) : List UInt8 := numN (u64 n)
def rowB (b : List UInt8) : List UInt8 := numB (b.length : Int) ++ b
def truthB (t : Bool) : List UInt8 := if t then [1] else [0]
/-- An entry's bytes. -/
def entB (e : Entry) : List UInt8 := rowB e.key.data.toList ++ numB e.tag.seq ++ numB e.tag.who ++ numB e.tag.op ++ truthB e.val.has ++ (if e.val.has then rowB e.val.b else [])
/-- Four bytes. -/
def fourB (n : Nat) : List UInt8 := [UInt8.ofNat (n / 16777216 % 256), UInt8.ofNat (n / 65536 % 256), UInt8.ofNat (n / 256 % 256), UInt8.ofNat (n % 256)]
def checkN (b : List UInt8) : Nat := (Hash.sum0 b / 4294967296) ^^^ (Hash.sum0 b % 4294967296)
/-- A frame's bytes. -/
def headB (kind : UInt8) (b : List UInt8) : List UInt8 := [165, kind] ++ fourB b.length ++ b
def frameB (kind : UInt8) (b : List UInt8) : List UInt8 := headB kind b ++ fourB (checkN (headB kind b))
theorem digs_len (u k : Nat) : (digs u k).length = k := by
  induction k with
  | zero => rfl
  | succ k ih => simp [digs, ih]
theorem cnt_le (u : Nat) : cnt u ≤ 8 := by
  unfold cnt
  cases h : (List.range 9).find? (fun k => decide (u / 256 ^ k = 0)) with
  | none => simp
  | some k =>
    have := List.mem_of_find?_eq_some h
    simp at this
    simp
    omega
theorem u64_lt (n : Int) : u64 n < 18446744073709551616 := by unfold u64; omega
theorem cnt_top {u : Nat} (hu : u < 18446744073709551616) : u / 256 ^ cnt u = 0 := by
  unfold cnt
  cases h : (List.range 9).find? (fun k => decide (u / 256 ^ k = 0)) with
  | none =>
    have := List.find?_eq_none.1 h 8 (by simp)
    simp at this
    omega
  | some k => simpa using List.find?_some h
theorem cnt_low {u k : Nat} (hk : k < cnt u) : u / 256 ^ k ≠ 0 := by
  unfold cnt at hk
  cases h : (List.range 9).find? (fun k => decide (u / 256 ^ k = 0)) with
  | none =>
    rw [h] at hk
    have := List.find?_eq_none.1 h k (by simp at hk ⊢; omega)
    simpa using this
  | some j =>
    rw [h] at hk
    simp at hk
    have h2 := List.find?_eq_some_iff_getElem.1 h
    obtain ⟨_, i, hi, e, hn⟩ := h2
    simp at e
    subst e
    have := hn k hk
    simpa using this
theorem numB_len (n : Int) : (numB n).length = cnt (u64 n) + 1 := by simp [numB, numN, digs_len]
theorem numB_le (n : Int) : (numB n).length ≤ 9 := by rw [numB_len]; have := cnt_le (u64 n); omega
theorem rowB_le (b : List UInt8) : (rowB b).length ≤ b.length + 9 := by unfold rowB; rw [List.length_append]; have := numB_le (b.length : Int); omega
theorem truthB_len (t : Bool) : (truthB t).length = 1 := by cases t <;> rfl
theorem entB_le (e : Entry) : (entB e).length ≤ e.key.size + e.val.b.length + 46 := by
  unfold entB
  have h1 := rowB_le e.key.data.toList
  have h2 := numB_le e.tag.seq
  have h3 := numB_le e.tag.who
  have h4 := numB_le e.tag.op
  have h5 := truthB_len e.val.has
  have h6 := rowB_le e.val.b
  have h7 : e.key.data.toList.length = e.key.size := Array.length_toList
  have h8 : (if e.val.has then rowB e.val.b else []).length ≤ e.val.b.length + 9 := by cases e.val.has; exact Nat.zero_le _; exact h6
  generalize (if e.val.has then rowB e.val.b else []) = z at h8 ⊢
  rw [List.length_append, List.length_append, List.length_append, List.length_append, List.length_append]
  omega
theorem fourB_len (n : Nat) : (fourB n).length = 4 := rfl
theorem headB_len (k : UInt8) (b : List UInt8) : (headB k b).length = b.length + 6 := by simp [headB, fourB]
theorem frameB_len (k : UInt8) (b : List UInt8) : (frameB k b).length = b.length + 10 := by simp [frameB, headB_len, fourB_len]
end Pack
end Go.Proofs.Ytmmelfnhhjfaeaa
set_option linter.unusedVariables false
set_option linter.unusedSimpArgs false
namespace Go.Proofs.Ytmmelfnhhjfaeaa
open Go.RowKit Go.Proofs.YtmmelfnhhjfaeaaW.PrintWords
def RO {α : Type} (d : Kd α) (ok : Nat → Prop) (N : Nat) (W : World) (x : α) (cs : List Value) : Prop := Kd.FK d W (fun i => ok i ∧ i < N) x cs
structure Grow {α : Type} (d : Kd α) (t : TypeId) (ok : Nat → Prop) (N : Nat) (w0 W : World) (v : Value) (ds : List α) : Prop where
  row : OwnRow (RO d ok N W) t d.sz W N v ds
  bl : Below N w0 W
  hN : N ≤ W.heap.size
namespace Grow
variable {α : Type} {d : Kd α} {t : TypeId} {ok : Nat → Prop} {N : Nat} {w0 W W1 : World} {v : Value} {ds : List α} {y : α} {cs : List Value}
theorem ro_step (h : RO d ok N W y cs) (hb : Below N W W1) : RO d ok N W1 y cs := Foot.step h (fun i hi _ => hb.block i hi.2)
theorem start (t : TypeId) (d : Kd α) (ok : Nat → Prop) (w : World) : Grow d t ok w.heap.size w w (.slice none 0 0) [] := ⟨OwnRow.none_ _ _ _ _ _, Below.refl _ _, Nat.le_refl _⟩
theorem below (h : Grow d t ok N w0 W v ds) (hb : Below W.heap.size W W1) : Grow d t ok N w0 W1 v ds :=
  ⟨OwnRow.imp_ (h.row.below hb) (fun _ _ hr => ro_step hr (hb.mono h.hN)), h.bl.trans (hb.mono h.hN), Nat.le_trans h.hN hb.size⟩
/-- An element that was there at first. -/
theorem elem (h : Grow d t ok N w0 W v ds) (hN : N = w0.heap.size) (hy : Kd.FK d w0 ok y cs) : RO d ok N W y cs := by
  subst hN
  exact ro_step (Foot.bound hy) h.bl
theorem slice (h : Grow d t ok N w0 W v ds) : ∃ A c, v = .slice A ds.length c ∧ ds.length ≤ c := h.row.slice_
/-- What it reads as. -/
theorem foot (h : Grow d t ok N w0 W v ds) : ∃ A c, v = .slice A ds.length c ∧ ds.length ≤ c ∧ Kd.F d W (fun i => ok i ∨ N ≤ i) A ds.length ds := by
  obtain ⟨A, c, rfl, hc⟩ := h.row.slice_
  refine ⟨A, c, rfl, hc, fun W' hW => ?_⟩
  obtain ⟨inner, ho, hr⟩ := h.row
  have h' : OwnRow (d.K W') t d.sz W' N (.slice A ds.length c) ds := ⟨inner, own_move ho (fun k hk => hW k (.inr (own_base ho k hk)) (own_lt ho k hk)), hr.imp_ (fun p c hp => hp W' (fun k hk hlt => hW k (.inl hk.1) hlt))⟩
  obtain ⟨A', c', he, _, hr'⟩ := h'.reads
  injection he with h1 h2 h3
  subst h1
  exact hr'
section
variable {P : Program} {ops : Array Oper} {rest : List Oper} {o : Oper} {a : Act} {Q : Exit → Act → World → Prop}
/-- append(v, ys...). -/
theorem cat (hgd : o.guard = none) (s x : Operand) (ts : TypeId) (z : Value) (bytes : Nat)
    (ho : o.op = .call { callee := .builtin .append, args := #[s, x], argTypes := #[ts, ts] })
    (ht : P.underlying ts = some (.slice t)) (hinfo : (P.info? t).map (fun i => (i.zero, i.size, i.bytes)) = some (some z, d.sz, bytes)) (hz : z.cells.size = d.sz) (hs0 : 0 < d.sz) (hb0 : 0 < bytes)
    (G : Grow d t ok N w0 W v ds) (ys : List α) (A : Option Addr) (m c : Nat) (hs : a.eval s = v) (hx : a.eval x = .slice A m c)
    (HR : ReadsRow (RO d ok N W) d.sz W A m ys) (hl : (ds.length + m) * bytes ≤ 140737488355328)
    (h : ∀ v1 w1, Grow d t ok N w0 w1 v1 (ds ++ ys) → wpList P ops Q rest (a.put o.dst v1) w1) :
    wpList P ops Q (o :: rest) a W := by
  refine own_append_rows (w0 := w0) (R := RO d ok N W) N hgd s x ts t z d.sz bytes ho ht hinfo hz hs0 hb0 v ds ys A m c hs hx G.row HR (fun q cs hq => d.K_one (Kd.FK_now hq)) G.bl G.hN hl ?_
  intro v1 w1 hown hB hg hat
  have hb : Below N W w1 := (Below.refl N W).grown hg G.hN (OwnRow.base_ G.row)
  exact h v1 w1 ⟨OwnRow.imp_ hown (fun _ _ hr => ro_step hr hb), hB, Nat.le_trans G.hN hb.size⟩
/-- append(v, y): y lies in a block of its own. -/
theorem push (hgd : o.guard = none) (s x : Operand) (ts : TypeId) (z : Value) (bytes : Nat)
    (ho : o.op = .call { callee := .builtin .append, args := #[s, x], argTypes := #[ts, ts] })
    (ht : P.underlying ts = some (.slice t)) (hinfo : (P.info? t).map (fun i => (i.zero, i.size, i.bytes)) = some (some z, d.sz, bytes)) (hz : z.cells.size = d.sz) (hs0 : 0 < d.sz) (hb0 : 0 < bytes)
    (G : Grow d t ok N w0 W v ds) (cells : Array Value) (hy : RO d ok N W y cells.toList) (hs : a.eval s = v) (hx : a.eval x = .slice (some ⟨W.heap.size, 0, none⟩) 1 1)
    (hl : (ds.length + 1) * bytes ≤ 140737488355328)
    (h : ∀ v1 w1, Grow d t ok N w0 w1 v1 (ds ++ [y]) → wpList P ops Q rest (a.put o.dst v1) w1) :
    wpList P ops Q (o :: rest) a (W.alloc (.cells cells t)) := by
  have hb := below_alloc (Below.refl W.heap.size W) (.cells cells t)
  refine cat hgd s x ts z bytes ho ht hinfo hz hs0 hb0 (G.below hb) [y] (some ⟨W.heap.size, 0, none⟩) 1 1 hs hx ?_ hl h
  have hy' : RO d ok N (W.alloc (.cells cells t)) y cells.toList := ro_step hy (hb.mono G.hN)
  have hB := Blk.new_ W cells t rfl rfl
  refine ⟨rfl, by omega, fun _ => ⟨_, rfl, fun j p hj => ?_⟩⟩
  rcases j with _ | j
  · simp at hj
    subst hj
    exact ⟨cells.toList, d.K_len (Kd.FK_now hy'), hy', fun i u hu => by rw [add_plain]; simpa using hB.cell i hu⟩
  · simp at hj
end
/-- A row's end, as a slice of it. -/
theorem cut_dropF {α : Type} {t e : TypeId} {kl : IntKind} (ht : Try.prog.underlying t = some (.slice e)) {size : Nat} {z : Option Value} {bytes : Nat} (hinfo : (Try.prog.info? e).map (fun i => (i.zero, i.size, i.bytes)) = some (z, size, bytes)) (A : Option Addr) (n c m : Nat) (hm : m ≤ n) :
    ∃ A' : Option Addr, (∀ W : World, (Instr.slice t (.slice A n c) (some (.int kl (m : Int))) none none).run Try.prog W = .ok (.slice A' (n - m) (c - m)) W) ∧
      ∀ (k : Kd α) (w : World) (ok : Nat → Prop) (xs : List α), k.sz = size → n = xs.length → n ≤ c → Kd.F k w ok A xs.length xs → Kd.F k w ok A' (n - m) (xs.drop m) := by
  obtain ⟨i, hi, hzz⟩ := Option.map_eq_some_iff.1 hinfo
  simp only [Prod.mk.injEq] at hzz
  refine ⟨if c = m then A else A.map (·.add (m * size)), fun W => ?_, fun k w ok xs hs hn hc h => ?_⟩
  · have hel : Try.prog.elem t = e := by simp [Program.elem, ht]
    have hu : Try.prog.underlying t = some (.slice (Try.prog.elem t)) := by rw [hel]; exact ht
    rw [run_slice_l W t A n c hu kl (m : Int) (Int.natCast_nonneg _) (by omega), hel]
    simp [sizeOf, typeInfo, hi, hzz.2.1, sliced, Result.andThen]
  · subst hn
    subst hs
    have := Kd.F_cut (c := c) h hm hc
    rwa [List.length_drop] at this
/-- A row that was there at first, to be appended. -/
theorem rowR {α : Type} {d : Kd α} {t : TypeId} {ok : Nat → Prop} {N : Nat} {w0 W : World} {v : Value} {ds : List α} {A : Option Addr} {n : Nat} {xs : List α} (h : Grow d t ok N w0 W v ds) (hN : N = w0.heap.size) (hF : Kd.F d w0 ok A n xs) : ReadsRow (RO d ok N W) d.sz W A n xs := by
  subst hN
  have h1 := Kd.F_rows (Kd.F_mono (ok' := fun i => ok i ∧ i < w0.heap.size) (Kd.F_bound hF) (fun i hi => hi))
  refine ⟨h1.1, h1.2.1, fun hp => ?_⟩
  obtain ⟨ad, e, hc⟩ := h1.2.2 hp
  refine ⟨ad, e, fun j p hj => ?_⟩
  obtain ⟨cs, c1, c2, c3⟩ := hc j p hj
  exact ⟨cs, c1, ro_step c2 h.bl, fun i u hu => pw_cell_below h.bl (c3 i u hu)⟩
end Grow
end Go.Proofs.Ytmmelfnhhjfaeaa
set_option linter.unusedVariables false
set_option linter.unusedSimpArgs false
namespace Go.Proofs.Ytmmelfnhhjfaeaa
open Go.RowKit Go.Proofs.YtmmelfnhhjfaeaaW.PrintWords
namespace Grow
variable {α : Type} {d : Kd α} {t : TypeId} {ok : Nat → Prop} {N : Nat} {w0 W W1 : World} {v : Value} {ds : List α} {y : α} {cs : List Value}
theorem ty (h : Grow d t ok N w0 W v ds) {k : Nat} (hk : v.ownBlock = some k) : Ty W t k := by
  obtain ⟨inner, ho, _⟩ := h.row
  obtain ⟨cells, hc⟩ := own_typed ho k hk
  exact ⟨cells, _, hc⟩
theorem ne (h : Grow d t ok N w0 W v ds) {t' : TypeId} {b : Nat} (hT : Ty W t' b) (hne : t ≠ t') : b ∉ v.ownBlock.toList := fun e => by
  rw [Option.mem_toList] at e
  exact (h.ty e).ne hne hT
theorem ne2 {α' : Type} {d' : Kd α'} {t' : TypeId} {ok' : Nat → Prop} {v' : Value} {ds' : List α'} (h : Grow d t ok N w0 W v ds) (h' : Grow d' t' ok' N w0 W v' ds') (hne : t ≠ t') : ∀ k ∈ v'.ownBlock.toList, v.ownBlock ≠ some k := fun k hk e => by
  rw [Option.mem_toList] at hk
  exact (h.ty e).ne hne (h'.ty hk)
theorem only {S : List Nat} (h : Grow d t ok N w0 W v ds) (o : Only S W W1) (hN : ∀ k ∈ S, N ≤ k) (hS : ∀ k ∈ S, v.ownBlock ≠ some k) : Grow d t ok N w0 W1 v ds := by
  obtain ⟨inner, ho, hr⟩ := h.row
  have hb : Below N W W1 := o.below hN h.hN
  exact ⟨⟨inner, own_move ho (fun k hk => o.block k (own_lt ho k hk) (fun hm => hS k hm hk)), hr.imp_ (fun _ _ hr => ro_step hr hb)⟩, h.bl.trans hb, Nat.le_trans h.hN hb.size⟩
theorem setCell (h : Grow d t ok N w0 W v ds) {t' : TypeId} {b i : Nat} {u : Value} (hT : Ty W t' b) (hne : t ≠ t') (hb : N ≤ b) : Grow d t ok N w0 (W.setCell ⟨b, i, none⟩ u) v ds :=
  h.only (S := [b]) ((Only.refl [b] W).set (p := ⟨b, i, none⟩) u (.inl (by simp))) (by simp [hb]) (fun k hk e => by
    have : k = b := by simpa using hk
    subst this
    exact h.ne hT hne (Option.mem_toList.2 e))
theorem own_ge (h : Grow d t ok N w0 W v ds) : ∀ k ∈ v.ownBlock.toList, N ≤ k := fun k hk => by
  rw [Option.mem_toList] at hk
  obtain ⟨inner, ho, _⟩ := h.row
  exact own_base ho k hk
section
variable {P : Program} {ops : Array Oper} {rest : List Oper} {o : Oper} {a : Act} {Q : Exit → Act → World → Prop}
/-- append(v, y): y lies in a block of its own; what else has turned. -/
theorem push3 (hgd : o.guard = none) (s x : Operand) (ts : TypeId) (z : Value) (bytes : Nat)
    (ho : o.op = .call { callee := .builtin .append, args := #[s, x], argTypes := #[ts, ts] })
    (ht : P.underlying ts = some (.slice t)) (hinfo : (P.info? t).map (fun i => (i.zero, i.size, i.bytes)) = some (some z, d.sz, bytes)) (hz : z.cells.size = d.sz) (hs0 : 0 < d.sz) (hb0 : 0 < bytes)
    (G : Grow d t ok N w0 W v ds) (cells : Array Value) (hy : RO d ok N W y cells.toList) (hs : a.eval s = v) (hx : a.eval x = .slice (some ⟨W.heap.size, 0, none⟩) 1 1)
    (hl : (ds.length + 1) * bytes ≤ 140737488355328)
    (h : ∀ v1 w1, Grow d t ok N w0 w1 v1 (ds ++ [y]) → Only v.ownBlock.toList W w1 → wpList P ops Q rest (a.put o.dst v1) w1) :
    wpList P ops Q (o :: rest) a (W.alloc (.cells cells t)) := by
  have hb := below_alloc (Below.refl W.heap.size W) (.cells cells t)
  have G' := G.below hb
  have hy' : RO d ok N (W.alloc (.cells cells t)) y cells.toList := ro_step hy (hb.mono G.hN)
  have hB := Blk.new_ W cells t rfl rfl
  have HR : ReadsRow (RO d ok N (W.alloc (.cells cells t))) d.sz (W.alloc (.cells cells t)) (some ⟨W.heap.size, 0, none⟩) 1 [y] := by
    refine ⟨rfl, by omega, fun _ => ⟨_, rfl, fun j p hj => ?_⟩⟩
    rcases j with _ | j
    · simp at hj
      subst hj
      exact ⟨cells.toList, d.K_len (Kd.FK_now hy'), hy', fun i u hu => by rw [add_plain]; simpa using hB.cell i hu⟩
    · simp at hj
  refine own_append_rows (w0 := w0) (R := RO d ok N (W.alloc (.cells cells t))) N hgd s x ts t z d.sz bytes ho ht hinfo hz hs0 hb0 v ds [y] (some ⟨W.heap.size, 0, none⟩) 1 1 hs hx G'.row HR (fun q cs hq => d.K_one (Kd.FK_now hq)) G'.bl G'.hN hl ?_
  intro v1 w1 hown hB1 hg hat
  have hb2 : Below N (W.alloc (.cells cells t)) w1 := (Below.refl N _).grown hg G'.hN (OwnRow.base_ G'.row)
  exact h v1 w1 ⟨OwnRow.imp_ hown (fun _ _ hr => ro_step hr hb2), hB1, Nat.le_trans G'.hN hb2.size⟩ (((Only.refl _ W).alloc _).grown hg (fun k hk => .inl (Option.mem_toList.2 hk)))
/-- The same as a step of a region that draws. -/
theorem step_push3 {K : Act → World → Prop} {E : Prop} (hgd : o.guard = none) (s x : Operand) (ts : TypeId) (z : Value) (bytes : Nat)
    (ho : o.op = .call { callee := .builtin .append, args := #[s, x], argTypes := #[ts, ts] })
    (ht : P.underlying ts = some (.slice t)) (hinfo : (P.info? t).map (fun i => (i.zero, i.size, i.bytes)) = some (some z, d.sz, bytes)) (hz : z.cells.size = d.sz) (hs0 : 0 < d.sz) (hb0 : 0 < bytes)
    (G : Grow d t ok N w0 W v ds) (cells : Array Value) (hy : RO d ok N W y cells.toList) (hs : a.eval s = v) (hx : a.eval x = .slice (some ⟨W.heap.size, 0, none⟩) 1 1)
    (hl : (ds.length + 1) * bytes ≤ 140737488355328)
    (h : ∀ v1 w1, Grow d t ok N w0 w1 v1 (ds ++ [y]) → Only v.ownBlock.toList W w1 → K (a.put o.dst v1) w1) :
    if Region.wanted o (yielded ops a.tmps) = true then Oper.wp P o a (W.alloc (.cells cells t)) K Q else E := by
  have hb := below_alloc (Below.refl W.heap.size W) (.cells cells t)
  have G' := G.below hb
  have hy' : RO d ok N (W.alloc (.cells cells t)) y cells.toList := ro_step hy (hb.mono G.hN)
  have hB := Blk.new_ W cells t rfl rfl
  have HR : ReadsRow (RO d ok N (W.alloc (.cells cells t))) d.sz (W.alloc (.cells cells t)) (some ⟨W.heap.size, 0, none⟩) 1 [y] := by
    refine ⟨rfl, by omega, fun _ => ⟨_, rfl, fun j p hj => ?_⟩⟩
    rcases j with _ | j
    · simp at hj
      subst hj
      exact ⟨cells.toList, d.K_len (Kd.FK_now hy'), hy', fun i u hu => by rw [add_plain]; simpa using hB.cell i hu⟩
    · simp at hj
  refine step_append_rows (R := RO d ok N (W.alloc (.cells cells t))) N hgd s x ts t z d.sz bytes ho ht hinfo hz hs0 hb0 v ds [y] (some ⟨W.heap.size, 0, none⟩) 1 1 hs hx G'.row HR (fun q cs hq => d.K_one (Kd.FK_now hq)) G'.hN hl ?_
  intro v1 w1 hown hg hat
  have hB1 := G'.bl.grown hg G'.hN (OwnRow.base_ G'.row)
  have hb2 : Below N (W.alloc (.cells cells t)) w1 := (Below.refl N _).grown hg G'.hN (OwnRow.base_ G'.row)
  exact h v1 w1 ⟨OwnRow.imp_ hown (fun _ _ hr => ro_step hr hb2), hB1, Nat.le_trans G'.hN hb2.size⟩ (((Only.refl _ W).alloc _).grown hg (fun k hk => .inl (Option.mem_toList.2 hk)))
end
end Grow
end Go.Proofs.Ytmmelfnhhjfaeaa
set_option linter.unusedVariables false
set_option linter.unusedSimpArgs false
namespace Go.Proofs.Ytmmelfnhhjfaeaa
open Go.RowKit Go.Proofs.YtmmelfnhhjfaeaaW.PrintWords
theorem u8_one (w : World) (ok : Nat → Prop) (x : UInt8) : Kd.FK kU8 w ok x [.int .u8 (x.toNat : Int)] := fun W' _ => rfl
theorem take1 {L : List Value} {j : Nat} {v : Value} (h : L[j]? = some v) : (L.drop j).take 1 = [v] := by
  obtain ⟨hj, rfl⟩ := List.getElem?_eq_some_iff.1 h
  rw [List.drop_eq_getElem_cons hj]
  rfl
/-- A slice literal of bytes. -/
theorem Grow.lit8 (w : World) (ok : Nat → Prop) (xs : List UInt8) (cs : Array Value) (hc : cs = (xs.map (fun x : UInt8 => Value.int .u8 (x.toNat : Int))).toArray) (hl : xs.length ≤ 1000000) :
    Grow kU8 5 ok w.heap.size w (w.alloc (.cells cs 5)) (.slice (some ⟨w.heap.size, 0, none⟩) xs.length xs.length) xs := by
  subst hc
  refine ⟨⟨_, World.ownsRow_lit w _ xs.length (Nat.le_refl _) (by unfold maxLen; omega) (by simp [kU8, Kd.scalar]), ?_⟩, below_alloc (Below.refl _ _) _, by simp⟩
  refine ⟨by simp [kU8, Kd.scalar], fun j p hj => ?_⟩
  have hlt := (List.getElem?_eq_some_iff.1 hj).1
  have : ((xs.map (fun x : UInt8 => Value.int .u8 (x.toNat : Int))).toArray.toList.drop (j * 1)).take 1 = [Value.int .u8 (p.toNat : Int)] := by
    rw [Nat.mul_one]
    exact take1 (by simp [hj])
  show RO kU8 ok w.heap.size _ p (((xs.map (fun x : UInt8 => Value.int .u8 (x.toNat : Int))).toArray.toList.drop (j * 1)).take 1)
  rw [this]
  exact u8_one _ _ _
/-- A row of bytes holds whatever the world. -/
theorem ro8 {ok ok' : Nat → Prop} {N N' : Nat} {W W' : World} {x : UInt8} {cs : List Value} (h : RO kU8 ok N W x cs) : RO kU8 ok' N' W' x cs := by
  have h' : cs = [.int .u8 (x.toNat : Int)] := Kd.FK_now h
  subst h'
  exact u8_one _ _ _
theorem Grow.elder8 {ok ok' : Nat → Prop} {w w0 W : World} {v : Value} {xs : List UInt8} (h : Grow kU8 5 ok w0.heap.size w0 W v xs) (hb : Below w.heap.size w w0) : Grow kU8 5 ok' w.heap.size w W v xs := by
  obtain ⟨inner, ho, hr⟩ := h.row
  exact ⟨⟨inner, own_weaken ho hb.size, hr.imp_ (fun _ _ h => ro8 h)⟩, hb.trans (h.bl.mono hb.size), Nat.le_trans hb.size h.hN⟩
/-- Bytes that are read, to be appended. -/
theorem rows8 {ok : Nat → Prop} {N : Nat} {W : World} {ys : List UInt8} {A : Option Addr} {m : Nat} (hC : kU8.C W A m ys) : ReadsRow (RO kU8 ok N W) kU8.sz W A m ys := by
  refine ⟨hC.1, hC.2.1, fun hp => ?_⟩
  obtain ⟨ad, e, hc⟩ := hC.2.2 hp
  refine ⟨ad, e, fun j p hj => ?_⟩
  obtain ⟨cs, c1, c2, c3⟩ := hc j p hj
  have c2' : cs = [.int .u8 (p.toNat : Int)] := c2
  subst c2'
  exact ⟨_, c1, u8_one _ _ _, c3⟩
section
variable {P : Program} {ops : Array Oper} {rest : List Oper} {o : Oper} {a : Act} {Q : Exit → Act → World → Prop} {ok : Nat → Prop} {N : Nat} {w0 W : World} {v : Value} {ds : List UInt8}
/-- append(v, ys...), bytes; what else has turned. -/
theorem Grow.cat3 (hgd : o.guard = none) (s x : Operand) (ts : TypeId) (z : Value)
    (ho : o.op = .call { callee := .builtin .append, args := #[s, x], argTypes := #[ts, ts] })
    (ht : P.underlying ts = some (.slice 5)) (hinfo : (P.info? 5).map (fun i => (i.zero, i.size, i.bytes)) = some (some z, 1, 1)) (hz : z.cells.size = 1)
    (G : Grow kU8 5 ok N w0 W v ds) (ys : List UInt8) (A : Option Addr) (m c : Nat) (hs : a.eval s = v) (hx : a.eval x = .slice A m c)
    (HC : kU8.C W A m ys) (hl : ds.length + m ≤ 140737488355328)
    (h : ∀ v1 w1, Grow kU8 5 ok N w0 w1 v1 (ds ++ ys) → Only v.ownBlock.toList W w1 → wpList P ops Q rest (a.put o.dst v1) w1) :
    wpList P ops Q (o :: rest) a W := by
  refine own_append_rows (w0 := w0) (R := RO kU8 ok N W) N hgd s x ts 5 z 1 1 ho ht hinfo hz (by omega) (by omega) v ds ys A m c hs hx G.row (rows8 HC) (fun q cs hq => kU8.K_one (Kd.FK_now hq)) G.bl G.hN (by omega) ?_
  intro v1 w1 hown hB hg hat
  exact h v1 w1 ⟨OwnRow.imp_ hown (fun _ _ hr => ro8 hr), hB, Nat.le_trans G.hN hg.size⟩ ((Only.refl _ W).grown hg (fun k hk => .inl (Option.mem_toList.2 hk)))
end
/-- What a function leaves that makes bytes. -/
def BytesTold (w : World) (xs : List UInt8) (e : Ending) (w' : World) : Prop := ∃ A c, e = .returned (.slice A xs.length c) ∧ xs.length ≤ c ∧ Kd.F kU8 w' (fun k => w.heap.size ≤ k) A xs.length xs ∧ Below w.heap.size w w'
/-- .. and that are its own. -/
def BytesOwn (w : World) (xs : List UInt8) (e : Ending) (w' : World) : Prop := ∃ v, e = .returned v ∧ Grow kU8 5 (fun _ => False) w.heap.size w w' v xs
theorem Grow.told {w0 W : World} {v : Value} {xs : List UInt8} (h : Grow kU8 5 (fun _ => False) w0.heap.size w0 W v xs) : BytesTold w0 xs (.returned v) W := by
  obtain ⟨A, c, rfl, hc, hF⟩ := h.foot
  exact ⟨A, c, rfl, hc, Foot.mono hF (fun i hi => hi.elim (fun h => h.elim) id), h.bl⟩
end Go.Proofs.Ytmmelfnhhjfaeaa
set_option linter.unusedVariables false
set_option linter.unusedSimpArgs false
namespace Go.Proofs.Ytmmelfnhhjfaeaa
open Go.RowKit Go.Proofs.YtmmelfnhhjfaeaaW.PrintWords
namespace Pack
/-- What of a number's bytes has come when j of eight are looked at. -/
def ks (u j : Nat) : List UInt8 := (digs u (cnt u)).take (cnt u - (8 - j))
theorem digs_at (u : Nat) : ∀ (c i : Nat), i < c → (digs u c)[i]? = some (dig u (c - 1 - i))
  | c + 1, 0, _ => by simp [digs]
  | c + 1, i + 1, h => by
    rw [digs, List.getElem?_cons_succ, digs_at u c i (by omega), show c + 1 - 1 - (i + 1) = c - 1 - i by omega]
theorem ks_skip {u j : Nat} (hj : j < 8) (h : cnt u ≤ 7 - j) : ks u (j + 1) = ks u j := by
  unfold ks
  rw [show cnt u - (8 - (j + 1)) = 0 by omega, show cnt u - (8 - j) = 0 by omega]
theorem ks_add {u j : Nat} (hj : j < 8) (h : 7 - j < cnt u) : ks u (j + 1) = ks u j ++ [dig u (7 - j)] := by
  unfold ks
  have hc := cnt_le u
  rw [show cnt u - (8 - (j + 1)) = (cnt u - (8 - j)) + 1 by omega, List.take_add_one, digs_at u (cnt u) (cnt u - (8 - j)) (by omega), show cnt u - 1 - (cnt u - (8 - j)) = 7 - j by omega]
  rfl
theorem ks_len (u j : Nat) : (ks u j).length = cnt u - (8 - j) := by
  unfold ks
  rw [List.length_take, digs_len]
  omega
theorem ks_all (u : Nat) : ks u 8 = digs u (cnt u) := by
  unfold ks
  rw [List.take_of_length_le (by rw [digs_len]; omega)]
theorem dig_zero {u b : Nat} (hu : u < 18446744073709551616) (h : cnt u ≤ b) : dig u b = 0 := by
  have h1 := cnt_top hu
  have h2 : u / 256 ^ b = 0 := by
    rw [show b = cnt u + (b - cnt u) by omega, Nat.pow_add, ← Nat.div_div_eq_div_mul, h1, Nat.zero_div]
  unfold dig
  rw [h2]
  rfl
theorem dig_top {u b : Nat} (hu : u < 18446744073709551616) (h : b + 1 = cnt u) : dig u b ≠ 0 := by
  have h1 := cnt_top hu
  have h2 := cnt_low (u := u) (k := b) (by omega)
  rw [← h, Nat.pow_succ, ← Nat.div_div_eq_div_mul] at h1
  intro e
  have h3 : (dig u b).toNat = 0 := by rw [e]; rfl
  unfold dig at h3
  simp at h3
  omega
theorem dig_int (u b : Nat) (D : Int) (hD : D = ((256 ^ b : Nat) : Int)) : (u : Int) / D % 256 = ((dig u b).toNat : Int) := by
  subst hD
  unfold dig
  rw [show (UInt8.ofNat (u / 256 ^ b % 256)).toNat = u / 256 ^ b % 256 from by rw [UInt8.toNat_ofNat']; exact Nat.mod_eq_of_lt (Nat.mod_lt _ (by decide)), Int.natCast_emod, Int.natCast_ediv]
  rfl
set_option maxRecDepth 100000 in
set_option maxHeartbeats 1000000 in
theorem num_calls (n : Int) (w : World) (hn : InR .i64 n) : Calls Try.prog 32 #[.int .i64 n] w (BytesOwn w (numB n)) := by
  obtain ⟨u, hu⟩ : ∃ u, u = u64 n := ⟨_, rfl⟩
  have hul : u < 18446744073709551616 := by rw [hu]; exact u64_lt n
  have hw64 : IntKind.u64.wrap n = (u : Int) := by
    rw [hu]; unfold u64
    have : IntKind.u64.wrap n = n % 18446744073709551616 := by simp [IntKind.wrap, IntKind.bits, IntKind.signed]
    rw [this]
    omega
  have HU := Aside0.mk (And.intro hu hul)
  have hnb : numB n = UInt8.ofNat (cnt u) :: digs u (cnt u) := by unfold numB numN; rw [hu]
  rw [hnb]
  clear hu hul hnb hn
  have e7 := dig_int u 7 72057594037927936 (by decide)
  have e6 := dig_int u 6 281474976710656 (by decide)
  have e5 := dig_int u 5 1099511627776 (by decide)
  have e4 := dig_int u 4 4294967296 (by decide)
  have e3 := dig_int u 3 16777216 (by decide)
  have e2 := dig_int u 2 65536 (by decide)
  have e1 := dig_int u 1 256 (by decide)
  have e0 := dig_int u 0 1 (by decide)
  rw [Int.ediv_one] at e0
  go_enter Try.func32, Try.ntmps32
  go_upto_region 3 with (fail)
  generalize hX : World.alloc _ _ = W0
  have HG0 : Aside0 (Grow kU8 5 (fun _ => False) w.heap.size w W0 (.slice (some ⟨w.heap.size, 0, none⟩) 1 1) [0]) := ⟨by rw [← hX]; exact Grow.lit8 w _ [0] _ rfl (by simp)⟩
  clear hX
  go_loopg [3, 4] 8 (fun gk v3 v wr => ∃ j : Nat, v = .int .i64 (56 - 8 * (j : Int)) ∧ j ≤ 8 ∧ Aside0 (gk + j = 8) ∧ Aside0 (Grow kU8 5 (fun _ => False) w.heap.size w wr v3 (0 :: ks u j)))
  case atStart => exact ⟨0, rfl, by omega, ⟨rfl⟩, ⟨by rw [show ks u 0 = [] from List.length_eq_zero_iff.1 (by rw [ks_len]; have := cnt_le u; omega)]; exact HG0.out⟩⟩
  case round =>
    obtain ⟨j, rfl, hj, HG, HS⟩ := hrel
    by_cases hlt : j < 8
    · have hj' : j = 0 ∨ j = 1 ∨ j = 2 ∨ j = 3 ∨ j = 4 ∨ j = 5 ∨ j = 6 ∨ j = 7 := by omega
      rcases hj' with rfl | rfl | rfl | rfl | rfl | rfl | rfl | rfl
      · by_cases hc : cnt u ≤ 7
        · have HK := Aside0.mk (ks_skip (u := u) (j := 0) (by omega) hc)
          have hz : ((dig u 7).toNat : Int) = 0 := by rw [dig_zero HU.out.2 hc]; rfl
          rw [hz] at e7
          have hk0 : ks u 0 = [] := List.length_eq_zero_iff.1 (by rw [ks_len]; omega)
          obtain ⟨A, cp, hv, _⟩ := HS.out.slice
          rw [hk0] at hv
          subst hv
          have HS' : Aside0 (Grow kU8 5 (fun _ => False) w.heap.size w wr (.slice A 1 cp) (0 :: ks u (0 + 1))) := ⟨by rw [HK.out]; exact HS.out⟩
          clear hz hk0 hc
          dsimp only [List.length_cons, List.length_nil]
          go_wp2
          go_roundg (8 - (0 + 1))
          case measure => have := HG.out; omega
          case rel => exact ⟨0 + 1, by go_num, by omega, ⟨by omega⟩, HS'⟩
        · have HK := Aside0.mk (ks_add (u := u) (j := 0) (by omega) (by omega))
          obtain ⟨x, hx⟩ : ∃ x, x = dig u 7 := ⟨_, rfl⟩
          rw [← hx] at e7
          have HKX : Aside0 (0 :: ks u (0 + 1) = (0 :: ks u 0) ++ [x]) := ⟨by rw [HK.out, hx]; rfl⟩
          obtain ⟨m, hm⟩ : ∃ m, m = (0 :: ks u 0).length := ⟨_, rfl⟩
          obtain ⟨A, cp, hv, _⟩ := HS.out.slice
          rw [← hm] at hv
          subst hv
          have hm8 : m ≤ 9 := by rw [hm, List.length_cons, ks_len]; have := cnt_le u; omega
          have HM := Aside0.mk hm
          have hor : (x.toNat : Int) = 0 ∧ (1 : Int) < (m : Int) ∨ ¬ (x.toNat : Int) = 0 := by
            by_cases h0 : (x.toNat : Int) = 0
            · left
              refine ⟨h0, ?_⟩
              have h1 : 7 + 1 ≠ cnt u := fun e => dig_top HU.out.2 e (by
                rw [← hx]
                exact UInt8.toNat_inj.1 (by simpa using h0))
              rw [hm, List.length_cons, ks_len]
              omega
            · exact .inr h0
          clear hx hm hc
          rcases hor with ⟨hz, hl⟩ | hz
          · rw [hz] at e7
            have HZ := Aside0.mk hz
            clear hz
            go_wp2_with (first | (at_builtin; refine Grow.push (y := x) (cells := #[.int .u8 0]) rfl _ _ 24 _ 1 rfl Try.underlying24 info8 rfl (by decide) (by omega) HS.out (by rw [← HZ.out]; exact u8_one _ _ x) rfl rfl (by have := HM.out; omega) ?_; intro v1 w9 hG9; have HG9 := Aside0.mk hG9; clear hG9))
            go_roundg (8 - (0 + 1))
            case measure => have := HG.out; omega
            case rel => exact ⟨0 + 1, by go_num, by omega, ⟨by omega⟩, ⟨by rw [HKX.out]; exact HG9.out⟩⟩
          · have hz1 : ((x.toNat : Int) == 0) = false := by simpa using hz
            have hz2 : ((x.toNat : Int) != 0) = true := by simpa using hz
            clear hz
            go_wp2_with (first | (at_builtin; refine Grow.push (y := x) (cells := #[.int .u8 (x.toNat : Int)]) rfl _ _ 24 _ 1 rfl Try.underlying24 info8 rfl (by decide) (by omega) HS.out (u8_one _ _ x) rfl rfl (by have := HM.out; omega) ?_; intro v1 w9 hG9; have HG9 := Aside0.mk hG9; clear hG9))
            go_roundg (8 - (0 + 1))
            case measure => have := HG.out; omega
            case rel => exact ⟨0 + 1, by go_num, by omega, ⟨by omega⟩, ⟨by rw [HKX.out]; exact HG9.out⟩⟩
      · by_cases hc : cnt u ≤ 6
        · have HK := Aside0.mk (ks_skip (u := u) (j := 1) (by omega) hc)
          have hz : ((dig u 6).toNat : Int) = 0 := by rw [dig_zero HU.out.2 hc]; rfl
          rw [hz] at e6
          have hk0 : ks u 1 = [] := List.length_eq_zero_iff.1 (by rw [ks_len]; omega)
          obtain ⟨A, cp, hv, _⟩ := HS.out.slice
          rw [hk0] at hv
          subst hv
          have HS' : Aside0 (Grow kU8 5 (fun _ => False) w.heap.size w wr (.slice A 1 cp) (0 :: ks u (1 + 1))) := ⟨by rw [HK.out]; exact HS.out⟩
          clear hz hk0 hc
          dsimp only [List.length_cons, List.length_nil]
          go_wp2
          go_roundg (8 - (1 + 1))
          case measure => have := HG.out; omega
          case rel => exact ⟨1 + 1, by go_num, by omega, ⟨by omega⟩, HS'⟩
        · have HK := Aside0.mk (ks_add (u := u) (j := 1) (by omega) (by omega))
          obtain ⟨x, hx⟩ : ∃ x, x = dig u 6 := ⟨_, rfl⟩
          rw [← hx] at e6
          have HKX : Aside0 (0 :: ks u (1 + 1) = (0 :: ks u 1) ++ [x]) := ⟨by rw [HK.out, hx]; rfl⟩
          obtain ⟨m, hm⟩ : ∃ m, m = (0 :: ks u 1).length := ⟨_, rfl⟩
          obtain ⟨A, cp, hv, _⟩ := HS.out.slice
          rw [← hm] at hv
          subst hv
          have hm8 : m ≤ 9 := by rw [hm, List.length_cons, ks_len]; have := cnt_le u; omega
          have HM := Aside0.mk hm
          have hor : (x.toNat : Int) = 0 ∧ (1 : Int) < (m : Int) ∨ ¬ (x.toNat : Int) = 0 := by
            by_cases h0 : (x.toNat : Int) = 0
            · left
              refine ⟨h0, ?_⟩
              have h1 : 6 + 1 ≠ cnt u := fun e => dig_top HU.out.2 e (by
                rw [← hx]
                exact UInt8.toNat_inj.1 (by simpa using h0))
              rw [hm, List.length_cons, ks_len]
              omega
            · exact .inr h0
          clear hx hm hc
          rcases hor with ⟨hz, hl⟩ | hz
          · rw [hz] at e6
            have HZ := Aside0.mk hz
            clear hz
            go_wp2_with (first | (at_builtin; refine Grow.push (y := x) (cells := #[.int .u8 0]) rfl _ _ 24 _ 1 rfl Try.underlying24 info8 rfl (by decide) (by omega) HS.out (by rw [← HZ.out]; exact u8_one _ _ x) rfl rfl (by have := HM.out; omega) ?_; intro v1 w9 hG9; have HG9 := Aside0.mk hG9; clear hG9))
            go_roundg (8 - (1 + 1))
            case measure => have := HG.out; omega
            case rel => exact ⟨1 + 1, by go_num, by omega, ⟨by omega⟩, ⟨by rw [HKX.out]; exact HG9.out⟩⟩
          · have hz1 : ((x.toNat : Int) == 0) = false := by simpa using hz
            have hz2 : ((x.toNat : Int) != 0) = true := by simpa using hz
            clear hz
            go_wp2_with (first | (at_builtin; refine Grow.push (y := x) (cells := #[.int .u8 (x.toNat : Int)]) rfl _ _ 24 _ 1 rfl Try.underlying24 info8 rfl (by decide) (by omega) HS.out (u8_one _ _ x) rfl rfl (by have := HM.out; omega) ?_; intro v1 w9 hG9; have HG9 := Aside0.mk hG9; clear hG9))
            go_roundg (8 - (1 + 1))
            case measure => have := HG.out; omega
            case rel => exact ⟨1 + 1, by go_num, by omega, ⟨by omega⟩, ⟨by rw [HKX.out]; exact HG9.out⟩⟩
      · by_cases hc : cnt u ≤ 5
        · have HK := Aside0.mk (ks_skip (u := u) (j := 2) (by omega) hc)
          have hz : ((dig u 5).toNat : Int) = 0 := by rw [dig_zero HU.out.2 hc]; rfl
          rw [hz] at e5
          have hk0 : ks u 2 = [] := List.length_eq_zero_iff.1 (by rw [ks_len]; omega)
          obtain ⟨A, cp, hv, _⟩ := HS.out.slice
          rw [hk0] at hv
          subst hv
          have HS' : Aside0 (Grow kU8 5 (fun _ => False) w.heap.size w wr (.slice A 1 cp) (0 :: ks u (2 + 1))) := ⟨by rw [HK.out]; exact HS.out⟩
          clear hz hk0 hc
          dsimp only [List.length_cons, List.length_nil]
          go_wp2
          go_roundg (8 - (2 + 1))
          case measure => have := HG.out; omega
          case rel => exact ⟨2 + 1, by go_num, by omega, ⟨by omega⟩, HS'⟩
        · have HK := Aside0.mk (ks_add (u := u) (j := 2) (by omega) (by omega))
          obtain ⟨x, hx⟩ : ∃ x, x = dig u 5 := ⟨_, rfl⟩
          rw [← hx] at e5
          have HKX : Aside0 (0 :: ks u (2 + 1) = (0 :: ks u 2) ++ [x]) := ⟨by rw [HK.out, hx]; rfl⟩
          obtain ⟨m, hm⟩ : ∃ m, m = (0 :: ks u 2).length := ⟨_, rfl⟩
          obtain ⟨A, cp, hv, _⟩ := HS.out.slice
          rw [← hm] at hv
          subst hv
          have hm8 : m ≤ 9 := by rw [hm, List.length_cons, ks_len]; have := cnt_le u; omega
          have HM := Aside0.mk hm
          have hor : (x.toNat : Int) = 0 ∧ (1 : Int) < (m : Int) ∨ ¬ (x.toNat : Int) = 0 := by
            by_cases h0 : (x.toNat : Int) = 0
            · left
              refine ⟨h0, ?_⟩
              have h1 : 5 + 1 ≠ cnt u := fun e => dig_top HU.out.2 e (by
                rw [← hx]
                exact UInt8.toNat_inj.1 (by simpa using h0))
              rw [hm, List.length_cons, ks_len]
              omega
            · exact .inr h0
          clear hx hm hc
          rcases hor with ⟨hz, hl⟩ | hz
          · rw [hz] at e5
            have HZ := Aside0.mk hz
            clear hz
            go_wp2_with (first | (at_builtin; refine Grow.push (y := x) (cells := #[.int .u8 0]) rfl _ _ 24 _ 1 rfl Try.underlying24 info8 rfl (by decide) (by omega) HS.out (by rw [← HZ.out]; exact u8_one _ _ x) rfl rfl (by have := HM.out; omega) ?_; intro v1 w9 hG9; have HG9 := Aside0.mk hG9; clear hG9))
            go_roundg (8 - (2 + 1))
            case measure => have := HG.out; omega
            case rel => exact ⟨2 + 1, by go_num, by omega, ⟨by omega⟩, ⟨by rw [HKX.out]; exact HG9.out⟩⟩
          · have hz1 : ((x.toNat : Int) == 0) = false := by simpa using hz
            have hz2 : ((x.toNat : Int) != 0) = true := by simpa using hz
            clear hz
            go_wp2_with (first | (at_builtin; refine Grow.push (y := x) (cells := #[.int .u8 (x.toNat : Int)]) rfl _ _ 24 _ 1 rfl Try.underlying24 info8 rfl (by decide) (by omega) HS.out (u8_one _ _ x) rfl rfl (by have := HM.out; omega) ?_; intro v1 w9 hG9; have HG9 := Aside0.mk hG9; clear hG9))
            go_roundg (8 - (2 + 1))
            case measure => have := HG.out; omega
            case rel => exact ⟨2 + 1, by go_num, by omega, ⟨by omega⟩, ⟨by rw [HKX.out]; exact HG9.out⟩⟩
      · by_cases hc : cnt u ≤ 4
        · have HK := Aside0.mk (ks_skip (u := u) (j := 3) (by omega) hc)
          have hz : ((dig u 4).toNat : Int) = 0 := by rw [dig_zero HU.out.2 hc]; rfl
          rw [hz] at e4
          have hk0 : ks u 3 = [] := List.length_eq_zero_iff.1 (by rw [ks_len]; omega)
          obtain ⟨A, cp, hv, _⟩ := HS.out.slice
          rw [hk0] at hv
          subst hv
          have HS' : Aside0 (Grow kU8 5 (fun _ => False) w.heap.size w wr (.slice A 1 cp) (0 :: ks u (3 + 1))) := ⟨by rw [HK.out]; exact HS.out⟩
          clear hz hk0 hc
          dsimp only [List.length_cons, List.length_nil]
          go_wp2
          go_roundg (8 - (3 + 1))
          case measure => have := HG.out; omega
          case rel => exact ⟨3 + 1, by go_num, by omega, ⟨by omega⟩, HS'⟩
        · have HK := Aside0.mk (ks_add (u := u) (j := 3) (by omega) (by omega))
          obtain ⟨x, hx⟩ : ∃ x, x = dig u 4 := ⟨_, rfl⟩
          rw [← hx] at e4
          have HKX : Aside0 (0 :: ks u (3 + 1) = (0 :: ks u 3) ++ [x]) := ⟨by rw [HK.out, hx]; rfl⟩
          obtain ⟨m, hm⟩ : ∃ m, m = (0 :: ks u 3).length := ⟨_, rfl⟩
          obtain ⟨A, cp, hv, _⟩ := HS.out.slice
          rw [← hm] at hv
          subst hv
          have hm8 : m ≤ 9 := by rw [hm, List.length_cons, ks_len]; have := cnt_le u; omega
          have HM := Aside0.mk hm
          have hor : (x.toNat : Int) = 0 ∧ (1 : Int) < (m : Int) ∨ ¬ (x.toNat : Int) = 0 := by
            by_cases h0 : (x.toNat : Int) = 0
            · left
              refine ⟨h0, ?_⟩
              have h1 : 4 + 1 ≠ cnt u := fun e => dig_top HU.out.2 e (by
                rw [← hx]
                exact UInt8.toNat_inj.1 (by simpa using h0))
              rw [hm, List.length_cons, ks_len]
              omega
            · exact .inr h0
          clear hx hm hc
          rcases hor with ⟨hz, hl⟩ | hz
          · rw [hz] at e4
            have HZ := Aside0.mk hz
            clear hz
            go_wp2_with (first | (at_builtin; refine Grow.push (y := x) (cells := #[.int .u8 0]) rfl _ _ 24 _ 1 rfl Try.underlying24 info8 rfl (by decide) (by omega) HS.out (by rw [← HZ.out]; exact u8_one _ _ x) rfl rfl (by have := HM.out; omega) ?_; intro v1 w9 hG9; have HG9 := Aside0.mk hG9; clear hG9))
            go_roundg (8 - (3 + 1))
            case measure => have := HG.out; omega
            case rel => exact ⟨3 + 1, by go_num, by omega, ⟨by omega⟩, ⟨by rw [HKX.out]; exact HG9.out⟩⟩
          · have hz1 : ((x.toNat : Int) == 0) = false := by simpa using hz
            have hz2 : ((x.toNat : Int) != 0) = true := by simpa using hz
            clear hz
            go_wp2_with (first | (at_builtin; refine Grow.push (y := x) (cells := #[.int .u8 (x.toNat : Int)]) rfl _ _ 24 _ 1 rfl Try.underlying24 info8 rfl (by decide) (by omega) HS.out (u8_one _ _ x) rfl rfl (by have := HM.out; omega) ?_; intro v1 w9 hG9; have HG9 := Aside0.mk hG9; clear hG9))
            go_roundg (8 - (3 + 1))
            case measure => have := HG.out; omega
            case rel => exact ⟨3 + 1, by go_num, by omega, ⟨by omega⟩, ⟨by rw [HKX.out]; exact HG9.out⟩⟩
      · by_cases hc : cnt u ≤ 3
        · have HK := Aside0.mk (ks_skip (u := u) (j := 4) (by omega) hc)
          have hz : ((dig u 3).toNat : Int) = 0 := by rw [dig_zero HU.out.2 hc]; rfl
          rw [hz] at e3
          have hk0 : ks u 4 = [] := List.length_eq_zero_iff.1 (by rw [ks_len]; omega)
          obtain ⟨A, cp, hv, _⟩ := HS.out.slice
          rw [hk0] at hv
          subst hv
          have HS' : Aside0 (Grow kU8 5 (fun _ => False) w.heap.size w wr (.slice A 1 cp) (0 :: ks u (4 + 1))) := ⟨by rw [HK.out]; exact HS.out⟩
          clear hz hk0 hc
          dsimp only [List.length_cons, List.length_nil]
          go_wp2
          go_roundg (8 - (4 + 1))
          case measure => have := HG.out; omega
          case rel => exact ⟨4 + 1, by go_num, by omega, ⟨by omega⟩, HS'⟩
        · have HK := Aside0.mk (ks_add (u := u) (j := 4) (by omega) (by omega))
          obtain ⟨x, hx⟩ : ∃ x, x = dig u 3 := ⟨_, rfl⟩
          rw [← hx] at e3
          have HKX : Aside0 (0 :: ks u (4 + 1) = (0 :: ks u 4) ++ [x]) := ⟨by rw [HK.out, hx]; rfl⟩
          obtain ⟨m, hm⟩ : ∃ m, m = (0 :: ks u 4).length := ⟨_, rfl⟩
          obtain ⟨A, cp, hv, _⟩ := HS.out.slice
          rw [← hm] at hv
          subst hv
          have hm8 : m ≤ 9 := by rw [hm, List.length_cons, ks_len]; have := cnt_le u; omega
          have HM := Aside0.mk hm
          have hor : (x.toNat : Int) = 0 ∧ (1 : Int) < (m : Int) ∨ ¬ (x.toNat : Int) = 0 := by
            by_cases h0 : (x.toNat : Int) = 0
            · left
              refine ⟨h0, ?_⟩
              have h1 : 3 + 1 ≠ cnt u := fun e => dig_top HU.out.2 e (by
                rw [← hx]
                exact UInt8.toNat_inj.1 (by simpa using h0))
              rw [hm, List.length_cons, ks_len]
              omega
            · exact .inr h0
          clear hx hm hc
          rcases hor with ⟨hz, hl⟩ | hz
          · rw [hz] at e3
            have HZ := Aside0.mk hz
            clear hz
            go_wp2_with (first | (at_builtin; refine Grow.push (y := x) (cells := #[.int .u8 0]) rfl _ _ 24 _ 1 rfl Try.underlying24 info8 rfl (by decide) (by omega) HS.out (by rw [← HZ.out]; exact u8_one _ _ x) rfl rfl (by have := HM.out; omega) ?_; intro v1 w9 hG9; have HG9 := Aside0.mk hG9; clear hG9))
            go_roundg (8 - (4 + 1))
            case measure => have := HG.out; omega
            case rel => exact ⟨4 + 1, by go_num, by omega, ⟨by omega⟩, ⟨by rw [HKX.out]; exact HG9.out⟩⟩
          · have hz1 : ((x.toNat : Int) == 0) = false := by simpa using hz
            have hz2 : ((x.toNat : Int) != 0) = true := by simpa using hz
            clear hz
            go_wp2_with (first | (at_builtin; refine Grow.push (y := x) (cells := #[.int .u8 (x.toNat : Int)]) rfl _ _ 24 _ 1 rfl Try.underlying24 info8 rfl (by decide) (by omega) HS.out (u8_one _ _ x) rfl rfl (by have := HM.out; omega) ?_; intro v1 w9 hG9; have HG9 := Aside0.mk hG9; clear hG9))
            go_roundg (8 - (4 + 1))
            case measure => have := HG.out; omega
            case rel => exact ⟨4 + 1, by go_num, by omega, ⟨by omega⟩, ⟨by rw [HKX.out]; exact HG9.out⟩⟩
      · by_cases hc : cnt u ≤ 2
        · have HK := Aside0.mk (ks_skip (u := u) (j := 5) (by omega) hc)
          have hz : ((dig u 2).toNat : Int) = 0 := by rw [dig_zero HU.out.2 hc]; rfl
          rw [hz] at e2
          have hk0 : ks u 5 = [] := List.length_eq_zero_iff.1 (by rw [ks_len]; omega)
          obtain ⟨A, cp, hv, _⟩ := HS.out.slice
          rw [hk0] at hv
          subst hv
          have HS' : Aside0 (Grow kU8 5 (fun _ => False) w.heap.size w wr (.slice A 1 cp) (0 :: ks u (5 + 1))) := ⟨by rw [HK.out]; exact HS.out⟩
          clear hz hk0 hc
          dsimp only [List.length_cons, List.length_nil]
          go_wp2
          go_roundg (8 - (5 + 1))
          case measure => have := HG.out; omega
          case rel => exact ⟨5 + 1, by go_num, by omega, ⟨by omega⟩, HS'⟩
        · have HK := Aside0.mk (ks_add (u := u) (j := 5) (by omega) (by omega))
          obtain ⟨x, hx⟩ : ∃ x, x = dig u 2 := ⟨_, rfl⟩
          rw [← hx] at e2
          have HKX : Aside0 (0 :: ks u (5 + 1) = (0 :: ks u 5) ++ [x]) := ⟨by rw [HK.out, hx]; rfl⟩
          obtain ⟨m, hm⟩ : ∃ m, m = (0 :: ks u 5).length := ⟨_, rfl⟩
          obtain ⟨A, cp, hv, _⟩ := HS.out.slice
          rw [← hm] at hv
          subst hv
          have hm8 : m ≤ 9 := by rw [hm, List.length_cons, ks_len]; have := cnt_le u; omega
          have HM := Aside0.mk hm
          have hor : (x.toNat : Int) = 0 ∧ (1 : Int) < (m : Int) ∨ ¬ (x.toNat : Int) = 0 := by
            by_cases h0 : (x.toNat : Int) = 0
            · left
              refine ⟨h0, ?_⟩
              have h1 : 2 + 1 ≠ cnt u := fun e => dig_top HU.out.2 e (by
                rw [← hx]
                exact UInt8.toNat_inj.1 (by simpa using h0))
              rw [hm, List.length_cons, ks_len]
              omega
            · exact .inr h0
          clear hx hm hc
          rcases hor with ⟨hz, hl⟩ | hz
          · rw [hz] at e2
            have HZ := Aside0.mk hz
            clear hz
            go_wp2_with (first | (at_builtin; refine Grow.push (y := x) (cells := #[.int .u8 0]) rfl _ _ 24 _ 1 rfl Try.underlying24 info8 rfl (by decide) (by omega) HS.out (by rw [← HZ.out]; exact u8_one _ _ x) rfl rfl (by have := HM.out; omega) ?_; intro v1 w9 hG9; have HG9 := Aside0.mk hG9; clear hG9))
            go_roundg (8 - (5 + 1))
            case measure => have := HG.out; omega
            case rel => exact ⟨5 + 1, by go_num, by omega, ⟨by omega⟩, ⟨by rw [HKX.out]; exact HG9.out⟩⟩
          · have hz1 : ((x.toNat : Int) == 0) = false := by simpa using hz
            have hz2 : ((x.toNat : Int) != 0) = true := by simpa using hz
            clear hz
            go_wp2_with (first | (at_builtin; refine Grow.push (y := x) (cells := #[.int .u8 (x.toNat : Int)]) rfl _ _ 24 _ 1 rfl Try.underlying24 info8 rfl (by decide) (by omega) HS.out (u8_one _ _ x) rfl rfl (by have := HM.out; omega) ?_; intro v1 w9 hG9; have HG9 := Aside0.mk hG9; clear hG9))
            go_roundg (8 - (5 + 1))
            case measure => have := HG.out; omega
            case rel => exact ⟨5 + 1, by go_num, by omega, ⟨by omega⟩, ⟨by rw [HKX.out]; exact HG9.out⟩⟩
      · by_cases hc : cnt u ≤ 1
        · have HK := Aside0.mk (ks_skip (u := u) (j := 6) (by omega) hc)
          have hz : ((dig u 1).toNat : Int) = 0 := by rw [dig_zero HU.out.2 hc]; rfl
          rw [hz] at e1
          have hk0 : ks u 6 = [] := List.length_eq_zero_iff.1 (by rw [ks_len]; omega)
          obtain ⟨A, cp, hv, _⟩ := HS.out.slice
          rw [hk0] at hv
          subst hv
          have HS' : Aside0 (Grow kU8 5 (fun _ => False) w.heap.size w wr (.slice A 1 cp) (0 :: ks u (6 + 1))) := ⟨by rw [HK.out]; exact HS.out⟩
          clear hz hk0 hc
          dsimp only [List.length_cons, List.length_nil]
          go_wp2
          go_roundg (8 - (6 + 1))
          case measure => have := HG.out; omega
          case rel => exact ⟨6 + 1, by go_num, by omega, ⟨by omega⟩, HS'⟩
        · have HK := Aside0.mk (ks_add (u := u) (j := 6) (by omega) (by omega))
          obtain ⟨x, hx⟩ : ∃ x, x = dig u 1 := ⟨_, rfl⟩
          rw [← hx] at e1
          have HKX : Aside0 (0 :: ks u (6 + 1) = (0 :: ks u 6) ++ [x]) := ⟨by rw [HK.out, hx]; rfl⟩
          obtain ⟨m, hm⟩ : ∃ m, m = (0 :: ks u 6).length := ⟨_, rfl⟩
          obtain ⟨A, cp, hv, _⟩ := HS.out.slice
          rw [← hm] at hv
          subst hv
          have hm8 : m ≤ 9 := by rw [hm, List.length_cons, ks_len]; have := cnt_le u; omega
          have HM := Aside0.mk hm
          have hor : (x.toNat : Int) = 0 ∧ (1 : Int) < (m : Int) ∨ ¬ (x.toNat : Int) = 0 := by
            by_cases h0 : (x.toNat : Int) = 0
            · left
              refine ⟨h0, ?_⟩
              have h1 : 1 + 1 ≠ cnt u := fun e => dig_top HU.out.2 e (by
                rw [← hx]
                exact UInt8.toNat_inj.1 (by simpa using h0))
              rw [hm, List.length_cons, ks_len]
              omega
            · exact .inr h0
          clear hx hm hc
          rcases hor with ⟨hz, hl⟩ | hz
          · rw [hz] at e1
            have HZ := Aside0.mk hz
            clear hz
            go_wp2_with (first | (at_builtin; refine Grow.push (y := x) (cells := #[.int .u8 0]) rfl _ _ 24 _ 1 rfl Try.underlying24 info8 rfl (by decide) (by omega) HS.out (by rw [← HZ.out]; exact u8_one _ _ x) rfl rfl (by have := HM.out; omega) ?_; intro v1 w9 hG9; have HG9 := Aside0.mk hG9; clear hG9))
            go_roundg (8 - (6 + 1))
            case measure => have := HG.out; omega
            case rel => exact ⟨6 + 1, by go_num, by omega, ⟨by omega⟩, ⟨by rw [HKX.out]; exact HG9.out⟩⟩
          · have hz1 : ((x.toNat : Int) == 0) = false := by simpa using hz
            have hz2 : ((x.toNat : Int) != 0) = true := by simpa using hz
            clear hz
            go_wp2_with (first | (at_builtin; refine Grow.push (y := x) (cells := #[.int .u8 (x.toNat : Int)]) rfl _ _ 24 _ 1 rfl Try.underlying24 info8 rfl (by decide) (by omega) HS.out (u8_one _ _ x) rfl rfl (by have := HM.out; omega) ?_; intro v1 w9 hG9; have HG9 := Aside0.mk hG9; clear hG9))
            go_roundg (8 - (6 + 1))
            case measure => have := HG.out; omega
            case rel => exact ⟨6 + 1, by go_num, by omega, ⟨by omega⟩, ⟨by rw [HKX.out]; exact HG9.out⟩⟩
      · by_cases hc : cnt u ≤ 0
        · have HK := Aside0.mk (ks_skip (u := u) (j := 7) (by omega) hc)
          have hz : ((dig u 0).toNat : Int) = 0 := by rw [dig_zero HU.out.2 hc]; rfl
          rw [hz] at e0
          have hk0 : ks u 7 = [] := List.length_eq_zero_iff.1 (by rw [ks_len]; omega)
          obtain ⟨A, cp, hv, _⟩ := HS.out.slice
          rw [hk0] at hv
          subst hv
          have HS' : Aside0 (Grow kU8 5 (fun _ => False) w.heap.size w wr (.slice A 1 cp) (0 :: ks u (7 + 1))) := ⟨by rw [HK.out]; exact HS.out⟩
          clear hz hk0 hc
          dsimp only [List.length_cons, List.length_nil]
          go_wp2
          go_roundg (8 - (7 + 1))
          case measure => have := HG.out; omega
          case rel => exact ⟨7 + 1, by go_num, by omega, ⟨by omega⟩, HS'⟩
        · have HK := Aside0.mk (ks_add (u := u) (j := 7) (by omega) (by omega))
          obtain ⟨x, hx⟩ : ∃ x, x = dig u 0 := ⟨_, rfl⟩
          rw [← hx] at e0
          have HKX : Aside0 (0 :: ks u (7 + 1) = (0 :: ks u 7) ++ [x]) := ⟨by rw [HK.out, hx]; rfl⟩
          obtain ⟨m, hm⟩ : ∃ m, m = (0 :: ks u 7).length := ⟨_, rfl⟩
          obtain ⟨A, cp, hv, _⟩ := HS.out.slice
          rw [← hm] at hv
          subst hv
          have hm8 : m ≤ 9 := by rw [hm, List.length_cons, ks_len]; have := cnt_le u; omega
          have HM := Aside0.mk hm
          have hor : (x.toNat : Int) = 0 ∧ (1 : Int) < (m : Int) ∨ ¬ (x.toNat : Int) = 0 := by
            by_cases h0 : (x.toNat : Int) = 0
            · left
              refine ⟨h0, ?_⟩
              have h1 : 0 + 1 ≠ cnt u := fun e => dig_top HU.out.2 e (by
                rw [← hx]
                exact UInt8.toNat_inj.1 (by simpa using h0))
              rw [hm, List.length_cons, ks_len]
              omega
            · exact .inr h0
          clear hx hm hc
          rcases hor with ⟨hz, hl⟩ | hz
          · rw [hz] at e0
            have HZ := Aside0.mk hz
            clear hz
            go_wp2_with (first | (at_builtin; refine Grow.push (y := x) (cells := #[.int .u8 0]) rfl _ _ 24 _ 1 rfl Try.underlying24 info8 rfl (by decide) (by omega) HS.out (by rw [← HZ.out]; exact u8_one _ _ x) rfl rfl (by have := HM.out; omega) ?_; intro v1 w9 hG9; have HG9 := Aside0.mk hG9; clear hG9))
            go_roundg (8 - (7 + 1))
            case measure => have := HG.out; omega
            case rel => exact ⟨7 + 1, by go_num, by omega, ⟨by omega⟩, ⟨by rw [HKX.out]; exact HG9.out⟩⟩
          · have hz1 : ((x.toNat : Int) == 0) = false := by simpa using hz
            have hz2 : ((x.toNat : Int) != 0) = true := by simpa using hz
            clear hz
            go_wp2_with (first | (at_builtin; refine Grow.push (y := x) (cells := #[.int .u8 (x.toNat : Int)]) rfl _ _ 24 _ 1 rfl Try.underlying24 info8 rfl (by decide) (by omega) HS.out (u8_one _ _ x) rfl rfl (by have := HM.out; omega) ?_; intro v1 w9 hG9; have HG9 := Aside0.mk hG9; clear hG9))
            go_roundg (8 - (7 + 1))
            case measure => have := HG.out; omega
            case rel => exact ⟨7 + 1, by go_num, by omega, ⟨by omega⟩, ⟨by rw [HKX.out]; exact HG9.out⟩⟩
    · obtain rfl : j = 8 := by omega
      rw [ks_all] at HS
      have hcl := cnt_le u
      have hln : (0 :: digs u (cnt u)).length = cnt u + 1 := by rw [List.length_cons, digs_len]
      obtain ⟨g, cp, rfl, hg, hcp, _, hgl⟩ := own_shape HS.out.row (by simp)
      obtain ⟨cs, hR, hcl1, hcell, hfr⟩ := own_get HS.out.row (k := 0) (i := 0) (x := (0 : UInt8)) rfl (by decide)
      have hcs : cs = [.int .u8 0] := Kd.FK_now hR
      subst hcs
      have hk8 : ((UInt8.ofNat (cnt u)).toNat : Int) = (cnt u : Int) := by
        rw [UInt8.toNat_ofNat', Nat.mod_eq_of_lt (by omega)]
      have HP := Aside0.mk (own_put HS.out.row (k := 0) (i := 0) (x := (0 : UInt8)) (y := UInt8.ofNat (cnt u)) (u := .int .u8 (cnt u : Int)) rfl (by decide) (fun cs h => by
        have h' : cs = [.int .u8 0] := Kd.FK_now h
        subst h'
        show RO kU8 _ _ _ _ [Value.int .u8 (cnt u : Int)]
        rw [← hk8]
        exact u8_one _ _ _))
      have HBL := Aside0.mk (And.intro HS.out.bl (And.intro HS.out.hN hg))
      clear hR hcl1 hk8
      simp only [List.length_cons, digs_len] at hcp hgl HP HBL ⊢
      have hc0 : wr.cell? ⟨g, 0, none⟩ = some (.int .u8 0) := hcell
      have hf0 : wr.frozen? ⟨g, 0, none⟩ = false := hfr
      clear hcell hfr HS hln
      generalize cnt u = k at *
      go_wp2
      go_ret
      have hb : Below w.heap.size wr (wr.setCell ⟨g, 0, none⟩ (.int .u8 (k : Int))) := (Below.refl _ _).setCell (p := ⟨g, 0, none⟩) HBL.out.2.2 _
      have hr := HP.out.1
      exact ⟨_, rfl, OwnRow.imp_ hr (fun _ _ h => Grow.ro_step h hb), HBL.out.1.trans hb, Nat.le_trans HBL.out.2.1 hb.size⟩
/-- append(out, bytes...), where what is appended is a row that is read. -/
theorem Grow8.cat_ok {N : Nat} {w0 W : World} {v : Value} {ds ys : List UInt8} {A : Option Addr} {m : Nat} (h : Grow kU8 5 (fun _ => False) N w0 W v ds) (hm : m = ys.length) (hC : kU8.C W A m ys) : ReadsRow (RO kU8 (fun _ => False) N W) kU8.sz W A m ys := by
  refine ⟨hC.1, hC.2.1, fun hp => ?_⟩
  obtain ⟨ad, e, hc⟩ := hC.2.2 hp
  refine ⟨ad, e, fun j p hj => ?_⟩
  obtain ⟨cs, c1, c2, c3⟩ := hc j p hj
  have c2' : cs = [.int .u8 (p.toNat : Int)] := c2
  subst c2'
  exact ⟨_, c1, u8_one _ _ _, c3⟩
set_option maxRecDepth 100000 in
theorem row_calls (b : List UInt8) (A : Option Addr) (c : Nat) (w : World) (hb : b.length ≤ 65536) (h : kU8.C w A b.length b) :
    Calls Try.prog 26 #[.slice A b.length c] w fun e w' => ∃ v, e = .returned (.tuple #[v, .int .i64 0]) ∧ Grow kU8 5 (fun _ => False) w.heap.size w w' v (rowB b) := by
  have HB := Aside0.mk h
  have HN := Aside0.mk (num_calls (b.length : Int) w (InR.mk64 (by omega) (by omega)))
  have HNL := Aside0.mk (numB_le (b.length : Int))
  have HRB : Aside0 (rowB b = numB (b.length : Int) ++ b) := ⟨rfl⟩
  rw [HRB.out]
  generalize numB (b.length : Int) = nb at *
  have hbi : ¬ (65536 : Int) < (b.length : Int) := by omega
  clear h
  go_enter Try.func26, Try.ntmps26
  go_wp2_with (first
    | ((with_reducible refine HN.out.mono ?_); rintro e w1 ⟨v1, rfl, hG⟩; have HG := Aside0.mk hG; clear hG)
    | (at_builtin; refine Grow.cat rfl _ _ 24 _ 1 rfl Try.underlying24 info8 rfl (by decide) (by omega) HG.out b A b.length c rfl rfl (Grow8.cat_ok HG.out rfl (Kd.C_below HB.out HG.out.bl)) (by have := HNL.out; omega) ?_; intro v2 w2 hG2; have HG2 := Aside0.mk hG2; clear hG2))
  go_ret2
  exact ⟨_, rfl, HG2.out⟩
set_option maxRecDepth 100000 in
theorem truth_calls (t : Bool) (w : World) : Calls Try.prog 33 #[.bool t] w (BytesOwn w (truthB t)) := by
  cases t with
  | true =>
    go_enter Try.func33, Try.ntmps33
    go_wp2
    go_ret
    exact ⟨_, rfl, Grow.lit8 w _ [1] _ rfl (by simp)⟩
  | false =>
    go_enter Try.func33, Try.ntmps33
    go_wp2
    go_ret
    exact ⟨_, rfl, Grow.lit8 w _ [0] _ rfl (by simp)⟩
end Pack
end Go.Proofs.Ytmmelfnhhjfaeaa
