/- How structs read. (Printed by wip/tools/kinds.py.) -/
import Derived.Test.YtgconogjnjhmgaaBase
namespace Go.Proofs.Ytgconogjnjhmgaa
open Go.RowKit Go.Proofs.YtgconogjnjhmgaaW.PrintWords
/-! ### api.Val -/
structure Val where
  has : Bool
  b : (List UInt8)
def Val.z : Val := ⟨false, ([] : List UInt8)⟩
def Val.k : Kd Val := Kd.iso (Kd.pair Kd.bool (Kd.slice 5 kU8)) (fun x : Val => (x.has, x.b))
theorem Val.k_sz : Val.k.sz = 2 := rfl
theorem Val.open_ {w : World} {x : Val} {cs : List Value} (h : Val.k.K w x cs) : ∃ A1 c1, cs = [.bool x.has, .slice A1 x.b.length c1] ∧ x.b.length ≤ c1 ∧ kU8.C w A1 x.b.length x.b := by
  obtain ⟨_, _, rfl, rfl, ⟨A1, c1, rfl, l1, g1⟩⟩ := h
  exact ⟨A1, c1, rfl, l1, g1⟩
theorem Val.mk_ (w : World) (x : Val) {A1 : Option Addr} {c1 : Nat} (l1 : x.b.length ≤ c1) (g1 : kU8.C w A1 x.b.length x.b) : Val.k.K w x [.bool x.has, .slice A1 x.b.length c1] := ⟨_, _, rfl, rfl, ⟨A1, c1, rfl, l1, g1⟩⟩
theorem Val.at_ {w : World} {A : Option Addr} {n : Nat} {xs : List Val} (h : Val.k.C w A n xs) (k : Nat) (h1 : k < n) : ∃ ad x A1 c1, A = some ad ∧ Aside0 (xs[k]? = some x) ∧ w.cell? (ad.add (k * 2)) = some (.bool x.has) ∧ w.cell? ⟨(ad.add (k * 2)).block, (ad.add (k * 2)).off + 1, none⟩ = some (.slice A1 x.b.length c1) ∧ Aside0 (Val.k.K w x [.bool x.has, .slice A1 x.b.length c1]) := by
  have hl : xs.length = n := h.1
  obtain ⟨ad, c, e, _, hK, hc0⟩ := Kd.C_get h Val.z (k : Int) (by omega) (by omega)
  have hc : ∀ j u, c[j]? = some u → w.cell? (ad.add (k * 2 + j)) = some u := hc0
  have hx : xs[k]? = some (xs.getD k Val.z) := by simp [List.getD_eq_getElem?_getD, show k < xs.length by omega]
  have hK' : Val.k.K w (xs.getD k Val.z) c := hK
  generalize xs.getD k Val.z = x at hK' hx
  have hK2 := hK'
  obtain ⟨A1, c1, rfl, l1, g1⟩ := Val.open_ hK'
  exact ⟨ad, x, A1, c1, e, ⟨hx⟩, hc 0 _ rfl, by rw [← add_field _ _ 1 (by omega)]; exact hc 1 _ rfl, ⟨hK2⟩⟩

/-! ### api.Deed -/
structure Deed where
  kind : Int
  b : (List UInt8)
  from_ : Int
  to_ : Int
  done : Bool
  val : Val
def Deed.z : Deed := ⟨(0 : Int), ([] : List UInt8), (0 : Int), (0 : Int), false, Val.z⟩
def Deed.k : Kd Deed := Kd.iso (Kd.pair (kInt .i64) (Kd.pair (Kd.slice 5 kU8) (Kd.pair (kInt .i64) (Kd.pair (kInt .i64) (Kd.pair Kd.bool Val.k))))) (fun x : Deed => (x.kind, x.b, x.from_, x.to_, x.done, x.val))
theorem Deed.k_sz : Deed.k.sz = 7 := rfl
theorem Deed.open_ {w : World} {x : Deed} {cs : List Value} (h : Deed.k.K w x cs) : ∃ A1 c1 A6 c6, cs = [.int .i64 x.kind, .slice A1 x.b.length c1, .int .i64 x.from_, .int .i64 x.to_, .bool x.done, .bool x.val.has, .slice A6 x.val.b.length c6] ∧ InR .i64 x.kind ∧ x.b.length ≤ c1 ∧ kU8.C w A1 x.b.length x.b ∧ InR .i64 x.from_ ∧ InR .i64 x.to_ ∧ x.val.b.length ≤ c6 ∧ kU8.C w A6 x.val.b.length x.val.b := by
  obtain ⟨_, _, rfl, ⟨rfl, r0⟩, ⟨_, _, rfl, ⟨A1, c1, rfl, l1, g1⟩, ⟨_, _, rfl, ⟨rfl, r2⟩, ⟨_, _, rfl, ⟨rfl, r3⟩, ⟨_, _, rfl, rfl, h5⟩⟩⟩⟩⟩ := h
  obtain ⟨A6, c6, rfl, l6, g6⟩ := Val.open_ h5
  exact ⟨A1, c1, A6, c6, rfl, r0, l1, g1, r2, r3, l6, g6⟩
theorem Deed.mk_ (w : World) (x : Deed) (r0 : InR .i64 x.kind) {A1 : Option Addr} {c1 : Nat} (l1 : x.b.length ≤ c1) (g1 : kU8.C w A1 x.b.length x.b) (r2 : InR .i64 x.from_) (r3 : InR .i64 x.to_) {A6 : Option Addr} {c6 : Nat} (l6 : x.val.b.length ≤ c6) (g6 : kU8.C w A6 x.val.b.length x.val.b) : Deed.k.K w x [.int .i64 x.kind, .slice A1 x.b.length c1, .int .i64 x.from_, .int .i64 x.to_, .bool x.done, .bool x.val.has, .slice A6 x.val.b.length c6] := ⟨_, _, rfl, ⟨rfl, r0⟩, ⟨_, _, rfl, ⟨A1, c1, rfl, l1, g1⟩, ⟨_, _, rfl, ⟨rfl, r2⟩, ⟨_, _, rfl, ⟨rfl, r3⟩, ⟨_, _, rfl, rfl, (Val.mk_ w _ l6 g6)⟩⟩⟩⟩⟩
theorem Deed.at_ {w : World} {A : Option Addr} {n : Nat} {xs : List Deed} (h : Deed.k.C w A n xs) (k : Nat) (h1 : k < n) : ∃ ad x A1 c1 A6 c6, A = some ad ∧ Aside0 (xs[k]? = some x) ∧ w.cell? (ad.add (k * 7)) = some (.int .i64 x.kind) ∧ w.cell? ⟨(ad.add (k * 7)).block, (ad.add (k * 7)).off + 1, none⟩ = some (.slice A1 x.b.length c1) ∧ w.cell? ⟨(ad.add (k * 7)).block, (ad.add (k * 7)).off + 2, none⟩ = some (.int .i64 x.from_) ∧ w.cell? ⟨(ad.add (k * 7)).block, (ad.add (k * 7)).off + 3, none⟩ = some (.int .i64 x.to_) ∧ w.cell? ⟨(ad.add (k * 7)).block, (ad.add (k * 7)).off + 4, none⟩ = some (.bool x.done) ∧ w.cell? ⟨(ad.add (k * 7)).block, (ad.add (k * 7)).off + 5, none⟩ = some (.bool x.val.has) ∧ w.cell? ⟨(ad.add (k * 7)).block, (ad.add (k * 7)).off + 6, none⟩ = some (.slice A6 x.val.b.length c6) ∧ Aside0 (Deed.k.K w x [.int .i64 x.kind, .slice A1 x.b.length c1, .int .i64 x.from_, .int .i64 x.to_, .bool x.done, .bool x.val.has, .slice A6 x.val.b.length c6]) := by
  have hl : xs.length = n := h.1
  obtain ⟨ad, c, e, _, hK, hc0⟩ := Kd.C_get h Deed.z (k : Int) (by omega) (by omega)
  have hc : ∀ j u, c[j]? = some u → w.cell? (ad.add (k * 7 + j)) = some u := hc0
  have hx : xs[k]? = some (xs.getD k Deed.z) := by simp [List.getD_eq_getElem?_getD, show k < xs.length by omega]
  have hK' : Deed.k.K w (xs.getD k Deed.z) c := hK
  generalize xs.getD k Deed.z = x at hK' hx
  have hK2 := hK'
  obtain ⟨A1, c1, A6, c6, rfl, r0, l1, g1, r2, r3, l6, g6⟩ := Deed.open_ hK'
  exact ⟨ad, x, A1, c1, A6, c6, e, ⟨hx⟩, hc 0 _ rfl, by rw [← add_field _ _ 1 (by omega)]; exact hc 1 _ rfl, by rw [← add_field _ _ 2 (by omega)]; exact hc 2 _ rfl, by rw [← add_field _ _ 3 (by omega)]; exact hc 3 _ rfl, by rw [← add_field _ _ 4 (by omega)]; exact hc 4 _ rfl, by rw [← add_field _ _ 5 (by omega)]; exact hc 5 _ rfl, by rw [← add_field _ _ 6 (by omega)]; exact hc 6 _ rfl, ⟨hK2⟩⟩

/-! ### api.Call -/
structure Call where
  id_ : Int
  kind : Int
  key : ByteArray
  b : (List UInt8)
def Call.z : Call := ⟨(0 : Int), (0 : Int), ByteArray.empty, ([] : List UInt8)⟩
def Call.k : Kd Call := Kd.iso (Kd.pair (kInt .i64) (Kd.pair (kInt .i64) (Kd.pair kStr (Kd.slice 5 kU8)))) (fun x : Call => (x.id_, x.kind, x.key, x.b))
theorem Call.k_sz : Call.k.sz = 4 := rfl
theorem Call.open_ {w : World} {x : Call} {cs : List Value} (h : Call.k.K w x cs) : ∃ A3 c3, cs = [.int .i64 x.id_, .int .i64 x.kind, .string x.key, .slice A3 x.b.length c3] ∧ InR .i64 x.id_ ∧ InR .i64 x.kind ∧ x.key.size ≤ 140737488351232 ∧ x.b.length ≤ c3 ∧ kU8.C w A3 x.b.length x.b := by
  obtain ⟨_, _, rfl, ⟨rfl, r0⟩, ⟨_, _, rfl, ⟨rfl, r1⟩, ⟨_, _, rfl, ⟨rfl, s2⟩, ⟨A3, c3, rfl, l3, g3⟩⟩⟩⟩ := h
  exact ⟨A3, c3, rfl, r0, r1, s2, l3, g3⟩
theorem Call.mk_ (w : World) (x : Call) (r0 : InR .i64 x.id_) (r1 : InR .i64 x.kind) (s2 : x.key.size ≤ 140737488351232) {A3 : Option Addr} {c3 : Nat} (l3 : x.b.length ≤ c3) (g3 : kU8.C w A3 x.b.length x.b) : Call.k.K w x [.int .i64 x.id_, .int .i64 x.kind, .string x.key, .slice A3 x.b.length c3] := ⟨_, _, rfl, ⟨rfl, r0⟩, ⟨_, _, rfl, ⟨rfl, r1⟩, ⟨_, _, rfl, ⟨rfl, s2⟩, ⟨A3, c3, rfl, l3, g3⟩⟩⟩⟩
theorem Call.at_ {w : World} {A : Option Addr} {n : Nat} {xs : List Call} (h : Call.k.C w A n xs) (k : Nat) (h1 : k < n) : ∃ ad x A3 c3, A = some ad ∧ Aside0 (xs[k]? = some x) ∧ w.cell? (ad.add (k * 4)) = some (.int .i64 x.id_) ∧ w.cell? ⟨(ad.add (k * 4)).block, (ad.add (k * 4)).off + 1, none⟩ = some (.int .i64 x.kind) ∧ w.cell? ⟨(ad.add (k * 4)).block, (ad.add (k * 4)).off + 2, none⟩ = some (.string x.key) ∧ w.cell? ⟨(ad.add (k * 4)).block, (ad.add (k * 4)).off + 3, none⟩ = some (.slice A3 x.b.length c3) ∧ Aside0 (Call.k.K w x [.int .i64 x.id_, .int .i64 x.kind, .string x.key, .slice A3 x.b.length c3]) := by
  have hl : xs.length = n := h.1
  obtain ⟨ad, c, e, _, hK, hc0⟩ := Kd.C_get h Call.z (k : Int) (by omega) (by omega)
  have hc : ∀ j u, c[j]? = some u → w.cell? (ad.add (k * 4 + j)) = some u := hc0
  have hx : xs[k]? = some (xs.getD k Call.z) := by simp [List.getD_eq_getElem?_getD, show k < xs.length by omega]
  have hK' : Call.k.K w (xs.getD k Call.z) c := hK
  generalize xs.getD k Call.z = x at hK' hx
  have hK2 := hK'
  obtain ⟨A3, c3, rfl, r0, r1, s2, l3, g3⟩ := Call.open_ hK'
  exact ⟨ad, x, A3, c3, e, ⟨hx⟩, hc 0 _ rfl, by rw [← add_field _ _ 1 (by omega)]; exact hc 1 _ rfl, by rw [← add_field _ _ 2 (by omega)]; exact hc 2 _ rfl, by rw [← add_field _ _ 3 (by omega)]; exact hc 3 _ rfl, ⟨hK2⟩⟩

/-! ### api.Answer -/
structure Answer where
  id_ : Int
  e : Int
  val : Val
def Answer.z : Answer := ⟨(0 : Int), (0 : Int), Val.z⟩
def Answer.k : Kd Answer := Kd.iso (Kd.pair (kInt .i64) (Kd.pair (kInt .i64) Val.k)) (fun x : Answer => (x.id_, x.e, x.val))
theorem Answer.k_sz : Answer.k.sz = 4 := rfl
theorem Answer.open_ {w : World} {x : Answer} {cs : List Value} (h : Answer.k.K w x cs) : ∃ A3 c3, cs = [.int .i64 x.id_, .int .i64 x.e, .bool x.val.has, .slice A3 x.val.b.length c3] ∧ InR .i64 x.id_ ∧ InR .i64 x.e ∧ x.val.b.length ≤ c3 ∧ kU8.C w A3 x.val.b.length x.val.b := by
  obtain ⟨_, _, rfl, ⟨rfl, r0⟩, ⟨_, _, rfl, ⟨rfl, r1⟩, h2⟩⟩ := h
  obtain ⟨A3, c3, rfl, l3, g3⟩ := Val.open_ h2
  exact ⟨A3, c3, rfl, r0, r1, l3, g3⟩
theorem Answer.mk_ (w : World) (x : Answer) (r0 : InR .i64 x.id_) (r1 : InR .i64 x.e) {A3 : Option Addr} {c3 : Nat} (l3 : x.val.b.length ≤ c3) (g3 : kU8.C w A3 x.val.b.length x.val.b) : Answer.k.K w x [.int .i64 x.id_, .int .i64 x.e, .bool x.val.has, .slice A3 x.val.b.length c3] := ⟨_, _, rfl, ⟨rfl, r0⟩, ⟨_, _, rfl, ⟨rfl, r1⟩, (Val.mk_ w _ l3 g3)⟩⟩
theorem Answer.at_ {w : World} {A : Option Addr} {n : Nat} {xs : List Answer} (h : Answer.k.C w A n xs) (k : Nat) (h1 : k < n) : ∃ ad x A3 c3, A = some ad ∧ Aside0 (xs[k]? = some x) ∧ w.cell? (ad.add (k * 4)) = some (.int .i64 x.id_) ∧ w.cell? ⟨(ad.add (k * 4)).block, (ad.add (k * 4)).off + 1, none⟩ = some (.int .i64 x.e) ∧ w.cell? ⟨(ad.add (k * 4)).block, (ad.add (k * 4)).off + 2, none⟩ = some (.bool x.val.has) ∧ w.cell? ⟨(ad.add (k * 4)).block, (ad.add (k * 4)).off + 3, none⟩ = some (.slice A3 x.val.b.length c3) ∧ Aside0 (Answer.k.K w x [.int .i64 x.id_, .int .i64 x.e, .bool x.val.has, .slice A3 x.val.b.length c3]) := by
  have hl : xs.length = n := h.1
  obtain ⟨ad, c, e, _, hK, hc0⟩ := Kd.C_get h Answer.z (k : Int) (by omega) (by omega)
  have hc : ∀ j u, c[j]? = some u → w.cell? (ad.add (k * 4 + j)) = some u := hc0
  have hx : xs[k]? = some (xs.getD k Answer.z) := by simp [List.getD_eq_getElem?_getD, show k < xs.length by omega]
  have hK' : Answer.k.K w (xs.getD k Answer.z) c := hK
  generalize xs.getD k Answer.z = x at hK' hx
  have hK2 := hK'
  obtain ⟨A3, c3, rfl, r0, r1, l3, g3⟩ := Answer.open_ hK'
  exact ⟨ad, x, A3, c3, e, ⟨hx⟩, hc 0 _ rfl, by rw [← add_field _ _ 1 (by omega)]; exact hc 1 _ rfl, by rw [← add_field _ _ 2 (by omega)]; exact hc 2 _ rfl, by rw [← add_field _ _ 3 (by omega)]; exact hc 3 _ rfl, ⟨hK2⟩⟩

/-! ### api.Note -/
structure Note where
  isAnswer : Bool
  call : Call
  answer : Answer
def Note.z : Note := ⟨false, Call.z, Answer.z⟩
def Note.k : Kd Note := Kd.iso (Kd.pair Kd.bool (Kd.pair Call.k Answer.k)) (fun x : Note => (x.isAnswer, x.call, x.answer))
theorem Note.k_sz : Note.k.sz = 9 := rfl
theorem Note.open_ {w : World} {x : Note} {cs : List Value} (h : Note.k.K w x cs) : ∃ A4 c4 A8 c8, cs = [.bool x.isAnswer, .int .i64 x.call.id_, .int .i64 x.call.kind, .string x.call.key, .slice A4 x.call.b.length c4, .int .i64 x.answer.id_, .int .i64 x.answer.e, .bool x.answer.val.has, .slice A8 x.answer.val.b.length c8] ∧ InR .i64 x.call.id_ ∧ InR .i64 x.call.kind ∧ x.call.key.size ≤ 140737488351232 ∧ x.call.b.length ≤ c4 ∧ kU8.C w A4 x.call.b.length x.call.b ∧ InR .i64 x.answer.id_ ∧ InR .i64 x.answer.e ∧ x.answer.val.b.length ≤ c8 ∧ kU8.C w A8 x.answer.val.b.length x.answer.val.b := by
  obtain ⟨_, _, rfl, rfl, ⟨_, _, rfl, h1, h5⟩⟩ := h
  obtain ⟨A4, c4, rfl, r1, r2, s3, l4, g4⟩ := Call.open_ h1
  obtain ⟨A8, c8, rfl, r5, r6, l8, g8⟩ := Answer.open_ h5
  exact ⟨A4, c4, A8, c8, rfl, r1, r2, s3, l4, g4, r5, r6, l8, g8⟩
theorem Note.mk_ (w : World) (x : Note) (r1 : InR .i64 x.call.id_) (r2 : InR .i64 x.call.kind) (s3 : x.call.key.size ≤ 140737488351232) {A4 : Option Addr} {c4 : Nat} (l4 : x.call.b.length ≤ c4) (g4 : kU8.C w A4 x.call.b.length x.call.b) (r5 : InR .i64 x.answer.id_) (r6 : InR .i64 x.answer.e) {A8 : Option Addr} {c8 : Nat} (l8 : x.answer.val.b.length ≤ c8) (g8 : kU8.C w A8 x.answer.val.b.length x.answer.val.b) : Note.k.K w x [.bool x.isAnswer, .int .i64 x.call.id_, .int .i64 x.call.kind, .string x.call.key, .slice A4 x.call.b.length c4, .int .i64 x.answer.id_, .int .i64 x.answer.e, .bool x.answer.val.has, .slice A8 x.answer.val.b.length c8] := ⟨_, _, rfl, rfl, ⟨_, _, rfl, Call.mk_ w _ r1 r2 s3 l4 g4, (Answer.mk_ w _ r5 r6 l8 g8)⟩⟩
theorem Note.at_ {w : World} {A : Option Addr} {n : Nat} {xs : List Note} (h : Note.k.C w A n xs) (k : Nat) (h1 : k < n) : ∃ ad x A4 c4 A8 c8, A = some ad ∧ Aside0 (xs[k]? = some x) ∧ w.cell? (ad.add (k * 9)) = some (.bool x.isAnswer) ∧ w.cell? ⟨(ad.add (k * 9)).block, (ad.add (k * 9)).off + 1, none⟩ = some (.int .i64 x.call.id_) ∧ w.cell? ⟨(ad.add (k * 9)).block, (ad.add (k * 9)).off + 2, none⟩ = some (.int .i64 x.call.kind) ∧ w.cell? ⟨(ad.add (k * 9)).block, (ad.add (k * 9)).off + 3, none⟩ = some (.string x.call.key) ∧ w.cell? ⟨(ad.add (k * 9)).block, (ad.add (k * 9)).off + 4, none⟩ = some (.slice A4 x.call.b.length c4) ∧ w.cell? ⟨(ad.add (k * 9)).block, (ad.add (k * 9)).off + 5, none⟩ = some (.int .i64 x.answer.id_) ∧ w.cell? ⟨(ad.add (k * 9)).block, (ad.add (k * 9)).off + 6, none⟩ = some (.int .i64 x.answer.e) ∧ w.cell? ⟨(ad.add (k * 9)).block, (ad.add (k * 9)).off + 7, none⟩ = some (.bool x.answer.val.has) ∧ w.cell? ⟨(ad.add (k * 9)).block, (ad.add (k * 9)).off + 8, none⟩ = some (.slice A8 x.answer.val.b.length c8) ∧ Aside0 (Note.k.K w x [.bool x.isAnswer, .int .i64 x.call.id_, .int .i64 x.call.kind, .string x.call.key, .slice A4 x.call.b.length c4, .int .i64 x.answer.id_, .int .i64 x.answer.e, .bool x.answer.val.has, .slice A8 x.answer.val.b.length c8]) := by
  have hl : xs.length = n := h.1
  obtain ⟨ad, c, e, _, hK, hc0⟩ := Kd.C_get h Note.z (k : Int) (by omega) (by omega)
  have hc : ∀ j u, c[j]? = some u → w.cell? (ad.add (k * 9 + j)) = some u := hc0
  have hx : xs[k]? = some (xs.getD k Note.z) := by simp [List.getD_eq_getElem?_getD, show k < xs.length by omega]
  have hK' : Note.k.K w (xs.getD k Note.z) c := hK
  generalize xs.getD k Note.z = x at hK' hx
  have hK2 := hK'
  obtain ⟨A4, c4, A8, c8, rfl, r1, r2, s3, l4, g4, r5, r6, l8, g8⟩ := Note.open_ hK'
  exact ⟨ad, x, A4, c4, A8, c8, e, ⟨hx⟩, hc 0 _ rfl, by rw [← add_field _ _ 1 (by omega)]; exact hc 1 _ rfl, by rw [← add_field _ _ 2 (by omega)]; exact hc 2 _ rfl, by rw [← add_field _ _ 3 (by omega)]; exact hc 3 _ rfl, by rw [← add_field _ _ 4 (by omega)]; exact hc 4 _ rfl, by rw [← add_field _ _ 5 (by omega)]; exact hc 5 _ rfl, by rw [← add_field _ _ 6 (by omega)]; exact hc 6 _ rfl, by rw [← add_field _ _ 7 (by omega)]; exact hc 7 _ rfl, by rw [← add_field _ _ 8 (by omega)]; exact hc 8 _ rfl, ⟨hK2⟩⟩

end Go.Proofs.Ytgconogjnjhmgaa
