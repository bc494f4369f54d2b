/- What a call may write: the blocks of a list; all others are kept. -/
import Derived.Test.YtgfjkpnaabiecaaCopy
import Derived.Test.YtgfjkpnaabiecaaBlk
import Derived.Test.YtgfjkpnaabiecaaMaps
namespace Go.Proofs.Ytgfjkpnaabiecaa
open Go.RowKit Go.Proofs.YtgfjkpnaabiecaaW.PrintWords
/-- Of w's blocks those of S alone may have turned. -/
structure Only (S : List Nat) (w w' : World) : Prop where
  os : w'.os = w.os
  tape : w'.tape = w.tape
  output : w'.output = w.output
  size : w.heap.size ≤ w'.heap.size
  block : ∀ k, k < w.heap.size → k ∉ S → w'.heap[k]? = w.heap[k]?
namespace Only
variable {S S' : List Nat} {w w1 w2 w3 : World} {B b : Nat}
theorem refl (S : List Nat) (w : World) : Only S w w := ⟨rfl, rfl, rfl, Nat.le_refl _, fun _ _ _ => rfl⟩
theorem trans (h : Only S w w1) (k : Only S w1 w2) : Only S w w2 :=
  ⟨k.os.trans h.os, k.tape.trans h.tape, k.output.trans h.output, Nat.le_trans h.size k.size, fun i hi hn => (k.block i (Nat.lt_of_lt_of_le hi h.size) hn).trans (h.block i hi hn)⟩
theorem then_ (h : Only S w w1) (k : Only S' w1 w2) (hS : ∀ i ∈ S', i ∈ S ∨ w.heap.size ≤ i) : Only S w w2 :=
  ⟨k.os.trans h.os, k.tape.trans h.tape, k.output.trans h.output, Nat.le_trans h.size k.size, fun i hi hn => (k.block i (Nat.lt_of_lt_of_le hi h.size) (fun hm => by
    rcases hS i hm with h1 | h1
    · exact hn h1
    · omega)).trans (h.block i hi hn)⟩
theorem mono (h : Only S w w1) (hS : ∀ i ∈ S, i ∈ S' ∨ w.heap.size ≤ i) : Only S' w w1 :=
  ⟨h.os, h.tape, h.output, h.size, fun i hi hn => h.block i hi (fun hm => by
    rcases hS i hm with h1 | h1
    · exact hn h1
    · omega)⟩
theorem of_below (S : List Nat) (h : Below w.heap.size w w1) : Only S w w1 := ⟨h.os, h.tape, h.output, h.size, fun i hi _ => h.block i hi⟩
theorem on (h : Only S w w1) (k : Below w1.heap.size w1 w2) : Only S w w2 := h.trans (of_below S k)
theorem below (h : Only S w w1) (hS : ∀ i ∈ S, B ≤ i) (hB : B ≤ w.heap.size) : Below B w w1 :=
  ⟨h.os, h.tape, h.output, h.size, fun i hi => h.block i (Nat.lt_of_lt_of_le hi hB) (fun hm => by have := hS i hm; omega)⟩
theorem alloc (h : Only S w w1) (o : Obj) : Only S w (w1.alloc o) := h.on (below_alloc (Below.refl _ _) o)
theorem drew (h : Only S w w1) : Only S w w1.drew := ⟨h.os, h.tape, h.output, h.size, h.block⟩
theorem set (h : Only S w w1) {p : Addr} (u : Value) (hp : p.block ∈ S ∨ w.heap.size ≤ p.block) : Only S w (w1.setCell p u) :=
  h.then_ (S' := [p.block]) ⟨rfl, rfl, rfl, by simp [World.setCell], fun k _ hk => Below.heap_setCell _ _ _ _ (fun e => hk (by simp [e]))⟩ (fun i hi => by simp at hi; rw [hi]; exact hp)
theorem grown (h : Only S w w1) {row : Option Nat} (hg : w1.grownBy w2 row) (hr : ∀ k, row = some k → k ∈ S ∨ w.heap.size ≤ k) : Only S w w2 :=
  ⟨hg.os.trans h.os, hg.tape.trans h.tape, hg.output.trans h.output, Nat.le_trans h.size hg.size, fun i hi hn => (hg.block i (Nat.lt_of_lt_of_le hi h.size) (fun e => by
    rcases hr i e.symm with h1 | h1
    · exact hn h1
    · omega)).trans (h.block i hi hn)⟩
theorem cell (h : Only S w w1) {p : Addr} (hp : p.block < w.heap.size) (hn : p.block ∉ S) : w1.cell? p = w.cell? p := World.cell?_of_block (w := w) (h.block p.block hp hn)
theorem frozen (h : Only S w w1) {p : Addr} (hp : p.block < w.heap.size) (hn : p.block ∉ S) : w1.frozen? p = w.frozen? p := World.frozen?_of_block (w := w) (h.block p.block hp hn)
end Only
theorem Blk.only {S : List Nat} {w w1 : World} {b : Nat} {cs : List Value} (h : Blk w b cs) (k : Only S w w1) (hn : b ∉ S) : Blk w1 b cs :=
  ⟨Nat.lt_of_lt_of_le h.1 k.size, fun i v e => ⟨by rw [k.cell (p := ⟨b, i, none⟩) h.1 hn]; exact (h.2 i v e).1, by rw [k.frozen (p := ⟨b, i, none⟩) h.1 hn]; exact (h.2 i v e).2⟩⟩
theorem MapL.only {S : List Nat} {w w1 : World} {k : TypeId} {b : Nat} {E : List (Value × Value)} (h : MapL w k b E) (o : Only S w w1) (hn : b ∉ S) : MapL w1 k b E := h.move (o.block b h.lt hn)
theorem Foot.only {P : World → Prop} {w w1 : World} {ok : Nat → Prop} {S : List Nat} (h : Foot P w ok) (k : Only S w w1) (hn : ∀ i, ok i → i ∉ S) : Foot P w1 ok := Foot.step h (fun i hi hlt => k.block i hlt (hn i hi))
theorem FK_only {α : Type} {d : Kd α} {w w1 : World} {ok : Nat → Prop} {S : List Nat} {x : α} {c : List Value} (h : Kd.FK d w ok x c) (k : Only S w w1) (hn : ∀ i, ok i → i ∉ S) : Kd.FK d w1 ok x c := Foot.only h k hn
theorem kU8_in' {w : World} {A : Option Addr} {n : Nat} {ok : Nat → Prop} {xs : List UInt8} (h : kU8.C w A n xs) (hA : 0 < n → ∀ ad, A = some ad → ok ad.block) : Foot (fun W => kU8.C W A n xs) w ok := by
  intro W' hW
  obtain ⟨h1, h2, h3⟩ := h
  refine ⟨h1, h2, fun hn => ?_⟩
  obtain ⟨ad, e, hc⟩ := h3 hn
  refine ⟨ad, e, fun j p hj => ?_⟩
  obtain ⟨cs, k1, k2, k3⟩ := hc j p hj
  refine ⟨cs, k1, k2, fun q u hq => ?_⟩
  have hx := k3 q u hq
  have hb := World.block_lt_of_cell? w _ hx
  rw [← hx]
  refine World.cell?_of_block (w := w) (hW _ ?_ hb)
  rw [adr_block]
  exact hA hn ad e
/-- Bytes that are read lie in blocks that are there. -/
theorem kU8_old {w : World} {A : Option Addr} {n : Nat} {xs : List UInt8} (h : kU8.C w A n xs) : Foot (fun W => kU8.C W A n xs) w (fun k => k < w.heap.size) := kU8_in' h (fun hn ad e => by
  obtain ⟨ad', e', hc⟩ := h.2.2 hn
  obtain rfl : ad' = ad := Option.some.inj (e'.symm.trans e)
  have hl : xs.length = n := h.1
  have h0 : xs[0]? = some xs[0] := List.getElem?_eq_getElem (by omega)
  obtain ⟨cs, k1, k2, k3⟩ := hc 0 _ h0
  have k2' : cs = [.int .u8 (xs[0].toNat : Int)] := k2
  have := World.block_lt_of_cell? w _ (k3 0 _ (by rw [k2']; rfl))
  rwa [adr_block] at this)
theorem kU8_in {w : World} {A : Option Addr} {n : Nat} {ok : Nat → Prop} {xs : List UInt8} (h : kU8.C w A n xs) (hA : ∀ ad, A = some ad → ok ad.block) : Foot (fun W => kU8.C W A n xs) w ok := by
  intro W' hW
  obtain ⟨h1, h2, h3⟩ := h
  refine ⟨h1, h2, fun hn => ?_⟩
  obtain ⟨ad, e, hc⟩ := h3 hn
  refine ⟨ad, e, fun j p hj => ?_⟩
  obtain ⟨cs, k1, k2, k3⟩ := hc j p hj
  refine ⟨cs, k1, k2, fun q u hq => ?_⟩
  have hx := k3 q u hq
  have hb := World.block_lt_of_cell? w _ hx
  rw [← hx]
  refine World.cell?_of_block (w := w) (hW _ ?_ hb)
  rw [adr_block]
  exact hA ad e
/-- Block k holds cells of type t. -/
def Ty (w : World) (t : TypeId) (k : Nat) : Prop := ∃ cells fr, w.heap[k]? = some (.cells cells t fr)
namespace Ty
variable {w w1 : World} {t t' : TypeId} {k : Nat} {S : List Nat}
theorem lt (h : Ty w t k) : k < w.heap.size := by obtain ⟨c, fr, h⟩ := h; exact (Array.getElem?_eq_some_iff.1 h).1
theorem only (h : Ty w t k) (o : Only S w w1) (hk : k ∉ S) : Ty w1 t k := by
  have hl := h.lt
  obtain ⟨c, fr, h⟩ := h
  exact ⟨c, fr, (o.block k hl hk).trans h⟩
theorem below (h : Ty w t k) (o : Below w.heap.size w w1) : Ty w1 t k := h.only (S := []) (Only.of_below [] o) (by simp)
theorem ne (h : Ty w t k) (hn : t ≠ t') : ¬ Ty w t' k := by
  obtain ⟨c, fr, h⟩ := h
  rintro ⟨c', fr', h'⟩
  rw [h] at h'
  injection h' with h'
  injection h' with _ h'
  exact hn h'
theorem set (h : Ty w t k) (p : Addr) (u : Value) : Ty (w.setCell p u) t k := by
  obtain ⟨c, fr, h⟩ := h
  simp only [Ty, World.setCell, Array.getElem?_modify]
  by_cases e : p.block = k
  · rw [if_pos e, h]; exact ⟨_, _, rfl⟩
  · rw [if_neg e, h]; exact ⟨_, _, rfl⟩
theorem of_set {p : Addr} {u : Value} (h : Ty (w.setCell p u) t k) : Ty w t k := by
  obtain ⟨c, fr, h⟩ := h
  simp only [World.setCell, Array.getElem?_modify] at h
  by_cases e : p.block = k
  · rw [if_pos e] at h
    obtain ⟨o, ho, h2⟩ := Option.map_eq_some_iff.1 h
    cases o <;> simp at h2
    obtain ⟨_, rfl, rfl⟩ := h2
    exact ⟨_, _, ho⟩
  · rw [if_neg e] at h; exact ⟨_, _, h⟩
theorem new (w : World) (cs : Array Value) (t : TypeId) (fr : Nat × Nat) : Ty (w.alloc (.cells cs t fr)) t w.heap.size := ⟨cs, fr, heap_alloc_new w _⟩
end Ty
theorem Ty.drew {w : World} {t : TypeId} {k : Nat} (h : Ty w t k) : Ty w.drew t k := h
theorem MapL.noTy {w : World} {k t : TypeId} {b : Nat} {E : List (Value × Value)} (h : MapL w k b E) : ¬ Ty w t b := by
  obtain ⟨es, cl, hb, _⟩ := h
  rintro ⟨c, fr, h'⟩
  rw [hb] at h'
  injection h' with h'
  cases h'
/-- A thing whose parts lie in blocks of bytes. -/
def BK {α : Type} (d : Kd α) (w : World) (x : α) (c : List Value) : Prop := Kd.FK d w (Ty w 5) x c
namespace BK
variable {α : Type} {d : Kd α} {w w1 : World} {S : List Nat} {x : α} {c : List Value}
theorem only (h : BK d w x c) (o : Only S w w1) (hS : ∀ i ∈ S, ¬ Ty w 5 i) : BK d w1 x c :=
  Kd.FK_mono (Kd.FK_bound (Foot.step h (fun i hi hlt => o.block i hlt (fun hm => hS i hm hi)))) (fun i hi => hi.1.only o (fun hm => hS i hm hi.1))
theorem below (h : BK d w x c) (o : Below w.heap.size w w1) : BK d w1 x c := h.only (S := []) (Only.of_below [] o) (by simp)
theorem now (h : BK d w x c) : d.K w x c := Kd.FK_now h
end BK
section
variable {ops : Array Oper} {rest : List Oper} {o : Oper} {a : Act} {Q : Exit → Act → World → Prop} {W : World} {K : Act → World → Prop} {E : Prop}
/-- A copy's bytes: what is new, and of bytes. -/
def NewB (W w' : World) (A : Option Addr) : Prop := ∀ ad, A = some ad → W.heap.size ≤ ad.block ∧ Ty w' 5 ad.block
theorem NewB.own {α : Type} {R : α → List Value → Prop} {size : Nat} {W w' : World} {A : Option Addr} {n c : Nat} {xs : List α} (h : OwnRow R 5 size w' W.heap.size (.slice A n c) xs) : NewB W w' A := by
  obtain ⟨inner, ho, hr⟩ := h
  have hba := own_base ho
  have hty := own_typed ho
  rintro ad rfl
  obtain ⟨cells, hc⟩ := hty ad.block rfl
  exact ⟨hba ad.block rfl, cells, (0, 0), hc⟩
theorem stepB_copy (hgd : o.guard = none) (s x : Operand) (ho : o.op = .call { callee := .builtin .append, args := #[s, x], argTypes := #[33, 33] })
    (hs : a.eval s = .slice none 0 0) {A : Option Addr} {c : Nat} {xs : List UInt8} (hx : a.eval x = .slice A xs.length c) (HR : kU8.C W A xs.length xs) (hl : xs.length ≤ 140737488355328)
    (h : ∀ A' c' w', xs.length ≤ c' → kU8.C w' A' xs.length xs → NewB W w' A' → Below W.heap.size W w' → K (a.put o.dst (.slice A' xs.length c')) w') :
    if Region.wanted o (yielded ops a.tmps) = true then Oper.wp Try.prog o a W K Q else E := by
  refine step_append_rows (R := fun x cs => kU8.K W x cs) W.heap.size hgd s x 33 5 (.int .u8 0) 1 1 ho Try.underlying33 info8 rfl (by omega) (by omega) (.slice none 0 0) [] xs A xs.length c hs hx (OwnRow.none_ _ _ _ _ _) HR (fun x cs h => kU8.K_one h) (Nat.le_refl _) (by simp; exact hl) ?_
  intro v1 w1 ho1 hg1 _
  rw [List.nil_append] at ho1
  obtain ⟨A', c', rfl, hc, hr⟩ := OwnRow.reads ho1
  exact h A' c' w1 hc hr (NewB.own ho1) ((Below.refl W.heap.size W).grown hg1 (Nat.le_refl _) (fun k hk => by cases hk))
theorem ownB_copy (hgd : o.guard = none) (s x : Operand) (ho : o.op = .call { callee := .builtin .append, args := #[s, x], argTypes := #[33, 33] })
    (hs : a.eval s = .slice none 0 0) {A : Option Addr} {c : Nat} {xs : List UInt8} (hx : a.eval x = .slice A xs.length c) (HR : kU8.C W A xs.length xs) (hl : xs.length ≤ 140737488355328)
    (h : ∀ A' c' w', xs.length ≤ c' → kU8.C w' A' xs.length xs → NewB W w' A' → Below W.heap.size W w' → wpList Try.prog ops Q rest (a.put o.dst (.slice A' xs.length c')) w') :
    wpList Try.prog ops Q (o :: rest) a W := by
  refine own_append_rows (w0 := W) (R := fun x cs => kU8.K W x cs) W.heap.size hgd s x 33 5 (.int .u8 0) 1 1 ho Try.underlying33 info8 rfl (by omega) (by omega) (.slice none 0 0) [] xs A xs.length c hs hx (OwnRow.none_ _ _ _ _ _) HR (fun x cs h => kU8.K_one h) (Below.refl _ _) (Nat.le_refl _) (by simp; exact hl) ?_
  intro v1 w1 ho1 hb1 _ _
  rw [List.nil_append] at ho1
  obtain ⟨A', c', rfl, hc, hr⟩ := OwnRow.reads ho1
  exact h A' c' w1 hc hr (NewB.own ho1) hb1
end
/-- What a call makes of bytes b: where they are read. -/
theorem u8_BK {w : World} {A : Option Addr} {xs : List UInt8} (h : kU8.C w A xs.length xs) (hA : ∀ ad, A = some ad → Ty w 5 ad.block) : Foot (fun W => kU8.C W A xs.length xs) w (Ty w 5) := kU8_in h hA
/-- All is as it was, but for new blocks, and cell j of block p. -/
def Mod (W : World) (p j : Nat) (w : World) : Prop := Only [p] W w ∧ (∀ i, i ≠ j → w.cell? ⟨p, i, none⟩ = W.cell? ⟨p, i, none⟩) ∧ (∀ i, w.frozen? ⟨p, i, none⟩ = W.frozen? ⟨p, i, none⟩) ∧ ∀ t, Ty W t p → Ty w t p
namespace Mod
variable {W w w1 : World} {p j : Nat}
theorem refl (W : World) (p j : Nat) : Mod W p j W := ⟨Only.refl _ _, fun _ _ => rfl, fun _ => rfl, fun _ h => h⟩
theorem drew (h : Mod W p j w) : Mod W p j w.drew := ⟨h.1.drew, h.2.1, h.2.2.1, fun t k => h.2.2.2 t k⟩
theorem below (h : Mod W p j w) (hp : p < W.heap.size) (k : Below w.heap.size w w1) : Mod W p j w1 :=
  ⟨h.1.on k, fun i hi => (k.cell (p := ⟨p, i, none⟩) (Nat.lt_of_lt_of_le hp h.1.size)).trans (h.2.1 i hi), fun i => (k.frozen (p := ⟨p, i, none⟩) (Nat.lt_of_lt_of_le hp h.1.size)).trans (h.2.2.1 i), fun t ht => (h.2.2.2 t ht).below k⟩
theorem set (h : Mod W p j w) (u : Value) : Mod W p j (w.setCell ⟨p, j, none⟩ u) :=
  ⟨h.1.set u (.inl (by simp)), fun i hi => (World.cell?_setCell_other _ _ _ _ (fun e => hi (by injection e with _ e _; exact e.symm))).trans (h.2.1 i hi), fun i => (World.frozen?_setCell ..).trans (h.2.2.1 i), fun t ht => (h.2.2.2 t ht).set _ _⟩
theorem cell (h : Mod W p j w) {i : Nat} {v : Value} (hi : i ≠ j) (hc : W.cell? ⟨p, i, none⟩ = some v) : w.cell? ⟨p, i, none⟩ = some v := (h.2.1 i hi).trans hc
theorem far (h : Mod W p j w) {b i : Nat} {v : Value} (hb : b ≠ p) (hc : W.cell? ⟨b, i, none⟩ = some v) : w.cell? ⟨b, i, none⟩ = some v :=
  (h.1.cell (p := ⟨b, i, none⟩) (World.block_lt_of_cell? W _ hc) (by simp; exact hb)).trans hc
theorem blk {cs : List Value} (m : Mod W p j w) (h : Blk W p cs) (hj : ∀ v, cs[j]? = some v → w.cell? ⟨p, j, none⟩ = some v) : Blk w p cs :=
  ⟨Nat.lt_of_lt_of_le h.1 m.1.size, fun i v e => ⟨by
    by_cases hi : i = j
    · subst hi; exact hj v e
    · exact m.cell hi (h.2 i v e).1, (m.2.2.1 i).trans (h.2 i v e).2⟩⟩
end Mod
/-- All cells of a block, as the walk wants them. -/
theorem Blk.six {w : World} {b : Nat} {v0 v1 v2 v3 v4 v5 : Value} (h : Blk w b [v0, v1, v2, v3, v4, v5]) :
    (w.cell? ⟨b, 0, none⟩ = some v0 ∧ w.cell? ⟨b, 1, none⟩ = some v1 ∧ w.cell? ⟨b, 2, none⟩ = some v2 ∧ w.cell? ⟨b, 3, none⟩ = some v3 ∧ w.cell? ⟨b, 4, none⟩ = some v4 ∧ w.cell? ⟨b, 5, none⟩ = some v5) ∧
    (w.frozen? ⟨b, 0, none⟩ = false ∧ w.frozen? ⟨b, 1, none⟩ = false ∧ w.frozen? ⟨b, 2, none⟩ = false ∧ w.frozen? ⟨b, 3, none⟩ = false ∧ w.frozen? ⟨b, 4, none⟩ = false ∧ w.frozen? ⟨b, 5, none⟩ = false) :=
  ⟨⟨h.cell 0 rfl, h.cell 1 rfl, h.cell 2 rfl, h.cell 3 rfl, h.cell 4 rfl, h.cell 5 rfl⟩, h.frozen 0 rfl, h.frozen 1 rfl, h.frozen 2 rfl, h.frozen 3 rfl, h.frozen 4 rfl, h.frozen 5 rfl⟩
theorem Blk.eight {w : World} {b : Nat} {v0 v1 v2 v3 v4 v5 v6 v7 : Value} (h : Blk w b [v0, v1, v2, v3, v4, v5, v6, v7]) :
    (w.cell? ⟨b, 0, none⟩ = some v0 ∧ w.cell? ⟨b, 1, none⟩ = some v1 ∧ w.cell? ⟨b, 2, none⟩ = some v2 ∧ w.cell? ⟨b, 3, none⟩ = some v3 ∧ w.cell? ⟨b, 4, none⟩ = some v4 ∧ w.cell? ⟨b, 5, none⟩ = some v5 ∧ w.cell? ⟨b, 6, none⟩ = some v6 ∧ w.cell? ⟨b, 7, none⟩ = some v7) ∧
    (w.frozen? ⟨b, 0, none⟩ = false ∧ w.frozen? ⟨b, 1, none⟩ = false ∧ w.frozen? ⟨b, 2, none⟩ = false ∧ w.frozen? ⟨b, 3, none⟩ = false ∧ w.frozen? ⟨b, 4, none⟩ = false ∧ w.frozen? ⟨b, 5, none⟩ = false ∧ w.frozen? ⟨b, 6, none⟩ = false ∧ w.frozen? ⟨b, 7, none⟩ = false) :=
  ⟨⟨h.cell 0 rfl, h.cell 1 rfl, h.cell 2 rfl, h.cell 3 rfl, h.cell 4 rfl, h.cell 5 rfl, h.cell 6 rfl, h.cell 7 rfl⟩, h.frozen 0 rfl, h.frozen 1 rfl, h.frozen 2 rfl, h.frozen 3 rfl, h.frozen 4 rfl, h.frozen 5 rfl, h.frozen 6 rfl, h.frozen 7 rfl⟩
theorem Blk.nine {w : World} {b : Nat} {v0 v1 v2 v3 v4 v5 v6 v7 v8 : Value} (h : Blk w b [v0, v1, v2, v3, v4, v5, v6, v7, v8]) :
    (w.cell? ⟨b, 0, none⟩ = some v0 ∧ w.cell? ⟨b, 1, none⟩ = some v1 ∧ w.cell? ⟨b, 2, none⟩ = some v2 ∧ w.cell? ⟨b, 3, none⟩ = some v3 ∧ w.cell? ⟨b, 4, none⟩ = some v4 ∧ w.cell? ⟨b, 5, none⟩ = some v5 ∧ w.cell? ⟨b, 6, none⟩ = some v6 ∧ w.cell? ⟨b, 7, none⟩ = some v7 ∧ w.cell? ⟨b, 8, none⟩ = some v8) ∧
    (w.frozen? ⟨b, 0, none⟩ = false ∧ w.frozen? ⟨b, 1, none⟩ = false ∧ w.frozen? ⟨b, 2, none⟩ = false ∧ w.frozen? ⟨b, 3, none⟩ = false ∧ w.frozen? ⟨b, 4, none⟩ = false ∧ w.frozen? ⟨b, 5, none⟩ = false ∧ w.frozen? ⟨b, 6, none⟩ = false ∧ w.frozen? ⟨b, 7, none⟩ = false ∧ w.frozen? ⟨b, 8, none⟩ = false) :=
  ⟨⟨h.cell 0 rfl, h.cell 1 rfl, h.cell 2 rfl, h.cell 3 rfl, h.cell 4 rfl, h.cell 5 rfl, h.cell 6 rfl, h.cell 7 rfl, h.cell 8 rfl⟩, h.frozen 0 rfl, h.frozen 1 rfl, h.frozen 2 rfl, h.frozen 3 rfl, h.frozen 4 rfl, h.frozen 5 rfl, h.frozen 6 rfl, h.frozen 7 rfl, h.frozen 8 rfl⟩
end Go.Proofs.Ytgfjkpnaabiecaa
