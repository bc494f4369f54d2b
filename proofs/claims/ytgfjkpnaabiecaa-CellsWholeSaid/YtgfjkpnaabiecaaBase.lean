/- Words on worlds, readings and maps: what a call keeps, and how bytes, numbers and texts read. -/
import Derived.Test.YtgfjkpnaabiecaaWMore
import Derived.Test.YtgfjkpnaabiecaaProg
import Derived.OpenShut
import Derived.WalkSpells
namespace Go.Proofs.Ytgfjkpnaabiecaa
open Go.RowKit Go.Proofs.YtgfjkpnaabiecaaW.PrintWords
/-- A number is one of its kind. -/
def InR (k : IntKind) (x : Int) : Prop := (Lit.int k x).wf = true
theorem InR.i64 {x : Int} (h : InR .i64 x) : -9223372036854775808 ≤ x ∧ x ≤ 9223372036854775807 := _root_.Go.bounds_i64 h
theorem InR.mk64 {x : Int} (h0 : -9223372036854775808 ≤ x) (h1 : x ≤ 9223372036854775807) : InR .i64 x := WalkArith.wf_i64 (by omega)
/-- A scalar with a condition. -/
def scalarP {α : Type} (enc : α → Value) (ok : α → Prop) (h1 : ∀ x, (enc x).oneCell' = true) : Kd α where
  sz := 1
  E := []
  K := fun _ x cs => cs = [enc x] ∧ ok x
  M := fun _ _ _ x cs => cs = [enc x] ∧ ok x
  K_len := fun h => by rw [h.1]; rfl
  K_one := fun h u hu => by
    rw [h.1] at hu
    rw [List.mem_singleton.1 hu]
    exact h1 _
  K_below := fun _ h => h
  K_of_M := fun h => h
  M_mono := fun _ h => h
  M_bound := fun h => h
  M_move := fun _ h => h
  M_lower := fun _ h => h
def kU8 : Kd UInt8 := Kd.scalar (fun x : UInt8 => Value.int .u8 (x.toNat : Int)) (fun _ => rfl)
def kInt (k : IntKind) : Kd Int := scalarP (Value.int k) (InR k) (fun _ => rfl)
def kStr : Kd ByteArray := scalarP Value.string (fun s => s.size ≤ 140737488351232) (fun _ => rfl)
theorem bcell {W w1 : World} (hb : Below W.heap.size W w1) : (∀ b o, b < W.heap.size → w1.cell? ⟨b, o, none⟩ = W.cell? ⟨b, o, none⟩) ∧ (∀ b o, b < W.heap.size → w1.frozen? ⟨b, o, none⟩ = W.frozen? ⟨b, o, none⟩) :=
  ⟨fun b o h => hb.cell (p := ⟨b, o, none⟩) h, fun b o h => hb.frozen (p := ⟨b, o, none⟩) h⟩
theorem Below.then_ {B : Nat} {w w1 w2 : World} (h : Below B w w1) (k : Below w1.heap.size w1 w2) (hB : B ≤ w.heap.size) : Below B w w2 := h.trans (k.mono (Nat.le_trans hB h.size))
theorem cell_new (w : World) (cs : Array Value) (t : TypeId) (fr : Nat × Nat) (i : Nat) (v : Value) (h : cs[i]? = some v) : (w.alloc (.cells cs t fr)).cell? ⟨w.heap.size, i, none⟩ = some v := by
  unfold World.cell?
  rw [heap_alloc_new]
  simp [h]
theorem cell_new2 (w : World) (o : Obj) (cs : Array Value) (t : TypeId) (fr : Nat × Nat) (i : Nat) (v : Value) (h : cs[i]? = some v) : ((w.alloc o).alloc (.cells cs t fr)).cell? ⟨w.heap.size + 1, i, none⟩ = some v := by
  have := cell_new (w.alloc o) cs t fr i v h
  simpa using this
theorem cell_alloc {w : World} {a : Addr} {v : Value} (h : w.cell? a = some v) : ∀ o, (w.alloc o).cell? a = some v := fun o => pw_cell_below (below_alloc (Below.refl _ _) o) h
/-- Bytes, as the kit's whole numbers. -/
theorem kU8_nums {w : World} {A : Option Addr} {n : Nat} {xs : List UInt8} (h : kU8.C w A n xs) : (Kd.int .u8).C w A n (xs.map fun x => (x.toNat : Int)) := by
  obtain ⟨h1, h2, h3⟩ := h
  refine ⟨by simpa using h1, h2, fun hn => ?_⟩
  obtain ⟨ad, e, hc⟩ := h3 hn
  refine ⟨ad, e, fun j p hj => ?_⟩
  rw [List.getElem?_map] at hj
  obtain ⟨q, hq, rfl⟩ := Option.map_eq_some_iff.1 hj
  exact hc j q hq
theorem strOfNums_map (xs : List UInt8) : strOfNums (xs.map fun x => (x.toNat : Int)) = ⟨xs.toArray⟩ := by
  unfold strOfNums
  congr 1
  have : ∀ x : UInt8, ((fun n : Int => UInt8.ofNat n.toNat) ∘ fun x : UInt8 => (x.toNat : Int)) x = x := fun x => by simp
  simp [funext this]
/-- string(b). -/
theorem conv_bytes {w : World} {src dst e : TypeId} {A : Option Addr} {n c : Nat} {xs : List UInt8} (hs : Try.prog.underlying src = some (.slice e)) (he : Try.prog.underlying e = some (.int .u8)) (hd : Try.prog.underlying dst = some .string)
    (h : kU8.C w A n xs) : (convert src dst (.slice A n c)).run Try.prog w = .ok (.string ⟨xs.toArray⟩) w := by
  rw [Kd.C_string hs he hd (kU8_nums h), strOfNums_map]
end Go.Proofs.Ytgfjkpnaabiecaa
