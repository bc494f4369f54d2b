/- Layer lin: deed. -/
import Derived.Test.YtgconogjnjhmgaaRightA
import Derived.Test.YtgconogjnjhmgaaCopy
import Derived.Test.YtgconogjnjhmgaaBlk
import Derived.Test.YtgconogjnjhmgaaTake
import Derived.Test.YtgconogjnjhmgaaLinH
import Derived.Deep.RegionHeld3
import Derived.Deep.DeepCutAuto
import Derived.Deep.DrawnRows
namespace Go.Proofs.Ytgconogjnjhmgaa
open Go.RowKit Go.Proofs.YtgconogjnjhmgaaW.PrintWords
namespace DeedA
open LinA LinH
attribute [local go_sem ↓] Go.wp_at_zero Go.wp_at_succ
def isAns (x : Note) (id : Int) : Bool := x.isAnswer && x.answer.id_ == id
/-- The first answer of a call, among the notes from k on. -/
def ansIx (xs : List Note) (at_ : Nat) : Option Nat := (List.range xs.length).find? fun j => decide (at_ < j) && isAns (xs.getD j Note.z) (xs.getD at_ Note.z).call.id_
def bare (x : Note) (at_ n : Nat) : Deed := ⟨x.call.kind, x.call.b, at_, n, false, Val.z⟩
def full (x y : Note) (at_ j : Nat) : Deed := ⟨x.call.kind, x.call.b, at_, j, true, if x.call.kind = 1 then y.answer.val else Val.z⟩
def deedE (xs : List Note) (at_ : Nat) : Int := match ansIx xs at_ with | none => 40 | some j => (xs.getD j Note.z).answer.e
def deedD (xs : List Note) (at_ : Nat) : Deed := match ansIx xs at_ with | none => bare (xs.getD at_ Note.z) at_ xs.length | some j => if (xs.getD j Note.z).answer.e = 0 then full (xs.getD at_ Note.z) (xs.getD j Note.z) at_ j else bare (xs.getD at_ Note.z) at_ xs.length
def deedIs (xs : List Note) (at_ : Nat) : Bool := kn (deedD xs at_).kind && ((deedD xs at_).done || ((deedE xs at_ == 40 || deedE xs at_ == 30) && (deedD xs at_).kind != 1))
def DeedTold (xs : List Note) (at_ : Nat) (w : World) (e : Ending) (w' : World) : Prop :=
  ∃ cs, e = .returned (.tuple #[.agg cs, .bool (deedIs xs at_)]) ∧ Kd.FK Deed.k w' (fun k => w.heap.size ≤ k) (deedD xs at_) cs.toList ∧ Below w.heap.size w w'
def NBd (x : Note) : Prop := x.call.b.length ≤ 140737488355328 ∧ x.answer.val.b.length ≤ 140737488355328
theorem infoN : (Try.prog.info? 59).map (fun i => (i.zero, i.size, i.bytes)) = some (some (.agg #[.bool false, .int .i64 0, .int .i64 0, .string ByteArray.empty, .slice none 0 0, .int .i64 0, .int .i64 0, .bool false, .slice none 0 0]), 9, 112) := by kernel_rfl
theorem note_dig {w : World} {x : Note} {A4 A8 : Option Addr} {c4 c8 : Nat} (h : Note.k.K w x [.bool x.isAnswer, .int .i64 x.call.id_, .int .i64 x.call.kind, .string x.call.key, .slice A4 x.call.b.length c4, .int .i64 x.answer.id_, .int .i64 x.answer.e, .bool x.answer.val.has, .slice A8 x.answer.val.b.length c8]) :
    kU8.C w A4 x.call.b.length x.call.b ∧ x.call.b.length ≤ c4 ∧ kU8.C w A8 x.answer.val.b.length x.answer.val.b ∧ x.answer.val.b.length ≤ c8 ∧ InR .i64 x.call.id_ ∧ InR .i64 x.call.kind ∧ InR .i64 x.answer.id_ ∧ InR .i64 x.answer.e := by
  obtain ⟨_, _, _, _, he, r1, r2, s3, l4, g4, r5, r6, l8, g8⟩ := Note.open_ h
  simp only [List.cons.injEq, Value.slice.injEq, true_and, and_true] at he
  obtain ⟨⟨rfl, rfl⟩, rfl, rfl⟩ := he
  exact ⟨g4, l4, g8, l8, r1, r2, r5, r6⟩
/-- The cells of a deed of the call's own. -/
def dcells (x : Note) (A1 : Option Addr) (c1 : Nat) (a n : Int) (done has : Bool) (v : Value) : List Value := [.int .i64 x.call.kind, .slice A1 x.call.b.length c1, .int .i64 a, .int .i64 n, .bool done, .bool has, v]
/-- What the deed's own things are, behind its making: block g is it. -/
def DD0 (w wx : World) (g : Nat) (A1 : Option Addr) (c1 : Nat) (x : Note) (a n : Int) : Prop :=
  w.heap.size + 2 ≤ g ∧ Below w.heap.size w wx ∧ x.call.b.length ≤ c1 ∧ kU8.C wx A1 x.call.b.length x.call.b ∧ (∀ ad, A1 = some ad → ad.block ≠ g) ∧ (∀ ad, A1 = some ad → w.heap.size < ad.block) ∧
  Blk wx w.heap.size [.int .i64 0, .slice none 0 0, .int .i64 0, .int .i64 0, .bool false, .bool false, .slice none 0 0] ∧
  (∃ A4 c4, Blk wx (w.heap.size + 1) [.int .i64 x.call.id_, .int .i64 x.call.kind, .string x.call.key, .slice A4 x.call.b.length c4]) ∧
  Blk wx g (dcells x A1 c1 a n false false (.slice none 0 0))
theorem hbd_of {xs : List Note} {y : Note} {k n : Nat} (h : ∀ x ∈ xs, NBd x) (he : (xs.drop n)[k]? = some y) : NBd y := h y (List.mem_of_mem_drop (List.mem_of_getElem? he))
/-- The same behind the search for its answer. -/
def DD1 (w wx : World) (g : Nat) (x : Note) (d : Deed) : Prop :=
  w.heap.size + 2 ≤ g ∧ Below w.heap.size w wx ∧
  Blk wx w.heap.size [.int .i64 0, .slice none 0 0, .int .i64 0, .int .i64 0, .bool false, .bool false, .slice none 0 0] ∧
  (∃ A4 c4, Blk wx (w.heap.size + 1) [.int .i64 x.call.id_, .int .i64 x.call.kind, .string x.call.key, .slice A4 x.call.b.length c4]) ∧
  ∃ A1 c1 A6 c6, Blk wx g [.int .i64 d.kind, .slice A1 d.b.length c1, .int .i64 d.from_, .int .i64 d.to_, .bool d.done, .bool d.val.has, .slice A6 d.val.b.length c6] ∧
  InR .i64 d.kind ∧ d.b.length ≤ c1 ∧ kU8.C wx A1 d.b.length d.b ∧ InR .i64 d.from_ ∧ InR .i64 d.to_ ∧ d.val.b.length ≤ c6 ∧ kU8.C wx A6 d.val.b.length d.val.b ∧ (∀ ad, A1 = some ad → w.heap.size < ad.block) ∧ (∀ ad, A6 = some ad → w.heap.size < ad.block)
theorem ansIx_none {xs : List Note} {at_ : Nat} (h : ∀ j, at_ < j → j < xs.length → isAns (xs.getD j Note.z) (xs.getD at_ Note.z).call.id_ = false) : ansIx xs at_ = none := by
  unfold ansIx
  rw [List.find?_eq_none]
  intro j hj
  rw [List.mem_range] at hj
  by_cases hl : at_ < j
  · simp only [h j hl hj, Bool.and_false]
    simp
  · simp [hl]
theorem ansIx_some {xs : List Note} {at_ j : Nat} (h1 : at_ < j) (h2 : j < xs.length) (h3 : isAns (xs.getD j Note.z) (xs.getD at_ Note.z).call.id_ = true) (h : ∀ i, at_ < i → i < j → isAns (xs.getD i Note.z) (xs.getD at_ Note.z).call.id_ = false) : ansIx xs at_ = some j := by
  unfold ansIx
  rw [List.find?_range_eq_some]
  refine ⟨by rw [h3]; simpa using h1, by simpa using h2, fun i hi => ?_⟩
  by_cases hl : at_ < i
  · rw [h i hl hi]; simp
  · simp [hl]
theorem dd1_of {w wx : World} {g : Nat} {x : Note} {d : Deed} {ds : List Value} {A1 A6 A4 : Option Addr} {c1 c6 c4 : Nat} (hg : w.heap.size + 2 ≤ g) (hb : Below w.heap.size w wx)
    (hr : Blk wx w.heap.size [.int .i64 0, .slice none 0 0, .int .i64 0, .int .i64 0, .bool false, .bool false, .slice none 0 0])
    (hl : Blk wx (w.heap.size + 1) [.int .i64 x.call.id_, .int .i64 x.call.kind, .string x.call.key, .slice A4 x.call.b.length c4])
    (hB : Blk wx g ds) (e : ds = [.int .i64 d.kind, .slice A1 d.b.length c1, .int .i64 d.from_, .int .i64 d.to_, .bool d.done, .bool d.val.has, .slice A6 d.val.b.length c6])
    (r0 : InR .i64 d.kind) (l1 : d.b.length ≤ c1) (g1 : kU8.C wx A1 d.b.length d.b) (r2 : InR .i64 d.from_) (r3 : InR .i64 d.to_) (l6 : d.val.b.length ≤ c6) (g6 : kU8.C wx A6 d.val.b.length d.val.b) (h1 : ∀ ad, A1 = some ad → w.heap.size < ad.block) (h6 : ∀ ad, A6 = some ad → w.heap.size < ad.block) : DD1 w wx g x d :=
  ⟨hg, hb, hr, ⟨_, _, hl⟩, A1, c1, A6, c6, hB.cast e, r0, l1, g1, r2, r3, l6, g6, h1, h6⟩
theorem full_put {x y : Note} {at_ j : Nat} (h : ¬ x.call.kind = 1) : full x y at_ j = ⟨x.call.kind, x.call.b, at_, j, true, Val.z⟩ := by unfold full; rw [if_neg h]
theorem full_get {x y : Note} {at_ j : Nat} (h : x.call.kind = 1) : full x y at_ j = ⟨x.call.kind, x.call.b, at_, j, true, y.answer.val⟩ := by unfold full; rw [if_pos h]
theorem deedD_kind (xs : List Note) (at_ : Nat) : (deedD xs at_).kind = (xs.getD at_ Note.z).call.kind := by
  unfold deedD
  split
  · rfl
  · split <;> rfl
theorem set7 {w : World} {A : Option Addr} {n b : Nat} {xs : List UInt8} {v0 v1 v2 v3 v4 v5 v6 : Value} (h : kU8.C w A n xs) (hB : ∀ ad, A = some ad → b < ad.block) :
    kU8.C (((((((w.setCell ⟨b, 0, none⟩ v0).setCell ⟨b, 1, none⟩ v1).setCell ⟨b, 2, none⟩ v2).setCell ⟨b, 3, none⟩ v3).setCell ⟨b, 4, none⟩ v4).setCell ⟨b, 5, none⟩ v5).setCell ⟨b, 6, none⟩ v6) A n xs :=
  have hA : ∀ ad, A = some ad → ad.block ≠ b := fun ad e => Nat.ne_of_gt (hB ad e)
  kU8_set (kU8_set (kU8_set (kU8_set (kU8_set (kU8_set (kU8_set h hA) hA) hA) hA) hA) hA) hA
theorem drew8 {w : World} {A : Option Addr} {n : Nat} {xs : List UInt8} (h : kU8.C w A n xs) : kU8.C w.drew A n xs := h
theorem kU8_foot {w : World} {A : Option Addr} {n B : Nat} {xs : List UInt8} (h : kU8.C w A n xs) (hA : ∀ ad, A = some ad → B < ad.block) : Foot (fun W => kU8.C W A n xs) w (fun k => B ≤ k) := by
  intro W' hW
  obtain ⟨h1, h2, h3⟩ := h
  refine ⟨h1, h2, fun hn => ?_⟩
  obtain ⟨ad, e, hc⟩ := h3 hn
  refine ⟨ad, e, fun j p hj => ?_⟩
  obtain ⟨cs, k1, k2, k3⟩ := hc j p hj
  refine ⟨cs, k1, k2, fun q u hq => ?_⟩
  have hx := k3 q u hq
  have hb := World.block_lt_of_cell? w _ hx
  rw [← hx]
  refine World.cell?_of_block (w := w) (hW _ ?_ hb)
  rw [adr_block]
  exact Nat.le_of_lt (hA ad e)
theorem fk_deed {w : World} {B : Nat} {d : Deed} {A1 A6 : Option Addr} {c1 c6 : Nat} (r0 : InR .i64 d.kind) (l1 : d.b.length ≤ c1) (g1 : kU8.C w A1 d.b.length d.b) (r2 : InR .i64 d.from_) (r3 : InR .i64 d.to_) (l6 : d.val.b.length ≤ c6) (g6 : kU8.C w A6 d.val.b.length d.val.b)
    (h1 : ∀ ad, A1 = some ad → B < ad.block) (h6 : ∀ ad, A6 = some ad → B < ad.block) :
    Kd.FK Deed.k w (fun k => B ≤ k) d [.int .i64 d.kind, .slice A1 d.b.length c1, .int .i64 d.from_, .int .i64 d.to_, .bool d.done, .bool d.val.has, .slice A6 d.val.b.length c6] :=
  fun W' hW => Deed.mk_ W' d r0 l1 (kU8_foot g1 h1 W' hW) r2 r3 l6 (kU8_foot g6 h6 W' hW)
theorem inr_nat {n : Nat} (h : n ≤ 1300000000000) : InR .i64 (n : Int) := InR.mk64 (by omega) (by omega)
theorem nil8 (w : World) : kU8.C w none 0 [] := ⟨rfl, by decide, fun h => absurd h (by omega)⟩
theorem deed_none {xs : List Note} {at_ : Nat} {x : Note} (hx : xs.getD at_ Note.z = x) (h : ∀ j, at_ < j → j < xs.length → isAns (xs.getD j Note.z) x.call.id_ = false) : deedE xs at_ = 40 ∧ deedD xs at_ = bare x at_ xs.length := by
  have := ansIx_none (xs := xs) (at_ := at_) (by rw [hx]; exact h)
  unfold deedE deedD
  rw [this, hx]
  exact ⟨rfl, rfl⟩
theorem deed_some {xs : List Note} {at_ j : Nat} {x y : Note} (hx : xs.getD at_ Note.z = x) (hy : xs.getD j Note.z = y) (h1 : at_ < j) (h2 : j < xs.length) (h3 : isAns y x.call.id_ = true) (h : ∀ i, at_ < i → i < j → isAns (xs.getD i Note.z) x.call.id_ = false) :
    deedE xs at_ = y.answer.e ∧ deedD xs at_ = if y.answer.e = 0 then full x y at_ j else bare x at_ xs.length := by
  have := ansIx_some (xs := xs) (at_ := at_) h1 h2 (by rw [hx, hy]; exact h3) (by rw [hx]; exact h)
  unfold deedE deedD
  rw [this, hx]
  simp only
  rw [hy]
  exact ⟨rfl, rfl⟩
set_option maxRecDepth 100000 in
set_option maxHeartbeats 8000000 in
theorem deed_calls (A : Option Addr) (c : Nat) (xs : List Note) (at_ : Nat) (w : World) (hr : Note.k.C w A xs.length xs) (hat : at_ < xs.length) (hn : xs.length ≤ 1300000000000) (hc : xs.length ≤ c) (hb : ∀ x ∈ xs, NBd x) :
    Calls Try.prog 43 #[.slice A xs.length c, .int .i64 at_] w (DeedTold xs at_ w) := by
  obtain ⟨A', hcut, hrest⟩ := cut_drop (kl := .i64) Try.underlying37 infoN A xs.length c (at_ + 1) (by omega)
  have HR := Aside0.mk hr
  have HT := Aside0.mk (hrest Note.k w xs rfl rfl hc hr)
  have HBD := Aside0.mk hb
  have hg0 : (0 : Int) ≤ (at_ : Int) := by omega
  have hg1 : (at_ : Int) < (xs.length : Int) := by omega
  have hcut' : ∀ W : World, (Instr.slice 37 (.slice A xs.length c) (some (.int .i64 ((at_ : Int) + 1))) none none).run Try.prog W = .ok (.slice A' (xs.length - (at_ + 1)) (c - (at_ + 1))) W := hcut
  obtain ⟨ad, x, A4, c4, A8, c8, rfl, HE, hx0, hx1, hx2, hx3, hx4, hx5, hx6, hx7, hx8, HMM⟩ := Note.at_ hr at_ hat
  have HG4 := Aside0.mk (note_dig HMM.out).1
  have HIK := Aside0.mk (note_dig HMM.out).2.2.2.2.2.1
  have HXG : Aside0 (xs.getD at_ Note.z = x) := ⟨by rw [List.getD_eq_getElem?_getD, HE.out]; rfl⟩
  have HL4 := Aside0.mk (hb x (List.mem_of_getElem? HE.out)).1
  have y1 := cell_alloc hx1
  have y2 : ∀ o, (w.alloc o).cell? ⟨(ad.add (at_ * 9)).block, (ad.add (at_ * 9)).off + 1 + 1, none⟩ = _ := cell_alloc hx2
  have y3 : ∀ o, (w.alloc o).cell? ⟨(ad.add (at_ * 9)).block, (ad.add (at_ * 9)).off + 1 + 2, none⟩ = _ := cell_alloc hx3
  have y4 : ∀ o, (w.alloc o).cell? ⟨(ad.add (at_ * 9)).block, (ad.add (at_ * 9)).off + 1 + 3, none⟩ = _ := cell_alloc hx4
  clear hr hrest hb hcut hx0 hx1 hx2 hx3 hx4 hx5 hx6 hx7 hx8 HMM
  go_enter Try.func43, Try.ntmps43
  go_wp2
  have HB0 : Aside0 (Below w.heap.size w w) := ⟨Below.refl _ _⟩
  go_upto_region 2 with fail
  go_cut [7] (fun s7 wx => ∃ (g : Nat) (A1 : Option Addr) (c1 : Nat), s7 = .pointer (some ⟨g, 0, none⟩) ∧ Aside0 (DD0 w wx g A1 c1 x at_ xs.length))
  case first =>
    go_region_held3 (fun w' => w'.cell? ⟨w.heap.size + 1, 1, none⟩ = some (.int .i64 x.call.kind) ∧ w'.cell? ⟨w.heap.size + 1, 3, none⟩ = some (.slice A4 x.call.b.length c4)) (go_keep)
      (first | (refine step_copy rfl (.const (.slice none 0 0)) (.tmp 20) rfl rfl rfl (Kd.C_below HG4.out (by repeat (first | exact Below.refl _ _ | refine below_drew ?_ | refine below_alloc ?_ _))) HL4.out ?_; intro A1 c1 w1 hl1 hg1 hfr1 hb1; have hk1 := fun o h => (bcell hb1).1 (w.heap.size+1) o h; have hk2 := fun o h => (bcell hb1).1 (w.heap.size+2) o h; have hf2 := fun o h => (bcell hb1).2 (w.heap.size+2) o h; simp at hk1; (try simp at hk2 hf2)))
    all_goals (go_wp2_with fail; go_meet)
    all_goals (clear HT HBD HR hcut')
    case rel =>
      refine ⟨_, A1, c1, rfl, ⟨?_⟩⟩
      have hs := hb1.size
      simp at hs
      have hA0 : ∀ ad, A1 = some ad → w.heap.size < ad.block := fun ad e => by
        have := (hfr1 ad e).1
        simp at this
        omega
      refine ⟨by omega, below_alloc ?_ _, hl1, Kd.C_below hg1 (below_alloc (Below.refl _ _) _), fun ad e => Nat.ne_of_lt (hfr1 ad e).2, hA0, Blk.alloc (Blk.on (Blk.drew (Blk.alloc (Blk.new_ _ _ _ rfl rfl) _)) hb1) _, ⟨_, _, Blk.alloc (Blk.on (Blk.drew (Blk.new_ _ _ _ (by simp) rfl)) hb1) _⟩, Blk.new_ _ _ _ rfl rfl⟩
      exact below_step (by repeat (first | exact Below.refl _ _ | refine below_drew ?_ | refine below_alloc ?_ _)) hb1
    case rel =>
      refine ⟨_, A1, c1, rfl, ⟨?_⟩⟩
      have hA : ∀ ad, A1 = some ad → ad.block ≠ w.heap.size + 1 + 1 := fun ad e => by
        have := (hfr1 ad e).1
        simp at this
        omega
      have hA0 : ∀ ad, A1 = some ad → w.heap.size < ad.block := fun ad e => by
        have := (hfr1 ad e).1
        simp at this
        omega
      refine ⟨by omega, ?_, hl1, ?_, hA, hA0, ?_, ⟨A4, c4, ?_⟩, ?_⟩
      · iterate 7 refine below_set ?_ (by omega)
        exact below_step (by repeat (first | exact Below.refl _ _ | refine below_drew ?_ | refine below_alloc ?_ _)) hb1
      · iterate 7 refine kU8_set ?_ hA
        exact hg1
      · iterate 7 refine Blk.set_far ?_ (by omega) _ _
        exact Blk.on (Blk.drew (Blk.alloc (Blk.alloc (Blk.new_ _ _ _ rfl rfl) _) _)) hb1
      · iterate 7 refine Blk.set_far ?_ (by omega) _ _
        exact Blk.on (Blk.drew (Blk.alloc (Blk.new_ _ _ _ (by simp) rfl) _)) hb1
      · have hB7 := (((((((Blk.on (Blk.drew (Blk.new_ (g := w.heap.size + 1 + 1) _ _ _ (by simp) rfl)) hb1).set 0 (.int .i64 x.call.kind)).set 1 (.slice A1 x.call.b.length c1)).set 2 (.int .i64 at_)).set 3 (.int .i64 xs.length)).set 4 (.bool false)).set 5 (.bool false)).set 6 (.slice none 0 0)
        exact hB7.cast rfl
  case rest =>
    obtain ⟨g, A1, c1, rfl, HC⟩ := hcut
    obtain ⟨hgw, hbc, hl1, hk1, hA1, hA0, hBr, ⟨A4', c4', hBc⟩, hBg⟩ := HC.out
    have HBC := Aside0.mk hbc
    have HK1 := Aside0.mk hk1
    have HBR := Aside0.mk hBr
    have HBL := Aside0.mk hBc
    have HBG := Aside0.mk hBg
    have HA1 := Aside0.mk hA1
    have HA0 := Aside0.mk hA0
    clear hbc hk1 hA1 hA0 hBr hBc hBg HC
    go_upto_block 0 with fail
    go_cut [8] (fun s8 wx => s8 = .int .i64 (deedE xs at_) ∧ Aside0 (DD1 w wx g x (deedD xs at_)))
    case first =>
      go_wp2
      go_loopw [8, 31] (fun v8 v31 wr => ∃ k : Nat, v31 = .int .i64 k ∧ v8 = .int .i64 40 ∧ k ≤ xs.length - (at_ + 1) ∧ Aside0 (Below wc.heap.size wc wr) ∧ Aside0 (∀ j, at_ < j → j < at_ + 1 + k → isAns (xs.getD j Note.z) x.call.id_ = false)) (fun _ v31 _ => (xs.length - (at_ + 1)) - (intOf v31).toNat)
      case atStart => exact ⟨0, rfl, rfl, Nat.zero_le _, ⟨Below.refl _ _⟩, ⟨fun j h1 h2 => absurd h1 (by omega)⟩⟩
      case round =>
        obtain ⟨k, rfl, rfl, hk, HB, HN⟩ := hrel
        by_cases hlt : k < xs.length - (at_ + 1)
        · obtain ⟨bd, y, Y4, d4, Y8, d8, rfl, HEY, hy0, hy1, hy2, hy3, hy4, hy5, hy6, hy7, hy8, HMY⟩ := Note.at_ HT.out k hlt
          have hbw : Below w.heap.size w wr := below_step HBC.out HB.out
          have z0 := pw_cell_below hbw hy0
          have z1 := pw_cell_below hbw hy1
          have z2 := pw_cell_below hbw hy2
          have z3 := pw_cell_below hbw hy3
          have z4 := pw_cell_below hbw hy4
          have z5 := pw_cell_below hbw hy5
          have z6 := pw_cell_below hbw hy6
          have z7 := pw_cell_below hbw hy7
          have z8 := pw_cell_below hbw hy8
          have HBW := Aside0.mk hbw
          have HYK : Aside0 (xs.getD (at_ + 1 + k) Note.z = y) := ⟨by rw [List.getD_eq_getElem?_getD, ← List.getElem?_drop, HEY.out]; rfl⟩
          have hc0 := cell_alloc ((HBL.out.on HB.out).cell 0 rfl)
          have hc1 := cell_alloc ((HBL.out.on HB.out).cell 1 rfl)
          have HG8 := Aside0.mk (note_dig HMY.out).2.2.1
          have HL8 := Aside0.mk (hbd_of HBD.out HEY.out).2
          have HIE := Aside0.mk (note_dig HMY.out).2.2.2.2.2.2.2
          have hk0 : (0 : Int) ≤ (k : Int) := by omega
          have hk1 : (k : Int) < ((xs.length - (at_ + 1) : Nat) : Int) := by omega
          clear hy0 hy1 hy2 hy3 hy4 hy5 hy6 hy7 hy8 HMY hbw
          obtain ⟨ya, ⟨ci, ck, cy, cb⟩, ⟨ai, ae, av⟩⟩ := y
          cases ya with
          | false =>
            go_wp2
            go_roundw
            case rel => exact ⟨k + 1, by go_num, rfl, by omega, ⟨below_alloc HB.out _⟩, ⟨fun j h1 h2 => by
              rcases Nat.lt_or_ge j (at_ + 1 + k) with h | h
              · exact HN.out j h1 h
              · obtain rfl : j = at_ + 1 + k := by omega
                rw [HYK.out]; rfl⟩⟩
            case measure => simp [intOf]; omega
          | true =>
            by_cases hid : ai = x.call.id_
            · subst hid
              have hDS := deed_some HXG.out HYK.out (show at_ < at_ + 1 + k by omega) (show at_ + 1 + k < xs.length by omega) (by simp [isAns]) HN.out
              have HDS := Aside0.mk hDS
              clear hDS
              have hG3 := (HBG.out.on HB.out).cell 3 rfl
              have hG4 := (HBG.out.on HB.out).cell 4 rfl
              have hF3 := (HBG.out.on HB.out).frozen 3 rfl
              have hF4 := (HBG.out.on HB.out).frozen 4 rfl
              have hL1 := (HBL.out.on HB.out).cell 1 rfl
              have hlr : w.heap.size + 1 < wr.heap.size := (HBL.out.on HB.out).lt
              have hlg : g ≠ w.heap.size + 1 := by omega
              have hgr : g < wr.heap.size := (HBG.out.on HB.out).lt
              have hs1 : IntKind.i64.wrap ((at_ : Int) + 1) = (at_ : Int) + 1 := wrap_small _ (by omega) (by omega)
              have hs2 : IntKind.i64.wrap ((at_ : Int) + 1 + (k : Int)) = (at_ : Int) + 1 + (k : Int) := wrap_small _ (by omega) (by omega)
              by_cases he : ae = 0
              · subst he
                by_cases hkd : x.call.kind = 1
                · rw [hkd] at hL1 hc1
                  have hG5 := (HBG.out.on HB.out).cell 5 rfl
                  have hG6 := (HBG.out.on HB.out).cell 6 rfl
                  have hF5 := (HBG.out.on HB.out).frozen 5 rfl
                  have hF6 := (HBG.out.on HB.out).frozen 6 rfl
                  go_wp2
                  go_region_held3 (fun w' => w'.cell? ⟨wr.heap.size, 7, none⟩ = some (.bool av.has) ∧ w'.cell? ⟨wr.heap.size, 8, none⟩ = some (.slice Y8 av.b.length d8)) (first | (go_keep; done) | (simp [go_sem]; done) | (simp [*, go_sem]; done))
                    (first | (refine step_copy rfl (.const (.slice none 0 0)) (.tmp 68) rfl rfl rfl (Kd.C_below HG8.out (by repeat (first | refine below_drew ?_ | refine below_alloc ?_ _ | refine below_set ?_ (by omega) | exact HBW.out))) HL8.out ?_; intro A6 c6 w1 hl6 hg6 hfr6 hb6; have hk1 := fun o h => (bcell hb6).1 wr.heap.size o h; have hk2 := fun o h => (bcell hb6).1 g o h; have hf2 := fun o h => (bcell hb6).2 g o h; simp at hk1 hk2 hf2))
                  go_wp2
                  go_meet
                  case rel =>
                    refine ⟨by rw [HDS.out.1], ⟨?_⟩⟩
                    rw [HDS.out.2, if_pos trivial, full_get hkd]
                    have hA6 : ∀ ad, A6 = some ad → ad.block ≠ g := fun ad e => by
                      have := (hfr6 ad e).1
                      simp at this
                      omega
                    have hA60 : ∀ ad, A6 = some ad → w.heap.size < ad.block := fun ad e => by
                      have := (hfr6 ad e).1
                      simp at this
                      omega
                    have hB9 := ((((((HBG.out.on HB.out).set 3 (.int .i64 ((at_ : Int) + 1 + k))).set 4 (.bool true)).alloc _).drew.on hb6).set 5 (.bool av.has)).set 6 (.slice A6 av.b.length c6)
                    refine dd1_of (A4 := A4') (c4 := c4') hgw ?_ ?_ ?_ hB9 rfl HIK.out hl1 ?_ (inr_nat (Nat.le_trans (Nat.le_of_lt hat) hn)) (inr_nat (n := at_ + 1 + k) (by omega)) hl6 (kU8_set (kU8_set hg6 hA6) hA6) HA0.out hA60
                    · exact below_set (below_set (below_step (below_drew (below_alloc (below_set (below_set HBW.out (by omega)) (by omega)) _)) hb6) (by omega)) (by omega)
                    · exact ((((((HBR.out.on HB.out).set_far (by omega) _ _).set_far (by omega) _ _).alloc _).drew.on hb6).set_far (by omega) _ _).set_far (by omega) _ _
                    · exact ((((((HBL.out.on HB.out).set_far (by omega) _ _).set_far (by omega) _ _).alloc _).drew.on hb6).set_far (by omega) _ _).set_far (by omega) _ _
                    · exact kU8_set (kU8_set (Kd.C_below (Kd.C_below (kU8_set (kU8_set (Kd.C_below HK1.out HB.out) HA1.out) HA1.out) (below_drew (below_alloc (Below.refl _ _) _))) hb6) HA1.out) HA1.out
                · go_wp2
                  go_meet
                  case rel =>
                    refine ⟨by rw [HDS.out.1], ⟨?_⟩⟩
                    rw [HDS.out.2, if_pos trivial, full_put hkd]
                    have hB9 := ((HBG.out.on HB.out).set 3 (.int .i64 ((at_ : Int) + 1 + k))).set 4 (.bool true)
                    refine dd1_of (A4 := A4') (c4 := c4') hgw ?_ ?_ ?_ (hB9.alloc _) rfl HIK.out hl1 ?_ (inr_nat (Nat.le_trans (Nat.le_of_lt hat) hn)) (inr_nat (n := at_ + 1 + k) (by omega)) (Nat.le_refl _) (nil8 _) HA0.out (fun _ h => by cases h)
                    · exact below_alloc (below_set (below_set HBW.out (by omega)) (by omega)) _
                    · exact (((HBR.out.on HB.out).set_far (by omega) _ _).set_far (by omega) _ _).alloc _
                    · exact (((HBL.out.on HB.out).set_far (by omega) _ _).set_far (by omega) _ _).alloc _
                    · exact Kd.C_below (kU8_set (kU8_set (Kd.C_below HK1.out HB.out) HA1.out) HA1.out) (below_alloc (Below.refl _ _) _)
              · go_wp2
                go_meet
                case rel =>
                  refine ⟨by rw [HDS.out.1], ⟨?_⟩⟩
                  rw [HDS.out.2, if_neg he]
                  exact dd1_of hgw (below_alloc HBW.out _) ((HBR.out.on HB.out).alloc _) ((HBL.out.on HB.out).alloc _) ((HBG.out.on HB.out).alloc _) rfl HIK.out hl1 (Kd.C_below HK1.out (below_alloc HB.out _)) (inr_nat (Nat.le_trans (Nat.le_of_lt hat) hn)) (inr_nat hn) (Nat.le_refl _) (nil8 _) HA0.out (fun _ h => by cases h)
            · go_wp2
              go_roundw
              case rel => exact ⟨k + 1, by go_num, rfl, by omega, ⟨below_alloc HB.out _⟩, ⟨fun j h1 h2 => by
                rcases Nat.lt_or_ge j (at_ + 1 + k) with h | h
                · exact HN.out j h1 h
                · obtain rfl : j = at_ + 1 + k := by omega
                  rw [HYK.out]; simp [isAns, hid]⟩⟩
              case measure => simp [intOf]; omega
        · obtain rfl : k = xs.length - (at_ + 1) := by omega
          have HDS := Aside0.mk (deed_none HXG.out (fun j h1 h2 => HN.out j h1 (by omega)))
          go_wp2
          go_meet
          case rel =>
            refine ⟨by rw [HDS.out.1], ⟨?_⟩⟩
            rw [HDS.out.2]
            exact dd1_of hgw (below_step HBC.out HB.out) (HBR.out.on HB.out) (HBL.out.on HB.out) (HBG.out.on HB.out) rfl HIK.out hl1 (Kd.C_below HK1.out HB.out) (inr_nat (Nat.le_trans (Nat.le_of_lt hat) hn)) (inr_nat hn) (Nat.le_refl _) (nil8 _) HA0.out (fun _ h => by cases h)
    case rest =>
      obtain ⟨rfl, HD⟩ := hcut
      obtain ⟨_, hbc2, hBr2, ⟨A5, c5, hBc2⟩, A1, c1, A6, c6, hBg2, r0, l1, g1, r2, r3, l6, g6, hA1, hA6⟩ := HD.out
      have hL1 := hBc2.cell 1 rfl
      have hD0 := hBg2.cell 0 rfl
      have hD1 := hBg2.cell 1 rfl
      have hD2 := hBg2.cell 2 rfl
      have hD3 := hBg2.cell 3 rfl
      have hD4 := hBg2.cell 4 rfl
      have hD5 := hBg2.cell 5 rfl
      have hD6 := hBg2.cell 6 rfl
      have hR0 := hBr2.cell 0 rfl
      have hR1 := hBr2.cell 1 rfl
      have hR2 := hBr2.cell 2 rfl
      have hR3 := hBr2.cell 3 rfl
      have hR4 := hBr2.cell 4 rfl
      have hR5 := hBr2.cell 5 rfl
      have hR6 := hBr2.cell 6 rfl
      have hQ0 := hBr2.frozen 0 rfl
      have hQ1 := hBr2.frozen 1 rfl
      have hQ2 := hBr2.frozen 2 rfl
      have hQ3 := hBr2.frozen 3 rfl
      have hQ4 := hBr2.frozen 4 rfl
      have hQ5 := hBr2.frozen 5 rfl
      have hQ6 := hBr2.frozen 6 rfl
      have hDK := deedD_kind xs at_
      rw [HXG.out] at hDK
      have hIs : deedIs xs at_ = (kn x.call.kind && ((deedD xs at_).done || ((deedE xs at_ == 40 || deedE xs at_ == 30) && x.call.kind != 1))) := by unfold deedIs; rw [hDK]
      have HDK := Aside0.mk hDK
      have HIS := Aside0.mk hIs
      have HBC2 := Aside0.mk hbc2
      have HKK := Aside0.mk (And.intro (And.intro r0 (And.intro l1 g1)) (And.intro (And.intro r2 r3) (And.intro (And.intro l6 g6) (And.intro hA1 hA6))))
      clear r0 l1 g1 r2 r3 l6 g6 hA1 hA6 hDK hIs hbc2 hBr2 hBc2 hBg2 HD
      generalize deedE xs at_ = E at *
      generalize hD : deedD xs at_ = D at *
      have HDEQ := Aside0.mk hD
      clear hD
      have hn1 : w.heap.size ≠ g := by omega
      obtain ⟨dk, db, df, dt, dd, ⟨dh, dv⟩⟩ := D
      simp only at hD0 hD1 hD2 hD3 hD4 hD5 hD6
      have hE : (E = 40 ∧ (E == 40 || E == 30) = true) ∨ (E = 30 ∧ (E == 40 || E == 30) = true) ∨ (E ≠ 40 ∧ E ≠ 30 ∧ (E == 40 || E == 30) = false) := by
        by_cases h1 : E = 40
        · exact .inl ⟨h1, by simp [h1]⟩
        · by_cases h2 : E = 30
          · exact .inr (.inl ⟨h2, by simp [h2]⟩)
          · exact .inr (.inr ⟨h1, h2, by simp [h1, h2]⟩)
      cases hkn : kn x.call.kind with
      | false =>
        cases dd with
        | false =>
          rcases hE with ⟨rfl, hE⟩ | ⟨rfl, hE⟩ | ⟨hE1, hE2, hE⟩
          all_goals have HE := Aside0.mk hE
          all_goals clear hE
          ·
            go_wp2
            refine wp_region_noPanic ?_
            refine wp_region_held_drew (S := (fun w' => w'.cell? ⟨w.heap.size + 1, 1, none⟩ = some (.int .i64 x.call.kind) ∧ w'.cell? ⟨g, 0, none⟩ = some (.int .i64 dk) ∧ w'.cell? ⟨g, 1, none⟩ = some (.slice A1 db.length c1) ∧ w'.cell? ⟨g, 2, none⟩ = some (.int .i64 df) ∧ w'.cell? ⟨g, 3, none⟩ = some (.int .i64 dt) ∧ w'.cell? ⟨g, 4, none⟩ = some (.bool false) ∧ w'.cell? ⟨g, 5, none⟩ = some (.bool dh) ∧ w'.cell? ⟨g, 6, none⟩ = some (.slice A6 dv.length c6))) (by kernel_rfl) ⟨hL1, hD0, hD1, hD2, hD3, hD4, hD5, hD6⟩ (fun hHeld => ?_)
            (first | (refine takeH 0 79 (v := ?_) rfl rfl (by kernel_rfl) (by kernel_rfl) (by kernel_rfl) (fun _ _ _ h => h) hHeld rfl ?_ ?_; rotate_left; (focus (intro w hSw; (try dsimp only at hSw); go_simp; try with_reducible rfl))) | refine skipH 0 79 rfl rfl (by kernel_rfl) (by kernel_rfl) (by kernel_rfl) (fun _ _ _ h => h) hHeld rfl ?_ | fail)
            (try simp only [Act.put, List.setIfInBounds_toArray, List.set_cons_zero, List.set_cons_succ])
            (first | (refine takeH 1 80 (v := ?_) rfl rfl (by kernel_rfl) (by kernel_rfl) (by kernel_rfl) (fun _ _ _ h => h) hHeld rfl ?_ ?_; rotate_left; (focus (intro w hSw; (try dsimp only at hSw); go_simp; try with_reducible rfl))) | refine skipH 1 80 rfl rfl (by kernel_rfl) (by kernel_rfl) (by kernel_rfl) (fun _ _ _ h => h) hHeld rfl ?_ | fail)
            (try simp only [Act.put, List.setIfInBounds_toArray, List.set_cons_zero, List.set_cons_succ])
            (first | (refine takeH 2 81 (v := ?_) rfl rfl (by kernel_rfl) (by kernel_rfl) (by kernel_rfl) (fun _ _ _ h => h) hHeld rfl ?_ ?_; rotate_left; (focus (intro w hSw; (try dsimp only at hSw); go_simp; try with_reducible rfl))) | refine skipH 2 81 rfl rfl (by kernel_rfl) (by kernel_rfl) (by kernel_rfl) (fun _ _ _ h => h) hHeld rfl ?_ | fail)
            (try simp only [Act.put, List.setIfInBounds_toArray, List.set_cons_zero, List.set_cons_succ])
            refine wpAnyH_ready (rs := [3]) (by kernel_rfl) (by simp) ?_
            refine AllReadyH.cons rfl (fun K hK => ?_) AllReadyH.nil
            go_simp
            refine (known_calls _ _).mono ?_
            rintro e w1 ⟨rfl, rfl⟩
            simp only [hkn]
            refine hK.out _ _ hHeld (fun _ => ?_)
            clear hK K
            (first | (refine takeH 4 83 (v := ?_) rfl rfl (by kernel_rfl) (by kernel_rfl) (by kernel_rfl) (fun _ _ _ h => h) hHeld rfl ?_ ?_; rotate_left; (focus (intro w hSw; (try dsimp only at hSw); go_simp; try with_reducible rfl))) | refine skipH 4 83 rfl rfl (by kernel_rfl) (by kernel_rfl) (by kernel_rfl) (fun _ _ _ h => h) hHeld rfl ?_ | fail)
            (try simp only [Act.put, List.setIfInBounds_toArray, List.set_cons_zero, List.set_cons_succ])
            (first | (refine takeH 5 84 (v := ?_) rfl rfl (by kernel_rfl) (by kernel_rfl) (by kernel_rfl) (fun _ _ _ h => h) hHeld rfl ?_ ?_; rotate_left; (focus (intro w hSw; (try dsimp only at hSw); go_simp; try with_reducible rfl))) | refine skipH 5 84 rfl rfl (by kernel_rfl) (by kernel_rfl) (by kernel_rfl) (fun _ _ _ h => h) hHeld rfl ?_ | fail)
            (try simp only [Act.put, List.setIfInBounds_toArray, List.set_cons_zero, List.set_cons_succ])
            (first | (refine takeH 6 85 (v := ?_) rfl rfl (by kernel_rfl) (by kernel_rfl) (by kernel_rfl) (fun _ _ _ h => h) hHeld rfl ?_ ?_; rotate_left; (focus (intro w hSw; (try dsimp only at hSw); go_simp; try with_reducible rfl))) | refine skipH 6 85 rfl rfl (by kernel_rfl) (by kernel_rfl) (by kernel_rfl) (fun _ _ _ h => h) hHeld rfl ?_ | fail)
            (try simp only [Act.put, List.setIfInBounds_toArray, List.set_cons_zero, List.set_cons_succ])
            (first | (refine takeH 7 86 (v := ?_) rfl rfl (by kernel_rfl) (by kernel_rfl) (by kernel_rfl) (fun _ _ _ h => h) hHeld rfl ?_ ?_; rotate_left; (focus (intro w hSw; (try dsimp only at hSw); go_simp; try with_reducible rfl))) | refine skipH 7 86 rfl rfl (by kernel_rfl) (by kernel_rfl) (by kernel_rfl) (fun _ _ _ h => h) hHeld rfl ?_ | fail)
            (try simp only [Act.put, List.setIfInBounds_toArray, List.set_cons_zero, List.set_cons_succ])
            (first | (refine takeH 8 87 (v := ?_) rfl rfl (by kernel_rfl) (by kernel_rfl) (by kernel_rfl) (fun _ _ _ h => h) hHeld rfl ?_ ?_; rotate_left; (focus (intro w hSw; (try dsimp only at hSw); go_simp; try with_reducible rfl))) | refine skipH 8 87 rfl rfl (by kernel_rfl) (by kernel_rfl) (by kernel_rfl) (fun _ _ _ h => h) hHeld rfl ?_ | fail)
            (try simp only [Act.put, List.setIfInBounds_toArray, List.set_cons_zero, List.set_cons_succ])
            (first | (refine takeH 9 88 (v := ?_) rfl rfl (by kernel_rfl) (by kernel_rfl) (by kernel_rfl) (fun _ _ _ h => h) hHeld rfl ?_ ?_; rotate_left; (focus (intro w hSw; (try dsimp only at hSw); go_simp; try with_reducible rfl))) | refine skipH 9 88 rfl rfl (by kernel_rfl) (by kernel_rfl) (by kernel_rfl) (fun _ _ _ h => h) hHeld rfl ?_ | fail)
            (try simp only [Act.put, List.setIfInBounds_toArray, List.set_cons_zero, List.set_cons_succ])
            (first | (refine takeH 10 89 (v := ?_) rfl rfl (by kernel_rfl) (by kernel_rfl) (by kernel_rfl) (fun _ _ _ h => h) hHeld rfl ?_ ?_; rotate_left; (focus (intro w hSw; (try dsimp only at hSw); go_simp; try with_reducible rfl))) | refine skipH 10 89 rfl rfl (by kernel_rfl) (by kernel_rfl) (by kernel_rfl) (fun _ _ _ h => h) hHeld rfl ?_ | fail)
            (try simp only [Act.put, List.setIfInBounds_toArray, List.set_cons_zero, List.set_cons_succ])
            (first | (refine takeH 11 90 (v := ?_) rfl rfl (by kernel_rfl) (by kernel_rfl) (by kernel_rfl) (fun _ _ _ h => h) hHeld rfl ?_ ?_; rotate_left; (focus (intro w hSw; (try dsimp only at hSw); go_simp; try with_reducible rfl))) | refine skipH 11 90 rfl rfl (by kernel_rfl) (by kernel_rfl) (by kernel_rfl) (fun _ _ _ h => h) hHeld rfl ?_ | fail)
            (try simp only [Act.put, List.setIfInBounds_toArray, List.set_cons_zero, List.set_cons_succ])
            (first | (refine takeH 12 91 (v := ?_) rfl rfl (by kernel_rfl) (by kernel_rfl) (by kernel_rfl) (fun _ _ _ h => h) hHeld rfl ?_ ?_; rotate_left; (focus (intro w hSw; (try dsimp only at hSw); go_simp; try with_reducible rfl))) | refine skipH 12 91 rfl rfl (by kernel_rfl) (by kernel_rfl) (by kernel_rfl) (fun _ _ _ h => h) hHeld rfl ?_ | fail)
            (try simp only [Act.put, List.setIfInBounds_toArray, List.set_cons_zero, List.set_cons_succ])
            (first | (refine takeH 13 92 (v := ?_) rfl rfl (by kernel_rfl) (by kernel_rfl) (by kernel_rfl) (fun _ _ _ h => h) hHeld rfl ?_ ?_; rotate_left; (focus (intro w hSw; (try dsimp only at hSw); go_simp; try with_reducible rfl))) | refine skipH 13 92 rfl rfl (by kernel_rfl) (by kernel_rfl) (by kernel_rfl) (fun _ _ _ h => h) hHeld rfl ?_ | fail)
            (try simp only [Act.put, List.setIfInBounds_toArray, List.set_cons_zero, List.set_cons_succ])
            (first | (refine takeH 14 93 (v := ?_) rfl rfl (by kernel_rfl) (by kernel_rfl) (by kernel_rfl) (fun _ _ _ h => h) hHeld rfl ?_ ?_; rotate_left; (focus (intro w hSw; (try dsimp only at hSw); go_simp; try with_reducible rfl))) | refine skipH 14 93 rfl rfl (by kernel_rfl) (by kernel_rfl) (by kernel_rfl) (fun _ _ _ h => h) hHeld rfl ?_ | fail)
            (try simp only [Act.put, List.setIfInBounds_toArray, List.set_cons_zero, List.set_cons_succ])
            (first | (refine takeH 15 94 (v := ?_) rfl rfl (by kernel_rfl) (by kernel_rfl) (by kernel_rfl) (fun _ _ _ h => h) hHeld rfl ?_ ?_; rotate_left; (focus (intro w hSw; (try dsimp only at hSw); go_simp; try with_reducible rfl))) | refine skipH 15 94 rfl rfl (by kernel_rfl) (by kernel_rfl) (by kernel_rfl) (fun _ _ _ h => h) hHeld rfl ?_ | fail)
            (try simp only [Act.put, List.setIfInBounds_toArray, List.set_cons_zero, List.set_cons_succ])
            refine wpAnyH_ready (rs := [16]) (by kernel_rfl) (by simp) ?_
            refine AllReadyH.cons rfl (fun K hK => ?_) AllReadyH.nil
            go_simp
            refine hK.out _ _ (by go_keep) (fun hHeld2 => ?_)
            clear hK K
            (first | (refine takeH 17 5 (v := ?_) rfl rfl (by kernel_rfl) (by kernel_rfl) (by kernel_rfl) (fun _ _ _ h => h) hHeld2 rfl ?_ ?_; rotate_left; (focus (intro w hSw; (try dsimp only at hSw); go_simp; try with_reducible rfl))) | refine skipH 17 5 rfl rfl (by kernel_rfl) (by kernel_rfl) (by kernel_rfl) (fun _ _ _ h => h) hHeld2 rfl ?_ | fail)
            (try simp only [Act.put, List.setIfInBounds_toArray, List.set_cons_zero, List.set_cons_succ])
            refine wpAnyH_done (by kernel_rfl) ?_ _
            refine NoPanic.normal ?_
            go_wp2
            (try simp only [Exit.inBlock, Exit.then])
            refine bodyPost_ret (by simp [results, Try.results43, go_sem, hR0, hR1, hR2, hR3, hR4, hR5, hR6]; try rfl) rfl ?_
            refine ⟨#[.int .i64 dk, .slice A1 db.length c1, .int .i64 df, .int .i64 dt, .bool false, .bool dh, .slice A6 dv.length c6], ?_, ?_, ?_⟩
            · rw [HIS.out, hkn]; rfl
            · rw [HDEQ.out]; exact fk_deed HKK.out.1.1 HKK.out.1.2.1 (drew8 (set7 HKK.out.1.2.2 HKK.out.2.2.2.1)) HKK.out.2.1.1 HKK.out.2.1.2 HKK.out.2.2.1.1 (drew8 (set7 HKK.out.2.2.1.2 HKK.out.2.2.2.2)) HKK.out.2.2.2.1 HKK.out.2.2.2.2
            · exact below_drew (below_set (below_set (below_set (below_set (below_set (below_set (below_set HBC2.out (Nat.le_refl _)) (Nat.le_refl _)) (Nat.le_refl _)) (Nat.le_refl _)) (Nat.le_refl _)) (Nat.le_refl _)) (Nat.le_refl _))
          ·
            go_wp2
            refine wp_region_noPanic ?_
            refine wp_region_held_drew (S := (fun w' => w'.cell? ⟨w.heap.size + 1, 1, none⟩ = some (.int .i64 x.call.kind) ∧ w'.cell? ⟨g, 0, none⟩ = some (.int .i64 dk) ∧ w'.cell? ⟨g, 1, none⟩ = some (.slice A1 db.length c1) ∧ w'.cell? ⟨g, 2, none⟩ = some (.int .i64 df) ∧ w'.cell? ⟨g, 3, none⟩ = some (.int .i64 dt) ∧ w'.cell? ⟨g, 4, none⟩ = some (.bool false) ∧ w'.cell? ⟨g, 5, none⟩ = some (.bool dh) ∧ w'.cell? ⟨g, 6, none⟩ = some (.slice A6 dv.length c6))) (by kernel_rfl) ⟨hL1, hD0, hD1, hD2, hD3, hD4, hD5, hD6⟩ (fun hHeld => ?_)
            (first | (refine takeH 0 79 (v := ?_) rfl rfl (by kernel_rfl) (by kernel_rfl) (by kernel_rfl) (fun _ _ _ h => h) hHeld rfl ?_ ?_; rotate_left; (focus (intro w hSw; (try dsimp only at hSw); go_simp; try with_reducible rfl))) | refine skipH 0 79 rfl rfl (by kernel_rfl) (by kernel_rfl) (by kernel_rfl) (fun _ _ _ h => h) hHeld rfl ?_ | fail)
            (try simp only [Act.put, List.setIfInBounds_toArray, List.set_cons_zero, List.set_cons_succ])
            (first | (refine takeH 1 80 (v := ?_) rfl rfl (by kernel_rfl) (by kernel_rfl) (by kernel_rfl) (fun _ _ _ h => h) hHeld rfl ?_ ?_; rotate_left; (focus (intro w hSw; (try dsimp only at hSw); go_simp; try with_reducible rfl))) | refine skipH 1 80 rfl rfl (by kernel_rfl) (by kernel_rfl) (by kernel_rfl) (fun _ _ _ h => h) hHeld rfl ?_ | fail)
            (try simp only [Act.put, List.setIfInBounds_toArray, List.set_cons_zero, List.set_cons_succ])
            (first | (refine takeH 2 81 (v := ?_) rfl rfl (by kernel_rfl) (by kernel_rfl) (by kernel_rfl) (fun _ _ _ h => h) hHeld rfl ?_ ?_; rotate_left; (focus (intro w hSw; (try dsimp only at hSw); go_simp; try with_reducible rfl))) | refine skipH 2 81 rfl rfl (by kernel_rfl) (by kernel_rfl) (by kernel_rfl) (fun _ _ _ h => h) hHeld rfl ?_ | fail)
            (try simp only [Act.put, List.setIfInBounds_toArray, List.set_cons_zero, List.set_cons_succ])
            refine wpAnyH_ready (rs := [3]) (by kernel_rfl) (by simp) ?_
            refine AllReadyH.cons rfl (fun K hK => ?_) AllReadyH.nil
            go_simp
            refine (known_calls _ _).mono ?_
            rintro e w1 ⟨rfl, rfl⟩
            simp only [hkn]
            refine hK.out _ _ hHeld (fun _ => ?_)
            clear hK K
            (first | (refine takeH 4 83 (v := ?_) rfl rfl (by kernel_rfl) (by kernel_rfl) (by kernel_rfl) (fun _ _ _ h => h) hHeld rfl ?_ ?_; rotate_left; (focus (intro w hSw; (try dsimp only at hSw); go_simp; try with_reducible rfl))) | refine skipH 4 83 rfl rfl (by kernel_rfl) (by kernel_rfl) (by kernel_rfl) (fun _ _ _ h => h) hHeld rfl ?_ | fail)
            (try simp only [Act.put, List.setIfInBounds_toArray, List.set_cons_zero, List.set_cons_succ])
            (first | (refine takeH 5 84 (v := ?_) rfl rfl (by kernel_rfl) (by kernel_rfl) (by kernel_rfl) (fun _ _ _ h => h) hHeld rfl ?_ ?_; rotate_left; (focus (intro w hSw; (try dsimp only at hSw); go_simp; try with_reducible rfl))) | refine skipH 5 84 rfl rfl (by kernel_rfl) (by kernel_rfl) (by kernel_rfl) (fun _ _ _ h => h) hHeld rfl ?_ | fail)
            (try simp only [Act.put, List.setIfInBounds_toArray, List.set_cons_zero, List.set_cons_succ])
            (first | (refine takeH 6 85 (v := ?_) rfl rfl (by kernel_rfl) (by kernel_rfl) (by kernel_rfl) (fun _ _ _ h => h) hHeld rfl ?_ ?_; rotate_left; (focus (intro w hSw; (try dsimp only at hSw); go_simp; try with_reducible rfl))) | refine skipH 6 85 rfl rfl (by kernel_rfl) (by kernel_rfl) (by kernel_rfl) (fun _ _ _ h => h) hHeld rfl ?_ | fail)
            (try simp only [Act.put, List.setIfInBounds_toArray, List.set_cons_zero, List.set_cons_succ])
            (first | (refine takeH 7 86 (v := ?_) rfl rfl (by kernel_rfl) (by kernel_rfl) (by kernel_rfl) (fun _ _ _ h => h) hHeld rfl ?_ ?_; rotate_left; (focus (intro w hSw; (try dsimp only at hSw); go_simp; try with_reducible rfl))) | refine skipH 7 86 rfl rfl (by kernel_rfl) (by kernel_rfl) (by kernel_rfl) (fun _ _ _ h => h) hHeld rfl ?_ | fail)
            (try simp only [Act.put, List.setIfInBounds_toArray, List.set_cons_zero, List.set_cons_succ])
            (first | (refine takeH 8 87 (v := ?_) rfl rfl (by kernel_rfl) (by kernel_rfl) (by kernel_rfl) (fun _ _ _ h => h) hHeld rfl ?_ ?_; rotate_left; (focus (intro w hSw; (try dsimp only at hSw); go_simp; try with_reducible rfl))) | refine skipH 8 87 rfl rfl (by kernel_rfl) (by kernel_rfl) (by kernel_rfl) (fun _ _ _ h => h) hHeld rfl ?_ | fail)
            (try simp only [Act.put, List.setIfInBounds_toArray, List.set_cons_zero, List.set_cons_succ])
            (first | (refine takeH 9 88 (v := ?_) rfl rfl (by kernel_rfl) (by kernel_rfl) (by kernel_rfl) (fun _ _ _ h => h) hHeld rfl ?_ ?_; rotate_left; (focus (intro w hSw; (try dsimp only at hSw); go_simp; try with_reducible rfl))) | refine skipH 9 88 rfl rfl (by kernel_rfl) (by kernel_rfl) (by kernel_rfl) (fun _ _ _ h => h) hHeld rfl ?_ | fail)
            (try simp only [Act.put, List.setIfInBounds_toArray, List.set_cons_zero, List.set_cons_succ])
            (first | (refine takeH 10 89 (v := ?_) rfl rfl (by kernel_rfl) (by kernel_rfl) (by kernel_rfl) (fun _ _ _ h => h) hHeld rfl ?_ ?_; rotate_left; (focus (intro w hSw; (try dsimp only at hSw); go_simp; try with_reducible rfl))) | refine skipH 10 89 rfl rfl (by kernel_rfl) (by kernel_rfl) (by kernel_rfl) (fun _ _ _ h => h) hHeld rfl ?_ | fail)
            (try simp only [Act.put, List.setIfInBounds_toArray, List.set_cons_zero, List.set_cons_succ])
            (first | (refine takeH 11 90 (v := ?_) rfl rfl (by kernel_rfl) (by kernel_rfl) (by kernel_rfl) (fun _ _ _ h => h) hHeld rfl ?_ ?_; rotate_left; (focus (intro w hSw; (try dsimp only at hSw); go_simp; try with_reducible rfl))) | refine skipH 11 90 rfl rfl (by kernel_rfl) (by kernel_rfl) (by kernel_rfl) (fun _ _ _ h => h) hHeld rfl ?_ | fail)
            (try simp only [Act.put, List.setIfInBounds_toArray, List.set_cons_zero, List.set_cons_succ])
            (first | (refine takeH 12 91 (v := ?_) rfl rfl (by kernel_rfl) (by kernel_rfl) (by kernel_rfl) (fun _ _ _ h => h) hHeld rfl ?_ ?_; rotate_left; (focus (intro w hSw; (try dsimp only at hSw); go_simp; try with_reducible rfl))) | refine skipH 12 91 rfl rfl (by kernel_rfl) (by kernel_rfl) (by kernel_rfl) (fun _ _ _ h => h) hHeld rfl ?_ | fail)
            (try simp only [Act.put, List.setIfInBounds_toArray, List.set_cons_zero, List.set_cons_succ])
            (first | (refine takeH 13 92 (v := ?_) rfl rfl (by kernel_rfl) (by kernel_rfl) (by kernel_rfl) (fun _ _ _ h => h) hHeld rfl ?_ ?_; rotate_left; (focus (intro w hSw; (try dsimp only at hSw); go_simp; try with_reducible rfl))) | refine skipH 13 92 rfl rfl (by kernel_rfl) (by kernel_rfl) (by kernel_rfl) (fun _ _ _ h => h) hHeld rfl ?_ | fail)
            (try simp only [Act.put, List.setIfInBounds_toArray, List.set_cons_zero, List.set_cons_succ])
            (first | (refine takeH 14 93 (v := ?_) rfl rfl (by kernel_rfl) (by kernel_rfl) (by kernel_rfl) (fun _ _ _ h => h) hHeld rfl ?_ ?_; rotate_left; (focus (intro w hSw; (try dsimp only at hSw); go_simp; try with_reducible rfl))) | refine skipH 14 93 rfl rfl (by kernel_rfl) (by kernel_rfl) (by kernel_rfl) (fun _ _ _ h => h) hHeld rfl ?_ | fail)
            (try simp only [Act.put, List.setIfInBounds_toArray, List.set_cons_zero, List.set_cons_succ])
            (first | (refine takeH 15 94 (v := ?_) rfl rfl (by kernel_rfl) (by kernel_rfl) (by kernel_rfl) (fun _ _ _ h => h) hHeld rfl ?_ ?_; rotate_left; (focus (intro w hSw; (try dsimp only at hSw); go_simp; try with_reducible rfl))) | refine skipH 15 94 rfl rfl (by kernel_rfl) (by kernel_rfl) (by kernel_rfl) (fun _ _ _ h => h) hHeld rfl ?_ | fail)
            (try simp only [Act.put, List.setIfInBounds_toArray, List.set_cons_zero, List.set_cons_succ])
            refine wpAnyH_ready (rs := [16]) (by kernel_rfl) (by simp) ?_
            refine AllReadyH.cons rfl (fun K hK => ?_) AllReadyH.nil
            go_simp
            refine hK.out _ _ (by go_keep) (fun hHeld2 => ?_)
            clear hK K
            (first | (refine takeH 17 5 (v := ?_) rfl rfl (by kernel_rfl) (by kernel_rfl) (by kernel_rfl) (fun _ _ _ h => h) hHeld2 rfl ?_ ?_; rotate_left; (focus (intro w hSw; (try dsimp only at hSw); go_simp; try with_reducible rfl))) | refine skipH 17 5 rfl rfl (by kernel_rfl) (by kernel_rfl) (by kernel_rfl) (fun _ _ _ h => h) hHeld2 rfl ?_ | fail)
            (try simp only [Act.put, List.setIfInBounds_toArray, List.set_cons_zero, List.set_cons_succ])
            refine wpAnyH_done (by kernel_rfl) ?_ _
            refine NoPanic.normal ?_
            go_wp2
            (try simp only [Exit.inBlock, Exit.then])
            refine bodyPost_ret (by simp [results, Try.results43, go_sem, hR0, hR1, hR2, hR3, hR4, hR5, hR6]; try rfl) rfl ?_
            refine ⟨#[.int .i64 dk, .slice A1 db.length c1, .int .i64 df, .int .i64 dt, .bool false, .bool dh, .slice A6 dv.length c6], ?_, ?_, ?_⟩
            · rw [HIS.out, hkn]; rfl
            · rw [HDEQ.out]; exact fk_deed HKK.out.1.1 HKK.out.1.2.1 (drew8 (set7 HKK.out.1.2.2 HKK.out.2.2.2.1)) HKK.out.2.1.1 HKK.out.2.1.2 HKK.out.2.2.1.1 (drew8 (set7 HKK.out.2.2.1.2 HKK.out.2.2.2.2)) HKK.out.2.2.2.1 HKK.out.2.2.2.2
            · exact below_drew (below_set (below_set (below_set (below_set (below_set (below_set (below_set HBC2.out (Nat.le_refl _)) (Nat.le_refl _)) (Nat.le_refl _)) (Nat.le_refl _)) (Nat.le_refl _)) (Nat.le_refl _)) (Nat.le_refl _))
          ·
            go_wp2
            rw [HE.out]
            refine wp_region_noPanic ?_
            refine wp_region_held_drew (S := (fun w' => w'.cell? ⟨w.heap.size + 1, 1, none⟩ = some (.int .i64 x.call.kind) ∧ w'.cell? ⟨g, 0, none⟩ = some (.int .i64 dk) ∧ w'.cell? ⟨g, 1, none⟩ = some (.slice A1 db.length c1) ∧ w'.cell? ⟨g, 2, none⟩ = some (.int .i64 df) ∧ w'.cell? ⟨g, 3, none⟩ = some (.int .i64 dt) ∧ w'.cell? ⟨g, 4, none⟩ = some (.bool false) ∧ w'.cell? ⟨g, 5, none⟩ = some (.bool dh) ∧ w'.cell? ⟨g, 6, none⟩ = some (.slice A6 dv.length c6))) (by kernel_rfl) ⟨hL1, hD0, hD1, hD2, hD3, hD4, hD5, hD6⟩ (fun hHeld => ?_)
            (first | (refine takeH 0 79 (v := ?_) rfl rfl (by kernel_rfl) (by kernel_rfl) (by kernel_rfl) (fun _ _ _ h => h) hHeld rfl ?_ ?_; rotate_left; (focus (intro w hSw; (try dsimp only at hSw); go_simp; try with_reducible rfl))) | refine skipH 0 79 rfl rfl (by kernel_rfl) (by kernel_rfl) (by kernel_rfl) (fun _ _ _ h => h) hHeld rfl ?_ | fail)
            (try simp only [Act.put, List.setIfInBounds_toArray, List.set_cons_zero, List.set_cons_succ])
            (first | (refine takeH 1 80 (v := ?_) rfl rfl (by kernel_rfl) (by kernel_rfl) (by kernel_rfl) (fun _ _ _ h => h) hHeld rfl ?_ ?_; rotate_left; (focus (intro w hSw; (try dsimp only at hSw); go_simp; try with_reducible rfl))) | refine skipH 1 80 rfl rfl (by kernel_rfl) (by kernel_rfl) (by kernel_rfl) (fun _ _ _ h => h) hHeld rfl ?_ | fail)
            (try simp only [Act.put, List.setIfInBounds_toArray, List.set_cons_zero, List.set_cons_succ])
            (first | (refine takeH 2 81 (v := ?_) rfl rfl (by kernel_rfl) (by kernel_rfl) (by kernel_rfl) (fun _ _ _ h => h) hHeld rfl ?_ ?_; rotate_left; (focus (intro w hSw; (try dsimp only at hSw); go_simp; try with_reducible rfl))) | refine skipH 2 81 rfl rfl (by kernel_rfl) (by kernel_rfl) (by kernel_rfl) (fun _ _ _ h => h) hHeld rfl ?_ | fail)
            (try simp only [Act.put, List.setIfInBounds_toArray, List.set_cons_zero, List.set_cons_succ])
            refine wpAnyH_ready (rs := [3]) (by kernel_rfl) (by simp) ?_
            refine AllReadyH.cons rfl (fun K hK => ?_) AllReadyH.nil
            go_simp
            refine (known_calls _ _).mono ?_
            rintro e w1 ⟨rfl, rfl⟩
            simp only [hkn]
            refine hK.out _ _ hHeld (fun _ => ?_)
            clear hK K
            (first | (refine takeH 4 83 (v := ?_) rfl rfl (by kernel_rfl) (by kernel_rfl) (by kernel_rfl) (fun _ _ _ h => h) hHeld rfl ?_ ?_; rotate_left; (focus (intro w hSw; (try dsimp only at hSw); go_simp; try with_reducible rfl))) | refine skipH 4 83 rfl rfl (by kernel_rfl) (by kernel_rfl) (by kernel_rfl) (fun _ _ _ h => h) hHeld rfl ?_ | fail)
            (try simp only [Act.put, List.setIfInBounds_toArray, List.set_cons_zero, List.set_cons_succ])
            (first | (refine takeH 5 84 (v := ?_) rfl rfl (by kernel_rfl) (by kernel_rfl) (by kernel_rfl) (fun _ _ _ h => h) hHeld rfl ?_ ?_; rotate_left; (focus (intro w hSw; (try dsimp only at hSw); go_simp; try with_reducible rfl))) | refine skipH 5 84 rfl rfl (by kernel_rfl) (by kernel_rfl) (by kernel_rfl) (fun _ _ _ h => h) hHeld rfl ?_ | fail)
            (try simp only [Act.put, List.setIfInBounds_toArray, List.set_cons_zero, List.set_cons_succ])
            (first | (refine takeH 6 85 (v := ?_) rfl rfl (by kernel_rfl) (by kernel_rfl) (by kernel_rfl) (fun _ _ _ h => h) hHeld rfl ?_ ?_; rotate_left; (focus (intro w hSw; (try dsimp only at hSw); go_simp; try with_reducible rfl))) | refine skipH 6 85 rfl rfl (by kernel_rfl) (by kernel_rfl) (by kernel_rfl) (fun _ _ _ h => h) hHeld rfl ?_ | fail)
            (try simp only [Act.put, List.setIfInBounds_toArray, List.set_cons_zero, List.set_cons_succ])
            (first | (refine takeH 7 86 (v := ?_) rfl rfl (by kernel_rfl) (by kernel_rfl) (by kernel_rfl) (fun _ _ _ h => h) hHeld rfl ?_ ?_; rotate_left; (focus (intro w hSw; (try dsimp only at hSw); go_simp; try with_reducible rfl))) | refine skipH 7 86 rfl rfl (by kernel_rfl) (by kernel_rfl) (by kernel_rfl) (fun _ _ _ h => h) hHeld rfl ?_ | fail)
            (try simp only [Act.put, List.setIfInBounds_toArray, List.set_cons_zero, List.set_cons_succ])
            (first | (refine takeH 8 87 (v := ?_) rfl rfl (by kernel_rfl) (by kernel_rfl) (by kernel_rfl) (fun _ _ _ h => h) hHeld rfl ?_ ?_; rotate_left; (focus (intro w hSw; (try dsimp only at hSw); go_simp; try with_reducible rfl))) | refine skipH 8 87 rfl rfl (by kernel_rfl) (by kernel_rfl) (by kernel_rfl) (fun _ _ _ h => h) hHeld rfl ?_ | fail)
            (try simp only [Act.put, List.setIfInBounds_toArray, List.set_cons_zero, List.set_cons_succ])
            (first | (refine takeH 9 88 (v := ?_) rfl rfl (by kernel_rfl) (by kernel_rfl) (by kernel_rfl) (fun _ _ _ h => h) hHeld rfl ?_ ?_; rotate_left; (focus (intro w hSw; (try dsimp only at hSw); go_simp; try with_reducible rfl))) | refine skipH 9 88 rfl rfl (by kernel_rfl) (by kernel_rfl) (by kernel_rfl) (fun _ _ _ h => h) hHeld rfl ?_ | fail)
            (try simp only [Act.put, List.setIfInBounds_toArray, List.set_cons_zero, List.set_cons_succ])
            (first | (refine takeH 10 89 (v := ?_) rfl rfl (by kernel_rfl) (by kernel_rfl) (by kernel_rfl) (fun _ _ _ h => h) hHeld rfl ?_ ?_; rotate_left; (focus (intro w hSw; (try dsimp only at hSw); go_simp; try with_reducible rfl))) | refine skipH 10 89 rfl rfl (by kernel_rfl) (by kernel_rfl) (by kernel_rfl) (fun _ _ _ h => h) hHeld rfl ?_ | fail)
            (try simp only [Act.put, List.setIfInBounds_toArray, List.set_cons_zero, List.set_cons_succ])
            (first | (refine takeH 11 90 (v := ?_) rfl rfl (by kernel_rfl) (by kernel_rfl) (by kernel_rfl) (fun _ _ _ h => h) hHeld rfl ?_ ?_; rotate_left; (focus (intro w hSw; (try dsimp only at hSw); go_simp; try with_reducible rfl))) | refine skipH 11 90 rfl rfl (by kernel_rfl) (by kernel_rfl) (by kernel_rfl) (fun _ _ _ h => h) hHeld rfl ?_ | fail)
            (try simp only [Act.put, List.setIfInBounds_toArray, List.set_cons_zero, List.set_cons_succ])
            (first | (refine takeH 12 91 (v := ?_) rfl rfl (by kernel_rfl) (by kernel_rfl) (by kernel_rfl) (fun _ _ _ h => h) hHeld rfl ?_ ?_; rotate_left; (focus (intro w hSw; (try dsimp only at hSw); go_simp; try with_reducible rfl))) | refine skipH 12 91 rfl rfl (by kernel_rfl) (by kernel_rfl) (by kernel_rfl) (fun _ _ _ h => h) hHeld rfl ?_ | fail)
            (try simp only [Act.put, List.setIfInBounds_toArray, List.set_cons_zero, List.set_cons_succ])
            (first | (refine takeH 13 92 (v := ?_) rfl rfl (by kernel_rfl) (by kernel_rfl) (by kernel_rfl) (fun _ _ _ h => h) hHeld rfl ?_ ?_; rotate_left; (focus (intro w hSw; (try dsimp only at hSw); go_simp; try with_reducible rfl))) | refine skipH 13 92 rfl rfl (by kernel_rfl) (by kernel_rfl) (by kernel_rfl) (fun _ _ _ h => h) hHeld rfl ?_ | fail)
            (try simp only [Act.put, List.setIfInBounds_toArray, List.set_cons_zero, List.set_cons_succ])
            (first | (refine takeH 14 93 (v := ?_) rfl rfl (by kernel_rfl) (by kernel_rfl) (by kernel_rfl) (fun _ _ _ h => h) hHeld rfl ?_ ?_; rotate_left; (focus (intro w hSw; (try dsimp only at hSw); go_simp; try with_reducible rfl))) | refine skipH 14 93 rfl rfl (by kernel_rfl) (by kernel_rfl) (by kernel_rfl) (fun _ _ _ h => h) hHeld rfl ?_ | fail)
            (try simp only [Act.put, List.setIfInBounds_toArray, List.set_cons_zero, List.set_cons_succ])
            (first | (refine takeH 15 94 (v := ?_) rfl rfl (by kernel_rfl) (by kernel_rfl) (by kernel_rfl) (fun _ _ _ h => h) hHeld rfl ?_ ?_; rotate_left; (focus (intro w hSw; (try dsimp only at hSw); go_simp; try with_reducible rfl))) | refine skipH 15 94 rfl rfl (by kernel_rfl) (by kernel_rfl) (by kernel_rfl) (fun _ _ _ h => h) hHeld rfl ?_ | fail)
            (try simp only [Act.put, List.setIfInBounds_toArray, List.set_cons_zero, List.set_cons_succ])
            refine wpAnyH_ready (rs := [16]) (by kernel_rfl) (by simp) ?_
            refine AllReadyH.cons rfl (fun K hK => ?_) AllReadyH.nil
            go_simp
            refine hK.out _ _ (by go_keep) (fun hHeld2 => ?_)
            clear hK K
            (first | (refine takeH 17 5 (v := ?_) rfl rfl (by kernel_rfl) (by kernel_rfl) (by kernel_rfl) (fun _ _ _ h => h) hHeld2 rfl ?_ ?_; rotate_left; (focus (intro w hSw; (try dsimp only at hSw); go_simp; try with_reducible rfl))) | refine skipH 17 5 rfl rfl (by kernel_rfl) (by kernel_rfl) (by kernel_rfl) (fun _ _ _ h => h) hHeld2 rfl ?_ | fail)
            (try simp only [Act.put, List.setIfInBounds_toArray, List.set_cons_zero, List.set_cons_succ])
            refine wpAnyH_done (by kernel_rfl) ?_ _
            refine NoPanic.normal ?_
            go_wp2
            (try simp only [Exit.inBlock, Exit.then])
            refine bodyPost_ret (by simp [results, Try.results43, go_sem, hR0, hR1, hR2, hR3, hR4, hR5, hR6]; try rfl) rfl ?_
            refine ⟨#[.int .i64 dk, .slice A1 db.length c1, .int .i64 df, .int .i64 dt, .bool false, .bool dh, .slice A6 dv.length c6], ?_, ?_, ?_⟩
            · rw [HIS.out, hkn]; rfl
            · rw [HDEQ.out]; exact fk_deed HKK.out.1.1 HKK.out.1.2.1 (drew8 (set7 HKK.out.1.2.2 HKK.out.2.2.2.1)) HKK.out.2.1.1 HKK.out.2.1.2 HKK.out.2.2.1.1 (drew8 (set7 HKK.out.2.2.1.2 HKK.out.2.2.2.2)) HKK.out.2.2.2.1 HKK.out.2.2.2.2
            · exact below_drew (below_set (below_set (below_set (below_set (below_set (below_set (below_set HBC2.out (Nat.le_refl _)) (Nat.le_refl _)) (Nat.le_refl _)) (Nat.le_refl _)) (Nat.le_refl _)) (Nat.le_refl _)) (Nat.le_refl _))
        | true =>
          rcases hE with ⟨rfl, hE⟩ | ⟨rfl, hE⟩ | ⟨hE1, hE2, hE⟩
          all_goals have HE := Aside0.mk hE
          all_goals clear hE
          ·
            go_wp2
            refine wp_region_noPanic ?_
            refine wp_region_held_drew (S := (fun w' => w'.cell? ⟨w.heap.size + 1, 1, none⟩ = some (.int .i64 x.call.kind) ∧ w'.cell? ⟨g, 0, none⟩ = some (.int .i64 dk) ∧ w'.cell? ⟨g, 1, none⟩ = some (.slice A1 db.length c1) ∧ w'.cell? ⟨g, 2, none⟩ = some (.int .i64 df) ∧ w'.cell? ⟨g, 3, none⟩ = some (.int .i64 dt) ∧ w'.cell? ⟨g, 4, none⟩ = some (.bool true) ∧ w'.cell? ⟨g, 5, none⟩ = some (.bool dh) ∧ w'.cell? ⟨g, 6, none⟩ = some (.slice A6 dv.length c6))) (by kernel_rfl) ⟨hL1, hD0, hD1, hD2, hD3, hD4, hD5, hD6⟩ (fun hHeld => ?_)
            (first | (refine takeH 0 79 (v := ?_) rfl rfl (by kernel_rfl) (by kernel_rfl) (by kernel_rfl) (fun _ _ _ h => h) hHeld rfl ?_ ?_; rotate_left; (focus (intro w hSw; (try dsimp only at hSw); go_simp; try with_reducible rfl))) | refine skipH 0 79 rfl rfl (by kernel_rfl) (by kernel_rfl) (by kernel_rfl) (fun _ _ _ h => h) hHeld rfl ?_ | fail)
            (try simp only [Act.put, List.setIfInBounds_toArray, List.set_cons_zero, List.set_cons_succ])
            (first | (refine takeH 1 80 (v := ?_) rfl rfl (by kernel_rfl) (by kernel_rfl) (by kernel_rfl) (fun _ _ _ h => h) hHeld rfl ?_ ?_; rotate_left; (focus (intro w hSw; (try dsimp only at hSw); go_simp; try with_reducible rfl))) | refine skipH 1 80 rfl rfl (by kernel_rfl) (by kernel_rfl) (by kernel_rfl) (fun _ _ _ h => h) hHeld rfl ?_ | fail)
            (try simp only [Act.put, List.setIfInBounds_toArray, List.set_cons_zero, List.set_cons_succ])
            (first | (refine takeH 2 81 (v := ?_) rfl rfl (by kernel_rfl) (by kernel_rfl) (by kernel_rfl) (fun _ _ _ h => h) hHeld rfl ?_ ?_; rotate_left; (focus (intro w hSw; (try dsimp only at hSw); go_simp; try with_reducible rfl))) | refine skipH 2 81 rfl rfl (by kernel_rfl) (by kernel_rfl) (by kernel_rfl) (fun _ _ _ h => h) hHeld rfl ?_ | fail)
            (try simp only [Act.put, List.setIfInBounds_toArray, List.set_cons_zero, List.set_cons_succ])
            refine wpAnyH_ready (rs := [3]) (by kernel_rfl) (by simp) ?_
            refine AllReadyH.cons rfl (fun K hK => ?_) AllReadyH.nil
            go_simp
            refine (known_calls _ _).mono ?_
            rintro e w1 ⟨rfl, rfl⟩
            simp only [hkn]
            refine hK.out _ _ hHeld (fun _ => ?_)
            clear hK K
            (first | (refine takeH 4 83 (v := ?_) rfl rfl (by kernel_rfl) (by kernel_rfl) (by kernel_rfl) (fun _ _ _ h => h) hHeld rfl ?_ ?_; rotate_left; (focus (intro w hSw; (try dsimp only at hSw); go_simp; try with_reducible rfl))) | refine skipH 4 83 rfl rfl (by kernel_rfl) (by kernel_rfl) (by kernel_rfl) (fun _ _ _ h => h) hHeld rfl ?_ | fail)
            (try simp only [Act.put, List.setIfInBounds_toArray, List.set_cons_zero, List.set_cons_succ])
            (first | (refine takeH 5 84 (v := ?_) rfl rfl (by kernel_rfl) (by kernel_rfl) (by kernel_rfl) (fun _ _ _ h => h) hHeld rfl ?_ ?_; rotate_left; (focus (intro w hSw; (try dsimp only at hSw); go_simp; try with_reducible rfl))) | refine skipH 5 84 rfl rfl (by kernel_rfl) (by kernel_rfl) (by kernel_rfl) (fun _ _ _ h => h) hHeld rfl ?_ | fail)
            (try simp only [Act.put, List.setIfInBounds_toArray, List.set_cons_zero, List.set_cons_succ])
            (first | (refine takeH 6 85 (v := ?_) rfl rfl (by kernel_rfl) (by kernel_rfl) (by kernel_rfl) (fun _ _ _ h => h) hHeld rfl ?_ ?_; rotate_left; (focus (intro w hSw; (try dsimp only at hSw); go_simp; try with_reducible rfl))) | refine skipH 6 85 rfl rfl (by kernel_rfl) (by kernel_rfl) (by kernel_rfl) (fun _ _ _ h => h) hHeld rfl ?_ | fail)
            (try simp only [Act.put, List.setIfInBounds_toArray, List.set_cons_zero, List.set_cons_succ])
            (first | (refine takeH 7 86 (v := ?_) rfl rfl (by kernel_rfl) (by kernel_rfl) (by kernel_rfl) (fun _ _ _ h => h) hHeld rfl ?_ ?_; rotate_left; (focus (intro w hSw; (try dsimp only at hSw); go_simp; try with_reducible rfl))) | refine skipH 7 86 rfl rfl (by kernel_rfl) (by kernel_rfl) (by kernel_rfl) (fun _ _ _ h => h) hHeld rfl ?_ | fail)
            (try simp only [Act.put, List.setIfInBounds_toArray, List.set_cons_zero, List.set_cons_succ])
            (first | (refine takeH 8 87 (v := ?_) rfl rfl (by kernel_rfl) (by kernel_rfl) (by kernel_rfl) (fun _ _ _ h => h) hHeld rfl ?_ ?_; rotate_left; (focus (intro w hSw; (try dsimp only at hSw); go_simp; try with_reducible rfl))) | refine skipH 8 87 rfl rfl (by kernel_rfl) (by kernel_rfl) (by kernel_rfl) (fun _ _ _ h => h) hHeld rfl ?_ | fail)
            (try simp only [Act.put, List.setIfInBounds_toArray, List.set_cons_zero, List.set_cons_succ])
            (first | (refine takeH 9 88 (v := ?_) rfl rfl (by kernel_rfl) (by kernel_rfl) (by kernel_rfl) (fun _ _ _ h => h) hHeld rfl ?_ ?_; rotate_left; (focus (intro w hSw; (try dsimp only at hSw); go_simp; try with_reducible rfl))) | refine skipH 9 88 rfl rfl (by kernel_rfl) (by kernel_rfl) (by kernel_rfl) (fun _ _ _ h => h) hHeld rfl ?_ | fail)
            (try simp only [Act.put, List.setIfInBounds_toArray, List.set_cons_zero, List.set_cons_succ])
            (first | (refine takeH 10 89 (v := ?_) rfl rfl (by kernel_rfl) (by kernel_rfl) (by kernel_rfl) (fun _ _ _ h => h) hHeld rfl ?_ ?_; rotate_left; (focus (intro w hSw; (try dsimp only at hSw); go_simp; try with_reducible rfl))) | refine skipH 10 89 rfl rfl (by kernel_rfl) (by kernel_rfl) (by kernel_rfl) (fun _ _ _ h => h) hHeld rfl ?_ | fail)
            (try simp only [Act.put, List.setIfInBounds_toArray, List.set_cons_zero, List.set_cons_succ])
            (first | (refine takeH 11 90 (v := ?_) rfl rfl (by kernel_rfl) (by kernel_rfl) (by kernel_rfl) (fun _ _ _ h => h) hHeld rfl ?_ ?_; rotate_left; (focus (intro w hSw; (try dsimp only at hSw); go_simp; try with_reducible rfl))) | refine skipH 11 90 rfl rfl (by kernel_rfl) (by kernel_rfl) (by kernel_rfl) (fun _ _ _ h => h) hHeld rfl ?_ | fail)
            (try simp only [Act.put, List.setIfInBounds_toArray, List.set_cons_zero, List.set_cons_succ])
            (first | (refine takeH 12 91 (v := ?_) rfl rfl (by kernel_rfl) (by kernel_rfl) (by kernel_rfl) (fun _ _ _ h => h) hHeld rfl ?_ ?_; rotate_left; (focus (intro w hSw; (try dsimp only at hSw); go_simp; try with_reducible rfl))) | refine skipH 12 91 rfl rfl (by kernel_rfl) (by kernel_rfl) (by kernel_rfl) (fun _ _ _ h => h) hHeld rfl ?_ | fail)
            (try simp only [Act.put, List.setIfInBounds_toArray, List.set_cons_zero, List.set_cons_succ])
            (first | (refine takeH 13 92 (v := ?_) rfl rfl (by kernel_rfl) (by kernel_rfl) (by kernel_rfl) (fun _ _ _ h => h) hHeld rfl ?_ ?_; rotate_left; (focus (intro w hSw; (try dsimp only at hSw); go_simp; try with_reducible rfl))) | refine skipH 13 92 rfl rfl (by kernel_rfl) (by kernel_rfl) (by kernel_rfl) (fun _ _ _ h => h) hHeld rfl ?_ | fail)
            (try simp only [Act.put, List.setIfInBounds_toArray, List.set_cons_zero, List.set_cons_succ])
            (first | (refine takeH 14 93 (v := ?_) rfl rfl (by kernel_rfl) (by kernel_rfl) (by kernel_rfl) (fun _ _ _ h => h) hHeld rfl ?_ ?_; rotate_left; (focus (intro w hSw; (try dsimp only at hSw); go_simp; try with_reducible rfl))) | refine skipH 14 93 rfl rfl (by kernel_rfl) (by kernel_rfl) (by kernel_rfl) (fun _ _ _ h => h) hHeld rfl ?_ | fail)
            (try simp only [Act.put, List.setIfInBounds_toArray, List.set_cons_zero, List.set_cons_succ])
            (first | (refine takeH 15 94 (v := ?_) rfl rfl (by kernel_rfl) (by kernel_rfl) (by kernel_rfl) (fun _ _ _ h => h) hHeld rfl ?_ ?_; rotate_left; (focus (intro w hSw; (try dsimp only at hSw); go_simp; try with_reducible rfl))) | refine skipH 15 94 rfl rfl (by kernel_rfl) (by kernel_rfl) (by kernel_rfl) (fun _ _ _ h => h) hHeld rfl ?_ | fail)
            (try simp only [Act.put, List.setIfInBounds_toArray, List.set_cons_zero, List.set_cons_succ])
            refine wpAnyH_ready (rs := [16]) (by kernel_rfl) (by simp) ?_
            refine AllReadyH.cons rfl (fun K hK => ?_) AllReadyH.nil
            go_simp
            refine hK.out _ _ (by go_keep) (fun hHeld2 => ?_)
            clear hK K
            (first | (refine takeH 17 5 (v := ?_) rfl rfl (by kernel_rfl) (by kernel_rfl) (by kernel_rfl) (fun _ _ _ h => h) hHeld2 rfl ?_ ?_; rotate_left; (focus (intro w hSw; (try dsimp only at hSw); go_simp; try with_reducible rfl))) | refine skipH 17 5 rfl rfl (by kernel_rfl) (by kernel_rfl) (by kernel_rfl) (fun _ _ _ h => h) hHeld2 rfl ?_ | fail)
            (try simp only [Act.put, List.setIfInBounds_toArray, List.set_cons_zero, List.set_cons_succ])
            refine wpAnyH_done (by kernel_rfl) ?_ _
            refine NoPanic.normal ?_
            go_wp2
            (try simp only [Exit.inBlock, Exit.then])
            refine bodyPost_ret (by simp [results, Try.results43, go_sem, hR0, hR1, hR2, hR3, hR4, hR5, hR6]; try rfl) rfl ?_
            refine ⟨#[.int .i64 dk, .slice A1 db.length c1, .int .i64 df, .int .i64 dt, .bool true, .bool dh, .slice A6 dv.length c6], ?_, ?_, ?_⟩
            · rw [HIS.out, hkn]; rfl
            · rw [HDEQ.out]; exact fk_deed HKK.out.1.1 HKK.out.1.2.1 (drew8 (set7 HKK.out.1.2.2 HKK.out.2.2.2.1)) HKK.out.2.1.1 HKK.out.2.1.2 HKK.out.2.2.1.1 (drew8 (set7 HKK.out.2.2.1.2 HKK.out.2.2.2.2)) HKK.out.2.2.2.1 HKK.out.2.2.2.2
            · exact below_drew (below_set (below_set (below_set (below_set (below_set (below_set (below_set HBC2.out (Nat.le_refl _)) (Nat.le_refl _)) (Nat.le_refl _)) (Nat.le_refl _)) (Nat.le_refl _)) (Nat.le_refl _)) (Nat.le_refl _))
          ·
            go_wp2
            refine wp_region_noPanic ?_
            refine wp_region_held_drew (S := (fun w' => w'.cell? ⟨w.heap.size + 1, 1, none⟩ = some (.int .i64 x.call.kind) ∧ w'.cell? ⟨g, 0, none⟩ = some (.int .i64 dk) ∧ w'.cell? ⟨g, 1, none⟩ = some (.slice A1 db.length c1) ∧ w'.cell? ⟨g, 2, none⟩ = some (.int .i64 df) ∧ w'.cell? ⟨g, 3, none⟩ = some (.int .i64 dt) ∧ w'.cell? ⟨g, 4, none⟩ = some (.bool true) ∧ w'.cell? ⟨g, 5, none⟩ = some (.bool dh) ∧ w'.cell? ⟨g, 6, none⟩ = some (.slice A6 dv.length c6))) (by kernel_rfl) ⟨hL1, hD0, hD1, hD2, hD3, hD4, hD5, hD6⟩ (fun hHeld => ?_)
            (first | (refine takeH 0 79 (v := ?_) rfl rfl (by kernel_rfl) (by kernel_rfl) (by kernel_rfl) (fun _ _ _ h => h) hHeld rfl ?_ ?_; rotate_left; (focus (intro w hSw; (try dsimp only at hSw); go_simp; try with_reducible rfl))) | refine skipH 0 79 rfl rfl (by kernel_rfl) (by kernel_rfl) (by kernel_rfl) (fun _ _ _ h => h) hHeld rfl ?_ | fail)
            (try simp only [Act.put, List.setIfInBounds_toArray, List.set_cons_zero, List.set_cons_succ])
            (first | (refine takeH 1 80 (v := ?_) rfl rfl (by kernel_rfl) (by kernel_rfl) (by kernel_rfl) (fun _ _ _ h => h) hHeld rfl ?_ ?_; rotate_left; (focus (intro w hSw; (try dsimp only at hSw); go_simp; try with_reducible rfl))) | refine skipH 1 80 rfl rfl (by kernel_rfl) (by kernel_rfl) (by kernel_rfl) (fun _ _ _ h => h) hHeld rfl ?_ | fail)
            (try simp only [Act.put, List.setIfInBounds_toArray, List.set_cons_zero, List.set_cons_succ])
            (first | (refine takeH 2 81 (v := ?_) rfl rfl (by kernel_rfl) (by kernel_rfl) (by kernel_rfl) (fun _ _ _ h => h) hHeld rfl ?_ ?_; rotate_left; (focus (intro w hSw; (try dsimp only at hSw); go_simp; try with_reducible rfl))) | refine skipH 2 81 rfl rfl (by kernel_rfl) (by kernel_rfl) (by kernel_rfl) (fun _ _ _ h => h) hHeld rfl ?_ | fail)
            (try simp only [Act.put, List.setIfInBounds_toArray, List.set_cons_zero, List.set_cons_succ])
            refine wpAnyH_ready (rs := [3]) (by kernel_rfl) (by simp) ?_
            refine AllReadyH.cons rfl (fun K hK => ?_) AllReadyH.nil
            go_simp
            refine (known_calls _ _).mono ?_
            rintro e w1 ⟨rfl, rfl⟩
            simp only [hkn]
            refine hK.out _ _ hHeld (fun _ => ?_)
            clear hK K
            (first | (refine takeH 4 83 (v := ?_) rfl rfl (by kernel_rfl) (by kernel_rfl) (by kernel_rfl) (fun _ _ _ h => h) hHeld rfl ?_ ?_; rotate_left; (focus (intro w hSw; (try dsimp only at hSw); go_simp; try with_reducible rfl))) | refine skipH 4 83 rfl rfl (by kernel_rfl) (by kernel_rfl) (by kernel_rfl) (fun _ _ _ h => h) hHeld rfl ?_ | fail)
            (try simp only [Act.put, List.setIfInBounds_toArray, List.set_cons_zero, List.set_cons_succ])
            (first | (refine takeH 5 84 (v := ?_) rfl rfl (by kernel_rfl) (by kernel_rfl) (by kernel_rfl) (fun _ _ _ h => h) hHeld rfl ?_ ?_; rotate_left; (focus (intro w hSw; (try dsimp only at hSw); go_simp; try with_reducible rfl))) | refine skipH 5 84 rfl rfl (by kernel_rfl) (by kernel_rfl) (by kernel_rfl) (fun _ _ _ h => h) hHeld rfl ?_ | fail)
            (try simp only [Act.put, List.setIfInBounds_toArray, List.set_cons_zero, List.set_cons_succ])
            (first | (refine takeH 6 85 (v := ?_) rfl rfl (by kernel_rfl) (by kernel_rfl) (by kernel_rfl) (fun _ _ _ h => h) hHeld rfl ?_ ?_; rotate_left; (focus (intro w hSw; (try dsimp only at hSw); go_simp; try with_reducible rfl))) | refine skipH 6 85 rfl rfl (by kernel_rfl) (by kernel_rfl) (by kernel_rfl) (fun _ _ _ h => h) hHeld rfl ?_ | fail)
            (try simp only [Act.put, List.setIfInBounds_toArray, List.set_cons_zero, List.set_cons_succ])
            (first | (refine takeH 7 86 (v := ?_) rfl rfl (by kernel_rfl) (by kernel_rfl) (by kernel_rfl) (fun _ _ _ h => h) hHeld rfl ?_ ?_; rotate_left; (focus (intro w hSw; (try dsimp only at hSw); go_simp; try with_reducible rfl))) | refine skipH 7 86 rfl rfl (by kernel_rfl) (by kernel_rfl) (by kernel_rfl) (fun _ _ _ h => h) hHeld rfl ?_ | fail)
            (try simp only [Act.put, List.setIfInBounds_toArray, List.set_cons_zero, List.set_cons_succ])
            (first | (refine takeH 8 87 (v := ?_) rfl rfl (by kernel_rfl) (by kernel_rfl) (by kernel_rfl) (fun _ _ _ h => h) hHeld rfl ?_ ?_; rotate_left; (focus (intro w hSw; (try dsimp only at hSw); go_simp; try with_reducible rfl))) | refine skipH 8 87 rfl rfl (by kernel_rfl) (by kernel_rfl) (by kernel_rfl) (fun _ _ _ h => h) hHeld rfl ?_ | fail)
            (try simp only [Act.put, List.setIfInBounds_toArray, List.set_cons_zero, List.set_cons_succ])
            (first | (refine takeH 9 88 (v := ?_) rfl rfl (by kernel_rfl) (by kernel_rfl) (by kernel_rfl) (fun _ _ _ h => h) hHeld rfl ?_ ?_; rotate_left; (focus (intro w hSw; (try dsimp only at hSw); go_simp; try with_reducible rfl))) | refine skipH 9 88 rfl rfl (by kernel_rfl) (by kernel_rfl) (by kernel_rfl) (fun _ _ _ h => h) hHeld rfl ?_ | fail)
            (try simp only [Act.put, List.setIfInBounds_toArray, List.set_cons_zero, List.set_cons_succ])
            (first | (refine takeH 10 89 (v := ?_) rfl rfl (by kernel_rfl) (by kernel_rfl) (by kernel_rfl) (fun _ _ _ h => h) hHeld rfl ?_ ?_; rotate_left; (focus (intro w hSw; (try dsimp only at hSw); go_simp; try with_reducible rfl))) | refine skipH 10 89 rfl rfl (by kernel_rfl) (by kernel_rfl) (by kernel_rfl) (fun _ _ _ h => h) hHeld rfl ?_ | fail)
            (try simp only [Act.put, List.setIfInBounds_toArray, List.set_cons_zero, List.set_cons_succ])
            (first | (refine takeH 11 90 (v := ?_) rfl rfl (by kernel_rfl) (by kernel_rfl) (by kernel_rfl) (fun _ _ _ h => h) hHeld rfl ?_ ?_; rotate_left; (focus (intro w hSw; (try dsimp only at hSw); go_simp; try with_reducible rfl))) | refine skipH 11 90 rfl rfl (by kernel_rfl) (by kernel_rfl) (by kernel_rfl) (fun _ _ _ h => h) hHeld rfl ?_ | fail)
            (try simp only [Act.put, List.setIfInBounds_toArray, List.set_cons_zero, List.set_cons_succ])
            (first | (refine takeH 12 91 (v := ?_) rfl rfl (by kernel_rfl) (by kernel_rfl) (by kernel_rfl) (fun _ _ _ h => h) hHeld rfl ?_ ?_; rotate_left; (focus (intro w hSw; (try dsimp only at hSw); go_simp; try with_reducible rfl))) | refine skipH 12 91 rfl rfl (by kernel_rfl) (by kernel_rfl) (by kernel_rfl) (fun _ _ _ h => h) hHeld rfl ?_ | fail)
            (try simp only [Act.put, List.setIfInBounds_toArray, List.set_cons_zero, List.set_cons_succ])
            (first | (refine takeH 13 92 (v := ?_) rfl rfl (by kernel_rfl) (by kernel_rfl) (by kernel_rfl) (fun _ _ _ h => h) hHeld rfl ?_ ?_; rotate_left; (focus (intro w hSw; (try dsimp only at hSw); go_simp; try with_reducible rfl))) | refine skipH 13 92 rfl rfl (by kernel_rfl) (by kernel_rfl) (by kernel_rfl) (fun _ _ _ h => h) hHeld rfl ?_ | fail)
            (try simp only [Act.put, List.setIfInBounds_toArray, List.set_cons_zero, List.set_cons_succ])
            (first | (refine takeH 14 93 (v := ?_) rfl rfl (by kernel_rfl) (by kernel_rfl) (by kernel_rfl) (fun _ _ _ h => h) hHeld rfl ?_ ?_; rotate_left; (focus (intro w hSw; (try dsimp only at hSw); go_simp; try with_reducible rfl))) | refine skipH 14 93 rfl rfl (by kernel_rfl) (by kernel_rfl) (by kernel_rfl) (fun _ _ _ h => h) hHeld rfl ?_ | fail)
            (try simp only [Act.put, List.setIfInBounds_toArray, List.set_cons_zero, List.set_cons_succ])
            (first | (refine takeH 15 94 (v := ?_) rfl rfl (by kernel_rfl) (by kernel_rfl) (by kernel_rfl) (fun _ _ _ h => h) hHeld rfl ?_ ?_; rotate_left; (focus (intro w hSw; (try dsimp only at hSw); go_simp; try with_reducible rfl))) | refine skipH 15 94 rfl rfl (by kernel_rfl) (by kernel_rfl) (by kernel_rfl) (fun _ _ _ h => h) hHeld rfl ?_ | fail)
            (try simp only [Act.put, List.setIfInBounds_toArray, List.set_cons_zero, List.set_cons_succ])
            refine wpAnyH_ready (rs := [16]) (by kernel_rfl) (by simp) ?_
            refine AllReadyH.cons rfl (fun K hK => ?_) AllReadyH.nil
            go_simp
            refine hK.out _ _ (by go_keep) (fun hHeld2 => ?_)
            clear hK K
            (first | (refine takeH 17 5 (v := ?_) rfl rfl (by kernel_rfl) (by kernel_rfl) (by kernel_rfl) (fun _ _ _ h => h) hHeld2 rfl ?_ ?_; rotate_left; (focus (intro w hSw; (try dsimp only at hSw); go_simp; try with_reducible rfl))) | refine skipH 17 5 rfl rfl (by kernel_rfl) (by kernel_rfl) (by kernel_rfl) (fun _ _ _ h => h) hHeld2 rfl ?_ | fail)
            (try simp only [Act.put, List.setIfInBounds_toArray, List.set_cons_zero, List.set_cons_succ])
            refine wpAnyH_done (by kernel_rfl) ?_ _
            refine NoPanic.normal ?_
            go_wp2
            (try simp only [Exit.inBlock, Exit.then])
            refine bodyPost_ret (by simp [results, Try.results43, go_sem, hR0, hR1, hR2, hR3, hR4, hR5, hR6]; try rfl) rfl ?_
            refine ⟨#[.int .i64 dk, .slice A1 db.length c1, .int .i64 df, .int .i64 dt, .bool true, .bool dh, .slice A6 dv.length c6], ?_, ?_, ?_⟩
            · rw [HIS.out, hkn]; rfl
            · rw [HDEQ.out]; exact fk_deed HKK.out.1.1 HKK.out.1.2.1 (drew8 (set7 HKK.out.1.2.2 HKK.out.2.2.2.1)) HKK.out.2.1.1 HKK.out.2.1.2 HKK.out.2.2.1.1 (drew8 (set7 HKK.out.2.2.1.2 HKK.out.2.2.2.2)) HKK.out.2.2.2.1 HKK.out.2.2.2.2
            · exact below_drew (below_set (below_set (below_set (below_set (below_set (below_set (below_set HBC2.out (Nat.le_refl _)) (Nat.le_refl _)) (Nat.le_refl _)) (Nat.le_refl _)) (Nat.le_refl _)) (Nat.le_refl _)) (Nat.le_refl _))
          ·
            go_wp2
            rw [HE.out]
            refine wp_region_noPanic ?_
            refine wp_region_held_drew (S := (fun w' => w'.cell? ⟨w.heap.size + 1, 1, none⟩ = some (.int .i64 x.call.kind) ∧ w'.cell? ⟨g, 0, none⟩ = some (.int .i64 dk) ∧ w'.cell? ⟨g, 1, none⟩ = some (.slice A1 db.length c1) ∧ w'.cell? ⟨g, 2, none⟩ = some (.int .i64 df) ∧ w'.cell? ⟨g, 3, none⟩ = some (.int .i64 dt) ∧ w'.cell? ⟨g, 4, none⟩ = some (.bool true) ∧ w'.cell? ⟨g, 5, none⟩ = some (.bool dh) ∧ w'.cell? ⟨g, 6, none⟩ = some (.slice A6 dv.length c6))) (by kernel_rfl) ⟨hL1, hD0, hD1, hD2, hD3, hD4, hD5, hD6⟩ (fun hHeld => ?_)
            (first | (refine takeH 0 79 (v := ?_) rfl rfl (by kernel_rfl) (by kernel_rfl) (by kernel_rfl) (fun _ _ _ h => h) hHeld rfl ?_ ?_; rotate_left; (focus (intro w hSw; (try dsimp only at hSw); go_simp; try with_reducible rfl))) | refine skipH 0 79 rfl rfl (by kernel_rfl) (by kernel_rfl) (by kernel_rfl) (fun _ _ _ h => h) hHeld rfl ?_ | fail)
            (try simp only [Act.put, List.setIfInBounds_toArray, List.set_cons_zero, List.set_cons_succ])
            (first | (refine takeH 1 80 (v := ?_) rfl rfl (by kernel_rfl) (by kernel_rfl) (by kernel_rfl) (fun _ _ _ h => h) hHeld rfl ?_ ?_; rotate_left; (focus (intro w hSw; (try dsimp only at hSw); go_simp; try with_reducible rfl))) | refine skipH 1 80 rfl rfl (by kernel_rfl) (by kernel_rfl) (by kernel_rfl) (fun _ _ _ h => h) hHeld rfl ?_ | fail)
            (try simp only [Act.put, List.setIfInBounds_toArray, List.set_cons_zero, List.set_cons_succ])
            (first | (refine takeH 2 81 (v := ?_) rfl rfl (by kernel_rfl) (by kernel_rfl) (by kernel_rfl) (fun _ _ _ h => h) hHeld rfl ?_ ?_; rotate_left; (focus (intro w hSw; (try dsimp only at hSw); go_simp; try with_reducible rfl))) | refine skipH 2 81 rfl rfl (by kernel_rfl) (by kernel_rfl) (by kernel_rfl) (fun _ _ _ h => h) hHeld rfl ?_ | fail)
            (try simp only [Act.put, List.setIfInBounds_toArray, List.set_cons_zero, List.set_cons_succ])
            refine wpAnyH_ready (rs := [3]) (by kernel_rfl) (by simp) ?_
            refine AllReadyH.cons rfl (fun K hK => ?_) AllReadyH.nil
            go_simp
            refine (known_calls _ _).mono ?_
            rintro e w1 ⟨rfl, rfl⟩
            simp only [hkn]
            refine hK.out _ _ hHeld (fun _ => ?_)
            clear hK K
            (first | (refine takeH 4 83 (v := ?_) rfl rfl (by kernel_rfl) (by kernel_rfl) (by kernel_rfl) (fun _ _ _ h => h) hHeld rfl ?_ ?_; rotate_left; (focus (intro w hSw; (try dsimp only at hSw); go_simp; try with_reducible rfl))) | refine skipH 4 83 rfl rfl (by kernel_rfl) (by kernel_rfl) (by kernel_rfl) (fun _ _ _ h => h) hHeld rfl ?_ | fail)
            (try simp only [Act.put, List.setIfInBounds_toArray, List.set_cons_zero, List.set_cons_succ])
            (first | (refine takeH 5 84 (v := ?_) rfl rfl (by kernel_rfl) (by kernel_rfl) (by kernel_rfl) (fun _ _ _ h => h) hHeld rfl ?_ ?_; rotate_left; (focus (intro w hSw; (try dsimp only at hSw); go_simp; try with_reducible rfl))) | refine skipH 5 84 rfl rfl (by kernel_rfl) (by kernel_rfl) (by kernel_rfl) (fun _ _ _ h => h) hHeld rfl ?_ | fail)
            (try simp only [Act.put, List.setIfInBounds_toArray, List.set_cons_zero, List.set_cons_succ])
            (first | (refine takeH 6 85 (v := ?_) rfl rfl (by kernel_rfl) (by kernel_rfl) (by kernel_rfl) (fun _ _ _ h => h) hHeld rfl ?_ ?_; rotate_left; (focus (intro w hSw; (try dsimp only at hSw); go_simp; try with_reducible rfl))) | refine skipH 6 85 rfl rfl (by kernel_rfl) (by kernel_rfl) (by kernel_rfl) (fun _ _ _ h => h) hHeld rfl ?_ | fail)
            (try simp only [Act.put, List.setIfInBounds_toArray, List.set_cons_zero, List.set_cons_succ])
            (first | (refine takeH 7 86 (v := ?_) rfl rfl (by kernel_rfl) (by kernel_rfl) (by kernel_rfl) (fun _ _ _ h => h) hHeld rfl ?_ ?_; rotate_left; (focus (intro w hSw; (try dsimp only at hSw); go_simp; try with_reducible rfl))) | refine skipH 7 86 rfl rfl (by kernel_rfl) (by kernel_rfl) (by kernel_rfl) (fun _ _ _ h => h) hHeld rfl ?_ | fail)
            (try simp only [Act.put, List.setIfInBounds_toArray, List.set_cons_zero, List.set_cons_succ])
            (first | (refine takeH 8 87 (v := ?_) rfl rfl (by kernel_rfl) (by kernel_rfl) (by kernel_rfl) (fun _ _ _ h => h) hHeld rfl ?_ ?_; rotate_left; (focus (intro w hSw; (try dsimp only at hSw); go_simp; try with_reducible rfl))) | refine skipH 8 87 rfl rfl (by kernel_rfl) (by kernel_rfl) (by kernel_rfl) (fun _ _ _ h => h) hHeld rfl ?_ | fail)
            (try simp only [Act.put, List.setIfInBounds_toArray, List.set_cons_zero, List.set_cons_succ])
            (first | (refine takeH 9 88 (v := ?_) rfl rfl (by kernel_rfl) (by kernel_rfl) (by kernel_rfl) (fun _ _ _ h => h) hHeld rfl ?_ ?_; rotate_left; (focus (intro w hSw; (try dsimp only at hSw); go_simp; try with_reducible rfl))) | refine skipH 9 88 rfl rfl (by kernel_rfl) (by kernel_rfl) (by kernel_rfl) (fun _ _ _ h => h) hHeld rfl ?_ | fail)
            (try simp only [Act.put, List.setIfInBounds_toArray, List.set_cons_zero, List.set_cons_succ])
            (first | (refine takeH 10 89 (v := ?_) rfl rfl (by kernel_rfl) (by kernel_rfl) (by kernel_rfl) (fun _ _ _ h => h) hHeld rfl ?_ ?_; rotate_left; (focus (intro w hSw; (try dsimp only at hSw); go_simp; try with_reducible rfl))) | refine skipH 10 89 rfl rfl (by kernel_rfl) (by kernel_rfl) (by kernel_rfl) (fun _ _ _ h => h) hHeld rfl ?_ | fail)
            (try simp only [Act.put, List.setIfInBounds_toArray, List.set_cons_zero, List.set_cons_succ])
            (first | (refine takeH 11 90 (v := ?_) rfl rfl (by kernel_rfl) (by kernel_rfl) (by kernel_rfl) (fun _ _ _ h => h) hHeld rfl ?_ ?_; rotate_left; (focus (intro w hSw; (try dsimp only at hSw); go_simp; try with_reducible rfl))) | refine skipH 11 90 rfl rfl (by kernel_rfl) (by kernel_rfl) (by kernel_rfl) (fun _ _ _ h => h) hHeld rfl ?_ | fail)
            (try simp only [Act.put, List.setIfInBounds_toArray, List.set_cons_zero, List.set_cons_succ])
            (first | (refine takeH 12 91 (v := ?_) rfl rfl (by kernel_rfl) (by kernel_rfl) (by kernel_rfl) (fun _ _ _ h => h) hHeld rfl ?_ ?_; rotate_left; (focus (intro w hSw; (try dsimp only at hSw); go_simp; try with_reducible rfl))) | refine skipH 12 91 rfl rfl (by kernel_rfl) (by kernel_rfl) (by kernel_rfl) (fun _ _ _ h => h) hHeld rfl ?_ | fail)
            (try simp only [Act.put, List.setIfInBounds_toArray, List.set_cons_zero, List.set_cons_succ])
            (first | (refine takeH 13 92 (v := ?_) rfl rfl (by kernel_rfl) (by kernel_rfl) (by kernel_rfl) (fun _ _ _ h => h) hHeld rfl ?_ ?_; rotate_left; (focus (intro w hSw; (try dsimp only at hSw); go_simp; try with_reducible rfl))) | refine skipH 13 92 rfl rfl (by kernel_rfl) (by kernel_rfl) (by kernel_rfl) (fun _ _ _ h => h) hHeld rfl ?_ | fail)
            (try simp only [Act.put, List.setIfInBounds_toArray, List.set_cons_zero, List.set_cons_succ])
            (first | (refine takeH 14 93 (v := ?_) rfl rfl (by kernel_rfl) (by kernel_rfl) (by kernel_rfl) (fun _ _ _ h => h) hHeld rfl ?_ ?_; rotate_left; (focus (intro w hSw; (try dsimp only at hSw); go_simp; try with_reducible rfl))) | refine skipH 14 93 rfl rfl (by kernel_rfl) (by kernel_rfl) (by kernel_rfl) (fun _ _ _ h => h) hHeld rfl ?_ | fail)
            (try simp only [Act.put, List.setIfInBounds_toArray, List.set_cons_zero, List.set_cons_succ])
            (first | (refine takeH 15 94 (v := ?_) rfl rfl (by kernel_rfl) (by kernel_rfl) (by kernel_rfl) (fun _ _ _ h => h) hHeld rfl ?_ ?_; rotate_left; (focus (intro w hSw; (try dsimp only at hSw); go_simp; try with_reducible rfl))) | refine skipH 15 94 rfl rfl (by kernel_rfl) (by kernel_rfl) (by kernel_rfl) (fun _ _ _ h => h) hHeld rfl ?_ | fail)
            (try simp only [Act.put, List.setIfInBounds_toArray, List.set_cons_zero, List.set_cons_succ])
            refine wpAnyH_ready (rs := [16]) (by kernel_rfl) (by simp) ?_
            refine AllReadyH.cons rfl (fun K hK => ?_) AllReadyH.nil
            go_simp
            refine hK.out _ _ (by go_keep) (fun hHeld2 => ?_)
            clear hK K
            (first | (refine takeH 17 5 (v := ?_) rfl rfl (by kernel_rfl) (by kernel_rfl) (by kernel_rfl) (fun _ _ _ h => h) hHeld2 rfl ?_ ?_; rotate_left; (focus (intro w hSw; (try dsimp only at hSw); go_simp; try with_reducible rfl))) | refine skipH 17 5 rfl rfl (by kernel_rfl) (by kernel_rfl) (by kernel_rfl) (fun _ _ _ h => h) hHeld2 rfl ?_ | fail)
            (try simp only [Act.put, List.setIfInBounds_toArray, List.set_cons_zero, List.set_cons_succ])
            refine wpAnyH_done (by kernel_rfl) ?_ _
            refine NoPanic.normal ?_
            go_wp2
            (try simp only [Exit.inBlock, Exit.then])
            refine bodyPost_ret (by simp [results, Try.results43, go_sem, hR0, hR1, hR2, hR3, hR4, hR5, hR6]; try rfl) rfl ?_
            refine ⟨#[.int .i64 dk, .slice A1 db.length c1, .int .i64 df, .int .i64 dt, .bool true, .bool dh, .slice A6 dv.length c6], ?_, ?_, ?_⟩
            · rw [HIS.out, hkn]; rfl
            · rw [HDEQ.out]; exact fk_deed HKK.out.1.1 HKK.out.1.2.1 (drew8 (set7 HKK.out.1.2.2 HKK.out.2.2.2.1)) HKK.out.2.1.1 HKK.out.2.1.2 HKK.out.2.2.1.1 (drew8 (set7 HKK.out.2.2.1.2 HKK.out.2.2.2.2)) HKK.out.2.2.2.1 HKK.out.2.2.2.2
            · exact below_drew (below_set (below_set (below_set (below_set (below_set (below_set (below_set HBC2.out (Nat.le_refl _)) (Nat.le_refl _)) (Nat.le_refl _)) (Nat.le_refl _)) (Nat.le_refl _)) (Nat.le_refl _)) (Nat.le_refl _))
      | true =>
        cases dd with
        | true =>
          rcases hE with ⟨rfl, hE⟩ | ⟨rfl, hE⟩ | ⟨hE1, hE2, hE⟩
          all_goals have HE := Aside0.mk hE
          all_goals clear hE
          ·
            go_wp2
            refine wp_region_noPanic ?_
            refine wp_region_held_drew (S := (fun w' => w'.cell? ⟨w.heap.size + 1, 1, none⟩ = some (.int .i64 x.call.kind) ∧ w'.cell? ⟨g, 0, none⟩ = some (.int .i64 dk) ∧ w'.cell? ⟨g, 1, none⟩ = some (.slice A1 db.length c1) ∧ w'.cell? ⟨g, 2, none⟩ = some (.int .i64 df) ∧ w'.cell? ⟨g, 3, none⟩ = some (.int .i64 dt) ∧ w'.cell? ⟨g, 4, none⟩ = some (.bool true) ∧ w'.cell? ⟨g, 5, none⟩ = some (.bool dh) ∧ w'.cell? ⟨g, 6, none⟩ = some (.slice A6 dv.length c6))) (by kernel_rfl) ⟨hL1, hD0, hD1, hD2, hD3, hD4, hD5, hD6⟩ (fun hHeld => ?_)
            (first | (refine takeH 0 79 (v := ?_) rfl rfl (by kernel_rfl) (by kernel_rfl) (by kernel_rfl) (fun _ _ _ h => h) hHeld rfl ?_ ?_; rotate_left; (focus (intro w hSw; (try dsimp only at hSw); go_simp; try with_reducible rfl))) | refine skipH 0 79 rfl rfl (by kernel_rfl) (by kernel_rfl) (by kernel_rfl) (fun _ _ _ h => h) hHeld rfl ?_ | fail)
            (try simp only [Act.put, List.setIfInBounds_toArray, List.set_cons_zero, List.set_cons_succ])
            (first | (refine takeH 1 80 (v := ?_) rfl rfl (by kernel_rfl) (by kernel_rfl) (by kernel_rfl) (fun _ _ _ h => h) hHeld rfl ?_ ?_; rotate_left; (focus (intro w hSw; (try dsimp only at hSw); go_simp; try with_reducible rfl))) | refine skipH 1 80 rfl rfl (by kernel_rfl) (by kernel_rfl) (by kernel_rfl) (fun _ _ _ h => h) hHeld rfl ?_ | fail)
            (try simp only [Act.put, List.setIfInBounds_toArray, List.set_cons_zero, List.set_cons_succ])
            (first | (refine takeH 2 81 (v := ?_) rfl rfl (by kernel_rfl) (by kernel_rfl) (by kernel_rfl) (fun _ _ _ h => h) hHeld rfl ?_ ?_; rotate_left; (focus (intro w hSw; (try dsimp only at hSw); go_simp; try with_reducible rfl))) | refine skipH 2 81 rfl rfl (by kernel_rfl) (by kernel_rfl) (by kernel_rfl) (fun _ _ _ h => h) hHeld rfl ?_ | fail)
            (try simp only [Act.put, List.setIfInBounds_toArray, List.set_cons_zero, List.set_cons_succ])
            refine wpAnyH_ready (rs := [3]) (by kernel_rfl) (by simp) ?_
            refine AllReadyH.cons rfl (fun K hK => ?_) AllReadyH.nil
            go_simp
            refine (known_calls _ _).mono ?_
            rintro e w1 ⟨rfl, rfl⟩
            simp only [hkn]
            refine hK.out _ _ hHeld (fun _ => ?_)
            clear hK K
            (first | (refine takeH 4 83 (v := ?_) rfl rfl (by kernel_rfl) (by kernel_rfl) (by kernel_rfl) (fun _ _ _ h => h) hHeld rfl ?_ ?_; rotate_left; (focus (intro w hSw; (try dsimp only at hSw); go_simp; try with_reducible rfl))) | refine skipH 4 83 rfl rfl (by kernel_rfl) (by kernel_rfl) (by kernel_rfl) (fun _ _ _ h => h) hHeld rfl ?_ | fail)
            (try simp only [Act.put, List.setIfInBounds_toArray, List.set_cons_zero, List.set_cons_succ])
            (first | (refine takeH 5 84 (v := ?_) rfl rfl (by kernel_rfl) (by kernel_rfl) (by kernel_rfl) (fun _ _ _ h => h) hHeld rfl ?_ ?_; rotate_left; (focus (intro w hSw; (try dsimp only at hSw); go_simp; try with_reducible rfl))) | refine skipH 5 84 rfl rfl (by kernel_rfl) (by kernel_rfl) (by kernel_rfl) (fun _ _ _ h => h) hHeld rfl ?_ | fail)
            (try simp only [Act.put, List.setIfInBounds_toArray, List.set_cons_zero, List.set_cons_succ])
            (first | (refine takeH 6 85 (v := ?_) rfl rfl (by kernel_rfl) (by kernel_rfl) (by kernel_rfl) (fun _ _ _ h => h) hHeld rfl ?_ ?_; rotate_left; (focus (intro w hSw; (try dsimp only at hSw); go_simp; try with_reducible rfl))) | refine skipH 6 85 rfl rfl (by kernel_rfl) (by kernel_rfl) (by kernel_rfl) (fun _ _ _ h => h) hHeld rfl ?_ | fail)
            (try simp only [Act.put, List.setIfInBounds_toArray, List.set_cons_zero, List.set_cons_succ])
            (first | (refine takeH 7 86 (v := ?_) rfl rfl (by kernel_rfl) (by kernel_rfl) (by kernel_rfl) (fun _ _ _ h => h) hHeld rfl ?_ ?_; rotate_left; (focus (intro w hSw; (try dsimp only at hSw); go_simp; try with_reducible rfl))) | refine skipH 7 86 rfl rfl (by kernel_rfl) (by kernel_rfl) (by kernel_rfl) (fun _ _ _ h => h) hHeld rfl ?_ | fail)
            (try simp only [Act.put, List.setIfInBounds_toArray, List.set_cons_zero, List.set_cons_succ])
            (first | (refine takeH 8 87 (v := ?_) rfl rfl (by kernel_rfl) (by kernel_rfl) (by kernel_rfl) (fun _ _ _ h => h) hHeld rfl ?_ ?_; rotate_left; (focus (intro w hSw; (try dsimp only at hSw); go_simp; try with_reducible rfl))) | refine skipH 8 87 rfl rfl (by kernel_rfl) (by kernel_rfl) (by kernel_rfl) (fun _ _ _ h => h) hHeld rfl ?_ | fail)
            (try simp only [Act.put, List.setIfInBounds_toArray, List.set_cons_zero, List.set_cons_succ])
            (first | (refine takeH 9 88 (v := ?_) rfl rfl (by kernel_rfl) (by kernel_rfl) (by kernel_rfl) (fun _ _ _ h => h) hHeld rfl ?_ ?_; rotate_left; (focus (intro w hSw; (try dsimp only at hSw); go_simp; try with_reducible rfl))) | refine skipH 9 88 rfl rfl (by kernel_rfl) (by kernel_rfl) (by kernel_rfl) (fun _ _ _ h => h) hHeld rfl ?_ | fail)
            (try simp only [Act.put, List.setIfInBounds_toArray, List.set_cons_zero, List.set_cons_succ])
            (first | (refine takeH 10 89 (v := ?_) rfl rfl (by kernel_rfl) (by kernel_rfl) (by kernel_rfl) (fun _ _ _ h => h) hHeld rfl ?_ ?_; rotate_left; (focus (intro w hSw; (try dsimp only at hSw); go_simp; try with_reducible rfl))) | refine skipH 10 89 rfl rfl (by kernel_rfl) (by kernel_rfl) (by kernel_rfl) (fun _ _ _ h => h) hHeld rfl ?_ | fail)
            (try simp only [Act.put, List.setIfInBounds_toArray, List.set_cons_zero, List.set_cons_succ])
            (first | (refine takeH 11 90 (v := ?_) rfl rfl (by kernel_rfl) (by kernel_rfl) (by kernel_rfl) (fun _ _ _ h => h) hHeld rfl ?_ ?_; rotate_left; (focus (intro w hSw; (try dsimp only at hSw); go_simp; try with_reducible rfl))) | refine skipH 11 90 rfl rfl (by kernel_rfl) (by kernel_rfl) (by kernel_rfl) (fun _ _ _ h => h) hHeld rfl ?_ | fail)
            (try simp only [Act.put, List.setIfInBounds_toArray, List.set_cons_zero, List.set_cons_succ])
            (first | (refine takeH 12 91 (v := ?_) rfl rfl (by kernel_rfl) (by kernel_rfl) (by kernel_rfl) (fun _ _ _ h => h) hHeld rfl ?_ ?_; rotate_left; (focus (intro w hSw; (try dsimp only at hSw); go_simp; try with_reducible rfl))) | refine skipH 12 91 rfl rfl (by kernel_rfl) (by kernel_rfl) (by kernel_rfl) (fun _ _ _ h => h) hHeld rfl ?_ | fail)
            (try simp only [Act.put, List.setIfInBounds_toArray, List.set_cons_zero, List.set_cons_succ])
            (first | (refine takeH 13 92 (v := ?_) rfl rfl (by kernel_rfl) (by kernel_rfl) (by kernel_rfl) (fun _ _ _ h => h) hHeld rfl ?_ ?_; rotate_left; (focus (intro w hSw; (try dsimp only at hSw); go_simp; try with_reducible rfl))) | refine skipH 13 92 rfl rfl (by kernel_rfl) (by kernel_rfl) (by kernel_rfl) (fun _ _ _ h => h) hHeld rfl ?_ | fail)
            (try simp only [Act.put, List.setIfInBounds_toArray, List.set_cons_zero, List.set_cons_succ])
            (first | (refine takeH 14 93 (v := ?_) rfl rfl (by kernel_rfl) (by kernel_rfl) (by kernel_rfl) (fun _ _ _ h => h) hHeld rfl ?_ ?_; rotate_left; (focus (intro w hSw; (try dsimp only at hSw); go_simp; try with_reducible rfl))) | refine skipH 14 93 rfl rfl (by kernel_rfl) (by kernel_rfl) (by kernel_rfl) (fun _ _ _ h => h) hHeld rfl ?_ | fail)
            (try simp only [Act.put, List.setIfInBounds_toArray, List.set_cons_zero, List.set_cons_succ])
            (first | (refine takeH 15 94 (v := ?_) rfl rfl (by kernel_rfl) (by kernel_rfl) (by kernel_rfl) (fun _ _ _ h => h) hHeld rfl ?_ ?_; rotate_left; (focus (intro w hSw; (try dsimp only at hSw); go_simp; try with_reducible rfl))) | refine skipH 15 94 rfl rfl (by kernel_rfl) (by kernel_rfl) (by kernel_rfl) (fun _ _ _ h => h) hHeld rfl ?_ | fail)
            (try simp only [Act.put, List.setIfInBounds_toArray, List.set_cons_zero, List.set_cons_succ])
            refine wpAnyH_ready (rs := [16]) (by kernel_rfl) (by simp) ?_
            refine AllReadyH.cons rfl (fun K hK => ?_) AllReadyH.nil
            go_simp
            refine hK.out _ _ (by go_keep) (fun hHeld2 => ?_)
            clear hK K
            (first | (refine takeH 17 5 (v := ?_) rfl rfl (by kernel_rfl) (by kernel_rfl) (by kernel_rfl) (fun _ _ _ h => h) hHeld2 rfl ?_ ?_; rotate_left; (focus (intro w hSw; (try dsimp only at hSw); go_simp; try with_reducible rfl))) | refine skipH 17 5 rfl rfl (by kernel_rfl) (by kernel_rfl) (by kernel_rfl) (fun _ _ _ h => h) hHeld2 rfl ?_ | fail)
            (try simp only [Act.put, List.setIfInBounds_toArray, List.set_cons_zero, List.set_cons_succ])
            refine wpAnyH_done (by kernel_rfl) ?_ _
            refine NoPanic.normal ?_
            go_wp2
            (try simp only [Exit.inBlock, Exit.then])
            refine bodyPost_ret (by simp [results, Try.results43, go_sem, hR0, hR1, hR2, hR3, hR4, hR5, hR6]; try rfl) rfl ?_
            refine ⟨#[.int .i64 dk, .slice A1 db.length c1, .int .i64 df, .int .i64 dt, .bool true, .bool dh, .slice A6 dv.length c6], ?_, ?_, ?_⟩
            · rw [HIS.out, hkn]; rfl
            · rw [HDEQ.out]; exact fk_deed HKK.out.1.1 HKK.out.1.2.1 (drew8 (set7 HKK.out.1.2.2 HKK.out.2.2.2.1)) HKK.out.2.1.1 HKK.out.2.1.2 HKK.out.2.2.1.1 (drew8 (set7 HKK.out.2.2.1.2 HKK.out.2.2.2.2)) HKK.out.2.2.2.1 HKK.out.2.2.2.2
            · exact below_drew (below_set (below_set (below_set (below_set (below_set (below_set (below_set HBC2.out (Nat.le_refl _)) (Nat.le_refl _)) (Nat.le_refl _)) (Nat.le_refl _)) (Nat.le_refl _)) (Nat.le_refl _)) (Nat.le_refl _))
          ·
            go_wp2
            refine wp_region_noPanic ?_
            refine wp_region_held_drew (S := (fun w' => w'.cell? ⟨w.heap.size + 1, 1, none⟩ = some (.int .i64 x.call.kind) ∧ w'.cell? ⟨g, 0, none⟩ = some (.int .i64 dk) ∧ w'.cell? ⟨g, 1, none⟩ = some (.slice A1 db.length c1) ∧ w'.cell? ⟨g, 2, none⟩ = some (.int .i64 df) ∧ w'.cell? ⟨g, 3, none⟩ = some (.int .i64 dt) ∧ w'.cell? ⟨g, 4, none⟩ = some (.bool true) ∧ w'.cell? ⟨g, 5, none⟩ = some (.bool dh) ∧ w'.cell? ⟨g, 6, none⟩ = some (.slice A6 dv.length c6))) (by kernel_rfl) ⟨hL1, hD0, hD1, hD2, hD3, hD4, hD5, hD6⟩ (fun hHeld => ?_)
            (first | (refine takeH 0 79 (v := ?_) rfl rfl (by kernel_rfl) (by kernel_rfl) (by kernel_rfl) (fun _ _ _ h => h) hHeld rfl ?_ ?_; rotate_left; (focus (intro w hSw; (try dsimp only at hSw); go_simp; try with_reducible rfl))) | refine skipH 0 79 rfl rfl (by kernel_rfl) (by kernel_rfl) (by kernel_rfl) (fun _ _ _ h => h) hHeld rfl ?_ | fail)
            (try simp only [Act.put, List.setIfInBounds_toArray, List.set_cons_zero, List.set_cons_succ])
            (first | (refine takeH 1 80 (v := ?_) rfl rfl (by kernel_rfl) (by kernel_rfl) (by kernel_rfl) (fun _ _ _ h => h) hHeld rfl ?_ ?_; rotate_left; (focus (intro w hSw; (try dsimp only at hSw); go_simp; try with_reducible rfl))) | refine skipH 1 80 rfl rfl (by kernel_rfl) (by kernel_rfl) (by kernel_rfl) (fun _ _ _ h => h) hHeld rfl ?_ | fail)
            (try simp only [Act.put, List.setIfInBounds_toArray, List.set_cons_zero, List.set_cons_succ])
            (first | (refine takeH 2 81 (v := ?_) rfl rfl (by kernel_rfl) (by kernel_rfl) (by kernel_rfl) (fun _ _ _ h => h) hHeld rfl ?_ ?_; rotate_left; (focus (intro w hSw; (try dsimp only at hSw); go_simp; try with_reducible rfl))) | refine skipH 2 81 rfl rfl (by kernel_rfl) (by kernel_rfl) (by kernel_rfl) (fun _ _ _ h => h) hHeld rfl ?_ | fail)
            (try simp only [Act.put, List.setIfInBounds_toArray, List.set_cons_zero, List.set_cons_succ])
            refine wpAnyH_ready (rs := [3]) (by kernel_rfl) (by simp) ?_
            refine AllReadyH.cons rfl (fun K hK => ?_) AllReadyH.nil
            go_simp
            refine (known_calls _ _).mono ?_
            rintro e w1 ⟨rfl, rfl⟩
            simp only [hkn]
            refine hK.out _ _ hHeld (fun _ => ?_)
            clear hK K
            (first | (refine takeH 4 83 (v := ?_) rfl rfl (by kernel_rfl) (by kernel_rfl) (by kernel_rfl) (fun _ _ _ h => h) hHeld rfl ?_ ?_; rotate_left; (focus (intro w hSw; (try dsimp only at hSw); go_simp; try with_reducible rfl))) | refine skipH 4 83 rfl rfl (by kernel_rfl) (by kernel_rfl) (by kernel_rfl) (fun _ _ _ h => h) hHeld rfl ?_ | fail)
            (try simp only [Act.put, List.setIfInBounds_toArray, List.set_cons_zero, List.set_cons_succ])
            (first | (refine takeH 5 84 (v := ?_) rfl rfl (by kernel_rfl) (by kernel_rfl) (by kernel_rfl) (fun _ _ _ h => h) hHeld rfl ?_ ?_; rotate_left; (focus (intro w hSw; (try dsimp only at hSw); go_simp; try with_reducible rfl))) | refine skipH 5 84 rfl rfl (by kernel_rfl) (by kernel_rfl) (by kernel_rfl) (fun _ _ _ h => h) hHeld rfl ?_ | fail)
            (try simp only [Act.put, List.setIfInBounds_toArray, List.set_cons_zero, List.set_cons_succ])
            (first | (refine takeH 6 85 (v := ?_) rfl rfl (by kernel_rfl) (by kernel_rfl) (by kernel_rfl) (fun _ _ _ h => h) hHeld rfl ?_ ?_; rotate_left; (focus (intro w hSw; (try dsimp only at hSw); go_simp; try with_reducible rfl))) | refine skipH 6 85 rfl rfl (by kernel_rfl) (by kernel_rfl) (by kernel_rfl) (fun _ _ _ h => h) hHeld rfl ?_ | fail)
            (try simp only [Act.put, List.setIfInBounds_toArray, List.set_cons_zero, List.set_cons_succ])
            (first | (refine takeH 7 86 (v := ?_) rfl rfl (by kernel_rfl) (by kernel_rfl) (by kernel_rfl) (fun _ _ _ h => h) hHeld rfl ?_ ?_; rotate_left; (focus (intro w hSw; (try dsimp only at hSw); go_simp; try with_reducible rfl))) | refine skipH 7 86 rfl rfl (by kernel_rfl) (by kernel_rfl) (by kernel_rfl) (fun _ _ _ h => h) hHeld rfl ?_ | fail)
            (try simp only [Act.put, List.setIfInBounds_toArray, List.set_cons_zero, List.set_cons_succ])
            (first | (refine takeH 8 87 (v := ?_) rfl rfl (by kernel_rfl) (by kernel_rfl) (by kernel_rfl) (fun _ _ _ h => h) hHeld rfl ?_ ?_; rotate_left; (focus (intro w hSw; (try dsimp only at hSw); go_simp; try with_reducible rfl))) | refine skipH 8 87 rfl rfl (by kernel_rfl) (by kernel_rfl) (by kernel_rfl) (fun _ _ _ h => h) hHeld rfl ?_ | fail)
            (try simp only [Act.put, List.setIfInBounds_toArray, List.set_cons_zero, List.set_cons_succ])
            (first | (refine takeH 9 88 (v := ?_) rfl rfl (by kernel_rfl) (by kernel_rfl) (by kernel_rfl) (fun _ _ _ h => h) hHeld rfl ?_ ?_; rotate_left; (focus (intro w hSw; (try dsimp only at hSw); go_simp; try with_reducible rfl))) | refine skipH 9 88 rfl rfl (by kernel_rfl) (by kernel_rfl) (by kernel_rfl) (fun _ _ _ h => h) hHeld rfl ?_ | fail)
            (try simp only [Act.put, List.setIfInBounds_toArray, List.set_cons_zero, List.set_cons_succ])
            (first | (refine takeH 10 89 (v := ?_) rfl rfl (by kernel_rfl) (by kernel_rfl) (by kernel_rfl) (fun _ _ _ h => h) hHeld rfl ?_ ?_; rotate_left; (focus (intro w hSw; (try dsimp only at hSw); go_simp; try with_reducible rfl))) | refine skipH 10 89 rfl rfl (by kernel_rfl) (by kernel_rfl) (by kernel_rfl) (fun _ _ _ h => h) hHeld rfl ?_ | fail)
            (try simp only [Act.put, List.setIfInBounds_toArray, List.set_cons_zero, List.set_cons_succ])
            (first | (refine takeH 11 90 (v := ?_) rfl rfl (by kernel_rfl) (by kernel_rfl) (by kernel_rfl) (fun _ _ _ h => h) hHeld rfl ?_ ?_; rotate_left; (focus (intro w hSw; (try dsimp only at hSw); go_simp; try with_reducible rfl))) | refine skipH 11 90 rfl rfl (by kernel_rfl) (by kernel_rfl) (by kernel_rfl) (fun _ _ _ h => h) hHeld rfl ?_ | fail)
            (try simp only [Act.put, List.setIfInBounds_toArray, List.set_cons_zero, List.set_cons_succ])
            (first | (refine takeH 12 91 (v := ?_) rfl rfl (by kernel_rfl) (by kernel_rfl) (by kernel_rfl) (fun _ _ _ h => h) hHeld rfl ?_ ?_; rotate_left; (focus (intro w hSw; (try dsimp only at hSw); go_simp; try with_reducible rfl))) | refine skipH 12 91 rfl rfl (by kernel_rfl) (by kernel_rfl) (by kernel_rfl) (fun _ _ _ h => h) hHeld rfl ?_ | fail)
            (try simp only [Act.put, List.setIfInBounds_toArray, List.set_cons_zero, List.set_cons_succ])
            (first | (refine takeH 13 92 (v := ?_) rfl rfl (by kernel_rfl) (by kernel_rfl) (by kernel_rfl) (fun _ _ _ h => h) hHeld rfl ?_ ?_; rotate_left; (focus (intro w hSw; (try dsimp only at hSw); go_simp; try with_reducible rfl))) | refine skipH 13 92 rfl rfl (by kernel_rfl) (by kernel_rfl) (by kernel_rfl) (fun _ _ _ h => h) hHeld rfl ?_ | fail)
            (try simp only [Act.put, List.setIfInBounds_toArray, List.set_cons_zero, List.set_cons_succ])
            (first | (refine takeH 14 93 (v := ?_) rfl rfl (by kernel_rfl) (by kernel_rfl) (by kernel_rfl) (fun _ _ _ h => h) hHeld rfl ?_ ?_; rotate_left; (focus (intro w hSw; (try dsimp only at hSw); go_simp; try with_reducible rfl))) | refine skipH 14 93 rfl rfl (by kernel_rfl) (by kernel_rfl) (by kernel_rfl) (fun _ _ _ h => h) hHeld rfl ?_ | fail)
            (try simp only [Act.put, List.setIfInBounds_toArray, List.set_cons_zero, List.set_cons_succ])
            (first | (refine takeH 15 94 (v := ?_) rfl rfl (by kernel_rfl) (by kernel_rfl) (by kernel_rfl) (fun _ _ _ h => h) hHeld rfl ?_ ?_; rotate_left; (focus (intro w hSw; (try dsimp only at hSw); go_simp; try with_reducible rfl))) | refine skipH 15 94 rfl rfl (by kernel_rfl) (by kernel_rfl) (by kernel_rfl) (fun _ _ _ h => h) hHeld rfl ?_ | fail)
            (try simp only [Act.put, List.setIfInBounds_toArray, List.set_cons_zero, List.set_cons_succ])
            refine wpAnyH_ready (rs := [16]) (by kernel_rfl) (by simp) ?_
            refine AllReadyH.cons rfl (fun K hK => ?_) AllReadyH.nil
            go_simp
            refine hK.out _ _ (by go_keep) (fun hHeld2 => ?_)
            clear hK K
            (first | (refine takeH 17 5 (v := ?_) rfl rfl (by kernel_rfl) (by kernel_rfl) (by kernel_rfl) (fun _ _ _ h => h) hHeld2 rfl ?_ ?_; rotate_left; (focus (intro w hSw; (try dsimp only at hSw); go_simp; try with_reducible rfl))) | refine skipH 17 5 rfl rfl (by kernel_rfl) (by kernel_rfl) (by kernel_rfl) (fun _ _ _ h => h) hHeld2 rfl ?_ | fail)
            (try simp only [Act.put, List.setIfInBounds_toArray, List.set_cons_zero, List.set_cons_succ])
            refine wpAnyH_done (by kernel_rfl) ?_ _
            refine NoPanic.normal ?_
            go_wp2
            (try simp only [Exit.inBlock, Exit.then])
            refine bodyPost_ret (by simp [results, Try.results43, go_sem, hR0, hR1, hR2, hR3, hR4, hR5, hR6]; try rfl) rfl ?_
            refine ⟨#[.int .i64 dk, .slice A1 db.length c1, .int .i64 df, .int .i64 dt, .bool true, .bool dh, .slice A6 dv.length c6], ?_, ?_, ?_⟩
            · rw [HIS.out, hkn]; rfl
            · rw [HDEQ.out]; exact fk_deed HKK.out.1.1 HKK.out.1.2.1 (drew8 (set7 HKK.out.1.2.2 HKK.out.2.2.2.1)) HKK.out.2.1.1 HKK.out.2.1.2 HKK.out.2.2.1.1 (drew8 (set7 HKK.out.2.2.1.2 HKK.out.2.2.2.2)) HKK.out.2.2.2.1 HKK.out.2.2.2.2
            · exact below_drew (below_set (below_set (below_set (below_set (below_set (below_set (below_set HBC2.out (Nat.le_refl _)) (Nat.le_refl _)) (Nat.le_refl _)) (Nat.le_refl _)) (Nat.le_refl _)) (Nat.le_refl _)) (Nat.le_refl _))
          ·
            go_wp2
            rw [HE.out]
            refine wp_region_noPanic ?_
            refine wp_region_held_drew (S := (fun w' => w'.cell? ⟨w.heap.size + 1, 1, none⟩ = some (.int .i64 x.call.kind) ∧ w'.cell? ⟨g, 0, none⟩ = some (.int .i64 dk) ∧ w'.cell? ⟨g, 1, none⟩ = some (.slice A1 db.length c1) ∧ w'.cell? ⟨g, 2, none⟩ = some (.int .i64 df) ∧ w'.cell? ⟨g, 3, none⟩ = some (.int .i64 dt) ∧ w'.cell? ⟨g, 4, none⟩ = some (.bool true) ∧ w'.cell? ⟨g, 5, none⟩ = some (.bool dh) ∧ w'.cell? ⟨g, 6, none⟩ = some (.slice A6 dv.length c6))) (by kernel_rfl) ⟨hL1, hD0, hD1, hD2, hD3, hD4, hD5, hD6⟩ (fun hHeld => ?_)
            (first | (refine takeH 0 79 (v := ?_) rfl rfl (by kernel_rfl) (by kernel_rfl) (by kernel_rfl) (fun _ _ _ h => h) hHeld rfl ?_ ?_; rotate_left; (focus (intro w hSw; (try dsimp only at hSw); go_simp; try with_reducible rfl))) | refine skipH 0 79 rfl rfl (by kernel_rfl) (by kernel_rfl) (by kernel_rfl) (fun _ _ _ h => h) hHeld rfl ?_ | fail)
            (try simp only [Act.put, List.setIfInBounds_toArray, List.set_cons_zero, List.set_cons_succ])
            (first | (refine takeH 1 80 (v := ?_) rfl rfl (by kernel_rfl) (by kernel_rfl) (by kernel_rfl) (fun _ _ _ h => h) hHeld rfl ?_ ?_; rotate_left; (focus (intro w hSw; (try dsimp only at hSw); go_simp; try with_reducible rfl))) | refine skipH 1 80 rfl rfl (by kernel_rfl) (by kernel_rfl) (by kernel_rfl) (fun _ _ _ h => h) hHeld rfl ?_ | fail)
            (try simp only [Act.put, List.setIfInBounds_toArray, List.set_cons_zero, List.set_cons_succ])
            (first | (refine takeH 2 81 (v := ?_) rfl rfl (by kernel_rfl) (by kernel_rfl) (by kernel_rfl) (fun _ _ _ h => h) hHeld rfl ?_ ?_; rotate_left; (focus (intro w hSw; (try dsimp only at hSw); go_simp; try with_reducible rfl))) | refine skipH 2 81 rfl rfl (by kernel_rfl) (by kernel_rfl) (by kernel_rfl) (fun _ _ _ h => h) hHeld rfl ?_ | fail)
            (try simp only [Act.put, List.setIfInBounds_toArray, List.set_cons_zero, List.set_cons_succ])
            refine wpAnyH_ready (rs := [3]) (by kernel_rfl) (by simp) ?_
            refine AllReadyH.cons rfl (fun K hK => ?_) AllReadyH.nil
            go_simp
            refine (known_calls _ _).mono ?_
            rintro e w1 ⟨rfl, rfl⟩
            simp only [hkn]
            refine hK.out _ _ hHeld (fun _ => ?_)
            clear hK K
            (first | (refine takeH 4 83 (v := ?_) rfl rfl (by kernel_rfl) (by kernel_rfl) (by kernel_rfl) (fun _ _ _ h => h) hHeld rfl ?_ ?_; rotate_left; (focus (intro w hSw; (try dsimp only at hSw); go_simp; try with_reducible rfl))) | refine skipH 4 83 rfl rfl (by kernel_rfl) (by kernel_rfl) (by kernel_rfl) (fun _ _ _ h => h) hHeld rfl ?_ | fail)
            (try simp only [Act.put, List.setIfInBounds_toArray, List.set_cons_zero, List.set_cons_succ])
            (first | (refine takeH 5 84 (v := ?_) rfl rfl (by kernel_rfl) (by kernel_rfl) (by kernel_rfl) (fun _ _ _ h => h) hHeld rfl ?_ ?_; rotate_left; (focus (intro w hSw; (try dsimp only at hSw); go_simp; try with_reducible rfl))) | refine skipH 5 84 rfl rfl (by kernel_rfl) (by kernel_rfl) (by kernel_rfl) (fun _ _ _ h => h) hHeld rfl ?_ | fail)
            (try simp only [Act.put, List.setIfInBounds_toArray, List.set_cons_zero, List.set_cons_succ])
            (first | (refine takeH 6 85 (v := ?_) rfl rfl (by kernel_rfl) (by kernel_rfl) (by kernel_rfl) (fun _ _ _ h => h) hHeld rfl ?_ ?_; rotate_left; (focus (intro w hSw; (try dsimp only at hSw); go_simp; try with_reducible rfl))) | refine skipH 6 85 rfl rfl (by kernel_rfl) (by kernel_rfl) (by kernel_rfl) (fun _ _ _ h => h) hHeld rfl ?_ | fail)
            (try simp only [Act.put, List.setIfInBounds_toArray, List.set_cons_zero, List.set_cons_succ])
            (first | (refine takeH 7 86 (v := ?_) rfl rfl (by kernel_rfl) (by kernel_rfl) (by kernel_rfl) (fun _ _ _ h => h) hHeld rfl ?_ ?_; rotate_left; (focus (intro w hSw; (try dsimp only at hSw); go_simp; try with_reducible rfl))) | refine skipH 7 86 rfl rfl (by kernel_rfl) (by kernel_rfl) (by kernel_rfl) (fun _ _ _ h => h) hHeld rfl ?_ | fail)
            (try simp only [Act.put, List.setIfInBounds_toArray, List.set_cons_zero, List.set_cons_succ])
            (first | (refine takeH 8 87 (v := ?_) rfl rfl (by kernel_rfl) (by kernel_rfl) (by kernel_rfl) (fun _ _ _ h => h) hHeld rfl ?_ ?_; rotate_left; (focus (intro w hSw; (try dsimp only at hSw); go_simp; try with_reducible rfl))) | refine skipH 8 87 rfl rfl (by kernel_rfl) (by kernel_rfl) (by kernel_rfl) (fun _ _ _ h => h) hHeld rfl ?_ | fail)
            (try simp only [Act.put, List.setIfInBounds_toArray, List.set_cons_zero, List.set_cons_succ])
            (first | (refine takeH 9 88 (v := ?_) rfl rfl (by kernel_rfl) (by kernel_rfl) (by kernel_rfl) (fun _ _ _ h => h) hHeld rfl ?_ ?_; rotate_left; (focus (intro w hSw; (try dsimp only at hSw); go_simp; try with_reducible rfl))) | refine skipH 9 88 rfl rfl (by kernel_rfl) (by kernel_rfl) (by kernel_rfl) (fun _ _ _ h => h) hHeld rfl ?_ | fail)
            (try simp only [Act.put, List.setIfInBounds_toArray, List.set_cons_zero, List.set_cons_succ])
            (first | (refine takeH 10 89 (v := ?_) rfl rfl (by kernel_rfl) (by kernel_rfl) (by kernel_rfl) (fun _ _ _ h => h) hHeld rfl ?_ ?_; rotate_left; (focus (intro w hSw; (try dsimp only at hSw); go_simp; try with_reducible rfl))) | refine skipH 10 89 rfl rfl (by kernel_rfl) (by kernel_rfl) (by kernel_rfl) (fun _ _ _ h => h) hHeld rfl ?_ | fail)
            (try simp only [Act.put, List.setIfInBounds_toArray, List.set_cons_zero, List.set_cons_succ])
            (first | (refine takeH 11 90 (v := ?_) rfl rfl (by kernel_rfl) (by kernel_rfl) (by kernel_rfl) (fun _ _ _ h => h) hHeld rfl ?_ ?_; rotate_left; (focus (intro w hSw; (try dsimp only at hSw); go_simp; try with_reducible rfl))) | refine skipH 11 90 rfl rfl (by kernel_rfl) (by kernel_rfl) (by kernel_rfl) (fun _ _ _ h => h) hHeld rfl ?_ | fail)
            (try simp only [Act.put, List.setIfInBounds_toArray, List.set_cons_zero, List.set_cons_succ])
            (first | (refine takeH 12 91 (v := ?_) rfl rfl (by kernel_rfl) (by kernel_rfl) (by kernel_rfl) (fun _ _ _ h => h) hHeld rfl ?_ ?_; rotate_left; (focus (intro w hSw; (try dsimp only at hSw); go_simp; try with_reducible rfl))) | refine skipH 12 91 rfl rfl (by kernel_rfl) (by kernel_rfl) (by kernel_rfl) (fun _ _ _ h => h) hHeld rfl ?_ | fail)
            (try simp only [Act.put, List.setIfInBounds_toArray, List.set_cons_zero, List.set_cons_succ])
            (first | (refine takeH 13 92 (v := ?_) rfl rfl (by kernel_rfl) (by kernel_rfl) (by kernel_rfl) (fun _ _ _ h => h) hHeld rfl ?_ ?_; rotate_left; (focus (intro w hSw; (try dsimp only at hSw); go_simp; try with_reducible rfl))) | refine skipH 13 92 rfl rfl (by kernel_rfl) (by kernel_rfl) (by kernel_rfl) (fun _ _ _ h => h) hHeld rfl ?_ | fail)
            (try simp only [Act.put, List.setIfInBounds_toArray, List.set_cons_zero, List.set_cons_succ])
            (first | (refine takeH 14 93 (v := ?_) rfl rfl (by kernel_rfl) (by kernel_rfl) (by kernel_rfl) (fun _ _ _ h => h) hHeld rfl ?_ ?_; rotate_left; (focus (intro w hSw; (try dsimp only at hSw); go_simp; try with_reducible rfl))) | refine skipH 14 93 rfl rfl (by kernel_rfl) (by kernel_rfl) (by kernel_rfl) (fun _ _ _ h => h) hHeld rfl ?_ | fail)
            (try simp only [Act.put, List.setIfInBounds_toArray, List.set_cons_zero, List.set_cons_succ])
            (first | (refine takeH 15 94 (v := ?_) rfl rfl (by kernel_rfl) (by kernel_rfl) (by kernel_rfl) (fun _ _ _ h => h) hHeld rfl ?_ ?_; rotate_left; (focus (intro w hSw; (try dsimp only at hSw); go_simp; try with_reducible rfl))) | refine skipH 15 94 rfl rfl (by kernel_rfl) (by kernel_rfl) (by kernel_rfl) (fun _ _ _ h => h) hHeld rfl ?_ | fail)
            (try simp only [Act.put, List.setIfInBounds_toArray, List.set_cons_zero, List.set_cons_succ])
            refine wpAnyH_ready (rs := [16]) (by kernel_rfl) (by simp) ?_
            refine AllReadyH.cons rfl (fun K hK => ?_) AllReadyH.nil
            go_simp
            refine hK.out _ _ (by go_keep) (fun hHeld2 => ?_)
            clear hK K
            (first | (refine takeH 17 5 (v := ?_) rfl rfl (by kernel_rfl) (by kernel_rfl) (by kernel_rfl) (fun _ _ _ h => h) hHeld2 rfl ?_ ?_; rotate_left; (focus (intro w hSw; (try dsimp only at hSw); go_simp; try with_reducible rfl))) | refine skipH 17 5 rfl rfl (by kernel_rfl) (by kernel_rfl) (by kernel_rfl) (fun _ _ _ h => h) hHeld2 rfl ?_ | fail)
            (try simp only [Act.put, List.setIfInBounds_toArray, List.set_cons_zero, List.set_cons_succ])
            refine wpAnyH_done (by kernel_rfl) ?_ _
            refine NoPanic.normal ?_
            go_wp2
            (try simp only [Exit.inBlock, Exit.then])
            refine bodyPost_ret (by simp [results, Try.results43, go_sem, hR0, hR1, hR2, hR3, hR4, hR5, hR6]; try rfl) rfl ?_
            refine ⟨#[.int .i64 dk, .slice A1 db.length c1, .int .i64 df, .int .i64 dt, .bool true, .bool dh, .slice A6 dv.length c6], ?_, ?_, ?_⟩
            · rw [HIS.out, hkn]; rfl
            · rw [HDEQ.out]; exact fk_deed HKK.out.1.1 HKK.out.1.2.1 (drew8 (set7 HKK.out.1.2.2 HKK.out.2.2.2.1)) HKK.out.2.1.1 HKK.out.2.1.2 HKK.out.2.2.1.1 (drew8 (set7 HKK.out.2.2.1.2 HKK.out.2.2.2.2)) HKK.out.2.2.2.1 HKK.out.2.2.2.2
            · exact below_drew (below_set (below_set (below_set (below_set (below_set (below_set (below_set HBC2.out (Nat.le_refl _)) (Nat.le_refl _)) (Nat.le_refl _)) (Nat.le_refl _)) (Nat.le_refl _)) (Nat.le_refl _)) (Nat.le_refl _))
        | false =>
          by_cases hk1 : x.call.kind = 1
          ·
            rcases hE with ⟨rfl, hE⟩ | ⟨rfl, hE⟩ | ⟨hE1, hE2, hE⟩
            all_goals have HE := Aside0.mk hE
            all_goals clear hE
            ·
              go_wp2
              refine wp_region_noPanic ?_
              refine wp_region_held_drew (S := (fun w' => w'.cell? ⟨w.heap.size + 1, 1, none⟩ = some (.int .i64 x.call.kind) ∧ w'.cell? ⟨g, 0, none⟩ = some (.int .i64 dk) ∧ w'.cell? ⟨g, 1, none⟩ = some (.slice A1 db.length c1) ∧ w'.cell? ⟨g, 2, none⟩ = some (.int .i64 df) ∧ w'.cell? ⟨g, 3, none⟩ = some (.int .i64 dt) ∧ w'.cell? ⟨g, 4, none⟩ = some (.bool false) ∧ w'.cell? ⟨g, 5, none⟩ = some (.bool dh) ∧ w'.cell? ⟨g, 6, none⟩ = some (.slice A6 dv.length c6))) (by kernel_rfl) ⟨hL1, hD0, hD1, hD2, hD3, hD4, hD5, hD6⟩ (fun hHeld => ?_)
              (first | (refine takeH 0 79 (v := ?_) rfl rfl (by kernel_rfl) (by kernel_rfl) (by kernel_rfl) (fun _ _ _ h => h) hHeld rfl ?_ ?_; rotate_left; (focus (intro w hSw; (try dsimp only at hSw); go_simp; try with_reducible rfl))) | refine skipH 0 79 rfl rfl (by kernel_rfl) (by kernel_rfl) (by kernel_rfl) (fun _ _ _ h => h) hHeld rfl ?_ | fail)
              (try simp only [Act.put, List.setIfInBounds_toArray, List.set_cons_zero, List.set_cons_succ])
              (first | (refine takeH 1 80 (v := ?_) rfl rfl (by kernel_rfl) (by kernel_rfl) (by kernel_rfl) (fun _ _ _ h => h) hHeld rfl ?_ ?_; rotate_left; (focus (intro w hSw; (try dsimp only at hSw); go_simp; try with_reducible rfl))) | refine skipH 1 80 rfl rfl (by kernel_rfl) (by kernel_rfl) (by kernel_rfl) (fun _ _ _ h => h) hHeld rfl ?_ | fail)
              (try simp only [Act.put, List.setIfInBounds_toArray, List.set_cons_zero, List.set_cons_succ])
              (first | (refine takeH 2 81 (v := ?_) rfl rfl (by kernel_rfl) (by kernel_rfl) (by kernel_rfl) (fun _ _ _ h => h) hHeld rfl ?_ ?_; rotate_left; (focus (intro w hSw; (try dsimp only at hSw); go_simp; try with_reducible rfl))) | refine skipH 2 81 rfl rfl (by kernel_rfl) (by kernel_rfl) (by kernel_rfl) (fun _ _ _ h => h) hHeld rfl ?_ | fail)
              (try simp only [Act.put, List.setIfInBounds_toArray, List.set_cons_zero, List.set_cons_succ])
              refine wpAnyH_ready (rs := [3]) (by kernel_rfl) (by simp) ?_
              refine AllReadyH.cons rfl (fun K hK => ?_) AllReadyH.nil
              go_simp
              refine (known_calls _ _).mono ?_
              rintro e w1 ⟨rfl, rfl⟩
              dsimp only
              refine hK.out _ _ hHeld (fun _ => ?_)
              clear hK K
              (first | (refine takeH 4 83 (v := ?_) rfl rfl (by kernel_rfl) (by kernel_rfl) (by kernel_rfl) (fun _ _ _ h => h) hHeld rfl ?_ ?_; rotate_left; (focus (intro w hSw; (try dsimp only at hSw); go_simp; try with_reducible rfl))) | refine skipH 4 83 rfl rfl (by kernel_rfl) (by kernel_rfl) (by kernel_rfl) (fun _ _ _ h => h) hHeld rfl ?_ | fail)
              (try simp only [Act.put, List.setIfInBounds_toArray, List.set_cons_zero, List.set_cons_succ])
              (first | (refine takeH 5 84 (v := ?_) rfl rfl (by kernel_rfl) (by kernel_rfl) (by kernel_rfl) (fun _ _ _ h => h) hHeld rfl ?_ ?_; rotate_left; (focus (intro w hSw; (try dsimp only at hSw); go_simp; try with_reducible rfl))) | refine skipH 5 84 rfl rfl (by kernel_rfl) (by kernel_rfl) (by kernel_rfl) (fun _ _ _ h => h) hHeld rfl ?_ | fail)
              (try simp only [Act.put, List.setIfInBounds_toArray, List.set_cons_zero, List.set_cons_succ])
              (first | (refine takeH 6 85 (v := ?_) rfl rfl (by kernel_rfl) (by kernel_rfl) (by kernel_rfl) (fun _ _ _ h => h) hHeld rfl ?_ ?_; rotate_left; (focus (intro w hSw; (try dsimp only at hSw); go_simp; try with_reducible rfl))) | refine skipH 6 85 rfl rfl (by kernel_rfl) (by kernel_rfl) (by kernel_rfl) (fun _ _ _ h => h) hHeld rfl ?_ | fail)
              (try simp only [Act.put, List.setIfInBounds_toArray, List.set_cons_zero, List.set_cons_succ])
              (first | (refine takeH 7 86 (v := ?_) rfl rfl (by kernel_rfl) (by kernel_rfl) (by kernel_rfl) (fun _ _ _ h => h) hHeld rfl ?_ ?_; rotate_left; (focus (intro w hSw; (try dsimp only at hSw); go_simp; try with_reducible rfl))) | refine skipH 7 86 rfl rfl (by kernel_rfl) (by kernel_rfl) (by kernel_rfl) (fun _ _ _ h => h) hHeld rfl ?_ | fail)
              (try simp only [Act.put, List.setIfInBounds_toArray, List.set_cons_zero, List.set_cons_succ])
              (first | (refine takeH 8 87 (v := ?_) rfl rfl (by kernel_rfl) (by kernel_rfl) (by kernel_rfl) (fun _ _ _ h => h) hHeld rfl ?_ ?_; rotate_left; (focus (intro w hSw; (try dsimp only at hSw); go_simp; try with_reducible rfl))) | refine skipH 8 87 rfl rfl (by kernel_rfl) (by kernel_rfl) (by kernel_rfl) (fun _ _ _ h => h) hHeld rfl ?_ | fail)
              (try simp only [Act.put, List.setIfInBounds_toArray, List.set_cons_zero, List.set_cons_succ])
              (first | (refine takeH 9 88 (v := ?_) rfl rfl (by kernel_rfl) (by kernel_rfl) (by kernel_rfl) (fun _ _ _ h => h) hHeld rfl ?_ ?_; rotate_left; (focus (intro w hSw; (try dsimp only at hSw); go_simp; try with_reducible rfl))) | refine skipH 9 88 rfl rfl (by kernel_rfl) (by kernel_rfl) (by kernel_rfl) (fun _ _ _ h => h) hHeld rfl ?_ | fail)
              (try simp only [Act.put, List.setIfInBounds_toArray, List.set_cons_zero, List.set_cons_succ])
              (first | (refine takeH 10 89 (v := ?_) rfl rfl (by kernel_rfl) (by kernel_rfl) (by kernel_rfl) (fun _ _ _ h => h) hHeld rfl ?_ ?_; rotate_left; (focus (intro w hSw; (try dsimp only at hSw); go_simp; try with_reducible rfl))) | refine skipH 10 89 rfl rfl (by kernel_rfl) (by kernel_rfl) (by kernel_rfl) (fun _ _ _ h => h) hHeld rfl ?_ | fail)
              (try simp only [Act.put, List.setIfInBounds_toArray, List.set_cons_zero, List.set_cons_succ])
              (first | (refine takeH 11 90 (v := ?_) rfl rfl (by kernel_rfl) (by kernel_rfl) (by kernel_rfl) (fun _ _ _ h => h) hHeld rfl ?_ ?_; rotate_left; (focus (intro w hSw; (try dsimp only at hSw); go_simp; try with_reducible rfl))) | refine skipH 11 90 rfl rfl (by kernel_rfl) (by kernel_rfl) (by kernel_rfl) (fun _ _ _ h => h) hHeld rfl ?_ | fail)
              (try simp only [Act.put, List.setIfInBounds_toArray, List.set_cons_zero, List.set_cons_succ])
              (first | (refine takeH 12 91 (v := ?_) rfl rfl (by kernel_rfl) (by kernel_rfl) (by kernel_rfl) (fun _ _ _ h => h) hHeld rfl ?_ ?_; rotate_left; (focus (intro w hSw; (try dsimp only at hSw); go_simp; try with_reducible rfl))) | refine skipH 12 91 rfl rfl (by kernel_rfl) (by kernel_rfl) (by kernel_rfl) (fun _ _ _ h => h) hHeld rfl ?_ | fail)
              (try simp only [Act.put, List.setIfInBounds_toArray, List.set_cons_zero, List.set_cons_succ])
              (first | (refine takeH 13 92 (v := ?_) rfl rfl (by kernel_rfl) (by kernel_rfl) (by kernel_rfl) (fun _ _ _ h => h) hHeld rfl ?_ ?_; rotate_left; (focus (intro w hSw; (try dsimp only at hSw); go_simp; try with_reducible rfl))) | refine skipH 13 92 rfl rfl (by kernel_rfl) (by kernel_rfl) (by kernel_rfl) (fun _ _ _ h => h) hHeld rfl ?_ | fail)
              (try simp only [Act.put, List.setIfInBounds_toArray, List.set_cons_zero, List.set_cons_succ])
              (first | (refine takeH 14 93 (v := ?_) rfl rfl (by kernel_rfl) (by kernel_rfl) (by kernel_rfl) (fun _ _ _ h => h) hHeld rfl ?_ ?_; rotate_left; (focus (intro w hSw; (try dsimp only at hSw); go_simp; try with_reducible rfl))) | refine skipH 14 93 rfl rfl (by kernel_rfl) (by kernel_rfl) (by kernel_rfl) (fun _ _ _ h => h) hHeld rfl ?_ | fail)
              (try simp only [Act.put, List.setIfInBounds_toArray, List.set_cons_zero, List.set_cons_succ])
              (first | (refine takeH 15 94 (v := ?_) rfl rfl (by kernel_rfl) (by kernel_rfl) (by kernel_rfl) (fun _ _ _ h => h) hHeld rfl ?_ ?_; rotate_left; (focus (intro w hSw; (try dsimp only at hSw); go_simp; try with_reducible rfl))) | refine skipH 15 94 rfl rfl (by kernel_rfl) (by kernel_rfl) (by kernel_rfl) (fun _ _ _ h => h) hHeld rfl ?_ | fail)
              (try simp only [Act.put, List.setIfInBounds_toArray, List.set_cons_zero, List.set_cons_succ])
              refine wpAnyH_ready (rs := [16]) (by kernel_rfl) (by simp) ?_
              refine AllReadyH.cons rfl (fun K hK => ?_) AllReadyH.nil
              go_simp
              refine hK.out _ _ (by go_keep) (fun hHeld2 => ?_)
              clear hK K
              (first | (refine takeH 17 5 (v := ?_) rfl rfl (by kernel_rfl) (by kernel_rfl) (by kernel_rfl) (fun _ _ _ h => h) hHeld2 rfl ?_ ?_; rotate_left; (focus (intro w hSw; (try dsimp only at hSw); go_simp; try with_reducible rfl))) | refine skipH 17 5 rfl rfl (by kernel_rfl) (by kernel_rfl) (by kernel_rfl) (fun _ _ _ h => h) hHeld2 rfl ?_ | fail)
              (try simp only [Act.put, List.setIfInBounds_toArray, List.set_cons_zero, List.set_cons_succ])
              refine wpAnyH_done (by kernel_rfl) ?_ _
              refine NoPanic.normal ?_
              go_wp2
              (try simp only [Exit.inBlock, Exit.then])
              refine bodyPost_ret (by simp [results, Try.results43, go_sem, hR0, hR1, hR2, hR3, hR4, hR5, hR6]; try rfl) rfl ?_
              refine ⟨#[.int .i64 dk, .slice A1 db.length c1, .int .i64 df, .int .i64 dt, .bool false, .bool dh, .slice A6 dv.length c6], ?_, ?_, ?_⟩
              · rw [HIS.out, hkn, HE.out]; rw [show (x.call.kind != 1) = false from by simp [hk1]]; rfl
              · rw [HDEQ.out]; exact fk_deed HKK.out.1.1 HKK.out.1.2.1 (drew8 (set7 HKK.out.1.2.2 HKK.out.2.2.2.1)) HKK.out.2.1.1 HKK.out.2.1.2 HKK.out.2.2.1.1 (drew8 (set7 HKK.out.2.2.1.2 HKK.out.2.2.2.2)) HKK.out.2.2.2.1 HKK.out.2.2.2.2
              · exact below_drew (below_set (below_set (below_set (below_set (below_set (below_set (below_set HBC2.out (Nat.le_refl _)) (Nat.le_refl _)) (Nat.le_refl _)) (Nat.le_refl _)) (Nat.le_refl _)) (Nat.le_refl _)) (Nat.le_refl _))
            ·
              go_wp2
              refine wp_region_noPanic ?_
              refine wp_region_held_drew (S := (fun w' => w'.cell? ⟨w.heap.size + 1, 1, none⟩ = some (.int .i64 x.call.kind) ∧ w'.cell? ⟨g, 0, none⟩ = some (.int .i64 dk) ∧ w'.cell? ⟨g, 1, none⟩ = some (.slice A1 db.length c1) ∧ w'.cell? ⟨g, 2, none⟩ = some (.int .i64 df) ∧ w'.cell? ⟨g, 3, none⟩ = some (.int .i64 dt) ∧ w'.cell? ⟨g, 4, none⟩ = some (.bool false) ∧ w'.cell? ⟨g, 5, none⟩ = some (.bool dh) ∧ w'.cell? ⟨g, 6, none⟩ = some (.slice A6 dv.length c6))) (by kernel_rfl) ⟨hL1, hD0, hD1, hD2, hD3, hD4, hD5, hD6⟩ (fun hHeld => ?_)
              (first | (refine takeH 0 79 (v := ?_) rfl rfl (by kernel_rfl) (by kernel_rfl) (by kernel_rfl) (fun _ _ _ h => h) hHeld rfl ?_ ?_; rotate_left; (focus (intro w hSw; (try dsimp only at hSw); go_simp; try with_reducible rfl))) | refine skipH 0 79 rfl rfl (by kernel_rfl) (by kernel_rfl) (by kernel_rfl) (fun _ _ _ h => h) hHeld rfl ?_ | fail)
              (try simp only [Act.put, List.setIfInBounds_toArray, List.set_cons_zero, List.set_cons_succ])
              (first | (refine takeH 1 80 (v := ?_) rfl rfl (by kernel_rfl) (by kernel_rfl) (by kernel_rfl) (fun _ _ _ h => h) hHeld rfl ?_ ?_; rotate_left; (focus (intro w hSw; (try dsimp only at hSw); go_simp; try with_reducible rfl))) | refine skipH 1 80 rfl rfl (by kernel_rfl) (by kernel_rfl) (by kernel_rfl) (fun _ _ _ h => h) hHeld rfl ?_ | fail)
              (try simp only [Act.put, List.setIfInBounds_toArray, List.set_cons_zero, List.set_cons_succ])
              (first | (refine takeH 2 81 (v := ?_) rfl rfl (by kernel_rfl) (by kernel_rfl) (by kernel_rfl) (fun _ _ _ h => h) hHeld rfl ?_ ?_; rotate_left; (focus (intro w hSw; (try dsimp only at hSw); go_simp; try with_reducible rfl))) | refine skipH 2 81 rfl rfl (by kernel_rfl) (by kernel_rfl) (by kernel_rfl) (fun _ _ _ h => h) hHeld rfl ?_ | fail)
              (try simp only [Act.put, List.setIfInBounds_toArray, List.set_cons_zero, List.set_cons_succ])
              refine wpAnyH_ready (rs := [3]) (by kernel_rfl) (by simp) ?_
              refine AllReadyH.cons rfl (fun K hK => ?_) AllReadyH.nil
              go_simp
              refine (known_calls _ _).mono ?_
              rintro e w1 ⟨rfl, rfl⟩
              dsimp only
              refine hK.out _ _ hHeld (fun _ => ?_)
              clear hK K
              (first | (refine takeH 4 83 (v := ?_) rfl rfl (by kernel_rfl) (by kernel_rfl) (by kernel_rfl) (fun _ _ _ h => h) hHeld rfl ?_ ?_; rotate_left; (focus (intro w hSw; (try dsimp only at hSw); go_simp; try with_reducible rfl))) | refine skipH 4 83 rfl rfl (by kernel_rfl) (by kernel_rfl) (by kernel_rfl) (fun _ _ _ h => h) hHeld rfl ?_ | fail)
              (try simp only [Act.put, List.setIfInBounds_toArray, List.set_cons_zero, List.set_cons_succ])
              (first | (refine takeH 5 84 (v := ?_) rfl rfl (by kernel_rfl) (by kernel_rfl) (by kernel_rfl) (fun _ _ _ h => h) hHeld rfl ?_ ?_; rotate_left; (focus (intro w hSw; (try dsimp only at hSw); go_simp; try with_reducible rfl))) | refine skipH 5 84 rfl rfl (by kernel_rfl) (by kernel_rfl) (by kernel_rfl) (fun _ _ _ h => h) hHeld rfl ?_ | fail)
              (try simp only [Act.put, List.setIfInBounds_toArray, List.set_cons_zero, List.set_cons_succ])
              (first | (refine takeH 6 85 (v := ?_) rfl rfl (by kernel_rfl) (by kernel_rfl) (by kernel_rfl) (fun _ _ _ h => h) hHeld rfl ?_ ?_; rotate_left; (focus (intro w hSw; (try dsimp only at hSw); go_simp; try with_reducible rfl))) | refine skipH 6 85 rfl rfl (by kernel_rfl) (by kernel_rfl) (by kernel_rfl) (fun _ _ _ h => h) hHeld rfl ?_ | fail)
              (try simp only [Act.put, List.setIfInBounds_toArray, List.set_cons_zero, List.set_cons_succ])
              (first | (refine takeH 7 86 (v := ?_) rfl rfl (by kernel_rfl) (by kernel_rfl) (by kernel_rfl) (fun _ _ _ h => h) hHeld rfl ?_ ?_; rotate_left; (focus (intro w hSw; (try dsimp only at hSw); go_simp; try with_reducible rfl))) | refine skipH 7 86 rfl rfl (by kernel_rfl) (by kernel_rfl) (by kernel_rfl) (fun _ _ _ h => h) hHeld rfl ?_ | fail)
              (try simp only [Act.put, List.setIfInBounds_toArray, List.set_cons_zero, List.set_cons_succ])
              (first | (refine takeH 8 87 (v := ?_) rfl rfl (by kernel_rfl) (by kernel_rfl) (by kernel_rfl) (fun _ _ _ h => h) hHeld rfl ?_ ?_; rotate_left; (focus (intro w hSw; (try dsimp only at hSw); go_simp; try with_reducible rfl))) | refine skipH 8 87 rfl rfl (by kernel_rfl) (by kernel_rfl) (by kernel_rfl) (fun _ _ _ h => h) hHeld rfl ?_ | fail)
              (try simp only [Act.put, List.setIfInBounds_toArray, List.set_cons_zero, List.set_cons_succ])
              (first | (refine takeH 9 88 (v := ?_) rfl rfl (by kernel_rfl) (by kernel_rfl) (by kernel_rfl) (fun _ _ _ h => h) hHeld rfl ?_ ?_; rotate_left; (focus (intro w hSw; (try dsimp only at hSw); go_simp; try with_reducible rfl))) | refine skipH 9 88 rfl rfl (by kernel_rfl) (by kernel_rfl) (by kernel_rfl) (fun _ _ _ h => h) hHeld rfl ?_ | fail)
              (try simp only [Act.put, List.setIfInBounds_toArray, List.set_cons_zero, List.set_cons_succ])
              (first | (refine takeH 10 89 (v := ?_) rfl rfl (by kernel_rfl) (by kernel_rfl) (by kernel_rfl) (fun _ _ _ h => h) hHeld rfl ?_ ?_; rotate_left; (focus (intro w hSw; (try dsimp only at hSw); go_simp; try with_reducible rfl))) | refine skipH 10 89 rfl rfl (by kernel_rfl) (by kernel_rfl) (by kernel_rfl) (fun _ _ _ h => h) hHeld rfl ?_ | fail)
              (try simp only [Act.put, List.setIfInBounds_toArray, List.set_cons_zero, List.set_cons_succ])
              (first | (refine takeH 11 90 (v := ?_) rfl rfl (by kernel_rfl) (by kernel_rfl) (by kernel_rfl) (fun _ _ _ h => h) hHeld rfl ?_ ?_; rotate_left; (focus (intro w hSw; (try dsimp only at hSw); go_simp; try with_reducible rfl))) | refine skipH 11 90 rfl rfl (by kernel_rfl) (by kernel_rfl) (by kernel_rfl) (fun _ _ _ h => h) hHeld rfl ?_ | fail)
              (try simp only [Act.put, List.setIfInBounds_toArray, List.set_cons_zero, List.set_cons_succ])
              (first | (refine takeH 12 91 (v := ?_) rfl rfl (by kernel_rfl) (by kernel_rfl) (by kernel_rfl) (fun _ _ _ h => h) hHeld rfl ?_ ?_; rotate_left; (focus (intro w hSw; (try dsimp only at hSw); go_simp; try with_reducible rfl))) | refine skipH 12 91 rfl rfl (by kernel_rfl) (by kernel_rfl) (by kernel_rfl) (fun _ _ _ h => h) hHeld rfl ?_ | fail)
              (try simp only [Act.put, List.setIfInBounds_toArray, List.set_cons_zero, List.set_cons_succ])
              (first | (refine takeH 13 92 (v := ?_) rfl rfl (by kernel_rfl) (by kernel_rfl) (by kernel_rfl) (fun _ _ _ h => h) hHeld rfl ?_ ?_; rotate_left; (focus (intro w hSw; (try dsimp only at hSw); go_simp; try with_reducible rfl))) | refine skipH 13 92 rfl rfl (by kernel_rfl) (by kernel_rfl) (by kernel_rfl) (fun _ _ _ h => h) hHeld rfl ?_ | fail)
              (try simp only [Act.put, List.setIfInBounds_toArray, List.set_cons_zero, List.set_cons_succ])
              (first | (refine takeH 14 93 (v := ?_) rfl rfl (by kernel_rfl) (by kernel_rfl) (by kernel_rfl) (fun _ _ _ h => h) hHeld rfl ?_ ?_; rotate_left; (focus (intro w hSw; (try dsimp only at hSw); go_simp; try with_reducible rfl))) | refine skipH 14 93 rfl rfl (by kernel_rfl) (by kernel_rfl) (by kernel_rfl) (fun _ _ _ h => h) hHeld rfl ?_ | fail)
              (try simp only [Act.put, List.setIfInBounds_toArray, List.set_cons_zero, List.set_cons_succ])
              (first | (refine takeH 15 94 (v := ?_) rfl rfl (by kernel_rfl) (by kernel_rfl) (by kernel_rfl) (fun _ _ _ h => h) hHeld rfl ?_ ?_; rotate_left; (focus (intro w hSw; (try dsimp only at hSw); go_simp; try with_reducible rfl))) | refine skipH 15 94 rfl rfl (by kernel_rfl) (by kernel_rfl) (by kernel_rfl) (fun _ _ _ h => h) hHeld rfl ?_ | fail)
              (try simp only [Act.put, List.setIfInBounds_toArray, List.set_cons_zero, List.set_cons_succ])
              refine wpAnyH_ready (rs := [16]) (by kernel_rfl) (by simp) ?_
              refine AllReadyH.cons rfl (fun K hK => ?_) AllReadyH.nil
              go_simp
              refine hK.out _ _ (by go_keep) (fun hHeld2 => ?_)
              clear hK K
              (first | (refine takeH 17 5 (v := ?_) rfl rfl (by kernel_rfl) (by kernel_rfl) (by kernel_rfl) (fun _ _ _ h => h) hHeld2 rfl ?_ ?_; rotate_left; (focus (intro w hSw; (try dsimp only at hSw); go_simp; try with_reducible rfl))) | refine skipH 17 5 rfl rfl (by kernel_rfl) (by kernel_rfl) (by kernel_rfl) (fun _ _ _ h => h) hHeld2 rfl ?_ | fail)
              (try simp only [Act.put, List.setIfInBounds_toArray, List.set_cons_zero, List.set_cons_succ])
              refine wpAnyH_done (by kernel_rfl) ?_ _
              refine NoPanic.normal ?_
              go_wp2
              (try simp only [Exit.inBlock, Exit.then])
              refine bodyPost_ret (by simp [results, Try.results43, go_sem, hR0, hR1, hR2, hR3, hR4, hR5, hR6]; try rfl) rfl ?_
              refine ⟨#[.int .i64 dk, .slice A1 db.length c1, .int .i64 df, .int .i64 dt, .bool false, .bool dh, .slice A6 dv.length c6], ?_, ?_, ?_⟩
              · rw [HIS.out, hkn, HE.out]; rw [show (x.call.kind != 1) = false from by simp [hk1]]; rfl
              · rw [HDEQ.out]; exact fk_deed HKK.out.1.1 HKK.out.1.2.1 (drew8 (set7 HKK.out.1.2.2 HKK.out.2.2.2.1)) HKK.out.2.1.1 HKK.out.2.1.2 HKK.out.2.2.1.1 (drew8 (set7 HKK.out.2.2.1.2 HKK.out.2.2.2.2)) HKK.out.2.2.2.1 HKK.out.2.2.2.2
              · exact below_drew (below_set (below_set (below_set (below_set (below_set (below_set (below_set HBC2.out (Nat.le_refl _)) (Nat.le_refl _)) (Nat.le_refl _)) (Nat.le_refl _)) (Nat.le_refl _)) (Nat.le_refl _)) (Nat.le_refl _))
            ·
              go_wp2
              rw [HE.out]
              refine wp_region_noPanic ?_
              refine wp_region_held_drew (S := (fun w' => w'.cell? ⟨w.heap.size + 1, 1, none⟩ = some (.int .i64 x.call.kind) ∧ w'.cell? ⟨g, 0, none⟩ = some (.int .i64 dk) ∧ w'.cell? ⟨g, 1, none⟩ = some (.slice A1 db.length c1) ∧ w'.cell? ⟨g, 2, none⟩ = some (.int .i64 df) ∧ w'.cell? ⟨g, 3, none⟩ = some (.int .i64 dt) ∧ w'.cell? ⟨g, 4, none⟩ = some (.bool false) ∧ w'.cell? ⟨g, 5, none⟩ = some (.bool dh) ∧ w'.cell? ⟨g, 6, none⟩ = some (.slice A6 dv.length c6))) (by kernel_rfl) ⟨hL1, hD0, hD1, hD2, hD3, hD4, hD5, hD6⟩ (fun hHeld => ?_)
              (first | (refine takeH 0 79 (v := ?_) rfl rfl (by kernel_rfl) (by kernel_rfl) (by kernel_rfl) (fun _ _ _ h => h) hHeld rfl ?_ ?_; rotate_left; (focus (intro w hSw; (try dsimp only at hSw); go_simp; try with_reducible rfl))) | refine skipH 0 79 rfl rfl (by kernel_rfl) (by kernel_rfl) (by kernel_rfl) (fun _ _ _ h => h) hHeld rfl ?_ | fail)
              (try simp only [Act.put, List.setIfInBounds_toArray, List.set_cons_zero, List.set_cons_succ])
              (first | (refine takeH 1 80 (v := ?_) rfl rfl (by kernel_rfl) (by kernel_rfl) (by kernel_rfl) (fun _ _ _ h => h) hHeld rfl ?_ ?_; rotate_left; (focus (intro w hSw; (try dsimp only at hSw); go_simp; try with_reducible rfl))) | refine skipH 1 80 rfl rfl (by kernel_rfl) (by kernel_rfl) (by kernel_rfl) (fun _ _ _ h => h) hHeld rfl ?_ | fail)
              (try simp only [Act.put, List.setIfInBounds_toArray, List.set_cons_zero, List.set_cons_succ])
              (first | (refine takeH 2 81 (v := ?_) rfl rfl (by kernel_rfl) (by kernel_rfl) (by kernel_rfl) (fun _ _ _ h => h) hHeld rfl ?_ ?_; rotate_left; (focus (intro w hSw; (try dsimp only at hSw); go_simp; try with_reducible rfl))) | refine skipH 2 81 rfl rfl (by kernel_rfl) (by kernel_rfl) (by kernel_rfl) (fun _ _ _ h => h) hHeld rfl ?_ | fail)
              (try simp only [Act.put, List.setIfInBounds_toArray, List.set_cons_zero, List.set_cons_succ])
              refine wpAnyH_ready (rs := [3]) (by kernel_rfl) (by simp) ?_
              refine AllReadyH.cons rfl (fun K hK => ?_) AllReadyH.nil
              go_simp
              refine (known_calls _ _).mono ?_
              rintro e w1 ⟨rfl, rfl⟩
              dsimp only
              refine hK.out _ _ hHeld (fun _ => ?_)
              clear hK K
              (first | (refine takeH 4 83 (v := ?_) rfl rfl (by kernel_rfl) (by kernel_rfl) (by kernel_rfl) (fun _ _ _ h => h) hHeld rfl ?_ ?_; rotate_left; (focus (intro w hSw; (try dsimp only at hSw); go_simp; try with_reducible rfl))) | refine skipH 4 83 rfl rfl (by kernel_rfl) (by kernel_rfl) (by kernel_rfl) (fun _ _ _ h => h) hHeld rfl ?_ | fail)
              (try simp only [Act.put, List.setIfInBounds_toArray, List.set_cons_zero, List.set_cons_succ])
              (first | (refine takeH 5 84 (v := ?_) rfl rfl (by kernel_rfl) (by kernel_rfl) (by kernel_rfl) (fun _ _ _ h => h) hHeld rfl ?_ ?_; rotate_left; (focus (intro w hSw; (try dsimp only at hSw); go_simp; try with_reducible rfl))) | refine skipH 5 84 rfl rfl (by kernel_rfl) (by kernel_rfl) (by kernel_rfl) (fun _ _ _ h => h) hHeld rfl ?_ | fail)
              (try simp only [Act.put, List.setIfInBounds_toArray, List.set_cons_zero, List.set_cons_succ])
              (first | (refine takeH 6 85 (v := ?_) rfl rfl (by kernel_rfl) (by kernel_rfl) (by kernel_rfl) (fun _ _ _ h => h) hHeld rfl ?_ ?_; rotate_left; (focus (intro w hSw; (try dsimp only at hSw); go_simp; try with_reducible rfl))) | refine skipH 6 85 rfl rfl (by kernel_rfl) (by kernel_rfl) (by kernel_rfl) (fun _ _ _ h => h) hHeld rfl ?_ | fail)
              (try simp only [Act.put, List.setIfInBounds_toArray, List.set_cons_zero, List.set_cons_succ])
              (first | (refine takeH 7 86 (v := ?_) rfl rfl (by kernel_rfl) (by kernel_rfl) (by kernel_rfl) (fun _ _ _ h => h) hHeld rfl ?_ ?_; rotate_left; (focus (intro w hSw; (try dsimp only at hSw); go_simp; try with_reducible rfl))) | refine skipH 7 86 rfl rfl (by kernel_rfl) (by kernel_rfl) (by kernel_rfl) (fun _ _ _ h => h) hHeld rfl ?_ | fail)
              (try simp only [Act.put, List.setIfInBounds_toArray, List.set_cons_zero, List.set_cons_succ])
              (first | (refine takeH 8 87 (v := ?_) rfl rfl (by kernel_rfl) (by kernel_rfl) (by kernel_rfl) (fun _ _ _ h => h) hHeld rfl ?_ ?_; rotate_left; (focus (intro w hSw; (try dsimp only at hSw); go_simp; try with_reducible rfl))) | refine skipH 8 87 rfl rfl (by kernel_rfl) (by kernel_rfl) (by kernel_rfl) (fun _ _ _ h => h) hHeld rfl ?_ | fail)
              (try simp only [Act.put, List.setIfInBounds_toArray, List.set_cons_zero, List.set_cons_succ])
              (first | (refine takeH 9 88 (v := ?_) rfl rfl (by kernel_rfl) (by kernel_rfl) (by kernel_rfl) (fun _ _ _ h => h) hHeld rfl ?_ ?_; rotate_left; (focus (intro w hSw; (try dsimp only at hSw); go_simp; try with_reducible rfl))) | refine skipH 9 88 rfl rfl (by kernel_rfl) (by kernel_rfl) (by kernel_rfl) (fun _ _ _ h => h) hHeld rfl ?_ | fail)
              (try simp only [Act.put, List.setIfInBounds_toArray, List.set_cons_zero, List.set_cons_succ])
              (first | (refine takeH 10 89 (v := ?_) rfl rfl (by kernel_rfl) (by kernel_rfl) (by kernel_rfl) (fun _ _ _ h => h) hHeld rfl ?_ ?_; rotate_left; (focus (intro w hSw; (try dsimp only at hSw); go_simp; try with_reducible rfl))) | refine skipH 10 89 rfl rfl (by kernel_rfl) (by kernel_rfl) (by kernel_rfl) (fun _ _ _ h => h) hHeld rfl ?_ | fail)
              (try simp only [Act.put, List.setIfInBounds_toArray, List.set_cons_zero, List.set_cons_succ])
              (first | (refine takeH 11 90 (v := ?_) rfl rfl (by kernel_rfl) (by kernel_rfl) (by kernel_rfl) (fun _ _ _ h => h) hHeld rfl ?_ ?_; rotate_left; (focus (intro w hSw; (try dsimp only at hSw); go_simp; try with_reducible rfl))) | refine skipH 11 90 rfl rfl (by kernel_rfl) (by kernel_rfl) (by kernel_rfl) (fun _ _ _ h => h) hHeld rfl ?_ | fail)
              (try simp only [Act.put, List.setIfInBounds_toArray, List.set_cons_zero, List.set_cons_succ])
              (first | (refine takeH 12 91 (v := ?_) rfl rfl (by kernel_rfl) (by kernel_rfl) (by kernel_rfl) (fun _ _ _ h => h) hHeld rfl ?_ ?_; rotate_left; (focus (intro w hSw; (try dsimp only at hSw); go_simp; try with_reducible rfl))) | refine skipH 12 91 rfl rfl (by kernel_rfl) (by kernel_rfl) (by kernel_rfl) (fun _ _ _ h => h) hHeld rfl ?_ | fail)
              (try simp only [Act.put, List.setIfInBounds_toArray, List.set_cons_zero, List.set_cons_succ])
              (first | (refine takeH 13 92 (v := ?_) rfl rfl (by kernel_rfl) (by kernel_rfl) (by kernel_rfl) (fun _ _ _ h => h) hHeld rfl ?_ ?_; rotate_left; (focus (intro w hSw; (try dsimp only at hSw); go_simp; try with_reducible rfl))) | refine skipH 13 92 rfl rfl (by kernel_rfl) (by kernel_rfl) (by kernel_rfl) (fun _ _ _ h => h) hHeld rfl ?_ | fail)
              (try simp only [Act.put, List.setIfInBounds_toArray, List.set_cons_zero, List.set_cons_succ])
              (first | (refine takeH 14 93 (v := ?_) rfl rfl (by kernel_rfl) (by kernel_rfl) (by kernel_rfl) (fun _ _ _ h => h) hHeld rfl ?_ ?_; rotate_left; (focus (intro w hSw; (try dsimp only at hSw); go_simp; try with_reducible rfl))) | refine skipH 14 93 rfl rfl (by kernel_rfl) (by kernel_rfl) (by kernel_rfl) (fun _ _ _ h => h) hHeld rfl ?_ | fail)
              (try simp only [Act.put, List.setIfInBounds_toArray, List.set_cons_zero, List.set_cons_succ])
              (first | (refine takeH 15 94 (v := ?_) rfl rfl (by kernel_rfl) (by kernel_rfl) (by kernel_rfl) (fun _ _ _ h => h) hHeld rfl ?_ ?_; rotate_left; (focus (intro w hSw; (try dsimp only at hSw); go_simp; try with_reducible rfl))) | refine skipH 15 94 rfl rfl (by kernel_rfl) (by kernel_rfl) (by kernel_rfl) (fun _ _ _ h => h) hHeld rfl ?_ | fail)
              (try simp only [Act.put, List.setIfInBounds_toArray, List.set_cons_zero, List.set_cons_succ])
              refine wpAnyH_ready (rs := [16]) (by kernel_rfl) (by simp) ?_
              refine AllReadyH.cons rfl (fun K hK => ?_) AllReadyH.nil
              go_simp
              refine hK.out _ _ (by go_keep) (fun hHeld2 => ?_)
              clear hK K
              (first | (refine takeH 17 5 (v := ?_) rfl rfl (by kernel_rfl) (by kernel_rfl) (by kernel_rfl) (fun _ _ _ h => h) hHeld2 rfl ?_ ?_; rotate_left; (focus (intro w hSw; (try dsimp only at hSw); go_simp; try with_reducible rfl))) | refine skipH 17 5 rfl rfl (by kernel_rfl) (by kernel_rfl) (by kernel_rfl) (fun _ _ _ h => h) hHeld2 rfl ?_ | fail)
              (try simp only [Act.put, List.setIfInBounds_toArray, List.set_cons_zero, List.set_cons_succ])
              refine wpAnyH_done (by kernel_rfl) ?_ _
              refine NoPanic.normal ?_
              go_wp2
              (try simp only [Exit.inBlock, Exit.then])
              refine bodyPost_ret (by simp [results, Try.results43, go_sem, hR0, hR1, hR2, hR3, hR4, hR5, hR6]; try rfl) rfl ?_
              refine ⟨#[.int .i64 dk, .slice A1 db.length c1, .int .i64 df, .int .i64 dt, .bool false, .bool dh, .slice A6 dv.length c6], ?_, ?_, ?_⟩
              · rw [HIS.out, hkn, HE.out]; rw [show (x.call.kind != 1) = false from by simp [hk1]]; rfl
              · rw [HDEQ.out]; exact fk_deed HKK.out.1.1 HKK.out.1.2.1 (drew8 (set7 HKK.out.1.2.2 HKK.out.2.2.2.1)) HKK.out.2.1.1 HKK.out.2.1.2 HKK.out.2.2.1.1 (drew8 (set7 HKK.out.2.2.1.2 HKK.out.2.2.2.2)) HKK.out.2.2.2.1 HKK.out.2.2.2.2
              · exact below_drew (below_set (below_set (below_set (below_set (below_set (below_set (below_set HBC2.out (Nat.le_refl _)) (Nat.le_refl _)) (Nat.le_refl _)) (Nat.le_refl _)) (Nat.le_refl _)) (Nat.le_refl _)) (Nat.le_refl _))
          ·
            rcases hE with ⟨rfl, hE⟩ | ⟨rfl, hE⟩ | ⟨hE1, hE2, hE⟩
            all_goals have HE := Aside0.mk hE
            all_goals clear hE
            ·
              go_wp2
              refine wp_region_noPanic ?_
              refine wp_region_held_drew (S := (fun w' => w'.cell? ⟨w.heap.size + 1, 1, none⟩ = some (.int .i64 x.call.kind) ∧ w'.cell? ⟨g, 0, none⟩ = some (.int .i64 dk) ∧ w'.cell? ⟨g, 1, none⟩ = some (.slice A1 db.length c1) ∧ w'.cell? ⟨g, 2, none⟩ = some (.int .i64 df) ∧ w'.cell? ⟨g, 3, none⟩ = some (.int .i64 dt) ∧ w'.cell? ⟨g, 4, none⟩ = some (.bool false) ∧ w'.cell? ⟨g, 5, none⟩ = some (.bool dh) ∧ w'.cell? ⟨g, 6, none⟩ = some (.slice A6 dv.length c6))) (by kernel_rfl) ⟨hL1, hD0, hD1, hD2, hD3, hD4, hD5, hD6⟩ (fun hHeld => ?_)
              (first | (refine takeH 0 79 (v := ?_) rfl rfl (by kernel_rfl) (by kernel_rfl) (by kernel_rfl) (fun _ _ _ h => h) hHeld rfl ?_ ?_; rotate_left; (focus (intro w hSw; (try dsimp only at hSw); go_simp; try with_reducible rfl))) | refine skipH 0 79 rfl rfl (by kernel_rfl) (by kernel_rfl) (by kernel_rfl) (fun _ _ _ h => h) hHeld rfl ?_ | fail)
              (try simp only [Act.put, List.setIfInBounds_toArray, List.set_cons_zero, List.set_cons_succ])
              (first | (refine takeH 1 80 (v := ?_) rfl rfl (by kernel_rfl) (by kernel_rfl) (by kernel_rfl) (fun _ _ _ h => h) hHeld rfl ?_ ?_; rotate_left; (focus (intro w hSw; (try dsimp only at hSw); go_simp; try with_reducible rfl))) | refine skipH 1 80 rfl rfl (by kernel_rfl) (by kernel_rfl) (by kernel_rfl) (fun _ _ _ h => h) hHeld rfl ?_ | fail)
              (try simp only [Act.put, List.setIfInBounds_toArray, List.set_cons_zero, List.set_cons_succ])
              (first | (refine takeH 2 81 (v := ?_) rfl rfl (by kernel_rfl) (by kernel_rfl) (by kernel_rfl) (fun _ _ _ h => h) hHeld rfl ?_ ?_; rotate_left; (focus (intro w hSw; (try dsimp only at hSw); go_simp; try with_reducible rfl))) | refine skipH 2 81 rfl rfl (by kernel_rfl) (by kernel_rfl) (by kernel_rfl) (fun _ _ _ h => h) hHeld rfl ?_ | fail)
              (try simp only [Act.put, List.setIfInBounds_toArray, List.set_cons_zero, List.set_cons_succ])
              refine wpAnyH_ready (rs := [3]) (by kernel_rfl) (by simp) ?_
              refine AllReadyH.cons rfl (fun K hK => ?_) AllReadyH.nil
              go_simp
              refine (known_calls _ _).mono ?_
              rintro e w1 ⟨rfl, rfl⟩
              simp only [hkn]
              refine hK.out _ _ hHeld (fun _ => ?_)
              clear hK K
              (first | (refine takeH 4 83 (v := ?_) rfl rfl (by kernel_rfl) (by kernel_rfl) (by kernel_rfl) (fun _ _ _ h => h) hHeld rfl ?_ ?_; rotate_left; (focus (intro w hSw; (try dsimp only at hSw); go_simp; try with_reducible rfl))) | refine skipH 4 83 rfl rfl (by kernel_rfl) (by kernel_rfl) (by kernel_rfl) (fun _ _ _ h => h) hHeld rfl ?_ | fail)
              (try simp only [Act.put, List.setIfInBounds_toArray, List.set_cons_zero, List.set_cons_succ])
              (first | (refine takeH 5 84 (v := ?_) rfl rfl (by kernel_rfl) (by kernel_rfl) (by kernel_rfl) (fun _ _ _ h => h) hHeld rfl ?_ ?_; rotate_left; (focus (intro w hSw; (try dsimp only at hSw); go_simp; try with_reducible rfl))) | refine skipH 5 84 rfl rfl (by kernel_rfl) (by kernel_rfl) (by kernel_rfl) (fun _ _ _ h => h) hHeld rfl ?_ | fail)
              (try simp only [Act.put, List.setIfInBounds_toArray, List.set_cons_zero, List.set_cons_succ])
              (first | (refine takeH 6 85 (v := ?_) rfl rfl (by kernel_rfl) (by kernel_rfl) (by kernel_rfl) (fun _ _ _ h => h) hHeld rfl ?_ ?_; rotate_left; (focus (intro w hSw; (try dsimp only at hSw); go_simp; try with_reducible rfl))) | refine skipH 6 85 rfl rfl (by kernel_rfl) (by kernel_rfl) (by kernel_rfl) (fun _ _ _ h => h) hHeld rfl ?_ | fail)
              (try simp only [Act.put, List.setIfInBounds_toArray, List.set_cons_zero, List.set_cons_succ])
              (first | (refine takeH 7 86 (v := ?_) rfl rfl (by kernel_rfl) (by kernel_rfl) (by kernel_rfl) (fun _ _ _ h => h) hHeld rfl ?_ ?_; rotate_left; (focus (intro w hSw; (try dsimp only at hSw); go_simp; try with_reducible rfl))) | refine skipH 7 86 rfl rfl (by kernel_rfl) (by kernel_rfl) (by kernel_rfl) (fun _ _ _ h => h) hHeld rfl ?_ | fail)
              (try simp only [Act.put, List.setIfInBounds_toArray, List.set_cons_zero, List.set_cons_succ])
              (first | (refine takeH 8 87 (v := ?_) rfl rfl (by kernel_rfl) (by kernel_rfl) (by kernel_rfl) (fun _ _ _ h => h) hHeld rfl ?_ ?_; rotate_left; (focus (intro w hSw; (try dsimp only at hSw); go_simp; try with_reducible rfl))) | refine skipH 8 87 rfl rfl (by kernel_rfl) (by kernel_rfl) (by kernel_rfl) (fun _ _ _ h => h) hHeld rfl ?_ | fail)
              (try simp only [Act.put, List.setIfInBounds_toArray, List.set_cons_zero, List.set_cons_succ])
              (first | (refine takeH 9 88 (v := ?_) rfl rfl (by kernel_rfl) (by kernel_rfl) (by kernel_rfl) (fun _ _ _ h => h) hHeld rfl ?_ ?_; rotate_left; (focus (intro w hSw; (try dsimp only at hSw); go_simp; try with_reducible rfl))) | refine skipH 9 88 rfl rfl (by kernel_rfl) (by kernel_rfl) (by kernel_rfl) (fun _ _ _ h => h) hHeld rfl ?_ | fail)
              (try simp only [Act.put, List.setIfInBounds_toArray, List.set_cons_zero, List.set_cons_succ])
              (first | (refine takeH 10 89 (v := ?_) rfl rfl (by kernel_rfl) (by kernel_rfl) (by kernel_rfl) (fun _ _ _ h => h) hHeld rfl ?_ ?_; rotate_left; (focus (intro w hSw; (try dsimp only at hSw); go_simp; try with_reducible rfl))) | refine skipH 10 89 rfl rfl (by kernel_rfl) (by kernel_rfl) (by kernel_rfl) (fun _ _ _ h => h) hHeld rfl ?_ | fail)
              (try simp only [Act.put, List.setIfInBounds_toArray, List.set_cons_zero, List.set_cons_succ])
              (first | (refine takeH 11 90 (v := ?_) rfl rfl (by kernel_rfl) (by kernel_rfl) (by kernel_rfl) (fun _ _ _ h => h) hHeld rfl ?_ ?_; rotate_left; (focus (intro w hSw; (try dsimp only at hSw); go_simp; try with_reducible rfl))) | refine skipH 11 90 rfl rfl (by kernel_rfl) (by kernel_rfl) (by kernel_rfl) (fun _ _ _ h => h) hHeld rfl ?_ | fail)
              (try simp only [Act.put, List.setIfInBounds_toArray, List.set_cons_zero, List.set_cons_succ])
              (first | (refine takeH 12 91 (v := ?_) rfl rfl (by kernel_rfl) (by kernel_rfl) (by kernel_rfl) (fun _ _ _ h => h) hHeld rfl ?_ ?_; rotate_left; (focus (intro w hSw; (try dsimp only at hSw); go_simp; try with_reducible rfl))) | refine skipH 12 91 rfl rfl (by kernel_rfl) (by kernel_rfl) (by kernel_rfl) (fun _ _ _ h => h) hHeld rfl ?_ | fail)
              (try simp only [Act.put, List.setIfInBounds_toArray, List.set_cons_zero, List.set_cons_succ])
              (first | (refine takeH 13 92 (v := ?_) rfl rfl (by kernel_rfl) (by kernel_rfl) (by kernel_rfl) (fun _ _ _ h => h) hHeld rfl ?_ ?_; rotate_left; (focus (intro w hSw; (try dsimp only at hSw); go_simp; try with_reducible rfl))) | refine skipH 13 92 rfl rfl (by kernel_rfl) (by kernel_rfl) (by kernel_rfl) (fun _ _ _ h => h) hHeld rfl ?_ | fail)
              (try simp only [Act.put, List.setIfInBounds_toArray, List.set_cons_zero, List.set_cons_succ])
              (first | (refine takeH 14 93 (v := ?_) rfl rfl (by kernel_rfl) (by kernel_rfl) (by kernel_rfl) (fun _ _ _ h => h) hHeld rfl ?_ ?_; rotate_left; (focus (intro w hSw; (try dsimp only at hSw); go_simp; try with_reducible rfl))) | refine skipH 14 93 rfl rfl (by kernel_rfl) (by kernel_rfl) (by kernel_rfl) (fun _ _ _ h => h) hHeld rfl ?_ | fail)
              (try simp only [Act.put, List.setIfInBounds_toArray, List.set_cons_zero, List.set_cons_succ])
              (first | (refine takeH 15 94 (v := ?_) rfl rfl (by kernel_rfl) (by kernel_rfl) (by kernel_rfl) (fun _ _ _ h => h) hHeld rfl ?_ ?_; rotate_left; (focus (intro w hSw; (try dsimp only at hSw); go_simp; try with_reducible rfl))) | refine skipH 15 94 rfl rfl (by kernel_rfl) (by kernel_rfl) (by kernel_rfl) (fun _ _ _ h => h) hHeld rfl ?_ | fail)
              (try simp only [Act.put, List.setIfInBounds_toArray, List.set_cons_zero, List.set_cons_succ])
              refine wpAnyH_ready (rs := [16]) (by kernel_rfl) (by simp) ?_
              refine AllReadyH.cons rfl (fun K hK => ?_) AllReadyH.nil
              go_simp
              refine hK.out _ _ (by go_keep) (fun hHeld2 => ?_)
              clear hK K
              (first | (refine takeH 17 5 (v := ?_) rfl rfl (by kernel_rfl) (by kernel_rfl) (by kernel_rfl) (fun _ _ _ h => h) hHeld2 rfl ?_ ?_; rotate_left; (focus (intro w hSw; (try dsimp only at hSw); go_simp; try with_reducible rfl))) | refine skipH 17 5 rfl rfl (by kernel_rfl) (by kernel_rfl) (by kernel_rfl) (fun _ _ _ h => h) hHeld2 rfl ?_ | fail)
              (try simp only [Act.put, List.setIfInBounds_toArray, List.set_cons_zero, List.set_cons_succ])
              refine wpAnyH_done (by kernel_rfl) ?_ _
              refine NoPanic.normal ?_
              go_wp2
              (try simp only [Exit.inBlock, Exit.then])
              refine bodyPost_ret (by simp [results, Try.results43, go_sem, hR0, hR1, hR2, hR3, hR4, hR5, hR6]; try rfl) rfl ?_
              refine ⟨#[.int .i64 dk, .slice A1 db.length c1, .int .i64 df, .int .i64 dt, .bool false, .bool dh, .slice A6 dv.length c6], ?_, ?_, ?_⟩
              · rw [HIS.out, hkn, HE.out]; rw [show (x.call.kind != 1) = true from by simp [hk1]]; rfl
              · rw [HDEQ.out]; exact fk_deed HKK.out.1.1 HKK.out.1.2.1 (drew8 (set7 HKK.out.1.2.2 HKK.out.2.2.2.1)) HKK.out.2.1.1 HKK.out.2.1.2 HKK.out.2.2.1.1 (drew8 (set7 HKK.out.2.2.1.2 HKK.out.2.2.2.2)) HKK.out.2.2.2.1 HKK.out.2.2.2.2
              · exact below_drew (below_set (below_set (below_set (below_set (below_set (below_set (below_set HBC2.out (Nat.le_refl _)) (Nat.le_refl _)) (Nat.le_refl _)) (Nat.le_refl _)) (Nat.le_refl _)) (Nat.le_refl _)) (Nat.le_refl _))
            ·
              go_wp2
              refine wp_region_noPanic ?_
              refine wp_region_held_drew (S := (fun w' => w'.cell? ⟨w.heap.size + 1, 1, none⟩ = some (.int .i64 x.call.kind) ∧ w'.cell? ⟨g, 0, none⟩ = some (.int .i64 dk) ∧ w'.cell? ⟨g, 1, none⟩ = some (.slice A1 db.length c1) ∧ w'.cell? ⟨g, 2, none⟩ = some (.int .i64 df) ∧ w'.cell? ⟨g, 3, none⟩ = some (.int .i64 dt) ∧ w'.cell? ⟨g, 4, none⟩ = some (.bool false) ∧ w'.cell? ⟨g, 5, none⟩ = some (.bool dh) ∧ w'.cell? ⟨g, 6, none⟩ = some (.slice A6 dv.length c6))) (by kernel_rfl) ⟨hL1, hD0, hD1, hD2, hD3, hD4, hD5, hD6⟩ (fun hHeld => ?_)
              (first | (refine takeH 0 79 (v := ?_) rfl rfl (by kernel_rfl) (by kernel_rfl) (by kernel_rfl) (fun _ _ _ h => h) hHeld rfl ?_ ?_; rotate_left; (focus (intro w hSw; (try dsimp only at hSw); go_simp; try with_reducible rfl))) | refine skipH 0 79 rfl rfl (by kernel_rfl) (by kernel_rfl) (by kernel_rfl) (fun _ _ _ h => h) hHeld rfl ?_ | fail)
              (try simp only [Act.put, List.setIfInBounds_toArray, List.set_cons_zero, List.set_cons_succ])
              (first | (refine takeH 1 80 (v := ?_) rfl rfl (by kernel_rfl) (by kernel_rfl) (by kernel_rfl) (fun _ _ _ h => h) hHeld rfl ?_ ?_; rotate_left; (focus (intro w hSw; (try dsimp only at hSw); go_simp; try with_reducible rfl))) | refine skipH 1 80 rfl rfl (by kernel_rfl) (by kernel_rfl) (by kernel_rfl) (fun _ _ _ h => h) hHeld rfl ?_ | fail)
              (try simp only [Act.put, List.setIfInBounds_toArray, List.set_cons_zero, List.set_cons_succ])
              (first | (refine takeH 2 81 (v := ?_) rfl rfl (by kernel_rfl) (by kernel_rfl) (by kernel_rfl) (fun _ _ _ h => h) hHeld rfl ?_ ?_; rotate_left; (focus (intro w hSw; (try dsimp only at hSw); go_simp; try with_reducible rfl))) | refine skipH 2 81 rfl rfl (by kernel_rfl) (by kernel_rfl) (by kernel_rfl) (fun _ _ _ h => h) hHeld rfl ?_ | fail)
              (try simp only [Act.put, List.setIfInBounds_toArray, List.set_cons_zero, List.set_cons_succ])
              refine wpAnyH_ready (rs := [3]) (by kernel_rfl) (by simp) ?_
              refine AllReadyH.cons rfl (fun K hK => ?_) AllReadyH.nil
              go_simp
              refine (known_calls _ _).mono ?_
              rintro e w1 ⟨rfl, rfl⟩
              simp only [hkn]
              refine hK.out _ _ hHeld (fun _ => ?_)
              clear hK K
              (first | (refine takeH 4 83 (v := ?_) rfl rfl (by kernel_rfl) (by kernel_rfl) (by kernel_rfl) (fun _ _ _ h => h) hHeld rfl ?_ ?_; rotate_left; (focus (intro w hSw; (try dsimp only at hSw); go_simp; try with_reducible rfl))) | refine skipH 4 83 rfl rfl (by kernel_rfl) (by kernel_rfl) (by kernel_rfl) (fun _ _ _ h => h) hHeld rfl ?_ | fail)
              (try simp only [Act.put, List.setIfInBounds_toArray, List.set_cons_zero, List.set_cons_succ])
              (first | (refine takeH 5 84 (v := ?_) rfl rfl (by kernel_rfl) (by kernel_rfl) (by kernel_rfl) (fun _ _ _ h => h) hHeld rfl ?_ ?_; rotate_left; (focus (intro w hSw; (try dsimp only at hSw); go_simp; try with_reducible rfl))) | refine skipH 5 84 rfl rfl (by kernel_rfl) (by kernel_rfl) (by kernel_rfl) (fun _ _ _ h => h) hHeld rfl ?_ | fail)
              (try simp only [Act.put, List.setIfInBounds_toArray, List.set_cons_zero, List.set_cons_succ])
              (first | (refine takeH 6 85 (v := ?_) rfl rfl (by kernel_rfl) (by kernel_rfl) (by kernel_rfl) (fun _ _ _ h => h) hHeld rfl ?_ ?_; rotate_left; (focus (intro w hSw; (try dsimp only at hSw); go_simp; try with_reducible rfl))) | refine skipH 6 85 rfl rfl (by kernel_rfl) (by kernel_rfl) (by kernel_rfl) (fun _ _ _ h => h) hHeld rfl ?_ | fail)
              (try simp only [Act.put, List.setIfInBounds_toArray, List.set_cons_zero, List.set_cons_succ])
              (first | (refine takeH 7 86 (v := ?_) rfl rfl (by kernel_rfl) (by kernel_rfl) (by kernel_rfl) (fun _ _ _ h => h) hHeld rfl ?_ ?_; rotate_left; (focus (intro w hSw; (try dsimp only at hSw); go_simp; try with_reducible rfl))) | refine skipH 7 86 rfl rfl (by kernel_rfl) (by kernel_rfl) (by kernel_rfl) (fun _ _ _ h => h) hHeld rfl ?_ | fail)
              (try simp only [Act.put, List.setIfInBounds_toArray, List.set_cons_zero, List.set_cons_succ])
              (first | (refine takeH 8 87 (v := ?_) rfl rfl (by kernel_rfl) (by kernel_rfl) (by kernel_rfl) (fun _ _ _ h => h) hHeld rfl ?_ ?_; rotate_left; (focus (intro w hSw; (try dsimp only at hSw); go_simp; try with_reducible rfl))) | refine skipH 8 87 rfl rfl (by kernel_rfl) (by kernel_rfl) (by kernel_rfl) (fun _ _ _ h => h) hHeld rfl ?_ | fail)
              (try simp only [Act.put, List.setIfInBounds_toArray, List.set_cons_zero, List.set_cons_succ])
              (first | (refine takeH 9 88 (v := ?_) rfl rfl (by kernel_rfl) (by kernel_rfl) (by kernel_rfl) (fun _ _ _ h => h) hHeld rfl ?_ ?_; rotate_left; (focus (intro w hSw; (try dsimp only at hSw); go_simp; try with_reducible rfl))) | refine skipH 9 88 rfl rfl (by kernel_rfl) (by kernel_rfl) (by kernel_rfl) (fun _ _ _ h => h) hHeld rfl ?_ | fail)
              (try simp only [Act.put, List.setIfInBounds_toArray, List.set_cons_zero, List.set_cons_succ])
              (first | (refine takeH 10 89 (v := ?_) rfl rfl (by kernel_rfl) (by kernel_rfl) (by kernel_rfl) (fun _ _ _ h => h) hHeld rfl ?_ ?_; rotate_left; (focus (intro w hSw; (try dsimp only at hSw); go_simp; try with_reducible rfl))) | refine skipH 10 89 rfl rfl (by kernel_rfl) (by kernel_rfl) (by kernel_rfl) (fun _ _ _ h => h) hHeld rfl ?_ | fail)
              (try simp only [Act.put, List.setIfInBounds_toArray, List.set_cons_zero, List.set_cons_succ])
              (first | (refine takeH 11 90 (v := ?_) rfl rfl (by kernel_rfl) (by kernel_rfl) (by kernel_rfl) (fun _ _ _ h => h) hHeld rfl ?_ ?_; rotate_left; (focus (intro w hSw; (try dsimp only at hSw); go_simp; try with_reducible rfl))) | refine skipH 11 90 rfl rfl (by kernel_rfl) (by kernel_rfl) (by kernel_rfl) (fun _ _ _ h => h) hHeld rfl ?_ | fail)
              (try simp only [Act.put, List.setIfInBounds_toArray, List.set_cons_zero, List.set_cons_succ])
              (first | (refine takeH 12 91 (v := ?_) rfl rfl (by kernel_rfl) (by kernel_rfl) (by kernel_rfl) (fun _ _ _ h => h) hHeld rfl ?_ ?_; rotate_left; (focus (intro w hSw; (try dsimp only at hSw); go_simp; try with_reducible rfl))) | refine skipH 12 91 rfl rfl (by kernel_rfl) (by kernel_rfl) (by kernel_rfl) (fun _ _ _ h => h) hHeld rfl ?_ | fail)
              (try simp only [Act.put, List.setIfInBounds_toArray, List.set_cons_zero, List.set_cons_succ])
              (first | (refine takeH 13 92 (v := ?_) rfl rfl (by kernel_rfl) (by kernel_rfl) (by kernel_rfl) (fun _ _ _ h => h) hHeld rfl ?_ ?_; rotate_left; (focus (intro w hSw; (try dsimp only at hSw); go_simp; try with_reducible rfl))) | refine skipH 13 92 rfl rfl (by kernel_rfl) (by kernel_rfl) (by kernel_rfl) (fun _ _ _ h => h) hHeld rfl ?_ | fail)
              (try simp only [Act.put, List.setIfInBounds_toArray, List.set_cons_zero, List.set_cons_succ])
              (first | (refine takeH 14 93 (v := ?_) rfl rfl (by kernel_rfl) (by kernel_rfl) (by kernel_rfl) (fun _ _ _ h => h) hHeld rfl ?_ ?_; rotate_left; (focus (intro w hSw; (try dsimp only at hSw); go_simp; try with_reducible rfl))) | refine skipH 14 93 rfl rfl (by kernel_rfl) (by kernel_rfl) (by kernel_rfl) (fun _ _ _ h => h) hHeld rfl ?_ | fail)
              (try simp only [Act.put, List.setIfInBounds_toArray, List.set_cons_zero, List.set_cons_succ])
              (first | (refine takeH 15 94 (v := ?_) rfl rfl (by kernel_rfl) (by kernel_rfl) (by kernel_rfl) (fun _ _ _ h => h) hHeld rfl ?_ ?_; rotate_left; (focus (intro w hSw; (try dsimp only at hSw); go_simp; try with_reducible rfl))) | refine skipH 15 94 rfl rfl (by kernel_rfl) (by kernel_rfl) (by kernel_rfl) (fun _ _ _ h => h) hHeld rfl ?_ | fail)
              (try simp only [Act.put, List.setIfInBounds_toArray, List.set_cons_zero, List.set_cons_succ])
              refine wpAnyH_ready (rs := [16]) (by kernel_rfl) (by simp) ?_
              refine AllReadyH.cons rfl (fun K hK => ?_) AllReadyH.nil
              go_simp
              refine hK.out _ _ (by go_keep) (fun hHeld2 => ?_)
              clear hK K
              (first | (refine takeH 17 5 (v := ?_) rfl rfl (by kernel_rfl) (by kernel_rfl) (by kernel_rfl) (fun _ _ _ h => h) hHeld2 rfl ?_ ?_; rotate_left; (focus (intro w hSw; (try dsimp only at hSw); go_simp; try with_reducible rfl))) | refine skipH 17 5 rfl rfl (by kernel_rfl) (by kernel_rfl) (by kernel_rfl) (fun _ _ _ h => h) hHeld2 rfl ?_ | fail)
              (try simp only [Act.put, List.setIfInBounds_toArray, List.set_cons_zero, List.set_cons_succ])
              refine wpAnyH_done (by kernel_rfl) ?_ _
              refine NoPanic.normal ?_
              go_wp2
              (try simp only [Exit.inBlock, Exit.then])
              refine bodyPost_ret (by simp [results, Try.results43, go_sem, hR0, hR1, hR2, hR3, hR4, hR5, hR6]; try rfl) rfl ?_
              refine ⟨#[.int .i64 dk, .slice A1 db.length c1, .int .i64 df, .int .i64 dt, .bool false, .bool dh, .slice A6 dv.length c6], ?_, ?_, ?_⟩
              · rw [HIS.out, hkn, HE.out]; rw [show (x.call.kind != 1) = true from by simp [hk1]]; rfl
              · rw [HDEQ.out]; exact fk_deed HKK.out.1.1 HKK.out.1.2.1 (drew8 (set7 HKK.out.1.2.2 HKK.out.2.2.2.1)) HKK.out.2.1.1 HKK.out.2.1.2 HKK.out.2.2.1.1 (drew8 (set7 HKK.out.2.2.1.2 HKK.out.2.2.2.2)) HKK.out.2.2.2.1 HKK.out.2.2.2.2
              · exact below_drew (below_set (below_set (below_set (below_set (below_set (below_set (below_set HBC2.out (Nat.le_refl _)) (Nat.le_refl _)) (Nat.le_refl _)) (Nat.le_refl _)) (Nat.le_refl _)) (Nat.le_refl _)) (Nat.le_refl _))
            ·
              go_wp2
              rw [HE.out]
              refine wp_region_noPanic ?_
              refine wp_region_held_drew (S := (fun w' => w'.cell? ⟨w.heap.size + 1, 1, none⟩ = some (.int .i64 x.call.kind) ∧ w'.cell? ⟨g, 0, none⟩ = some (.int .i64 dk) ∧ w'.cell? ⟨g, 1, none⟩ = some (.slice A1 db.length c1) ∧ w'.cell? ⟨g, 2, none⟩ = some (.int .i64 df) ∧ w'.cell? ⟨g, 3, none⟩ = some (.int .i64 dt) ∧ w'.cell? ⟨g, 4, none⟩ = some (.bool false) ∧ w'.cell? ⟨g, 5, none⟩ = some (.bool dh) ∧ w'.cell? ⟨g, 6, none⟩ = some (.slice A6 dv.length c6))) (by kernel_rfl) ⟨hL1, hD0, hD1, hD2, hD3, hD4, hD5, hD6⟩ (fun hHeld => ?_)
              (first | (refine takeH 0 79 (v := ?_) rfl rfl (by kernel_rfl) (by kernel_rfl) (by kernel_rfl) (fun _ _ _ h => h) hHeld rfl ?_ ?_; rotate_left; (focus (intro w hSw; (try dsimp only at hSw); go_simp; try with_reducible rfl))) | refine skipH 0 79 rfl rfl (by kernel_rfl) (by kernel_rfl) (by kernel_rfl) (fun _ _ _ h => h) hHeld rfl ?_ | fail)
              (try simp only [Act.put, List.setIfInBounds_toArray, List.set_cons_zero, List.set_cons_succ])
              (first | (refine takeH 1 80 (v := ?_) rfl rfl (by kernel_rfl) (by kernel_rfl) (by kernel_rfl) (fun _ _ _ h => h) hHeld rfl ?_ ?_; rotate_left; (focus (intro w hSw; (try dsimp only at hSw); go_simp; try with_reducible rfl))) | refine skipH 1 80 rfl rfl (by kernel_rfl) (by kernel_rfl) (by kernel_rfl) (fun _ _ _ h => h) hHeld rfl ?_ | fail)
              (try simp only [Act.put, List.setIfInBounds_toArray, List.set_cons_zero, List.set_cons_succ])
              (first | (refine takeH 2 81 (v := ?_) rfl rfl (by kernel_rfl) (by kernel_rfl) (by kernel_rfl) (fun _ _ _ h => h) hHeld rfl ?_ ?_; rotate_left; (focus (intro w hSw; (try dsimp only at hSw); go_simp; try with_reducible rfl))) | refine skipH 2 81 rfl rfl (by kernel_rfl) (by kernel_rfl) (by kernel_rfl) (fun _ _ _ h => h) hHeld rfl ?_ | fail)
              (try simp only [Act.put, List.setIfInBounds_toArray, List.set_cons_zero, List.set_cons_succ])
              refine wpAnyH_ready (rs := [3]) (by kernel_rfl) (by simp) ?_
              refine AllReadyH.cons rfl (fun K hK => ?_) AllReadyH.nil
              go_simp
              refine (known_calls _ _).mono ?_
              rintro e w1 ⟨rfl, rfl⟩
              simp only [hkn]
              refine hK.out _ _ hHeld (fun _ => ?_)
              clear hK K
              (first | (refine takeH 4 83 (v := ?_) rfl rfl (by kernel_rfl) (by kernel_rfl) (by kernel_rfl) (fun _ _ _ h => h) hHeld rfl ?_ ?_; rotate_left; (focus (intro w hSw; (try dsimp only at hSw); go_simp; try with_reducible rfl))) | refine skipH 4 83 rfl rfl (by kernel_rfl) (by kernel_rfl) (by kernel_rfl) (fun _ _ _ h => h) hHeld rfl ?_ | fail)
              (try simp only [Act.put, List.setIfInBounds_toArray, List.set_cons_zero, List.set_cons_succ])
              (first | (refine takeH 5 84 (v := ?_) rfl rfl (by kernel_rfl) (by kernel_rfl) (by kernel_rfl) (fun _ _ _ h => h) hHeld rfl ?_ ?_; rotate_left; (focus (intro w hSw; (try dsimp only at hSw); go_simp; try with_reducible rfl))) | refine skipH 5 84 rfl rfl (by kernel_rfl) (by kernel_rfl) (by kernel_rfl) (fun _ _ _ h => h) hHeld rfl ?_ | fail)
              (try simp only [Act.put, List.setIfInBounds_toArray, List.set_cons_zero, List.set_cons_succ])
              (first | (refine takeH 6 85 (v := ?_) rfl rfl (by kernel_rfl) (by kernel_rfl) (by kernel_rfl) (fun _ _ _ h => h) hHeld rfl ?_ ?_; rotate_left; (focus (intro w hSw; (try dsimp only at hSw); go_simp; try with_reducible rfl))) | refine skipH 6 85 rfl rfl (by kernel_rfl) (by kernel_rfl) (by kernel_rfl) (fun _ _ _ h => h) hHeld rfl ?_ | fail)
              (try simp only [Act.put, List.setIfInBounds_toArray, List.set_cons_zero, List.set_cons_succ])
              (first | (refine takeH 7 86 (v := ?_) rfl rfl (by kernel_rfl) (by kernel_rfl) (by kernel_rfl) (fun _ _ _ h => h) hHeld rfl ?_ ?_; rotate_left; (focus (intro w hSw; (try dsimp only at hSw); go_simp; try with_reducible rfl))) | refine skipH 7 86 rfl rfl (by kernel_rfl) (by kernel_rfl) (by kernel_rfl) (fun _ _ _ h => h) hHeld rfl ?_ | fail)
              (try simp only [Act.put, List.setIfInBounds_toArray, List.set_cons_zero, List.set_cons_succ])
              (first | (refine takeH 8 87 (v := ?_) rfl rfl (by kernel_rfl) (by kernel_rfl) (by kernel_rfl) (fun _ _ _ h => h) hHeld rfl ?_ ?_; rotate_left; (focus (intro w hSw; (try dsimp only at hSw); go_simp; try with_reducible rfl))) | refine skipH 8 87 rfl rfl (by kernel_rfl) (by kernel_rfl) (by kernel_rfl) (fun _ _ _ h => h) hHeld rfl ?_ | fail)
              (try simp only [Act.put, List.setIfInBounds_toArray, List.set_cons_zero, List.set_cons_succ])
              (first | (refine takeH 9 88 (v := ?_) rfl rfl (by kernel_rfl) (by kernel_rfl) (by kernel_rfl) (fun _ _ _ h => h) hHeld rfl ?_ ?_; rotate_left; (focus (intro w hSw; (try dsimp only at hSw); go_simp; try with_reducible rfl))) | refine skipH 9 88 rfl rfl (by kernel_rfl) (by kernel_rfl) (by kernel_rfl) (fun _ _ _ h => h) hHeld rfl ?_ | fail)
              (try simp only [Act.put, List.setIfInBounds_toArray, List.set_cons_zero, List.set_cons_succ])
              (first | (refine takeH 10 89 (v := ?_) rfl rfl (by kernel_rfl) (by kernel_rfl) (by kernel_rfl) (fun _ _ _ h => h) hHeld rfl ?_ ?_; rotate_left; (focus (intro w hSw; (try dsimp only at hSw); go_simp; try with_reducible rfl))) | refine skipH 10 89 rfl rfl (by kernel_rfl) (by kernel_rfl) (by kernel_rfl) (fun _ _ _ h => h) hHeld rfl ?_ | fail)
              (try simp only [Act.put, List.setIfInBounds_toArray, List.set_cons_zero, List.set_cons_succ])
              (first | (refine takeH 11 90 (v := ?_) rfl rfl (by kernel_rfl) (by kernel_rfl) (by kernel_rfl) (fun _ _ _ h => h) hHeld rfl ?_ ?_; rotate_left; (focus (intro w hSw; (try dsimp only at hSw); go_simp; try with_reducible rfl))) | refine skipH 11 90 rfl rfl (by kernel_rfl) (by kernel_rfl) (by kernel_rfl) (fun _ _ _ h => h) hHeld rfl ?_ | fail)
              (try simp only [Act.put, List.setIfInBounds_toArray, List.set_cons_zero, List.set_cons_succ])
              (first | (refine takeH 12 91 (v := ?_) rfl rfl (by kernel_rfl) (by kernel_rfl) (by kernel_rfl) (fun _ _ _ h => h) hHeld rfl ?_ ?_; rotate_left; (focus (intro w hSw; (try dsimp only at hSw); go_simp; try with_reducible rfl))) | refine skipH 12 91 rfl rfl (by kernel_rfl) (by kernel_rfl) (by kernel_rfl) (fun _ _ _ h => h) hHeld rfl ?_ | fail)
              (try simp only [Act.put, List.setIfInBounds_toArray, List.set_cons_zero, List.set_cons_succ])
              (first | (refine takeH 13 92 (v := ?_) rfl rfl (by kernel_rfl) (by kernel_rfl) (by kernel_rfl) (fun _ _ _ h => h) hHeld rfl ?_ ?_; rotate_left; (focus (intro w hSw; (try dsimp only at hSw); go_simp; try with_reducible rfl))) | refine skipH 13 92 rfl rfl (by kernel_rfl) (by kernel_rfl) (by kernel_rfl) (fun _ _ _ h => h) hHeld rfl ?_ | fail)
              (try simp only [Act.put, List.setIfInBounds_toArray, List.set_cons_zero, List.set_cons_succ])
              (first | (refine takeH 14 93 (v := ?_) rfl rfl (by kernel_rfl) (by kernel_rfl) (by kernel_rfl) (fun _ _ _ h => h) hHeld rfl ?_ ?_; rotate_left; (focus (intro w hSw; (try dsimp only at hSw); go_simp; try with_reducible rfl))) | refine skipH 14 93 rfl rfl (by kernel_rfl) (by kernel_rfl) (by kernel_rfl) (fun _ _ _ h => h) hHeld rfl ?_ | fail)
              (try simp only [Act.put, List.setIfInBounds_toArray, List.set_cons_zero, List.set_cons_succ])
              (first | (refine takeH 15 94 (v := ?_) rfl rfl (by kernel_rfl) (by kernel_rfl) (by kernel_rfl) (fun _ _ _ h => h) hHeld rfl ?_ ?_; rotate_left; (focus (intro w hSw; (try dsimp only at hSw); go_simp; try with_reducible rfl))) | refine skipH 15 94 rfl rfl (by kernel_rfl) (by kernel_rfl) (by kernel_rfl) (fun _ _ _ h => h) hHeld rfl ?_ | fail)
              (try simp only [Act.put, List.setIfInBounds_toArray, List.set_cons_zero, List.set_cons_succ])
              refine wpAnyH_ready (rs := [16]) (by kernel_rfl) (by simp) ?_
              refine AllReadyH.cons rfl (fun K hK => ?_) AllReadyH.nil
              go_simp
              refine hK.out _ _ (by go_keep) (fun hHeld2 => ?_)
              clear hK K
              (first | (refine takeH 17 5 (v := ?_) rfl rfl (by kernel_rfl) (by kernel_rfl) (by kernel_rfl) (fun _ _ _ h => h) hHeld2 rfl ?_ ?_; rotate_left; (focus (intro w hSw; (try dsimp only at hSw); go_simp; try with_reducible rfl))) | refine skipH 17 5 rfl rfl (by kernel_rfl) (by kernel_rfl) (by kernel_rfl) (fun _ _ _ h => h) hHeld2 rfl ?_ | fail)
              (try simp only [Act.put, List.setIfInBounds_toArray, List.set_cons_zero, List.set_cons_succ])
              refine wpAnyH_done (by kernel_rfl) ?_ _
              refine NoPanic.normal ?_
              go_wp2
              (try simp only [Exit.inBlock, Exit.then])
              refine bodyPost_ret (by simp [results, Try.results43, go_sem, hR0, hR1, hR2, hR3, hR4, hR5, hR6]; try rfl) rfl ?_
              refine ⟨#[.int .i64 dk, .slice A1 db.length c1, .int .i64 df, .int .i64 dt, .bool false, .bool dh, .slice A6 dv.length c6], ?_, ?_, ?_⟩
              · rw [HIS.out, hkn, HE.out]; rw [show (x.call.kind != 1) = true from by simp [hk1]]; rfl
              · rw [HDEQ.out]; exact fk_deed HKK.out.1.1 HKK.out.1.2.1 (drew8 (set7 HKK.out.1.2.2 HKK.out.2.2.2.1)) HKK.out.2.1.1 HKK.out.2.1.2 HKK.out.2.2.1.1 (drew8 (set7 HKK.out.2.2.1.2 HKK.out.2.2.2.2)) HKK.out.2.2.2.1 HKK.out.2.2.2.2
              · exact below_drew (below_set (below_set (below_set (below_set (below_set (below_set (below_set HBC2.out (Nat.le_refl _)) (Nat.le_refl _)) (Nat.le_refl _)) (Nat.le_refl _)) (Nat.le_refl _)) (Nat.le_refl _)) (Nat.le_refl _))
end DeedA
end Go.Proofs.Ytgconogjnjhmgaa
