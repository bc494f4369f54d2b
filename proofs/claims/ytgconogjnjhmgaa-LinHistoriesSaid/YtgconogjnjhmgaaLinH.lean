/- Layer lin: Holds. -/
import Derived.Test.YtgconogjnjhmgaaLinG
namespace Go.Proofs.Ytgconogjnjhmgaa
open Go.RowKit Go.Proofs.YtgconogjnjhmgaaW.PrintWords
namespace LinH
open LinA LinB LinC LinD LinE LinF LinG
/-- What a key holds behind some deeds; none: one of them reads something else. -/
def valsOk (xs : List Deed) : List Nat → Val → Option Val
  | [], v => some v
  | k :: r, v => if (nxt (xs.getD k Deed.z) v).2 = true then valsOk xs r (nxt (xs.getD k Deed.z) v).1 else none
theorem valsOk_snoc (xs : List Deed) (k : Nat) : ∀ (p : List Nat) (v : Val), valsOk xs (p ++ [k]) v = (valsOk xs p v).bind fun u => if (nxt (xs.getD k Deed.z) u).2 = true then some (nxt (xs.getD k Deed.z) u).1 else none
  | [], v => by simp [valsOk]
  | a :: r, v => by
    simp only [List.cons_append, valsOk]
    split
    · exact valsOk_snoc xs k r _
    · rfl
/-- The first i places are right. -/
structure Good (xs : List Deed) (order : List Int) (i : Nat) (v : Val) : Prop where
  rng : ∀ a, a < i → ∃ k : Nat, order[a]? = some (k : Int) ∧ k < xs.length
  inj : ∀ a b, a < b → b < i → order[a]? ≠ order[b]?
  time : ∀ a, a < i → ∀ b, a < b → ∀ k j : Nat, order[a]? = some (k : Int) → order[b]? = some (j : Int) → j < xs.length → (xs.getD k Deed.z).from_ ≤ (xs.getD j Deed.z).to_
  val : valsOk xs ((order.take i).map Int.toNat) Val.z = some v
def HoldsP (xs : List Deed) (order : List Int) : Prop :=
  xs.any (fun x => !kn x.kind) = false ∧ (∃ v, Good xs order order.length v) ∧
    ∀ k, k < xs.length → (k : Int) ∉ order → (xs.getD k Deed.z).done = false ∧ ∀ x ∈ order, (xs.getD x.toNat Deed.z).from_ ≤ (xs.getD k Deed.z).to_
def HoldsTold (xs : List Deed) (order : List Int) (w : World) (e : Ending) (w' : World) : Prop :=
  ∃ b : Bool, e = .returned (.bool b) ∧ (b = true ↔ HoldsP xs order) ∧ Below w.heap.size w w'
def bools (bs : List Bool) : List Value := bs.map Value.bool
/-- What the call keeps of its own. -/
structure LS (w wr : World) (h1 : Nat) (A : Option Addr) (c : Nat) (xs : List Deed) (v : Val) (Av : Option Addr) (cv : Nat) (bs : List Bool) : Prop where
  below : Below w.heap.size w wr
  lo : w.heap.size < h1
  hi : h1 + 1 < wr.heap.size
  c2 : wr.cell? ⟨w.heap.size, 0, none⟩ = some (.slice A xs.length c)
  v0 : wr.cell? ⟨h1, 0, none⟩ = some (.bool v.has)
  v1 : wr.cell? ⟨h1, 1, none⟩ = some (.slice Av v.b.length cv)
  f0 : wr.frozen? ⟨h1, 0, none⟩ = false
  f1 : wr.frozen? ⟨h1, 1, none⟩ = false
  vk : Val.k.K w v [.bool v.has, .slice Av v.b.length cv]
  row : wr.heap[h1 + 1]? = some (.cells (bools bs).toArray 4)
  len : bs.length = xs.length
theorem LS.grow {w wr w1 : World} {h1 : Nat} {A : Option Addr} {c : Nat} {xs : List Deed} {v : Val} {Av : Option Addr} {cv : Nat} {bs : List Bool} (h : LS w wr h1 A c xs v Av cv bs) (hb : Below wr.heap.size wr w1) : LS w w1 h1 A c xs v Av cv bs := by
  have a := h.lo
  have b := h.hi
  exact ⟨below_step h.below hb, a, Nat.lt_of_lt_of_le b hb.size, pw_cell_below hb h.c2, pw_cell_below hb h.v0, pw_cell_below hb h.v1, (hb.frozen (p := ⟨h1, 0, none⟩) (show h1 < _ by omega)).trans h.f0, (hb.frozen (p := ⟨h1, 1, none⟩) (show h1 < _ by omega)).trans h.f1, h.vk, (hb.block _ b).trans h.row, h.len⟩
theorem LS.rowAt {w wr : World} {h1 : Nat} {A : Option Addr} {c : Nat} {xs : List Deed} {v : Val} {Av : Option Addr} {cv : Nat} {bs : List Bool} (h : LS w wr h1 A c xs v Av cv bs) {k : Nat} (hk : k < xs.length) : wr.cell? ⟨h1 + 1, k, none⟩ = some (.bool (bs.getD k false)) ∧ wr.frozen? ⟨h1 + 1, k, none⟩ = false := by
  have hl := h.len
  constructor
  · unfold World.cell?
    rw [h.row]
    simp [bools, List.getD_eq_getElem?_getD, show k < bs.length by omega]
  · unfold World.frozen?
    rw [h.row]
    simp
theorem ne_blk {a b : Addr} (h : a.block ≠ b.block) : a ≠ b := fun e => h (by rw [e])
theorem LS.setRow {w wr : World} {h1 : Nat} {A : Option Addr} {c : Nat} {xs : List Deed} {v : Val} {Av : Option Addr} {cv : Nat} {bs : List Bool} (h : LS w wr h1 A c xs v Av cv bs) (k : Nat) : LS w (wr.setCell ⟨h1 + 1, k, none⟩ (.bool true)) h1 A c xs v Av cv (bs.set k true) := by
  have a := h.lo
  have b := h.hi
  have e1 : (wr.setCell ⟨h1 + 1, k, none⟩ (.bool true)).heap[h1]? = wr.heap[h1]? := Below.heap_setCell _ _ _ _ (by simp)
  refine ⟨h.below.setCell (show w.heap.size ≤ h1 + 1 by omega) _, a, by simpa [World.setCell] using b, setCell_other h.c2 (ne_blk (by simp only; omega)), setCell_other h.v0 (ne_blk (by simp)), setCell_other h.v1 (ne_blk (by simp)), (World.frozen?_setCell _ _ _ _).trans h.f0, (World.frozen?_setCell _ _ _ _).trans h.f1, h.vk, ?_, by simpa using h.len⟩
  simp only [World.setCell, Array.getElem?_modify, if_true, h.row]
  simp [bools, List.map_set]
theorem LS.setV {w wr : World} {h1 : Nat} {A : Option Addr} {c : Nat} {xs : List Deed} {v u : Val} {Av Bv : Option Addr} {cv dv : Nat} {bs : List Bool} (h : LS w wr h1 A c xs v Av cv bs) (hk : Val.k.K w u [.bool u.has, .slice Bv u.b.length dv]) :
    LS w ((wr.setCell ⟨h1, 0, none⟩ (.bool u.has)).setCell ⟨h1, 1, none⟩ (.slice Bv u.b.length dv)) h1 A c xs u Bv dv bs := by
  have a := h.lo
  have b := h.hi
  refine ⟨(h.below.setCell (show w.heap.size ≤ h1 by omega) _).setCell (show w.heap.size ≤ h1 by omega) _, a, by simpa [World.setCell] using b, setCell_other (setCell_other h.c2 (ne_blk (by simp only; omega))) (ne_blk (by simp only; omega)), setCell_other (setCell_same h.v0) (by simp), setCell_same (setCell_other h.v1 (by simp)), (World.frozen?_setCell _ _ _ _).trans ((World.frozen?_setCell _ _ _ _).trans h.f0), (World.frozen?_setCell _ _ _ _).trans ((World.frozen?_setCell _ _ _ _).trans h.f1), hk, ?_, h.len⟩
  exact (Below.heap_setCell _ _ _ _ (show h1 + 1 ≠ h1 by omega)).trans ((Below.heap_setCell _ _ _ _ (show h1 + 1 ≠ h1 by omega)).trans h.row)
theorem Good.start (xs : List Deed) (order : List Int) : Good xs order 0 Val.z := ⟨fun _ h => absurd h (Nat.not_lt_zero _), fun _ _ _ h => absurd h (Nat.not_lt_zero _), fun _ h => absurd h (Nat.not_lt_zero _), rfl⟩
theorem not_rng {xs : List Deed} {order : List Int} {i : Nat} {x : Int} (hx : order[i]? = some x) (h : x < 0 ∨ (xs.length : Int) ≤ x) : ¬ HoldsP xs order := by
  rintro ⟨_, ⟨v, hg⟩, _⟩
  obtain ⟨k, h1, h2⟩ := hg.rng i (List.getElem?_eq_some_iff.1 hx).1
  rw [hx] at h1
  injection h1 with h1
  omega
theorem not_inj {xs : List Deed} {order : List Int} {i : Nat} {x : Int} (hx : order[i]? = some x) (h : x ∈ order.take i) : ¬ HoldsP xs order := by
  rintro ⟨_, ⟨v, hg⟩, _⟩
  obtain ⟨a, ha, hax⟩ := List.mem_take_iff_getElem.1 h
  have hi := (List.getElem?_eq_some_iff.1 hx).1
  refine hg.inj a i (by omega) hi ?_
  rw [hx, List.getElem?_eq_getElem (by omega), hax]
theorem valsOk_head (xs : List Deed) : ∀ (p q : List Nat) (v u : Val), valsOk xs (p ++ q) v = some u → ∃ z, valsOk xs p v = some z
  | [], _, v, _, _ => ⟨v, rfl⟩
  | a :: r, q, v, u, h => by
    simp only [List.cons_append, valsOk] at h ⊢
    split at h
    · rename_i hc
      rw [if_pos hc]
      exact valsOk_head xs r q _ u h
    · cases h
theorem take_toNat {order : List Int} {i k : Nat} (h : order[i]? = some (k : Int)) : (order.take (i + 1)).map Int.toNat = (order.take i).map Int.toNat ++ [k] := by
  obtain ⟨hi, he⟩ := List.getElem?_eq_some_iff.1 h
  rw [List.take_succ_eq_append_getElem hi, List.map_append, he]
  simp
theorem not_val {xs : List Deed} {order : List Int} {i k : Nat} {v : Val} (hg : Good xs order i v) (hk : order[i]? = some (k : Int)) (h : (nxt (xs.getD k Deed.z) v).2 = false) : ¬ HoldsP xs order := by
  rintro ⟨_, ⟨u, hu⟩, _⟩
  have h1 := hu.val
  rw [List.take_length, ← List.take_append_drop (i + 1) order, List.map_append] at h1
  obtain ⟨z, hz⟩ := valsOk_head _ _ _ _ _ h1
  rw [take_toNat hk, valsOk_snoc, hg.val, Option.bind_some, if_neg (by rw [h]; simp)] at hz
  cases hz
theorem not_time {xs : List Deed} {order : List Int} {i b k j : Nat} (hk : order[i]? = some (k : Int)) (hj : order[b]? = some (j : Int)) (hib : i < b) (hjl : j < xs.length) (h : (xs.getD j Deed.z).to_ < (xs.getD k Deed.z).from_) : ¬ HoldsP xs order := by
  rintro ⟨_, ⟨u, hu⟩, _⟩
  have := hu.time i (List.getElem?_eq_some_iff.1 hk).1 b hib k j hk hj hjl; omega
theorem Good.step {xs : List Deed} {order : List Int} {i k : Nat} {v : Val} (hg : Good xs order i v) (hk : order[i]? = some (k : Int)) (hkl : k < xs.length) (hin : (k : Int) ∉ order.take i) (hn : (nxt (xs.getD k Deed.z) v).2 = true)
    (ht : ∀ b, i < b → ∀ j : Nat, order[b]? = some (j : Int) → j < xs.length → (xs.getD k Deed.z).from_ ≤ (xs.getD j Deed.z).to_) : Good xs order (i + 1) (nxt (xs.getD k Deed.z) v).1 := by
  refine ⟨fun a ha => ?_, fun a b hab hb => ?_, fun a ha b hab k' j h1 h2 h3 => ?_, ?_⟩
  · rcases Nat.lt_succ_iff_lt_or_eq.1 ha with h | rfl
    · exact hg.rng a h
    · exact ⟨k, hk, hkl⟩
  · rcases Nat.lt_succ_iff_lt_or_eq.1 hb with h | rfl
    · exact hg.inj a b hab h
    · intro e
      rw [hk] at e
      obtain ⟨h1, h2⟩ := List.getElem?_eq_some_iff.1 e
      exact hin (List.mem_take_iff_getElem.2 ⟨a, by omega, h2⟩)
  · rcases Nat.lt_succ_iff_lt_or_eq.1 ha with h | rfl
    · exact hg.time a h b hab k' j h1 h2 h3
    · rw [hk] at h1
      injection h1 with h1
      obtain rfl : k = k' := by omega
      exact ht b hab j h2 h3
  · rw [take_toNat hk, valsOk_snoc, hg.val, Option.bind_some, if_pos hn]
theorem in_step {xs : List Deed} {order : List Int} {i k : Nat} {bs : List Bool} (hl : bs.length = xs.length) (hk : order[i]? = some (k : Int)) (h : ∀ j : Nat, j < xs.length → bs.getD j false = decide ((j : Int) ∈ order.take i)) :
    ∀ j : Nat, j < xs.length → (bs.set k true).getD j false = decide ((j : Int) ∈ order.take (i + 1)) := by
  intro j hj
  have h0 := h j hj
  obtain ⟨hi, he⟩ := List.getElem?_eq_some_iff.1 hk
  rw [List.take_succ_eq_append_getElem hi, he]
  rw [List.getD_eq_getElem?_getD] at h0 ⊢
  by_cases hkj : k = j
  · subst hkj
    simp [hl, hj]
  · rw [List.getElem?_set_ne hkj, h0]
    have : (j : Int) ≠ (k : Int) := by omega
    simp [this]
theorem not_left {xs : List Deed} {order : List Int} {k : Nat} (hk : k < xs.length) (hin : (k : Int) ∉ order) (h : (xs.getD k Deed.z).done = true ∨ ∃ x ∈ order, (xs.getD k Deed.z).to_ < (xs.getD x.toNat Deed.z).from_) : ¬ HoldsP xs order := by
  rintro ⟨_, _, hh⟩
  obtain ⟨h1, h2⟩ := hh k hk hin
  rcases h with h | ⟨x, hx, h⟩
  · rw [h1] at h; cases h
  · have := h2 x hx; omega
theorem cut_drop {α : Type} {t e : TypeId} {kl : IntKind} (ht : Try.prog.underlying t = some (.slice e)) {size : Nat} {z : Option Value} {bytes : Nat} (hinfo : (Try.prog.info? e).map (fun i => (i.zero, i.size, i.bytes)) = some (z, size, bytes)) (A : Option Addr) (n c m : Nat) (hm : m ≤ n) :
    ∃ A' : Option Addr, (∀ W : World, (Instr.slice t (.slice A n c) (some (.int kl (m : Int))) none none).run Try.prog W = .ok (.slice A' (n - m) (c - m)) W) ∧
      ∀ (k : Kd α) (w : World) (xs : List α), k.sz = size → n = xs.length → n ≤ c → k.C w A xs.length xs → k.C w A' (n - m) (xs.drop m) := by
  obtain ⟨i, hi, hzz⟩ := Option.map_eq_some_iff.1 hinfo
  simp only [Prod.mk.injEq] at hzz
  refine ⟨if c = m then A else A.map (·.add (m * size)), fun W => ?_, fun k w xs hs hn hc h => ?_⟩
  · have hel : Try.prog.elem t = e := by simp [Program.elem, ht]
    have hu : Try.prog.underlying t = some (.slice (Try.prog.elem t)) := by rw [hel]; exact ht
    rw [run_slice_l W t A n c hu kl (m : Int) (Int.natCast_nonneg _) (by omega), hel]
    simp [sizeOf, typeInfo, hi, hzz.2.1, sliced, Result.andThen]
  · subst hn
    subst hs
    have := Kd.C_drop (c := c) h hm hc
    rwa [List.length_drop] at this
theorem infoB : (Try.prog.info? 4).map (fun i => (i.zero, i.size, i.bytes)) = some (some (.bool false), 1, 1) := by kernel_rfl
theorem madeB (n : Nat) : (madeCells #[Value.bool false] n) = (bools (List.replicate n false)).toArray := by
  apply Array.ext
  · simp [madeCells, bools]
  · intro i h1 h2
    simp [madeCells, bools, Nat.mod_one]
theorem callFunc32 : ∀ args w, (callFunc 32 args).run Try.prog w = .ok (.enter 32 args) w := fun args w => by rfl
theorem callFunc35 : ∀ args w, (callFunc 35 args).run Try.prog w = .ok (.enter 35 args) w := fun args w => by rfl
set_option maxRecDepth 100000 in
set_option maxHeartbeats 1000000 in
theorem holds_calls (A B : Option Addr) (c d : Nat) (xs : List Deed) (order : List Int) (w : World) (hr : Deed.k.C w A xs.length xs) (ho : (kInt .i64).C w B order.length order) (hn : xs.length ≤ 1000000000000) (hm : order.length ≤ 1000000000000) (hod : order.length ≤ d) :
    Calls Try.prog 12 #[.slice A xs.length c, .slice B order.length d] w (HoldsTold xs order w) := by
  have HR := Aside0.mk hr
  have HO := Aside0.mk ho
  have HN := Aside0.mk hn
  have HM := Aside0.mk hm
  have hbox : Below w.heap.size w (w.alloc (.cells #[.slice A xs.length c] 22)) := below_alloc (Below.refl _ _) _
  have HCF := Aside0.mk (containsFunc_deed A c xs 32 #[] (fun x => !kn x.kind) _ (Kd.C_below hr hbox) hn callFunc32 (fun x _ w1 _ cs hk => holds1_calls x cs w1 hk))
  have HBX := Aside0.mk hbox
  clear hr ho hm hbox
  cases hany : xs.any (fun x => !kn x.kind) with
  | true =>
    rw [hany] at HCF
    have HA := Aside0.mk hany
    clear hany
    go_enter Try.func12, Try.ntmps12
    go_wp2_with (first | ((with_reducible refine HCF.out.mono ?_); rintro e w1 ⟨rfl, hb1⟩))
    go_ret
    exact ⟨false, rfl, ⟨fun h => (by simp at h), fun h => (by have := h.1; rw [HA.out] at this; simp at this)⟩, below_step HBX.out hb1⟩
  | false =>
    rw [hany] at HCF
    have HA := Aside0.mk hany
    clear hany
    have hmk : ∀ W : World, (Instr.makeSlice 74 (.int .i64 (xs.length : Int)) (.int .i64 (xs.length : Int))).run Try.prog W = .ok (.slice (some ⟨W.heap.size, 0, none⟩) xs.length xs.length) (W.alloc (.cells (madeCells #[.bool false] xs.length) 4)) :=
      fun W => run_make_row' 74 4 (.bool false) 1 Try.underlying74 infoB rfl .i64 .i64 xs.length (by omega) (by omega) W
    go_enter Try.func12, Try.ntmps12
    go_wp2_with (first | ((with_reducible refine HCF.out.mono ?_); rintro e w1 ⟨rfl, hb1⟩; have HB1 := Aside0.mk (below_step HBX.out hb1); have hl1 := pw_cell_below hb1 (cell_new w _ _ _ 0 _ rfl); have hl2 := cell_alloc hl1; have HZ1 := Aside0.mk hb1.size; clear hb1))
    have hls : LS w ((w1.alloc (.cells #[.bool false, .slice none 0 0] 28)).alloc (.cells (madeCells #[.bool false] xs.length) 4)) w1.heap.size A c xs Val.z none 0 (List.replicate xs.length false) := by
      have hz := HZ1.out
      simp at hz
      have f0 := frozen_new w1 #[.bool false, .slice none 0 0] 28
      have hlt : w1.heap.size < (w1.alloc (.cells #[.bool false, .slice none 0 0] 28)).heap.size := by simp
      have hzz : (w1.alloc (.cells #[.bool false, .slice none 0 0] 28)).heap.size = w1.heap.size + 1 := by simp
      have hbb := below_alloc (Below.refl (w1.alloc (.cells #[.bool false, .slice none 0 0] 28)).heap.size (w1.alloc (.cells #[.bool false, .slice none 0 0] 28))) (.cells (madeCells #[.bool false] xs.length) 4)
      refine ⟨below_alloc (below_alloc HB1.out _) _, by omega, by simp, cell_alloc (hl2 _) _, cell_alloc (cell_new _ _ _ _ 0 _ rfl) _, cell_alloc (cell_new _ _ _ _ 1 _ rfl) _, (hbb.frozen (p := ⟨w1.heap.size, 0, none⟩) hlt).trans (f0 0), (hbb.frozen (p := ⟨w1.heap.size, 1, none⟩) hlt).trans (f0 1), Val.mk_ w Val.z (Nat.le_refl _) (Kd.C_nil _ _), ?_, by simp⟩
      rw [madeB, ← hzz]
      exact heap_alloc_new _ _
    generalize (w1.alloc (.cells #[.bool false, .slice none 0 0] 28)).alloc (.cells (madeCells #[.bool false] xs.length) 4) = W at *
    have HLS := Aside0.mk hls
    clear hls hl1 hl2 HB1 HZ1 hmk HCF
    generalize w1.heap.size = h1 at *
    go_loopw [21] (fun v21 wr => ∃ (i : Nat) (v : Val) (Av : Option Addr) (cv : Nat) (bs : List Bool), v21 = .int .i64 i ∧ i ≤ order.length ∧ Aside0 (LS w wr h1 A c xs v Av cv bs) ∧ Aside0 (Good xs order i v) ∧ Aside0 (∀ k : Nat, k < xs.length → bs.getD k false = decide ((k : Int) ∈ order.take i))) (fun v21 _ => order.length - (intOf v21).toNat)
    case atStart => exact ⟨0, Val.z, none, 0, _, rfl, Nat.zero_le _, HLS, ⟨Good.start _ _⟩, ⟨fun k hk => by simp [List.getD_eq_getElem?_getD, hk]⟩⟩
    case round =>
      obtain ⟨i, v, Av, cv, bs, rfl, hi, HL, HG, HIN⟩ := hrel
      have hm := HM.out
      have c2 := HL.out.c2
      by_cases hlt : i < order.length
      · obtain ⟨od, x, rfl, HX, hx0, hxr⟩ := kInt_at (Kd.C_below HO.out HL.out.below) i hlt
        have HXR := Aside0.mk hxr
        clear hxr
        by_cases hneg : x < 0
        · have hd : decide (x < 0) = true := decide_eq_true hneg
          go_wp2
          go_ret
          exact ⟨false, rfl, ⟨fun h => (by simp at h), fun h => absurd h (not_rng HX.out (.inl hneg))⟩, HL.out.below⟩
        · obtain ⟨k, rfl⟩ := Int.eq_ofNat_of_zero_le (Int.not_lt.1 hneg)
          clear hneg
          by_cases hbig : k < xs.length
          · have hrow := (HL.out.rowAt hbig).1
            have hfz := (HL.out.rowAt hbig).2
            have HIK := Aside0.mk (HIN.out k hbig)
            generalize bs.getD k false = b at *
            cases b with
            | true =>
              go_wp2
              go_ret
              exact ⟨false, rfl, ⟨fun h => (by simp at h), fun h => absurd h (not_inj HX.out (of_decide_eq_true HIK.out.symm))⟩, HL.out.below⟩
            | false =>
              have HS := Aside0.mk (HL.out.setRow k)
              obtain ⟨ad, x, A1, c1, A6, c6, rfl, HE, y0, y1, y2, y3, y4, y5, y6, HKX⟩ := Deed.at_ HR.out k hbig
              have hxk : xs.getD k Deed.z = x := by rw [List.getD_eq_getElem?_getD, HE.out]; rfl
              have HXK := Aside0.mk hxk
              clear hxk
              go_wp2
              generalize wr.setCell ⟨h1 + 1, k, none⟩ (.bool true) = W2 at *
              have HB2 := Aside0.mk (below_drew HS.out.below)
              replace y0 := pw_cell_below HS.out.below y0
              replace y1 := pw_cell_below HS.out.below y1
              replace y2 := pw_cell_below HS.out.below y2
              replace y3 := pw_cell_below HS.out.below y3
              replace y4 := pw_cell_below HS.out.below y4
              replace y5 := pw_cell_below HS.out.below y5
              replace y6 := pw_cell_below HS.out.below y6
              have z2 := HS.out.c2
              have z0 := HS.out.v0
              have z1 := HS.out.v1
              have g0 : (0 : Int) ≤ (k : Int) := by omega
              have g1 : (k : Int) < (xs.length : Int) := by omega
              clear hrow hfz c2 hx0
              go_region_with (first | ((with_reducible refine (after_calls x v _ _ _ (Deed.k.K_below HB2.out HKX.out) (Val.k.K_below HB2.out HS.out.vk)).mono ?_); rintro e w3 ⟨rs, rfl, hrs, hb3⟩; have HRS := Aside0.mk (hrs w HKX.out HS.out.vk); obtain ⟨Bv, dv, rfl, _⟩ := Val.open_ HRS.out; have H3 := Aside0.mk (HS.out.grow (below_step (below_drew (Below.refl _ _)) hb3)); have q0 := H3.out.v0; have q1 := H3.out.v1; have q2 := H3.out.f0; have q3 := H3.out.f1; clear hrs hb3))
              all_goals
                have H4 := Aside0.mk (H3.out.setV HRS.out)
                generalize (w3.setCell ⟨h1, 0, none⟩ (.bool (nxt x v).1.has)).setCell ⟨h1, 1, none⟩ (.slice Bv (nxt x v).1.b.length dv) = W4 at *
                clear H3 q0 q1 q2 q3 y0 y1 y2 y3 y4 y5 y6 z0 z1 z2
                have c4 := H4.out.c2
                cases hnx : (nxt x v).2 with
                | false =>
                  have HNX := Aside0.mk hnx
                  clear hnx
                  go_wp2
                  go_ret
                  exact ⟨false, rfl, ⟨fun h => (by simp at h), fun h => absurd h (not_val HG.out HX.out (by rw [HXK.out]; exact HNX.out))⟩, H4.out.below⟩
                | true =>
                  have HNX := Aside0.mk hnx
                  clear hnx
                  obtain ⟨D', hcut, hcC⟩ := cut_drop (α := Int) (t := 23) (kl := .i64) Try.underlying23 infoI (some od) order.length d (i + 1) (by omega)
                  have HC := Aside0.mk (hcC (kInt .i64) w order rfl rfl hod HO.out)
                  simp only [Int.natCast_add, Int.natCast_one] at hcut
                  clear hcC
                  go_wp2
                  clear hcut
                  have HLL : Aside0 ((order.drop (i + 1)).length = order.length - (i + 1)) := ⟨List.length_drop⟩
                  have hLL : order.length - (i + 1) ≤ 1000000000000 := by omega
                  generalize order.length - (i + 1) = L at *
                  clear c4
                  go_loopw [59] (fun v59 wr => ∃ q : Nat, v59 = .int .i64 q ∧ q ≤ L ∧ Below W4.heap.size W4 wr ∧ Aside0 (∀ b, b < q → ∀ j : Nat, (order.drop (i + 1))[b]? = some (j : Int) → j < xs.length → (xs.getD k Deed.z).from_ ≤ (xs.getD j Deed.z).to_)) (fun v59 _ => L - (intOf v59).toNat)
                  case atStart => exact ⟨0, rfl, Nat.zero_le _, Below.refl _ _, ⟨fun b hb => absurd hb (Nat.not_lt_zero _)⟩⟩
                  case round =>
                    obtain ⟨q, rfl, hq, hb, HT⟩ := hrel
                    have HBQ := Aside0.mk hb
                    have H5 := Aside0.mk (H4.out.grow hb)
                    have c5 := H5.out.c2
                    clear hb
                    by_cases hqL : q < L
                    · obtain ⟨dd, y, rfl, HY, hy0, _⟩ := kInt_at (Kd.C_below HC.out H5.out.below) q hqL
                      by_cases hyn : y < 0
                      · have hd0 : decide (0 ≤ y) = false := decide_eq_false (by omega)
                        go_wp2
                        go_quiet (fail)
                        go_wp2
                        go_roundw
                        case rel => exact ⟨q + 1, by go_num, by omega, pw_below_drewN HBQ.out _, ⟨fun b hb j hj => by
                          rcases Nat.lt_succ_iff_lt_or_eq.1 hb with h | rfl
                          · exact HT.out b h j hj
                          · rw [HY.out] at hj; injection hj with hj; omega⟩⟩
                        case measure => simp [intOf]; omega
                      · obtain ⟨j, rfl⟩ := Int.eq_ofNat_of_zero_le (Int.not_lt.1 hyn)
                        have hd0 : decide (0 ≤ (j : Int)) = true := decide_eq_true (by omega)
                        clear hyn
                        by_cases hjl : j < xs.length
                        · have hd1 : decide ((j : Int) < (xs.length : Int)) = true := decide_eq_true (by omega)
                          obtain ⟨ad1, x1, C1, e1, C6, e6, ee1, HE1, u0, u1, u2, u3, u4, u5, u6, _⟩ := Deed.at_ HR.out j hjl
                          obtain rfl : ad = ad1 := Option.some.inj ee1
                          obtain ⟨ad2, x2, F1, f1, F6, f6, ee2, HE2, t0, t1, t2, t3, t4, t5, t6, _⟩ := Deed.at_ HR.out k hbig
                          obtain rfl : ad = ad2 := Option.some.inj ee2
                          have hx2 : x = x2 := Option.some.inj (HE.out.symm.trans HE2.out)
                          subst hx2
                          have hx1 : xs.getD j Deed.z = x1 := by rw [List.getD_eq_getElem?_getD, HE1.out]; rfl
                          have HX1 := Aside0.mk hx1
                          replace u3 := pw_cell_below H5.out.below u3
                          replace t2 := pw_cell_below H5.out.below t2
                          have j0 : (0 : Int) ≤ (j : Int) := by omega
                          have j1 : (j : Int) < (xs.length : Int) := by omega
                          clear u0 u1 u2 u4 u5 u6 t0 t1 t3 t4 t5 t6 ee1 ee2 hx1
                          by_cases hcl : x1.to_ < x.from_
                          · go_wp2
                            go_quiet (fail)
                            go_wp2
                            go_ret
                            exact ⟨false, rfl, ⟨fun h => (by simp at h), fun h => absurd h (not_time HX.out (by have := HY.out; rw [List.getElem?_drop] at this; exact this) (by omega) hjl (by rw [HX1.out, HXK.out]; exact hcl))⟩, pw_below_drewN H5.out.below _⟩
                          · go_wp2
                            go_quiet (fail)
                            go_wp2
                            go_roundw
                            case rel => exact ⟨q + 1, by go_num, by omega, pw_below_drewN HBQ.out _, ⟨fun b hb j' hj' hl' => by
                              rcases Nat.lt_succ_iff_lt_or_eq.1 hb with h | rfl
                              · exact HT.out b h j' hj' hl'
                              · rw [HY.out] at hj'; injection hj' with hj'; obtain rfl : j = j' := by omega
                                rw [HX1.out, HXK.out]; omega⟩⟩
                            case measure => simp [intOf]; omega
                        · have hd1 : decide ((j : Int) < (xs.length : Int)) = false := decide_eq_false (by omega)
                          go_wp2
                          go_quiet (fail)
                          go_wp2
                          go_roundw
                          case rel => exact ⟨q + 1, by go_num, by omega, pw_below_drewN HBQ.out _, ⟨fun b hb j' hj' hl' => by
                            rcases Nat.lt_succ_iff_lt_or_eq.1 hb with h | rfl
                            · exact HT.out b h j' hj' hl'
                            · rw [HY.out] at hj'; injection hj' with hj'; omega⟩⟩
                          case measure => simp [intOf]; omega
                    · obtain rfl : q = L := by omega
                      go_wp2
                      go_roundw
                      case rel => exact ⟨i + 1, (nxt x v).1, Bv, dv, bs.set k true, by go_num, by omega, H5, ⟨by
                        rw [← HXK.out]
                        refine Good.step HG.out HX.out hbig (of_decide_eq_false HIK.out.symm) (by rw [HXK.out]; exact HNX.out) (fun b hb j hj hjl => ?_)
                        have hdr := HT.out (b - (i + 1)) (by have := (List.getElem?_eq_some_iff.1 hj).1; have := HLL.out; rw [List.length_drop] at this; omega) j (by rw [List.getElem?_drop, show i + 1 + (b - (i + 1)) = b by omega]; exact hj) hjl
                        exact hdr⟩, ⟨in_step HL.out.len HX.out HIN.out⟩⟩
                      case measure => simp [intOf]; omega
          · go_wp2
            go_ret
            exact ⟨false, rfl, ⟨fun h => (by simp at h), fun h => absurd h (not_rng HX.out (.inr (by omega)))⟩, HL.out.below⟩
      · obtain rfl : i = order.length := by omega
        rw [List.take_length] at HIN
        go_wp2
        obtain ⟨wo, rfl⟩ : ∃ wo : World, wo = wr := ⟨_, rfl⟩
        go_loopw [88] (fun v88 w8 => ∃ k : Nat, v88 = .int .i64 k ∧ k ≤ xs.length ∧ Below wo.heap.size wo w8 ∧ Aside0 (∀ j, j < k → (j : Int) ∉ order → (xs.getD j Deed.z).done = false ∧ ∀ x ∈ order, (xs.getD x.toNat Deed.z).from_ ≤ (xs.getD j Deed.z).to_)) (fun v88 _ => xs.length - (intOf v88).toNat)
        case atStart => exact ⟨0, rfl, Nat.zero_le _, Below.refl _ _, ⟨fun j hj => absurd hj (Nat.not_lt_zero _)⟩⟩
        case round =>
          obtain ⟨k, rfl, hk, hb, HT⟩ := hrel
          have H5 := Aside0.mk (HL.out.grow hb)
          have HBQ := Aside0.mk hb
          have c5 := H5.out.c2
          clear hb
          by_cases hlt2 : k < xs.length
          · obtain ⟨ad, x, A1, c1, A6, c6, rfl, HE, y0, y1, y2, y3, y4, y5, y6, HKX⟩ := Deed.at_ HR.out k hlt2
            have HXK : Aside0 (xs.getD k Deed.z = x) := ⟨by rw [List.getD_eq_getElem?_getD, HE.out]; rfl⟩
            replace y0 := pw_cell_below H5.out.below y0
            replace y1 := pw_cell_below H5.out.below y1
            replace y2 := pw_cell_below H5.out.below y2
            replace y3 := pw_cell_below H5.out.below y3
            replace y4 := pw_cell_below H5.out.below y4
            replace y5 := pw_cell_below H5.out.below y5
            replace y6 := pw_cell_below H5.out.below y6
            have hrow := cell_alloc (H5.out.rowAt hlt2).1
            have HIK := Aside0.mk (HIN.out k hlt2)
            generalize bs.getD k false = b at *
            cases b with
            | true =>
              go_wp2
              go_roundw
              case rel => exact ⟨k + 1, by go_num, by omega, below_alloc HBQ.out _, ⟨fun j hj hjn => by
                rcases Nat.lt_succ_iff_lt_or_eq.1 hj with h | rfl
                · exact HT.out j h hjn
                · exact absurd (of_decide_eq_true HIK.out.symm) hjn⟩⟩
              case measure => simp [intOf]; omega
            | false =>
              have HNI := Aside0.mk (of_decide_eq_false HIK.out.symm)
              obtain ⟨xk, xb, xf, xt, xd, xv⟩ := x
              cases xd with
              | true =>
                go_wp2
                go_ret
                exact ⟨false, rfl, ⟨fun h => (by simp at h), fun h => absurd h (not_left hlt2 HNI.out (.inl (by rw [HXK.out])))⟩, below_alloc H5.out.below _⟩
              | false =>
                have hcb : Below w.heap.size w (wr.alloc (.cells #[.int .i64 xk, .slice A1 xb.length c1, .int .i64 xf, .int .i64 xt, .bool false, .bool xv.has, .slice A6 xv.b.length c6] 30)) := below_alloc H5.out.below _
                have HCI := Aside0.mk (containsFunc_int B d order 35 #[.pointer (some ⟨wr.heap.size, 0, none⟩), .pointer (some ⟨w.heap.size, 0, none⟩)] (fun x => decide (xt < (xs.getD x.toNat Deed.z).from_)) _ (Kd.C_below HO.out hcb) HM.out callFunc35 (fun x hx w9 hb9 => by
                  obtain ⟨a, ha, hxa⟩ := List.getElem_of_mem hx
                  obtain ⟨j, hj1, hj2⟩ := HG.out.rng a ha
                  rw [List.getElem?_eq_getElem ha, hxa] at hj1
                  injection hj1 with hj1
                  subst hj1
                  exact holds2_calls j wr.heap.size w.heap.size (some ad) c xs xt w9 hj2 (Kd.C_below HR.out (below_step hcb hb9)) (pw_cell_below hb9 (cell_new _ _ _ _ 3 _ rfl)) (pw_cell_below hb9 (cell_alloc c5 _))))
                have HCB := Aside0.mk hcb
                clear hcb
                cases hany2 : order.any (fun x => decide (xt < (xs.getD x.toNat Deed.z).from_)) with
                | true =>
                  rw [hany2] at HCI
                  have HA2 := Aside0.mk hany2
                  clear hany2
                  go_wp2_with (first | ((with_reducible refine HCI.out.mono ?_); rintro e w9 ⟨rfl, hb9⟩; have HB9 := Aside0.mk hb9; clear hb9))
                  go_ret
                  exact ⟨false, rfl, ⟨fun h => (by simp at h), fun h => absurd h (not_left hlt2 HNI.out (.inr (by
                    obtain ⟨x, hx, hxx⟩ := List.any_eq_true.1 HA2.out
                    exact ⟨x, hx, by rw [HXK.out]; exact of_decide_eq_true hxx⟩)))⟩, below_step HCB.out HB9.out⟩
                | false =>
                  rw [hany2] at HCI
                  have HA2 := Aside0.mk hany2
                  clear hany2
                  go_wp2_with (first | ((with_reducible refine HCI.out.mono ?_); rintro e w9 ⟨rfl, hb9⟩; have HB9 := Aside0.mk hb9; clear hb9))
                  go_roundw
                  case rel => exact ⟨k + 1, by go_num, by omega, below_step (below_alloc HBQ.out _) HB9.out, ⟨fun j hj hjn => by
                    rcases Nat.lt_succ_iff_lt_or_eq.1 hj with h | rfl
                    · exact HT.out j h hjn
                    · rw [HXK.out]
                      refine ⟨rfl, fun x hx => ?_⟩
                      have := List.any_eq_false.1 HA2.out x hx
                      simp only [decide_eq_true_eq] at this
                      show _ ≤ xt
                      omega⟩⟩
                  case measure => simp [intOf]; omega
          · obtain rfl : k = xs.length := by omega
            go_wp2
            go_ret
            exact ⟨true, rfl, ⟨fun _ => ⟨HA.out, ⟨v, HG.out⟩, fun k hk => HT.out k hk⟩, fun _ => rfl⟩, H5.out.below⟩
end LinH
end Go.Proofs.Ytgconogjnjhmgaa
