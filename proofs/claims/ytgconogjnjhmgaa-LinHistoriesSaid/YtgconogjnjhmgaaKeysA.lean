/- Layer lin: Keys. -/
import Derived.Test.YtgconogjnjhmgaaRightA
import Derived.Test.YtgconogjnjhmgaaShelf
import Derived.Sort.OwnSorted
import Derived.Lib.OwnBridge
namespace Go.Proofs.Ytgconogjnjhmgaa
open Go.RowKit Go.Proofs.YtgconogjnjhmgaaW.PrintWords
namespace KeysA
def keyL (x : Note) : List UInt8 := x.call.key.data.toList
def rawKeys (l : List Note) : List (List UInt8) := (l.filter fun x => !x.isAnswer).map keyL
def sortKeys (l : List (List UInt8)) : List (List UInt8) := Lib.compact (l.mergeSort fun x y => decide (x ≤ y))
def keysL (xs : List Note) : List (List UInt8) := sortKeys (rawKeys xs)
def toB (l : List UInt8) : ByteArray := ⟨l.toArray⟩
theorem rawKeys_snoc (l : List Note) (x : Note) : rawKeys (l ++ [x]) = rawKeys l ++ (if x.isAnswer then [] else [keyL x]) := by
  unfold rawKeys; rw [List.filter_append, List.map_append]; cases hx : x.isAnswer <;> simp [hx]
theorem rawKeys_length (l : List Note) : (rawKeys l).length ≤ l.length := by
  unfold rawKeys; rw [List.length_map]; exact List.length_filter_le _ _
theorem infoS : (Try.prog.info? 9).map (fun i => (i.zero, i.size, i.bytes)) = some (some (.string ByteArray.empty), 1, 16) := by kernel_rfl
theorem mem_compact {l : List (List UInt8)} {x : List UInt8} (h : x ∈ Lib.compact l) : x ∈ l := by
  unfold Lib.compact Lib.compactUpTo at h
  obtain ⟨j, hj, rfl⟩ := List.mem_map.1 h
  have hj2 := List.mem_range.1 (List.mem_filter.1 hj).1
  rw [getElem!_pos _ _ (by simpa using hj2)]
  simp
theorem compact_length (l : List (List UInt8)) : (Lib.compact l).length ≤ l.length := by
  unfold Lib.compact Lib.compactUpTo
  rw [List.length_map]
  exact Nat.le_trans (List.length_filter_le _ _) (by simp)
theorem mem_sortKeys {l : List (List UInt8)} {x : List UInt8} (h : x ∈ sortKeys l) : x ∈ l := (List.mergeSort_perm _ _).mem_iff.1 (mem_compact h)
theorem sortKeys_length (l : List (List UInt8)) : (sortKeys l).length ≤ l.length := by
  have := compact_length (l.mergeSort fun x y => decide (x ≤ y))
  rwa [List.length_mergeSort] at this
/-- A slice of texts of the call's own, as a row that is read. -/
theorem strs_C {w : World} {B : Nat} {v : Value} {l : List (List UInt8)} (h : w.ownsRow B 9 1 v l.length (l.map encStr)) (hs : ∀ x ∈ l, x.length ≤ 140737488351232) : ∃ A c, v = .slice A l.length c ∧ l.length ≤ c ∧ kStr.C w A l.length (l.map toB) := by
  rcases h.2 with ⟨rfl, h0⟩ | ⟨g, cap, cur, rfl, hb, hh, hn, hm, hz, ht⟩
  · have : l = [] := List.eq_nil_of_length_eq_zero h0
    subst this
    exact ⟨none, 0, rfl, Nat.le_refl _, Kd.C_nil _ _⟩
  · have hm' : cap ≤ 9223372036854775807 := by simpa [maxLen] using hm
    refine ⟨_, cap, rfl, hn, by simp, by omega, fun _ => ⟨_, rfl, fun j q hj => ⟨[.string q], rfl, ⟨rfl, ?_⟩, fun i u hu => ?_⟩⟩⟩
    · rw [List.getElem?_map] at hj
      obtain ⟨k, hk, rfl⟩ := Option.map_eq_some_iff.1 hj
      have := hs k (List.mem_of_getElem? hk)
      simpa [toB, ByteArray.size] using this
    · obtain rfl : i = 0 := by
        rcases i with _ | i
        · rfl
        · simp at hu
      simp at hu
      subst hu
      have hc := h.cells (g := g) rfl j (.string q) (by rw [List.getElem?_map] at hj ⊢; obtain ⟨k, hk, rfl⟩ := Option.map_eq_some_iff.1 hj; rw [hk]; rfl)
      have e1 : j * kStr.sz + 0 = j := by show j * 1 + 0 = j; omega
      rw [e1]
      exact hc
def KeysTold (xs : List Note) (w : World) (e : Ending) (w' : World) : Prop :=
  ∃ A cap, e = .returned (.slice A (keysL xs).length cap) ∧ (keysL xs).length ≤ cap ∧ kStr.C w' A (keysL xs).length ((keysL xs).map toB) ∧ Below w.heap.size w w'
/-- Sorted, and each once: behind the two calls of the library. -/
theorem sorted_calls (B : Nat) (v : Value) (l : List (List UInt8)) (w : World) (hown : w.ownsRow B 9 1 v l.length (l.map encStr)) (hl : l.length ≤ 1300000000000) :
    Calls Try.prog 41 #[v] w fun e w' => e = .returned (.tuple #[]) ∧ w'.ownsRow B 9 1 v (l.mergeSort fun x y => decide (x ≤ y)).length ((l.mergeSort fun x y => decide (x ≤ y)).map encStr) ∧ w.grownBy w' v.ownBlock := by
  rcases hown.2 with ⟨rfl, h0⟩ | ⟨g, cap, cur, rfl, hb, hh, hn, hm, hz, ht⟩
  · have : l = [] := List.eq_nil_of_length_eq_zero h0
    subst this
    refine (Try.slices_Sort_string_none none 0 w).mono ?_
    rintro e w1 ⟨rfl, rfl⟩
    exact ⟨rfl, by simpa using hown, World.grownBy.refl _ _⟩
  · rw [Nat.mul_one] at ht
    refine (Try.slices_Sort_string g 0 cap l w (holds_of_block hh ht) (Array.getElem?_eq_some_iff.1 hh).1 (by omega)).mono ?_
    rintro e w1 ⟨rfl, n, os, rfl⟩
    refine ⟨rfl, ?_, grownBy_sorted _⟩
    have := ownsRow_sorted (n := n) (os := os) (ss := l) (ts := l.mergeSort fun x y => decide (x ≤ y)) (by simp) hb hh hn hm hz
    rw [List.length_mergeSort]
    exact this
theorem compact_calls (B : Nat) (v : Value) (l : List (List UInt8)) (w : World) (hown : w.ownsRow B 9 1 v l.length (l.map encStr)) (hl : l.length ≤ 1300000000000) :
    Calls Try.prog 42 #[v] w fun e w' => ∃ v1, e = .returned v1 ∧ w'.ownsRow B 9 1 v1 (Lib.compact l).length ((Lib.compact l).map encStr) ∧ w.grownBy w' v.ownBlock := by
  rcases hown.2 with ⟨rfl, h0⟩ | ⟨g, cap, cur, rfl, hb, hh, hn, hm, hz, ht⟩
  · have : l = [] := List.eq_nil_of_length_eq_zero h0
    subst this
    refine (Try.slices_Compact_string_empty none 0 w).mono ?_
    rintro e w1 ⟨rfl, rfl⟩
    exact ⟨_, rfl, hown, World.grownBy.refl _ _⟩
  · rw [Nat.mul_one] at ht
    refine (Try.slices_Compact_string g 0 cap l w (holds_of_block hh ht) (by omega) hn).mono ?_
    rintro e w1 ⟨rfl, n, rfl⟩
    have hle := compact_length l
    refine ⟨_, rfl, ?_, by simpa [Value.ownBlock] using grownBy_sorted (w := w) (g := g) (n := n) (os := #[]) (Lib.compact l ++ List.replicate (l.length - (Lib.compact l).length) []).toArray⟩
    have := Lib.ownsRow_putRow (q := n) (k := (Lib.compact l).length) (ys := Lib.compact l ++ List.replicate (l.length - (Lib.compact l).length) []) hown (by simp; omega) hle
    simpa using this
theorem enc_one (x : List UInt8) : (encStr x).oneCell' = true := rfl
theorem raw_size {A : Option Addr} {xs : List Note} {w : World} (hr : Note.k.C w A xs.length xs) : ∀ y ∈ rawKeys xs, y.length ≤ 140737488351232 := by
  intro y hy
  obtain ⟨x, hx, rfl⟩ := List.mem_map.1 hy
  obtain ⟨k, hk, rfl⟩ := List.mem_iff_getElem.1 (List.mem_filter.1 hx).1
  obtain ⟨ad, x, A4, c4, A8, c8, rfl, HE, hx0, hx1, hx2, hx3, hx4, hx5, hx6, hx7, hx8, HMM⟩ := Note.at_ hr k hk
  obtain ⟨_, _, _, _, he, r1, r2, s3, _⟩ := Note.open_ HMM.out
  have e := HE.out
  rw [List.getElem?_eq_getElem hk] at e
  injection e with e
  rw [e]
  exact s3
set_option maxRecDepth 100000 in
set_option maxHeartbeats 1000000 in
theorem keys_calls (A : Option Addr) (c : Nat) (xs : List Note) (w : World) (hr : Note.k.C w A xs.length xs) (hn : xs.length ≤ 1300000000000) :
    Calls Try.prog 17 #[.slice A xs.length c] w (KeysTold xs w) := by
  have HR := Aside0.mk hr
  clear hr
  go_enter Try.func17, Try.ntmps17
  go_wp2
  go_loopw [3, 8] (fun v3 v8 wr => ∃ k : Nat, v8 = .int .i64 k ∧ k ≤ xs.length ∧ Aside0 (Below w.heap.size w wr) ∧ Aside0 (wr.ownsRow w.heap.size 9 1 v3 (rawKeys (xs.take k)).length ((rawKeys (xs.take k)).map encStr))) (fun _ v8 _ => xs.length - (intOf v8).toNat)
  case atStart => exact ⟨0, rfl, Nat.zero_le _, ⟨Below.refl _ _⟩, ⟨own_nil _ _ _ _⟩⟩
  case round =>
    obtain ⟨k, rfl, hk, HB, HO⟩ := hrel
    by_cases hlt : k < xs.length
    · obtain ⟨ad, x, A4, c4, A8, c8, rfl, HE, hx0, hx1, hx2, hx3, hx4, hx5, hx6, hx7, hx8, HMM⟩ := Note.at_ (Kd.C_below HR.out HB.out) k hlt
      have HS : Aside0 (rawKeys (xs.take (k + 1)) = rawKeys (xs.take k) ++ (if x.isAnswer then [] else [keyL x])) := ⟨by rw [List.take_add_one, HE.out]; exact rawKeys_snoc _ _⟩
      obtain ⟨xa, ⟨ci, ck, cy, cb⟩, ⟨ai, ae, av⟩⟩ := x
      cases xa with
      | true =>
        go_wp2
        go_roundw
        case rel => exact ⟨k + 1, by go_num, by omega, ⟨below_alloc HB.out _⟩, ⟨by rw [HS.out]; simpa using HO.out.alloc _⟩⟩
        case measure => simp [intOf]; omega
      | false =>
        have HL : Aside0 ((rawKeys (xs.take k)).length ≤ k) := ⟨by have := rawKeys_length (xs.take k); rw [List.length_take] at this; omega⟩
        go_wp2_with (first | (at_builtin; refine print_append (w0 := w) w.heap.size rfl _ _ 40 9 (.string ByteArray.empty) 16 rfl Try.underlying40 infoS rfl (by omega) u3 ((rawKeys (xs.take k)).map encStr) (.string cy) rfl (by show Value.slice (some ⟨wr.heap.size + 1, 0, none⟩) 1 1 = _; simp) rfl (by rw [List.length_map]; exact HO.out.alloc _) (below_alloc HB.out _) (below_alloc HB.out _).size (by rw [List.length_map]; have := HL.out; omega) ?_; intro v1 w3 hown hB3 hg3 hat3; have HOW := Aside0.mk hown; have HB3 := Aside0.mk hB3; clear hown hB3 hg3 hat3))
        go_roundw
        case rel => exact ⟨k + 1, by go_num, by omega, HB3, ⟨by rw [HS.out]; simpa [keyL] using HOW.out⟩⟩
        case measure => simp [intOf]; omega
    · obtain rfl : k = xs.length := by omega
      have HO2 : Aside0 (wr.ownsRow w.heap.size 9 1 u3 (rawKeys xs).length ((rawKeys xs).map encStr)) := ⟨by have := HO.out; rwa [List.take_length] at this⟩
      have HL : Aside0 ((rawKeys xs).length ≤ 1300000000000) := ⟨by have := rawKeys_length xs; omega⟩
      go_wp2_with (first | ((with_reducible refine (sorted_calls w.heap.size u3 (rawKeys xs) wr HO2.out HL.out).mono ?_); rintro e w1 ⟨rfl, ho1, hg1⟩; have HO3 := Aside0.mk ho1; have HG1 := Aside0.mk hg1; have HB1 := Aside0.mk (HB.out.grown hg1 HB.out.size (own_base HO2.out)); clear ho1 hg1))
      have hl2 : ((rawKeys xs).mergeSort fun x y => decide (x ≤ y)).length ≤ 1300000000000 := by rw [List.length_mergeSort]; exact HL.out
      have HC := Aside0.mk (compact_calls w.heap.size u3 ((rawKeys xs).mergeSort fun x y => decide (x ≤ y)) w1 HO3.out hl2)
      clear hl2
      go_wp2_with (first | (refine HC.out.mono ?_; rintro e w2 ⟨v1, rfl, ho2, hg2⟩; have HO4 := Aside0.mk ho2; have HB2 := Aside0.mk (HB1.out.grown hg2 HB1.out.size (own_base HO3.out)); clear ho2 hg2))
      go_ret
      obtain ⟨A', c', rfl, h1, h2⟩ := strs_C HO4.out (fun y hy => raw_size HR.out y (mem_sortKeys hy))
      exact ⟨A', c', rfl, h1, h2, HB2.out⟩
end KeysA
end Go.Proofs.Ytgconogjnjhmgaa
