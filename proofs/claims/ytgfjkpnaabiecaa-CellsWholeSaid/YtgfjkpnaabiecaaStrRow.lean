/- Rows of texts: is one in a row? -/
import Derived.Test.YtgfjkpnaabiecaaFrame
import Derived.WalkSpells
set_option linter.unusedVariables false
set_option linter.unusedSimpArgs false
namespace Go.Proofs.Ytgfjkpnaabiecaa
open Go.RowKit Go.Proofs.YtgfjkpnaabiecaaW.PrintWords
namespace StrRow
theorem str_at {w : World} {A : Option Addr} {n : Nat} {xs : List ByteArray} (h : kStr.C w A n xs) (k : Nat) (h1 : k < n) : ∃ ad x, A = some ad ∧ Aside0 (xs[k]? = some x) ∧ w.cell? (ad.add k) = some (.string x) ∧ x.size ≤ 140737488351232 := by
  have hl : xs.length = n := h.1
  obtain ⟨ad, c, e, _, hK, hc0⟩ := Kd.C_get h ByteArray.empty (k : Int) (by omega) (by omega)
  have hc : ∀ j u, c[j]? = some u → w.cell? (ad.add (k * 1 + j)) = some u := hc0
  have hx : xs[k]? = some (xs.getD k ByteArray.empty) := by simp [List.getD_eq_getElem?_getD, show k < xs.length by omega]
  have hK' : kStr.K w (xs.getD k ByteArray.empty) c := hK
  generalize xs.getD k ByteArray.empty = x at hK' hx
  obtain ⟨rfl, hs⟩ := hK'
  exact ⟨ad, x, e, ⟨hx⟩, by have := hc 0 _ rfl; simpa using this, hs⟩
/-- A slice of texts of the call's own, as a row that is read. -/
theorem own_C {w : World} {B : Nat} {v : Value} {l : List ByteArray} (h : w.ownsRow B 9 1 v l.length (l.map Value.string)) (hs : ∀ x ∈ l, x.size ≤ 140737488351232) : ∃ A c, v = .slice A l.length c ∧ l.length ≤ c ∧ kStr.C w A l.length l ∧ ∀ ad, A = some ad → B ≤ ad.block := by
  rcases h.2 with ⟨rfl, h0⟩ | ⟨g, cap, cur, rfl, hb, hh, hn, hm, hz, ht⟩
  · have : l = [] := List.eq_nil_of_length_eq_zero h0
    subst this
    exact ⟨none, 0, rfl, Nat.le_refl _, Kd.C_nil _ _, fun ad e => by cases e⟩
  · have hm' : cap ≤ 9223372036854775807 := by simpa [maxLen] using hm
    refine ⟨_, cap, rfl, hn, ⟨rfl, by omega, fun _ => ⟨_, rfl, fun j q hj => ⟨[.string q], rfl, ⟨rfl, hs q (List.mem_of_getElem? hj)⟩, fun i u hu => ?_⟩⟩⟩, fun ad e => by injection e with e; rw [← e]; exact hb⟩
    obtain rfl : i = 0 := by
      rcases i with _ | i
      · rfl
      · simp at hu
    simp at hu
    subst hu
    have hc := h.cells (g := g) rfl j (.string q) (by rw [List.getElem?_map, hj]; rfl)
    have e1 : j * kStr.sz + 0 = j := by show j * 1 + 0 = j; omega
    rw [e1]
    exact hc
/-- A row whose elements lead nowhere, where others are written. -/
theorem C_only {w w1 : World} {S : List Nat} {A : Option Addr} {n : Nat} {xs : List ByteArray} (h : kStr.C w A n xs) (o : Only S w w1) (hA : ∀ ad, A = some ad → ad.block ∉ S) : kStr.C w1 A n xs := by
  obtain ⟨h1, h2, h3⟩ := h
  refine ⟨h1, h2, fun hn => ?_⟩
  obtain ⟨ad, e, hc⟩ := h3 hn
  refine ⟨ad, e, fun j p hj => ?_⟩
  obtain ⟨cs, k1, k2, k3⟩ := hc j p hj
  refine ⟨cs, k1, k2, fun q u hq => ?_⟩
  have hx := k3 q u hq
  have hb := World.block_lt_of_cell? w _ hx
  rw [← hx]
  exact o.cell hb (by rw [adr_block]; exact hA ad e)
theorem txt_ne {a b : ByteArray} (h : a ≠ b) : ¬ a.toList = b.toList := fun e => h (by
  rw [ByteArray.toList_eq, ByteArray.toList_eq] at e
  exact ByteArray.ext (Array.toList_inj.1 e))
def hasS (xs : List ByteArray) (x : ByteArray) : Bool := xs.any (fun y => decide (y = x))
theorem hasS_iff {xs : List ByteArray} {x : ByteArray} : hasS xs x = true ↔ x ∈ xs := by
  unfold hasS
  simp only [List.any_eq_true, decide_eq_true_eq]
  exact ⟨fun ⟨y, h, e⟩ => e ▸ h, fun h => ⟨x, h, rfl⟩⟩
theorem hasS_no {xs : List ByteArray} {x : ByteArray} (h : x ∉ xs) : hasS xs x = false := by
  cases e : hasS xs x with
  | false => rfl
  | true => exact absurd (hasS_iff.1 e) h
set_option maxRecDepth 100000 in
theorem index_calls (A : Option Addr) (c : Nat) (xs : List ByteArray) (x : ByteArray) (w : World) (hr : kStr.C w A xs.length xs) :
    Calls Try.prog 85 #[.slice A xs.length c, .string x] w fun e w' => ∃ i : Int, e = .returned (.int .i64 i) ∧ decide (0 ≤ i) = hasS xs x ∧ w = w' := by
  have hm : xs.length ≤ 9223372036854775807 := hr.2.1
  have HR := Aside0.mk hr
  clear hr
  go_enter Try.func85, Try.ntmps85
  go_wp2
  go_loop [5, 8] (fun _ i => ∃ k : Nat, k ≤ xs.length ∧ i = .int .i64 k ∧ Aside0 (x ∉ xs.take k)) (fun _ i => xs.length - (intOf i).toNat)
  case atStart => exact ⟨0, Nat.zero_le _, rfl, ⟨by simp⟩⟩
  case round =>
    obtain ⟨k, hk, rfl, HN⟩ := hrel
    by_cases hlt : k < xs.length
    · obtain ⟨ad, y, rfl, HY, hc, hy⟩ := str_at HR.out k hlt
      have HT : Aside0 (xs.take (k + 1) = xs.take k ++ [y]) := ⟨by rw [List.take_add_one, HY.out]; rfl⟩
      by_cases hxy : x = y
      · subst hxy
        have HM : Aside0 (hasS xs x = true) := ⟨hasS_iff.2 (List.mem_of_getElem? HY.out)⟩
        go_wp2
        go_ret
        exact ⟨_, rfl, by rw [HM.out]; simp, rfl⟩
      · have HD := Aside0.mk hxy
        have hd : (x.toList == y.toList) = false := by simpa using txt_ne hxy
        clear hxy
        go_wp2
        go_round
        case rel => exact ⟨k + 1, by omega, by go_num, ⟨by rw [HT.out]; simp only [List.mem_append, List.mem_singleton, not_or]; exact ⟨HN.out, HD.out⟩⟩⟩
        case measure => simp [intOf]; omega
    · obtain rfl : k = xs.length := by omega
      go_wp2
      go_ret
      exact ⟨_, rfl, by rw [hasS_no (by have := HN.out; rwa [List.take_length] at this)]; rfl, rfl⟩
theorem contains_calls (A : Option Addr) (c : Nat) (xs : List ByteArray) (x : ByteArray) (w : World) (hr : kStr.C w A xs.length xs) :
    Calls Try.prog 76 #[.slice A xs.length c, .string x] w fun e w' => e = .returned (.bool (hasS xs x)) ∧ w = w' := by
  have HI := Aside0.mk (index_calls A c xs x w hr)
  clear hr
  go_enter Try.func76, Try.ntmps76
  go_wp2_with (first | (refine HI.out.mono ?_; rintro e w' ⟨i, rfl, hd, rfl⟩; have HD := Aside0.mk hd; clear hd))
  go_ret
  exact ⟨by rw [← HD.out]; rfl, rfl⟩
end StrRow
end Go.Proofs.Ytgfjkpnaabiecaa
