/- Layer lin: may. -/
import Derived.Test.YtgconogjnjhmgaaLinB
import Derived.Laws.ShiftsVarLaws
import Derived.Laws.BitsLemmas
namespace Go.Proofs.Ytgconogjnjhmgaa
open Go.RowKit Go.Proofs.YtgconogjnjhmgaaW.PrintWords
namespace LinC
theorem and1 (m k : Nat) (hm : m < 4294967296) : bits .and .u32 ((m : Int) / 2 ^ k) 1 = if m.testBit k then 1 else 0 := by
  have e : ((m : Int) / 2 ^ k) = ((m / 2 ^ k : Nat) : Int) := by push_cast; rfl
  have hlt : m / 2 ^ k < 2 ^ 32 := Nat.lt_of_le_of_lt (Nat.div_le_self _ _) hm
  have h := bits_nat .u32 32 (by decide) (fun n h0 h1 => by rw [IntKind.wrap_u32]; omega) (m / 2 ^ k) 1 hlt (by decide)
  rw [e, show (1 : Int) = ((1 : Nat) : Int) from rfl, h.1, Nat.and_one_is_mod, Nat.testBit_eq_decide_div_mod_eq]
  by_cases h2 : m / 2 ^ k % 2 = 1
  · rw [h2]; simp
  · have : m / 2 ^ k % 2 = 0 := by omega
    rw [this]; simp
theorem is1 {m k : Nat} (hm : m < 4294967296) {b : Bool} (h : m.testBit k = b) : (bits .and .u32 ((m : Int) / 2 ^ k) 1 == 1) = b := by
  rw [and1 m k hm, h]; cases b <;> rfl
theorem is0 {m k : Nat} (hm : m < 4294967296) {b : Bool} (h : m.testBit k = b) : (bits .and .u32 ((m : Int) / 2 ^ k) 1 == 0) = !b := by
  rw [and1 m k hm, h]; cases b <;> rfl
theorem below_drewN2 {w W : World} (h : Below w.heap.size w W) (n : Nat) : Below w.heap.size w (W.drewN n) := pw_below_drewN h n
/-- May deed k come next, where those of m stand already? -/
def clash (xs : List Deed) (m k j : Nat) : Bool := !m.testBit j && (j != k && decide ((xs.getD j Deed.z).to_ < (xs.getD k Deed.z).from_))
def mayB (xs : List Deed) (m k : Nat) : Bool := !m.testBit k && (List.range xs.length).all (fun j => !clash xs m k j)
theorem mayB_no {xs : List Deed} {m k j : Nat} (hj : j < xs.length) (h : clash xs m k j = true) : mayB xs m k = false := by
  unfold mayB
  rw [Bool.and_eq_false_iff]
  exact .inr (List.all_eq_false.2 ⟨j, by simpa using hj, by simp [h]⟩)
theorem mayB_yes {xs : List Deed} {m k : Nat} (h0 : m.testBit k = false) (h : ∀ j, j < xs.length → clash xs m k j = false) : mayB xs m k = true := by
  unfold mayB
  rw [h0]
  simp only [Bool.not_false, Bool.true_and, List.all_eq_true]
  intro j hj
  rw [h j (by simpa using hj)]; rfl
set_option maxHeartbeats 1000000 in
theorem may_calls (sb : Nat) (A : Option Addr) (c : Nat) (xs : List Deed) (m k : Nat) (w : World) (hm : m < 4294967296) (hk : k < xs.length) (hl : xs.length ≤ 20)
    (h0 : w.cell? ⟨sb, 0, none⟩ = some (.slice A xs.length c)) (hr : Deed.k.C w A xs.length xs) :
    Calls Try.prog 48 #[.pointer (some ⟨sb, 0, none⟩), .int .u32 m, .int .i64 k] w fun e w' => e = .returned (.bool (mayB xs m k)) ∧ Below w.heap.size w w' := by
  have HR := Aside0.mk hr
  have H0 := Aside0.mk h0
  clear hr
  cases hb : m.testBit k with
  | true =>
    have e1 := is1 hm hb
    have HB := Aside0.mk hb
    clear hb
    go_enter Try.func48, Try.ntmps48
    go_wp2_with fail
    go_ret
    exact ⟨by unfold mayB; rw [HB.out]; rfl, Below.refl _ _⟩
  | false =>
    have e1 := is1 hm hb
    have HB := Aside0.mk hb
    clear hb
    go_enter Try.func48, Try.ntmps48
    go_wp2_with fail
    clear h0 e1
    go_loopw [19] (fun v wr => ∃ j : Nat, v = .int .i64 j ∧ j ≤ xs.length ∧ Below w.heap.size w wr ∧ Aside0 (∀ i, i < j → clash xs m k i = false)) (fun v _ => xs.length - (intOf v).toNat)
    case atStart => exact ⟨0, rfl, Nat.zero_le _, Below.refl _ _, ⟨fun i hi => absurd hi (Nat.not_lt_zero _)⟩⟩
    case round =>
      obtain ⟨j, rfl, hj, hb, HX⟩ := hrel
      have hc0 := pw_cell_below hb H0.out
      have hsb := World.block_lt_of_cell? w _ H0.out
      simp only at hsb
      by_cases hlt : j < xs.length
      · obtain ⟨ad, x, A1, c1, A6, c6, hA, HE, hx0, hx1, hx2, hx3, hx4, hx5, hx6, HM⟩ := Deed.at_ (Kd.C_below HR.out hb) j hlt
        obtain ⟨ad', y, A1', c1', A6', c6', rfl, HE', hy0, hy1, hy2, hy3, hy4, hy5, hy6, HM'⟩ := Deed.at_ (Kd.C_below HR.out hb) k hk
        obtain rfl : ad' = ad := Option.some.inj hA
        clear hA hy0 hy1 hy3 hy4 hy5 hy6 HM HM'
        have HBW := Aside0.mk hb
        clear hb
        have hn : xs.length ≤ 20 := hl
        have hkI : 0 ≤ (k : Int) := by omega
        have hkL : (k : Int) < xs.length := by omega
        cases hbj : m.testBit j with
        | true =>
          have e0 : (bits .and .u32 ((m : Int) / 2 ^ j) 1 == 0) = false := is0 hm hbj
          have HJ := Aside0.mk hbj
          clear hbj
          go_wp2_with fail
          go_quiet (fail)
          go_wp2
          go_roundw
          case rel => exact ⟨j + 1, by go_num, by omega, below_drewN2 (below_alloc HBW.out _) _, ⟨fun i hi => by rcases Nat.lt_succ_iff_lt_or_eq.1 hi with h | rfl; exact HX.out i h; unfold clash; rw [HJ.out]; rfl⟩⟩
          case measure => simp [intOf]; omega
        | false =>
          have e0 : (bits .and .u32 ((m : Int) / 2 ^ j) 1 == 0) = true := is0 hm hbj
          have HJ := Aside0.mk hbj
          clear hbj
          by_cases hjk : j = k
          · subst hjk
            go_wp2_with fail
            go_quiet (fail)
            go_wp2
            go_roundw
            case rel => exact ⟨j + 1, by go_num, by omega, below_drewN2 (below_alloc HBW.out _) _, ⟨fun i hi => by rcases Nat.lt_succ_iff_lt_or_eq.1 hi with h | rfl; exact HX.out i h; unfold clash; simp⟩⟩
            case measure => simp [intOf]; omega
          · have e3 : ((j : Int) == (k : Int)) = false := by simp; omega
            have e4 : ((j : Int) != (k : Int)) = true := by simp; omega
            have hxj : xs.getD j Deed.z = x := by rw [List.getD_eq_getElem?_getD, HE.out]; rfl
            have hyk : xs.getD k Deed.z = y := by rw [List.getD_eq_getElem?_getD, HE'.out]; rfl
            have HCL : Aside0 (clash xs m k j = decide (x.to_ < y.from_)) := ⟨by unfold clash; rw [HJ.out, hxj, hyk]; simp [hjk]⟩
            clear hxj hyk hjk
            have hc0' := cell_alloc hc0
            have hy2' := cell_alloc hy2
            have hsz := (Aside0.mk (World.block_lt_of_cell? wr _ hc0))
            by_cases hcl : x.to_ < y.from_
            · rw [decide_eq_true hcl] at HCL
              go_wp2_with fail
              go_quiet (fail)
              go_wp2
              go_ret
              exact ⟨by rw [mayB_no hlt HCL.out]; rfl, below_drewN2 (below_alloc HBW.out _) _⟩
            · rw [decide_eq_false hcl] at HCL
              go_wp2_with fail
              go_quiet (fail)
              go_wp2
              go_roundw
              case rel => exact ⟨j + 1, by go_num, by omega, below_drewN2 (below_alloc HBW.out _) _, ⟨fun i hi => by rcases Nat.lt_succ_iff_lt_or_eq.1 hi with h | rfl; exact HX.out i h; exact HCL.out⟩⟩
              case measure => simp [intOf]; omega
      · go_wp2_with fail
        go_ret
        exact ⟨by rw [mayB_yes HB.out (fun i hi => HX.out i (by omega))]; rfl, hb⟩
end LinC
end Go.Proofs.Ytgconogjnjhmgaa
