/- LinTells, walked. -/
import Derived.Test.YtgconogjnjhmgaaLinJ
import Derived.Test.YtgconogjnjhmgaaKindsR
namespace Go.Proofs.Ytgconogjnjhmgaa
open Go.RowKit Go.Proofs.YtgconogjnjhmgaaW.PrintWords
namespace LinK
open LinA LinB LinC LinD LinE LinF LinG LinH LinI LinJ
def TrueB (w : World) (e : Ending) (w' : World) : Prop := e = .returned (.bool true) ∧ Below w.heap.size w w'
theorem path_len {xs : List Deed} {m : Nat} {v : Val} {p : List Nat} (h : Path xs m v p) : p.length ≤ free xs m := by
  induction h with
  | done _ => exact Nat.zero_le _
  | step _ h2 h3 _ _ ih =>
    have := free_lt h2 (mayB_bit h3)
    rw [List.length_cons]
    omega
theorem free_le (xs : List Deed) (m : Nat) : free xs m ≤ xs.length := by
  unfold free
  have := List.length_filter_le (fun k => !m.testBit k) (List.range xs.length)
  rwa [List.length_range] at this
theorem ord_len {xs : List Deed} {p : List Nat} {c : Int} (h : Ord xs p c) : p.length ≤ xs.length := by
  rcases h with ⟨_, _, rfl⟩ | ⟨_, _, _, rfl⟩ | ⟨_, _, _, rfl, _⟩ | ⟨_, _, _, h⟩
  · exact Nat.zero_le _
  · exact Nat.zero_le _
  · exact Nat.zero_le _
  · exact Nat.le_trans (path_len h) (free_le _ _)
set_option maxRecDepth 100000 in
set_option maxHeartbeats 1000000 in
theorem linTells_calls (A B : Option Addr) (c d : Nat) (xs : List Deed) (order : List Int) (w : World) (hr : Deed.k.C w A xs.length xs) (ho : (kInt .i64).C w B order.length order) (hn : xs.length ≤ 70368744177664) (hm : order.length ≤ 70368744177664) (hod : order.length ≤ d) (hs : ∀ x ∈ xs, Short x) :
    Calls Try.prog 3 #[.slice A xs.length c, .slice B order.length d] w (TrueB w) := by
  have HR := Aside0.mk hr
  have HO := Aside0.mk ho
  have HM := Aside0.mk hm
  have HLG := Aside0.mk (long_calls A c xs w hr hn hs)
  clear hr ho hs
  by_cases hlong : longB xs = true
  · rw [hlong] at HLG
    clear hlong
    go_enter Try.func3, Try.ntmps3
    go_wp2_with (first | ((with_reducible refine HLG.out.mono ?_); rintro e w1 ⟨rfl, hb1⟩; have HB1 := Aside0.mk hb1; clear hb1) | ((with_reducible refine (known_true _).mono ?_); rintro e w2 ⟨rfl, hb2⟩; have HB2 := Aside0.mk hb2; clear hb2))
    go_ret
    exact ⟨rfl, below_step HB1.out HB2.out⟩
  · have hlong' : longB xs = false := by simpa using hlong
    have h7 : xs.length ≤ 7 := by
      unfold longB at hlong'
      simp at hlong'
      exact hlong'.1
    rw [hlong'] at HLG
    clear hlong hlong'
    by_cases h20 : order.length ≤ 20
    · go_enter Try.func3, Try.ntmps3
      go_wp2_with (first | ((with_reducible refine HLG.out.mono ?_); rintro e w1 ⟨rfl, hb1⟩; have HB1 := Aside0.mk hb1; clear hb1) | ((with_reducible refine (known_true _).mono ?_); rintro e w2 ⟨rfl, hb2⟩; have HB2 := Aside0.mk hb2; clear hb2))
      go_loopw [5] (fun v wr => ∃ k : Nat, v = .int .i64 k ∧ k ≤ xs.length ∧ Below w.heap.size w wr) (fun v _ => xs.length - (intOf v).toNat)
      case atStart => exact ⟨0, rfl, Nat.zero_le _, HB1.out⟩
      case round =>
        obtain ⟨k, rfl, hk, hb⟩ := hrel
        by_cases hlt : k < xs.length
        · obtain ⟨ad, x, A1, c1, A6, c6, rfl, HE, hx0, hx1, hx2, hx3, hx4, hx5, hx6, HMM⟩ := Deed.at_ (Kd.C_below HR.out hb) k hlt
          have HB := Aside0.mk hb
          have g0 : (0 : Int) ≤ (k : Int) := by omega
          have g1 : (k : Int) < (xs.length : Int) := by omega
          clear hb hx0 hx1 hx5 hx6 HMM
          by_cases hc1 : x.to_ < x.from_
          · have hd1 : decide (x.to_ < x.from_) = true := decide_eq_true hc1
            go_wp2
            go_quiet (fail)
            go_wp2_with (first | ((with_reducible refine (known_true _).mono ?_); rintro e w2 ⟨rfl, hb2⟩; have HB2 := Aside0.mk hb2; clear hb2))
            go_ret
            exact ⟨rfl, below_step (pw_below_drewN HB.out _) HB2.out⟩
          · have hd1 : decide (x.to_ < x.from_) = false := decide_eq_false hc1
            generalize x.done = bd at *
            cases bd with
            | true =>
              go_wp2
              go_quiet (fail)
              go_wp2
              go_roundw
              case rel => exact ⟨k + 1, by go_num, by omega, pw_below_drewN HB.out _⟩
              case measure => simp [intOf]; omega
            | false =>
              by_cases hc2 : x.to_ < 1000
              · have hd2 : decide (x.to_ < 1000) = true := decide_eq_true hc2
                go_wp2
                go_quiet (fail)
                go_wp2_with (first | ((with_reducible refine (known_true _).mono ?_); rintro e w2 ⟨rfl, hb2⟩; have HB2 := Aside0.mk hb2; clear hb2))
                go_ret
                exact ⟨rfl, below_step (pw_below_drewN HB.out _) HB2.out⟩
              · have hd2 : decide (x.to_ < 1000) = false := decide_eq_false hc2
                go_wp2
                go_quiet (fail)
                go_wp2
                go_roundw
                case rel => exact ⟨k + 1, by go_num, by omega, pw_below_drewN HB.out _⟩
                case measure => simp [intOf]; omega
        · have HB := Aside0.mk hb
          clear hb hk
          go_wp2
          obtain ⟨wo, rfl⟩ : ∃ wo : World, wo = wr := ⟨_, rfl⟩
          go_loopw [6] (fun v wr => ∃ k : Nat, v = .int .i64 k ∧ k ≤ xs.length ∧ Below w.heap.size w wr) (fun v _ => xs.length - (intOf v).toNat)
          case atStart => exact ⟨0, rfl, Nat.zero_le _, HB.out⟩
          case round =>
            clear hlt HB HB1
            obtain ⟨k, rfl, hk, hb⟩ := hrel
            have HB := Aside0.mk hb
            by_cases hlt : k < xs.length
            · obtain ⟨ad, x, A1, c1, A6, c6, rfl, HE, hx0, hx1, hx2, hx3, hx4, hx5, hx6, HMM⟩ := Deed.at_ (Kd.C_below HR.out hb) k hlt
              clear hb hx0 hx1 hx3 hx4 hx5 hx6 HMM
              by_cases hc1 : x.from_ < 1000
              · go_wp2
                go_roundw
                case rel => exact ⟨k + 1, by go_num, by omega, HB.out⟩
                case measure => simp [intOf]; omega
              · go_wp2_with (first | ((with_reducible refine (known_true _).mono ?_); rintro e w2 ⟨rfl, hb2⟩; have HB2 := Aside0.mk hb2; clear hb2))
                go_ret
                exact ⟨rfl, below_step HB.out HB2.out⟩
            · clear hb
              go_wp2_with fail
              refine (order_calls A c xs _ (Kd.C_below HR.out HB.out) (by omega)).mono ?_
              rintro e w3 ⟨p, cc, A3, c3, rfl, hl3, hC3, hb3, hord⟩
              have hC3' : (kInt .i64).C w3 A3 (LinF.nums p).length (LinF.nums p) := by
                have e : (LinF.nums p).length = p.length := by unfold LinF.nums; rw [List.length_map]
                rw [e]; exact hC3
              have hpl : (LinF.nums p).length = p.length := by unfold LinF.nums; rw [List.length_map]
              have H3 := Aside0.mk hC3'
              have HB3 := Aside0.mk (below_step HB.out hb3)
              have HPL := Aside0.mk hpl
              have HORD := Aside0.mk hord
              have hlen := ord_len hord
              have hHA := Aside0.mk (holds_calls A A3 c c3 xs (LinF.nums p) w3 (Kd.C_below HR.out HB3.out) H3.out (by omega) (by omega) (by omega))
              rw [hpl] at hHA
              have hHB := fun (W : World) (hW : Below w3.heap.size w3 W) => holds_calls A B c d xs order W (Kd.C_below HR.out (below_step HB3.out hW)) (Kd.C_below HO.out (below_step HB3.out hW)) (by omega) (by omega) hod
              have HHB := Aside0.mk hHB
              clear hHB hC3 hC3' hb3 hord hpl hlen
              by_cases hcc : cc = 0
              · subst hcc
                go_wp2_with fail
                refine hHA.out.mono ?_
                rintro e w4 ⟨b, rfl, hb4, hbl4⟩
                obtain rfl : b = true := hb4.2 (ord_holds HORD.out rfl)
                have HB4 := Aside0.mk hbl4
                clear hb4 hbl4
                go_wp2_with fail
                refine (HHB.out w4 HB4.out).mono ?_
                rintro e w5 ⟨b, rfl, hb5, hbl5⟩
                have HB5 := Aside0.mk (below_step (below_step HB3.out HB4.out) hbl5)
                clear hb5 hbl5
                cases b
                all_goals
                  go_wp2_with (first | ((with_reducible refine (known_true _).mono ?_); rintro e w6 ⟨rfl, hb6⟩; have HB6 := Aside0.mk hb6; clear hb6))
                  go_ret
                  exact ⟨rfl, below_step HB5.out HB6.out⟩
              · have hc0 : (cc == 0) = false := by simpa using hcc
                have HCC := Aside0.mk hcc
                clear hcc
                go_wp2_with fail
                refine (HHB.out w3 (Below.refl _ _)).mono ?_
                rintro e w5 ⟨b, rfl, hb5, hbl5⟩
                have hbf : b = false := by
                  cases b
                  · rfl
                  · exact absurd (holds_ord (hb5.1 rfl) (by omega) HORD.out) HCC.out
                subst hbf
                have HB5 := Aside0.mk (below_step HB3.out hbl5)
                clear hb5 hbl5
                go_wp2_with (first | ((with_reducible refine (known_true _).mono ?_); rintro e w6 ⟨rfl, hb6⟩; have HB6 := Aside0.mk hb6; clear hb6))
                go_ret
                exact ⟨rfl, below_step HB5.out HB6.out⟩
    · have h20' : 20 < order.length := by omega
      go_enter Try.func3, Try.ntmps3
      go_wp2_with (first | ((with_reducible refine HLG.out.mono ?_); rintro e w1 ⟨rfl, hb1⟩; have HB1 := Aside0.mk hb1; clear hb1) | ((with_reducible refine (known_true _).mono ?_); rintro e w2 ⟨rfl, hb2⟩; have HB2 := Aside0.mk hb2; clear hb2))
      go_ret
      exact ⟨rfl, below_step HB1.out HB2.out⟩
theorem bd_short {xs : List Deed} (h : BdS 88 Deed.Bd xs) : (∀ x ∈ xs, Short x) ∧ xs.length ≤ 70368744177664 := by
  refine ⟨fun x hx => ?_, by have := h.1; omega⟩
  have hb := h.2 x hx
  exact ⟨by have := hb.2.1.1; omega, by have := hb.2.2.2.2.2.2.1; omega⟩
theorem bd_ints {xs : List Int} (h : BdS 8 BdT xs) : xs.length ≤ 70368744177664 := by have := h.1; omega
end LinK
end Go.Proofs.Ytgconogjnjhmgaa
