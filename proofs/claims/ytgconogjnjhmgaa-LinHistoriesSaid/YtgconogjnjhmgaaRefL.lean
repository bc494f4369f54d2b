/- LinHistories, walked: the statement's own function returns true. -/
import Derived.Test.YtgconogjnjhmgaaRefK
import Derived.Test.YtgconogjnjhmgaaRefH
import Derived.Test.YtgconogjnjhmgaaCallsW
namespace Go.Proofs.Ytgconogjnjhmgaa
open Go.RowKit Go.Proofs.YtgconogjnjhmgaaW.PrintWords
namespace RefL
open LinA LinB LinC LinD LinE LinF LinG LinH LinI RightA DeedA DeedsB KeysA LinearA CallsW RefA RefG RefI RefK RefH SameB
attribute [local go_sem ↓] Go.wp_at_zero Go.wp_at_succ
theorem spec_eq {xs : List Note} {b b' : Bool} {c c' : Int} (h : LinSpec xs b c) (h' : LinSpec xs b' c') : b = b' ∧ c = c' := by
  rcases h with ⟨r, rfl, rfl⟩ | ⟨r, ⟨key, hk, hl⟩, rfl, rfl⟩ | ⟨r, h1, rfl, h2⟩ <;> rcases h' with ⟨s, rfl, rfl⟩ | ⟨s, ⟨key', hk', hl'⟩, rfl, rfl⟩ | ⟨s, h1', rfl, h2'⟩
  · exact ⟨rfl, rfl⟩
  · rw [r] at s; cases s
  · rw [r] at s; cases s
  · rw [r] at s; cases s
  · exact ⟨rfl, rfl⟩
  · exact absurd hl (h1' key hk)
  · rw [r] at s; cases s
  · exact absurd hl' (h1 key' hk')
  · exact ⟨Bool.eq_iff_iff.2 (h2.trans h2'.symm), rfl⟩
theorem dTo_calls (key : ByteArray) (xs : List Note) (k : Nat) : (dTo key xs k).length ≤ nTo xs k := by
  induction k with
  | zero => exact Nat.zero_le _
  | succ k ih =>
    rw [dTo_succ, nTo_succ, List.length_append]
    have : ((if dIs key xs k then [deedD xs k] else []) : List Deed).length ≤ (if isC xs k then 1 else 0) := by
      unfold dIs isC
      cases (xs.getD k Note.z).isAnswer
      · simp; split <;> simp
      · simp
    omega
def HTold (w : World) (e : Ending) (w' : World) : Prop := e = .returned (.bool true) ∧ Below w.heap.size w w'
set_option maxRecDepth 100000 in
set_option maxHeartbeats 8000000 in
theorem linHistories_calls (A : Option Addr) (c : Nat) (xs : List Note) (key : ByteArray) (w : World) (hr : Note.k.C w A xs.length xs) (hn : xs.length ≤ 1300000000000) (hc : xs.length ≤ c) (hb : ∀ x ∈ xs, NBd x) :
    Calls Try.prog 6 #[.slice A xs.length c, .string key] w (HTold w) := by
  have HR := Aside0.mk hr
  have HBD := Aside0.mk hb
  clear hr hb
  have HLO := Aside0.mk (longH_calls A c xs w HR.out (by omega))
  have HNC : Aside0 (∀ W, Below w.heap.size w W → Calls Try.prog 16 #[.slice A xs.length c] W (NTold (nTo xs xs.length) W)) := ⟨fun W hW => ncalls_calls A c xs W (Kd.C_below HR.out hW) hn⟩
  go_enter Try.func6, Try.ntmps6
  go_wp2_with fail
  refine HLO.out.mono ?_
  rintro e w1 ⟨z, rfl, hb1⟩
  have HB1 := Aside0.mk hb1
  clear hb1
  by_cases hz : 30 < z
  · go_wp2_with (first | ((with_reducible refine (known_true _).mono ?_); rintro e w2 ⟨rfl, hb2⟩; have HB2 := Aside0.mk hb2; clear hb2))
    go_ret
    exact ⟨rfl, below_step HB1.out HB2.out⟩
  · go_wp2_with fail
    refine (HNC.out _ HB1.out).mono ?_
    rintro e w2 ⟨rfl, hb2⟩
    have HB2 := Aside0.mk (below_step HB1.out hb2)
    clear hb2
    by_cases h7 : 7 < nTo xs xs.length
    · have h7' : (7 : Int) < ((nTo xs xs.length : Nat) : Int) := by omega
      go_wp2_with (first | ((with_reducible refine (known_true _).mono ?_); rintro e w3 ⟨rfl, hb3⟩; have HB3 := Aside0.mk hb3; clear hb3))
      go_ret
      exact ⟨rfl, below_step HB2.out HB3.out⟩
    · have h7' : ¬ (7 : Int) < ((nTo xs xs.length : Nat) : Int) := by omega
      have hdl : ∀ k, (dTo k xs xs.length).length ≤ 1000000000000 := fun k => Nat.le_trans (dTo_calls k xs xs.length) (by omega)
      have HDL := Aside0.mk hdl
      clear hdl
      by_cases h100 : (100 : Int) < ((key.size : Nat) : Int)
      · go_wp2_with (first | ((with_reducible refine (known_true _).mono ?_); rintro e w3 ⟨rfl, hb3⟩; have HB3 := Aside0.mk hb3; clear hb3))
        go_ret
        exact ⟨rfl, below_step HB2.out HB3.out⟩
      · go_wp2_with fail
        have HK1 := Aside0.mk (keys_calls A c xs w2 (Kd.C_below HR.out HB2.out) hn)
        refine HK1.out.mono ?_
        rintro e w3 ⟨AK, cK, rfl, hcK, hkC, hb3⟩
        have HB3 := Aside0.mk (below_step HB2.out hb3)
        have HKC := Aside0.mk hkC
        clear hkC hb3 HK1
        go_wp2_with fail
        have HK2 := Aside0.mk (refKeys_calls A c xs w3 (Kd.C_below HR.out HB3.out) hn)
        refine HK2.out.mono ?_
        rintro e w4 ⟨AJ, cJ, rfl, hcJ, hjC, hb4⟩
        have HB34 := Aside0.mk hb4
        have HB4 := Aside0.mk (below_step HB3.out hb4)
        have HJC := Aside0.mk hjC
        clear hjC hb4 HK2
        go_wp2_with fail
        have HD1 := Aside0.mk (deeds_calls key A c xs w4 (Kd.C_below HR.out HB4.out) hn hc HBD.out)
        refine HD1.out.mono ?_
        rintro e w5 ⟨AD, cD, rfl, hcD, hdC, hb5⟩
        have HB35 := Aside0.mk (below_step HB34.out hb5)
        have HB5 := Aside0.mk (below_step HB4.out hb5)
        have HB45 := Aside0.mk hb5
        have HDC := Aside0.mk hdC
        clear hdC hb5 HD1
        go_wp2_with fail
        have HD2 := Aside0.mk (refDeeds_calls key A c xs w5 (Kd.C_below HR.out HB5.out) hn)
        refine HD2.out.mono ?_
        rintro e w6 ⟨AE, cE, rfl, hcE, heC, hb6⟩
        have HB36 := Aside0.mk (below_step HB35.out hb6)
        have HB46 := Aside0.mk (below_step HB45.out hb6)
        have HB6 := Aside0.mk (below_step HB5.out hb6)
        have HB56 := Aside0.mk hb6
        have HEC := Aside0.mk heC
        clear heC hb6 HD2
        go_wp2_with fail
        have HL1 := Aside0.mk (linear_calls A c xs w6 (Kd.C_below HR.out HB6.out) hn hc HBD.out HDL.out)
        refine HL1.out.mono ?_
        rintro e w7 ⟨b1, c1, rfl, hs1, hb7⟩
        have HB67 := Aside0.mk hb7
        have HB7 := Aside0.mk (below_step HB6.out hb7)
        have HS1 := Aside0.mk hs1
        clear hs1 hb7 HL1
        go_wp2_with fail
        have HL2 := Aside0.mk (refLinear_calls A c xs w7 (Kd.C_below HR.out HB7.out) hn HDL.out)
        refine HL2.out.mono ?_
        rintro e w8 ⟨b2, c2, rfl, hs2, hb8⟩
        obtain ⟨rfl, rfl⟩ := spec_eq HS1.out hs2
        have HB68 := Aside0.mk (below_step HB67.out hb8)
        have HB8 := Aside0.mk (below_step HB7.out hb8)
        clear hs2 hb8 HL2
        have HRI : Aside0 (∀ W, Below w.heap.size w W → Calls Try.prog 23 #[.slice A xs.length c] W (fun e w' => e = .returned (.int .i64 (rightC xs)) ∧ Below W.heap.size W w')) := ⟨fun W hW => right_calls A c xs W (Kd.C_below HR.out hW) hn⟩
        have HRR : Aside0 (∀ W, Below w.heap.size w W → Calls Try.prog 24 #[.slice A xs.length c] W (fun e w' => e = .returned (.int .i64 (rightC xs)) ∧ w' = W)) := ⟨fun W hW => refRight_calls A c xs W (Kd.C_below HR.out hW) hn⟩
        have HSD : Aside0 (∀ W, Below w6.heap.size w6 W → Calls Try.prog 25 #[.slice AD (deedsL key xs).length cD, .slice AE (deedsL key xs).length cE] W (fun e w' => e = .returned (.bool true) ∧ Below W.heap.size W w')) := ⟨fun W hW => sameDeeds_refl AD AE cD cE (deedsL key xs) W (Kd.C_below (Kd.C_below HDC.out HB56.out) hW) (Kd.C_below HEC.out hW) (Nat.le_trans (Nat.le_trans (deedsL_le key xs) (HDL.out key)) (by omega))⟩
        go_wp2_with (first | (with_reducible refine (HRI.out _ HB8.out).mono ?_; rintro e w9 ⟨rfl, hb9⟩; have HB9 := Aside0.mk (below_step HB8.out hb9); have HB69 := Aside0.mk (below_step HB68.out hb9); clear hb9) | (with_reducible refine (HRR.out _ HB9.out).mono ?_; rintro e wx ⟨rfl, hw⟩; obtain rfl := hw.symm) | (with_reducible refine (HSD.out _ HB69.out).mono ?_; rintro e w10 ⟨rfl, hb10⟩; have HB10 := Aside0.mk (below_step HB9.out hb10); have HB610 := Aside0.mk (below_step HB69.out hb10); clear hb10))
        have hkl : (keysL xs).length ≤ 9223372036854775807 := HKC.out.2.1
        go_loopw [15] (fun v15 wr => ∃ m : Nat, v15 = .int .i64 m ∧ m ≤ (keysL xs).length ∧ Aside0 (Below w10.heap.size w10 wr)) (fun v15 _ => (keysL xs).length - (intOf v15).toNat)
        case atStart => exact ⟨0, rfl, Nat.zero_le _, ⟨Below.refl _ _⟩⟩
        case round =>
          obtain ⟨m, rfl, hm, HBL⟩ := hrel
          by_cases hml : m < (keysL xs).length
          · obtain ⟨kd, s, rfl, HKS, hk0⟩ := kStr_at (Kd.C_below HKC.out (below_step (below_step HB36.out HB610.out) HBL.out)) m hml
            obtain ⟨jd, s2, rfl, HJS, hj0⟩ := kStr_at (Kd.C_below HJC.out (below_step (below_step HB46.out HB610.out) HBL.out)) m hml
            obtain rfl : s2 = s := by
              have := HJS.out
              rw [HKS.out] at this
              injection this with this
              exact this.symm
            have HML := Aside0.mk hml
            have m0 : (0 : Int) ≤ (m : Int) := by omega
            have m1 : (m : Int) < (((keysL xs).length : Nat) : Int) := by omega
            go_wp2_with fail
            refine wp_region_held_drew (S := fun w' => w'.cell? (kd.add m) = some (.string s2) ∧ w'.cell? (jd.add m) = some (.string s2)) (by kernel_rfl) ⟨hk0, hj0⟩ (fun hHeld => ?_)
            (first | (refine takeH 0 95 (v := ?_) rfl rfl (by kernel_rfl) (by kernel_rfl) (by kernel_rfl) (fun _ _ _ h => h) hHeld rfl ?_ ?_; rotate_left; (focus (intro w hSw; (try dsimp only at hSw); go_simp; try with_reducible rfl))) | fail)
            (try simp only [Act.put, List.setIfInBounds_toArray, List.set_cons_zero, List.set_cons_succ])
            (first | (refine takeH 1 96 (v := ?_) rfl rfl (by kernel_rfl) (by kernel_rfl) (by kernel_rfl) (fun _ _ _ h => h) hHeld rfl ?_ ?_; rotate_left; (focus (intro w hSw; (try dsimp only at hSw); go_simp; try with_reducible rfl))) | fail)
            (try simp only [Act.put, List.setIfInBounds_toArray, List.set_cons_zero, List.set_cons_succ])
            (first | (refine takeH 2 97 (v := ?_) rfl rfl (by kernel_rfl) (by kernel_rfl) (by kernel_rfl) (fun _ _ _ h => h) hHeld rfl ?_ ?_; rotate_left; (focus (intro w hSw; (try dsimp only at hSw); go_simp; try with_reducible rfl))) | fail)
            (try simp only [Act.put, List.setIfInBounds_toArray, List.set_cons_zero, List.set_cons_succ])
            (first | (refine takeH 3 98 (v := ?_) rfl rfl (by kernel_rfl) (by kernel_rfl) (by kernel_rfl) (fun _ _ _ h => h) hHeld rfl ?_ ?_; rotate_left; (focus (intro w hSw; (try dsimp only at hSw); go_simp; try with_reducible rfl))) | fail)
            (try simp only [Act.put, List.setIfInBounds_toArray, List.set_cons_zero, List.set_cons_succ])
            (first | (refine takeH 4 99 (v := ?_) rfl rfl (by kernel_rfl) (by kernel_rfl) (by kernel_rfl) (fun _ _ _ h => h) hHeld rfl ?_ ?_; rotate_left; (focus (intro w hSw; (try dsimp only at hSw); go_simp; try with_reducible rfl))) | fail)
            (try simp only [Act.put, List.setIfInBounds_toArray, List.set_cons_zero, List.set_cons_succ])
            (first | (refine takeH 5 100 (v := ?_) rfl rfl (by kernel_rfl) (by kernel_rfl) (by kernel_rfl) (fun _ _ _ h => h) hHeld rfl ?_ ?_; rotate_left; (focus (intro w hSw; (try dsimp only at hSw); go_simp; try with_reducible rfl))) | fail)
            (try simp only [Act.put, List.setIfInBounds_toArray, List.set_cons_zero, List.set_cons_succ])
            (first | (refine takeH 6 101 (v := ?_) rfl rfl (by kernel_rfl) (by kernel_rfl) (by kernel_rfl) (fun _ _ _ h => h) hHeld rfl ?_ ?_; rotate_left; (focus (intro w hSw; (try dsimp only at hSw); go_simp; try with_reducible rfl))) | fail)
            (try simp only [Act.put, List.setIfInBounds_toArray, List.set_cons_zero, List.set_cons_succ])
            (first | (refine takeH 7 102 (v := ?_) rfl rfl (by kernel_rfl) (by kernel_rfl) (by kernel_rfl) (fun _ _ _ h => h) hHeld rfl ?_ ?_; rotate_left; (focus (intro w hSw; (try dsimp only at hSw); go_simp; try with_reducible rfl))) | fail)
            (try simp only [Act.put, List.setIfInBounds_toArray, List.set_cons_zero, List.set_cons_succ])
            (first | (refine takeH 8 103 (v := ?_) rfl rfl (by kernel_rfl) (by kernel_rfl) (by kernel_rfl) (fun _ _ _ h => h) hHeld rfl ?_ ?_; rotate_left; (focus (intro w hSw; (try dsimp only at hSw); go_simp; try with_reducible rfl))) | fail)
            (try simp only [Act.put, List.setIfInBounds_toArray, List.set_cons_zero, List.set_cons_succ])
            refine wpAnyH_done (by kernel_rfl) ?_ _
            go_wp2
            go_roundw
            case rel => exact ⟨m + 1, by go_num, HML.out, ⟨below_drew HBL.out⟩⟩
            case measure => have := HML.out; simp [intOf]; omega
          · obtain rfl : m = (keysL xs).length := by omega
            go_wp2_with (first | ((with_reducible refine (known_true _).mono ?_); rintro e w11 ⟨rfl, hb11⟩; have HB11 := Aside0.mk hb11; clear hb11))
            go_ret
            exact ⟨rfl, below_step (below_step HB10.out HBL.out) HB11.out⟩
end RefL
end Go.Proofs.Ytgconogjnjhmgaa
