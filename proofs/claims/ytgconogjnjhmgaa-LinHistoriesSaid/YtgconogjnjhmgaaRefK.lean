/- The reference of layer 18: Linear. -/
import Derived.Test.YtgconogjnjhmgaaRefG
import Derived.Test.YtgconogjnjhmgaaRefI
import Derived.Test.YtgconogjnjhmgaaRefE
namespace Go.Proofs.Ytgconogjnjhmgaa
open Go.RowKit Go.Proofs.YtgconogjnjhmgaaW.PrintWords
namespace RefK
open LinA LinB LinC LinD LinE LinF LinG LinH RightA DeedA DeedsB KeysA LinearA RefA RefE RefG RefI
attribute [local go_sem ↓] Go.wp_at_zero Go.wp_at_succ
theorem rord_key {l : List Deed} {c : Int} (h : RefOrd l c) : (c = 3 ↔ 20 < l.length) ∧ (c = 0 → LinKey l) ∧ (¬ 20 < l.length → LinKey l → c = 0) := by
  rcases h with ⟨h1, rfl⟩ | ⟨h1, ⟨rfl, h2⟩ | ⟨rfl, h2⟩⟩
  · exact ⟨by omega, fun h => absurd h (by decide), fun h => absurd h1 h⟩
  · exact ⟨by omega, fun _ => h2, fun _ _ => rfl⟩
  · exact ⟨by omega, fun h => absurd h (by decide), fun _ h => absurd h h2⟩
set_option maxRecDepth 100000 in
set_option maxHeartbeats 4000000 in
theorem refLinear_calls (A : Option Addr) (c : Nat) (xs : List Note) (w : World) (hr : Note.k.C w A xs.length xs) (hn : xs.length ≤ 1300000000000) (hd : ∀ key, (dTo key xs xs.length).length ≤ 1000000000000) :
    Calls Try.prog 22 #[.slice A xs.length c] w (LinearTold xs w) := by
  have HR := Aside0.mk hr
  have HD := Aside0.mk hd
  have HRI := Aside0.mk (refRight_calls A c xs w HR.out hn)
  clear hr hd
  go_enter Try.func22, Try.ntmps22
  cases hrt : rightB xs with
  | false =>
    have hrc : rightC xs = 2 := by unfold rightC; rw [hrt]; rfl
    have HRT := Aside0.mk hrt
    rw [hrc] at HRI
    clear hrc hrt
    go_wp2_with (first | (with_reducible refine HRI.out.mono ?_; rintro e w1 ⟨rfl, hw⟩; obtain rfl := hw.symm; have HB1 := Aside0.mk (Below.refl w.heap.size w)))
    go_ret2
    exact ⟨false, 2, rfl, .inl ⟨HRT.out, rfl, rfl⟩, HB1.out⟩
  | true =>
    have hrc : rightC xs = 0 := by unfold rightC; rw [hrt]; rfl
    have HRC := Aside0.mk hrc
    have HRT := Aside0.mk hrt
    rw [hrc] at HRI
    clear hrc hrt
    have HKC : Aside0 (∀ W, Below w.heap.size w W → Calls Try.prog 18 #[.slice A xs.length c] W (KeysTold xs W)) := ⟨fun W hW => refKeys_calls A c xs W (Kd.C_below HR.out hW) hn⟩
    go_wp2_with (first | (with_reducible refine HRI.out.mono ?_; rintro e w1 ⟨rfl, hw⟩; obtain rfl := hw.symm; have HB1 := Aside0.mk (Below.refl w.heap.size w)) | (refine (HKC.out _ HB1.out).mono ?_; rintro e w2 ⟨AK, capK, rfl, hcK, hkC, hb2⟩; have HK := Aside0.mk hkC; have HB2 := Aside0.mk (below_step HB1.out hb2); clear hkC hb2))
    have hkl : (keysL xs).length = (ksL xs).length := by unfold ksL; rw [List.length_map]
    have hklb : (ksL xs).length ≤ 9223372036854775807 := by rw [← hkl]; exact HK.out.2.1
    rw [hkl]
    go_loopw [5, 6] (fun v5 v20 wr => ∃ (k : Nat) (b : Bool), v20 = .int .i64 k ∧ v5 = .bool b ∧ k ≤ (ksL xs).length ∧ Aside0 (Below w.heap.size w wr) ∧ Aside0 (kStr.C wr AK (ksL xs).length (ksL xs)) ∧ Aside0 (∀ (j : Nat) (x : ByteArray), j < k → (ksL xs)[j]? = some x → ¬ 20 < (deedsL x xs).length) ∧ Aside0 (b = true ↔ ∀ (j : Nat) (x : ByteArray), j < k → (ksL xs)[j]? = some x → LinKey (deedsL x xs))) (fun _ v20 _ => (ksL xs).length - (intOf v20).toNat)
    case atStart => exact ⟨0, true, rfl, rfl, Nat.zero_le _, HB2, ⟨by rw [← hkl]; exact HK.out⟩, ⟨fun j x h => absurd h (by omega)⟩, ⟨⟨fun _ j x h => absurd h (by omega), fun _ => rfl⟩⟩⟩
    case round =>
      obtain ⟨k, b, rfl, rfl, hk, HB, HK, HS, HL⟩ := hrel
      by_cases hlt : k < (ksL xs).length
      · obtain ⟨ad, key, rfl, HE, hcell⟩ := kStr_at HK.out k hlt
        have HDE : Aside0 (∀ W, Below w.heap.size w W → Calls Try.prog 20 #[.string key, .slice A xs.length c] W (DeedsTold key xs W)) := ⟨fun W hW => refDeeds_calls key A c xs W (Kd.C_below HR.out hW) hn⟩
        have hk0 : (0 : Int) ≤ (k : Int) := by omega
        have hk1 : (k : Int) < ((ksL xs).length : Int) := by omega
        go_wp2_with (first | (refine (HDE.out _ HB.out).mono ?_; rintro e w3 ⟨AD, capD, rfl, hcD, hdC, hb3⟩; have HDC := Aside0.mk hdC; have HB3 := Aside0.mk (below_step HB.out hb3); have HK3 := Aside0.mk (Kd.C_below HK.out hb3); clear hdC hb3))
        have HOR := Aside0.mk (refOrder_calls AD capD (deedsL key xs) w3 HDC.out (Nat.le_trans (Nat.le_trans (deedsL_le key xs) (HD.out key)) (by omega)))
        refine HOR.out.mono ?_
        rintro e w4 ⟨v, cc, rfl, hord, hb4⟩
        have HB4 := Aside0.mk (below_step HB3.out hb4)
        have HK4 := Aside0.mk (Kd.C_below HK3.out hb4)
        have HORD := Aside0.mk (rord_key hord)
        clear hb4 hord
        by_cases hc3 : cc = 3
        · subst hc3
          go_wp2
          go_ret2
          exact ⟨false, 3, rfl, .inr (.inl ⟨HRT.out, ⟨key, List.mem_of_getElem? HE.out, HORD.out.1.1 trivial⟩, rfl, rfl⟩), HB4.out⟩
        · have HS3 : Aside0 (¬ 20 < (deedsL key xs).length) := ⟨fun h => hc3 (HORD.out.1.2 h)⟩
          have HSS : Aside0 (∀ (j : Nat) (x : ByteArray), j < k + 1 → (ksL xs)[j]? = some x → ¬ 20 < (deedsL x xs).length) := ⟨fun j x hj hx => by
            rcases Nat.lt_or_ge j k with h | h
            · exact HS.out j x h hx
            · obtain rfl : j = k := by omega
              rw [HE.out] at hx
              injection hx with hx
              subst hx
              exact HS3.out⟩
          have HKK : Aside0 (∀ (b' : Bool), (b' = true ↔ LinKey (deedsL key xs)) → ((b && b') = true ↔ ∀ (j : Nat) (x : ByteArray), j < k + 1 → (ksL xs)[j]? = some x → LinKey (deedsL x xs))) := ⟨fun b' hb' => by
            rw [Bool.and_eq_true, HL.out, hb']
            refine ⟨fun h j x hj hx => ?_, fun h => ⟨fun j x hj hx => h j x (by omega) hx, h k key (by omega) HE.out⟩⟩
            rcases Nat.lt_or_ge j k with hlt2 | hge
            · exact h.1 j x hlt2 hx
            · obtain rfl : j = k := by omega
              rw [HE.out] at hx
              injection hx with hx
              subst hx
              exact h.2⟩
          by_cases hc0 : cc = 0
          · subst hc0
            cases b
            all_goals
              go_wp2
              go_roundw
            case rel => exact ⟨k + 1, false, by go_num, rfl, by omega, HB4, HK4, HSS, ⟨by simpa using HKK.out true ⟨fun _ => HORD.out.2.1 trivial, fun _ => rfl⟩⟩⟩
            case rel => exact ⟨k + 1, true, by go_num, rfl, by omega, HB4, HK4, HSS, ⟨by simpa using HKK.out true ⟨fun _ => HORD.out.2.1 trivial, fun _ => rfl⟩⟩⟩
            all_goals (simp [intOf]; omega)
          · have hcf : (cc == 0) = false := by simpa using hc0
            have HC0 := Aside0.mk hc0
            clear hc0
            cases b
            all_goals
              go_wp2
              go_roundw
            case rel => exact ⟨k + 1, false, by go_num, rfl, by omega, HB4, HK4, HSS, ⟨by simpa using HKK.out false ⟨fun h => (by cases h), fun h => absurd (HORD.out.2.2 HS3.out h) HC0.out⟩⟩⟩
            case rel => exact ⟨k + 1, false, by go_num, rfl, by omega, HB4, HK4, HSS, ⟨by simpa using HKK.out false ⟨fun h => (by cases h), fun h => absurd (HORD.out.2.2 HS3.out h) HC0.out⟩⟩⟩
            all_goals (simp [intOf]; omega)
      · obtain rfl : k = (ksL xs).length := by omega
        go_wp2
        go_ret2
        exact ⟨b, 0, rfl, .inr (.inr ⟨HRT.out, mem_upto (fun j x h => HS.out j x (List.getElem?_eq_some_iff.1 h).1 h), rfl, HL.out.trans ⟨fun h => mem_upto (fun j x hj => h j x (List.getElem?_eq_some_iff.1 hj).1 hj), fun h j x _ hj => h x (List.mem_of_getElem? hj)⟩⟩), HB.out⟩
end RefK
end Go.Proofs.Ytgconogjnjhmgaa
