/- Layer lin: Linear. -/
import Derived.Test.YtgconogjnjhmgaaDeedsB
import Derived.Test.YtgconogjnjhmgaaKeysA
import Derived.Test.YtgconogjnjhmgaaLinF
namespace Go.Proofs.Ytgconogjnjhmgaa
open Go.RowKit Go.Proofs.YtgconogjnjhmgaaW.PrintWords
namespace LinearA
open LinA LinB LinC LinD LinE LinF LinG LinH RightA DeedA DeedsB KeysA
attribute [local go_sem ↓] Go.wp_at_zero Go.wp_at_succ
theorem kStr_at {w : World} {A : Option Addr} {n : Nat} {xs : List ByteArray} (h : kStr.C w A n xs) (k : Nat) (h1 : k < n) : ∃ ad x, A = some ad ∧ Aside0 (xs[k]? = some x) ∧ w.cell? (ad.add k) = some (.string x) := by
  have hl : xs.length = n := h.1
  obtain ⟨ad, c, e, _, hK, hc0⟩ := Kd.C_get h ByteArray.empty (k : Int) (by omega) (by omega)
  have hx : xs[k]? = some (xs.getD k ByteArray.empty) := by simp [List.getD_eq_getElem?_getD, show k < xs.length by omega]
  have hK' : kStr.K w (xs.getD k ByteArray.empty) c := hK
  obtain ⟨rfl, hr⟩ := hK'
  have hc := hc0 0 _ rfl
  have e1 : (k : Int).toNat * kStr.sz + 0 = k := by show k * 1 + 0 = k; omega
  rw [e1] at hc
  exact ⟨ad, _, e, ⟨hx⟩, hc⟩
def ksL (xs : List Note) : List ByteArray := (keysL xs).map toB
/-- The deeds of a key have an order. -/
def LinKey (l : List Deed) : Prop := l.any (fun x => !kn x.kind) = false ∧ ∃ p, Path l 0 Val.z p
theorem ord_key {l : List Deed} {p : List Nat} {c : Int} (h : Ord l p c) : (c = 3 ↔ 20 < l.length) ∧ (c = 0 → LinKey l) ∧ (¬ 20 < l.length → LinKey l → c = 0) := by
  rcases h with ⟨h1, rfl, _⟩ | ⟨h1, h2, rfl, _⟩ | ⟨h1, h2, rfl, _, h3⟩ | ⟨h1, h2, rfl, h3⟩
  · exact ⟨by omega, fun h => absurd h (by decide), fun h => absurd h1 h⟩
  · exact ⟨by omega, fun h => absurd h (by decide), fun _ h => by rw [h.1] at h2; cases h2⟩
  · exact ⟨by omega, fun h => absurd h (by decide), fun _ h => by obtain ⟨q, hq⟩ := h.2; exact absurd hq (h3 q)⟩
  · exact ⟨by omega, fun _ => ⟨h2, p, h3⟩, fun _ _ => rfl⟩
/-- What Linear tells: b, and c. -/
def LinSpec (xs : List Note) (b : Bool) (c : Int) : Prop :=
  (rightB xs = false ∧ b = false ∧ c = 2) ∨ (rightB xs = true ∧ (∃ key ∈ ksL xs, 20 < (deedsL key xs).length) ∧ b = false ∧ c = 3) ∨
  (rightB xs = true ∧ (∀ key ∈ ksL xs, ¬ 20 < (deedsL key xs).length) ∧ c = 0 ∧ (b = true ↔ ∀ key ∈ ksL xs, LinKey (deedsL key xs)))
def LinearTold (xs : List Note) (w : World) (e : Ending) (w' : World) : Prop := ∃ b c, e = .returned (.tuple #[.bool b, .int .i64 c]) ∧ LinSpec xs b c ∧ Below w.heap.size w w'
theorem mem_upto {l : List ByteArray} {P : ByteArray → Prop} (h : ∀ (j : Nat) (x : ByteArray), l[j]? = some x → P x) : ∀ x ∈ l, P x := by
  intro x hx
  obtain ⟨j, hj, rfl⟩ := List.mem_iff_getElem.1 hx
  exact h j _ (List.getElem?_eq_getElem hj)
theorem deedsL_le (key : ByteArray) (xs : List Note) : (deedsL key xs).length ≤ (dTo key xs xs.length).length := by
  unfold deedsL
  split
  · exact Nat.le_refl _
  · exact Nat.zero_le _
set_option maxRecDepth 100000 in
set_option maxHeartbeats 4000000 in
theorem linear_calls (A : Option Addr) (c : Nat) (xs : List Note) (w : World) (hr : Note.k.C w A xs.length xs) (hn : xs.length ≤ 1300000000000) (hc : xs.length ≤ c) (hb : ∀ x ∈ xs, NBd x) (hd : ∀ key, (dTo key xs xs.length).length ≤ 1000000000000) :
    Calls Try.prog 21 #[.slice A xs.length c] w (LinearTold xs w) := by
  have HR := Aside0.mk hr
  have HBD := Aside0.mk hb
  have HD := Aside0.mk hd
  have HRI := Aside0.mk (right_calls A c xs w HR.out hn)
  clear hr hb hd
  go_enter Try.func21, Try.ntmps21
  cases hrt : rightB xs with
  | false =>
    have hrc : rightC xs = 2 := by unfold rightC; rw [hrt]; rfl
    have HRT := Aside0.mk hrt
    rw [hrc] at HRI
    clear hrc hrt
    go_wp2_with (first | (refine HRI.out.mono ?_; rintro e w1 ⟨rfl, hb1⟩; have HB1 := Aside0.mk hb1; clear hb1))
    go_ret2
    exact ⟨false, 2, rfl, .inl ⟨HRT.out, rfl, rfl⟩, HB1.out⟩
  | true =>
    have hrc : rightC xs = 0 := by unfold rightC; rw [hrt]; rfl
    have HRC := Aside0.mk hrc
    have HRT := Aside0.mk hrt
    rw [hrc] at HRI
    clear hrc hrt
    have HKC : Aside0 (∀ W, Below w.heap.size w W → Calls Try.prog 17 #[.slice A xs.length c] W (KeysTold xs W)) := ⟨fun W hW => keys_calls A c xs W (Kd.C_below HR.out hW) hn⟩
    go_wp2_with (first | (refine HRI.out.mono ?_; rintro e w1 ⟨rfl, hb1⟩; have HB1 := Aside0.mk hb1; clear hb1) | (refine (HKC.out _ HB1.out).mono ?_; rintro e w2 ⟨AK, capK, rfl, hcK, hkC, hb2⟩; have HK := Aside0.mk hkC; have HB2 := Aside0.mk (below_step HB1.out hb2); clear hkC hb2))
    have hkl : (keysL xs).length = (ksL xs).length := by unfold ksL; rw [List.length_map]
    have hklb : (ksL xs).length ≤ 9223372036854775807 := by rw [← hkl]; exact HK.out.2.1
    rw [hkl]
    go_loopw [5, 20] (fun v5 v20 wr => ∃ (k : Nat) (b : Bool), v20 = .int .i64 k ∧ v5 = .bool b ∧ k ≤ (ksL xs).length ∧ Aside0 (Below w.heap.size w wr) ∧ Aside0 (kStr.C wr AK (ksL xs).length (ksL xs)) ∧ Aside0 (∀ (j : Nat) (x : ByteArray), j < k → (ksL xs)[j]? = some x → ¬ 20 < (deedsL x xs).length) ∧ Aside0 (b = true ↔ ∀ (j : Nat) (x : ByteArray), j < k → (ksL xs)[j]? = some x → LinKey (deedsL x xs))) (fun _ v20 _ => (ksL xs).length - (intOf v20).toNat)
    case atStart => exact ⟨0, true, rfl, rfl, Nat.zero_le _, HB2, ⟨by rw [← hkl]; exact HK.out⟩, ⟨fun j x h => absurd h (by omega)⟩, ⟨⟨fun _ j x h => absurd h (by omega), fun _ => rfl⟩⟩⟩
    case round =>
      obtain ⟨k, b, rfl, rfl, hk, HB, HK, HS, HL⟩ := hrel
      by_cases hlt : k < (ksL xs).length
      · obtain ⟨ad, key, rfl, HE, hcell⟩ := kStr_at HK.out k hlt
        have HDE : Aside0 (∀ W, Below w.heap.size w W → Calls Try.prog 19 #[.string key, .slice A xs.length c] W (DeedsTold key xs W)) := ⟨fun W hW => deeds_calls key A c xs W (Kd.C_below HR.out hW) hn hc HBD.out⟩
        have hk0 : (0 : Int) ≤ (k : Int) := by omega
        have hk1 : (k : Int) < ((ksL xs).length : Int) := by omega
        go_wp2_with (first | (refine (HDE.out _ HB.out).mono ?_; rintro e w3 ⟨AD, capD, rfl, hcD, hdC, hb3⟩; have HDC := Aside0.mk hdC; have HB3 := Aside0.mk (below_step HB.out hb3); have HK3 := Aside0.mk (Kd.C_below HK.out hb3); clear hdC hb3))
        have HOR := Aside0.mk (order_calls AD capD (deedsL key xs) w3 HDC.out (Nat.le_trans (deedsL_le key xs) (HD.out key)))
        refine HOR.out.mono ?_
        rintro e w4 ⟨p, cc, A5, cap5, rfl, hp, hpC, hb4, hord⟩
        have HB4 := Aside0.mk (below_step HB3.out hb4)
        have HK4 := Aside0.mk (Kd.C_below HK3.out hb4)
        have HORD := Aside0.mk (ord_key hord)
        clear hp hpC hb4 hord
        by_cases hc3 : cc = 3
        · subst hc3
          go_wp2
          go_ret2
          exact ⟨false, 3, rfl, .inr (.inl ⟨HRT.out, ⟨key, List.mem_of_getElem? HE.out, HORD.out.1.1 trivial⟩, rfl, rfl⟩), HB4.out⟩
        · have HS3 : Aside0 (¬ 20 < (deedsL key xs).length) := ⟨fun h => hc3 (HORD.out.1.2 h)⟩
          have HSS : Aside0 (∀ (j : Nat) (x : ByteArray), j < k + 1 → (ksL xs)[j]? = some x → ¬ 20 < (deedsL x xs).length) := ⟨fun j x hj hx => by
            rcases Nat.lt_or_ge j k with h | h
            · exact HS.out j x h hx
            · obtain rfl : j = k := by omega
              rw [HE.out] at hx
              injection hx with hx
              subst hx
              exact HS3.out⟩
          have HKK : Aside0 (∀ (b' : Bool), (b' = true ↔ LinKey (deedsL key xs)) → ((b && b') = true ↔ ∀ (j : Nat) (x : ByteArray), j < k + 1 → (ksL xs)[j]? = some x → LinKey (deedsL x xs))) := ⟨fun b' hb' => by
            rw [Bool.and_eq_true, HL.out, hb']
            refine ⟨fun h j x hj hx => ?_, fun h => ⟨fun j x hj hx => h j x (by omega) hx, h k key (by omega) HE.out⟩⟩
            rcases Nat.lt_or_ge j k with hlt2 | hge
            · exact h.1 j x hlt2 hx
            · obtain rfl : j = k := by omega
              rw [HE.out] at hx
              injection hx with hx
              subst hx
              exact h.2⟩
          by_cases hc0 : cc = 0
          · subst hc0
            cases b
            all_goals
              go_wp2
              go_roundw
            case rel => exact ⟨k + 1, false, by go_num, rfl, by omega, HB4, HK4, HSS, ⟨by simpa using HKK.out true ⟨fun _ => HORD.out.2.1 trivial, fun _ => rfl⟩⟩⟩
            case rel => exact ⟨k + 1, true, by go_num, rfl, by omega, HB4, HK4, HSS, ⟨by simpa using HKK.out true ⟨fun _ => HORD.out.2.1 trivial, fun _ => rfl⟩⟩⟩
            all_goals (simp [intOf]; omega)
          · have hcf : (cc == 0) = false := by simpa using hc0
            have HC0 := Aside0.mk hc0
            clear hc0
            cases b
            all_goals
              go_wp2
              go_roundw
            case rel => exact ⟨k + 1, false, by go_num, rfl, by omega, HB4, HK4, HSS, ⟨by simpa using HKK.out false ⟨fun h => (by cases h), fun h => absurd (HORD.out.2.2 HS3.out h) HC0.out⟩⟩⟩
            case rel => exact ⟨k + 1, false, by go_num, rfl, by omega, HB4, HK4, HSS, ⟨by simpa using HKK.out false ⟨fun h => (by cases h), fun h => absurd (HORD.out.2.2 HS3.out h) HC0.out⟩⟩⟩
            all_goals (simp [intOf]; omega)
      · obtain rfl : k = (ksL xs).length := by omega
        go_wp2
        go_ret2
        exact ⟨b, 0, rfl, .inr (.inr ⟨HRT.out, mem_upto (fun j x h => HS.out j x (List.getElem?_eq_some_iff.1 h).1 h), rfl, HL.out.trans ⟨fun h => mem_upto (fun j x hj => h j x (List.getElem?_eq_some_iff.1 hj).1 hj), fun h j x _ hj => h x (List.mem_of_getElem? hj)⟩⟩), HB.out⟩
end LinearA
end Go.Proofs.Ytgconogjnjhmgaa
