/- The reference of layer 18: from, Order. -/
import Derived.Test.YtgconogjnjhmgaaRefD
import Derived.Test.YtgconogjnjhmgaaDeedsB
import Derived.Test.YtgconogjnjhmgaaLinearA
namespace Go.Proofs.Ytgconogjnjhmgaa
open Go.RowKit Go.Proofs.YtgconogjnjhmgaaW.PrintWords
namespace RefE
open LinA LinB LinC LinD LinE LinF LinG LinH LinJ RightA DeedA LinearA RefA RefB RefC RefD SameB
attribute [local go_sem ↓] Go.wp_at_zero Go.wp_at_succ
theorem stp_nxt {d : Deed} (v : Val) (h : kn d.kind = true) : stp d (v, true) = nxt d v := by
  have hk : 1 ≤ d.kind ∧ d.kind ≤ 3 := by unfold kn at h; simpa using h
  unfold stp nxt
  by_cases q1 : d.kind = 1
  · rw [if_pos q1, if_pos q1]; simp
  · by_cases q2 : d.kind = 2
    · rw [if_neg q1, if_pos q2, if_neg q1, if_pos q2]
    · rw [if_neg q1, if_neg q2, if_neg q1, if_neg q2, if_pos (by omega)]; rfl
/-- Is there a way on by deed j? -/
def Via (xs : List Deed) (q : List Nat) (j : Nat) : Prop := mayB xs (mask q) j = true ∧ (nxt (xs.getD j Deed.z) (valR xs q).1).2 = true ∧ ∃ p, Path xs (mask q ||| 2 ^ j) (nxt (xs.getD j Deed.z) (valR xs q).1).1 p
def FromTold (xs : List Deed) (q : List Nat) (w : World) (e : Ending) (w' : World) : Prop := ∃ v b, e = .returned (.tuple #[v, .bool b]) ∧ (b = true ↔ ∃ p, Path xs (mask q) (valR xs q).1 p) ∧ Below w.heap.size w w'
theorem nums_app (q : List Nat) (k : Nat) : LinF.nums (q ++ [k]) = LinF.nums q ++ [(k : Int)] := by unfold LinF.nums; rw [List.map_append]; rfl
theorem one_int {w W : World} {k : Nat} (hk : k ≤ 1300000000000) : ReadsRow (fun x cs => (kInt .i64).K w x cs) 1 (W.alloc (.cells #[.int .i64 k] 3)) (some ⟨W.heap.size, 0, none⟩) 1 [(k : Int)] := by
  refine ⟨rfl, by omega, fun _ => ⟨_, rfl, fun j p hj => ?_⟩⟩
  rcases j with _ | j
  · simp at hj
    subst hj
    refine ⟨[.int .i64 k], rfl, ⟨rfl, inr_nat hk⟩, fun i u hu => ?_⟩
    rcases i with _ | i
    · simp at hu
      subst hu
      rw [add_plain]
      simp
    · simp at hu
  · simp at hj
/-- From an order on, of so many deeds that are free. -/
def FromC (A : Option Addr) (c : Nat) (xs : List Deed) (w0 : World) (n : Nat) : Prop :=
  ∀ (q : List Nat) (B : Option Addr) (d : Nat) (w : World), free xs (mask q) = n → Below w0.heap.size w0 w → (kInt .i64).C w B q.length (LinF.nums q) → q.length + free xs (mask q) ≤ 20 → (∀ k ∈ q, k < xs.length) → (valR xs q).2 = true →
    Calls Try.prog 53 #[.slice A xs.length c, .slice B q.length d] w (FromTold xs q w)
set_option maxRecDepth 100000 in
set_option maxHeartbeats 4000000 in
theorem from_step (A : Option Addr) (c : Nat) (xs : List Deed) (w0 : World) (hr : Deed.k.C w0 A xs.length xs) (hn : xs.length ≤ 20) (hkn : xs.any (fun x => !kn x.kind) = false) (n : Nat) (ih : ∀ m, m < n → FromC A c xs w0 m) : FromC A c xs w0 n := by
  intro q B d w hf hb hq hql hqk hok
  have HR := Aside0.mk (Kd.C_below hr hb)
  have HB0 := Aside0.mk hb
  have HQ := Aside0.mk hq
  have HQK := Aside0.mk hqk
  have HF := Aside0.mk hf
  have HIH := Aside0.mk ih
  have HVE : Aside0 (valR xs q = ((valR xs q).1, true)) := ⟨by rw [← hok]⟩
  have HKN : Aside0 (∀ k, k < xs.length → kn (xs.getD k Deed.z).kind = true) := ⟨fun k hk => by
    have := List.any_eq_false.1 hkn (xs.getD k Deed.z) (by rw [List.getD_eq_getElem?_getD, List.getElem?_eq_getElem hk]; exact List.getElem_mem hk)
    simpa using this⟩
  have hqn : q.length ≤ 20 := by omega
  have HQL := Aside0.mk hql
  clear hr hb hq hqk hf ih hok hkn hql
  have HLE := Aside0.mk (left_calls A B c d xs q w HR.out (by omega) HQ.out (by omega))
  go_enter Try.func53, Try.ntmps53
  cases hl : leftB xs (mask q) with
  | false =>
    have HL := Aside0.mk hl
    rw [hl] at HLE
    clear hl
    go_wp2_with (first | (with_reducible refine HLE.out.mono ?_; rintro e w1 ⟨rfl, hw⟩; obtain rfl := hw.symm))
    go_ret2
    exact ⟨_, true, rfl, ⟨fun _ => ⟨[], .done HL.out⟩, fun _ => rfl⟩, Below.refl _ _⟩
  | true =>
    have HL := Aside0.mk hl
    rw [hl] at HLE
    clear hl
    have HPA : Aside0 ((∃ p, Path xs (mask q) (valR xs q).1 p) → ∃ j, j < xs.length ∧ Via xs q j) := ⟨fun ⟨p, hp⟩ => by
      cases hp with
      | done h => rw [HL.out] at h; cases h
      | step h1 h2 h3 h4 h5 => exact ⟨_, h2, h3, h4, _, h5⟩⟩
    have HPB : Aside0 (∀ j, j < xs.length → Via xs q j → ∃ p, Path xs (mask q) (valR xs q).1 p) := ⟨fun j hj h => by
      obtain ⟨h3, h4, p, h5⟩ := h
      exact ⟨j :: p, .step HL.out hj h3 h4 h5⟩⟩
    go_wp2_with (first | (with_reducible refine HLE.out.mono ?_; rintro e w1 ⟨rfl, hw⟩; obtain rfl := hw.symm))
    go_loopw [6] (fun v6 wr => ∃ k : Nat, v6 = .int .i64 k ∧ k ≤ xs.length ∧ Aside0 (Below w.heap.size w wr) ∧ Aside0 (∀ j, j < k → ¬ Via xs q j)) (fun v _ => xs.length - (intOf v).toNat)
    case atStart => exact ⟨0, rfl, Nat.zero_le _, ⟨Below.refl _ _⟩, ⟨fun j h => absurd h (Nat.not_lt_zero _)⟩⟩
    case round =>
      obtain ⟨k, rfl, hk, HB, HT⟩ := hrel
      by_cases hlt : k < xs.length
      · have HMA := Aside0.mk (may_calls A B c d xs q k wr (Kd.C_below HR.out HB.out) (by omega) (Kd.C_below HQ.out HB.out) (by omega) hlt)
        have h0 : (0 : Int) ≤ (k : Int) := by omega
        have h1 : (k : Int) < (xs.length : Int) := by omega
        have HNX : ¬ Via xs q k → Aside0 (∀ j, j < k + 1 → ¬ Via xs q j) := fun h => ⟨fun j hj => by
          rcases Nat.lt_or_ge j k with h2 | h2
          · exact HT.out j h2
          · obtain rfl : j = k := by omega
            exact h⟩
        have HNY := Aside0.mk HNX
        clear HNX
        cases hmb : mayB xs (mask q) k with
        | false =>
          have HMB := Aside0.mk hmb
          rw [hmb] at HMA
          clear hmb
          go_wp2_with (first | (with_reducible refine HMA.out.mono ?_; rintro e w1 ⟨rfl, hb1⟩; have HB1 := Aside0.mk (below_step HB.out hb1); clear hb1))
          go_roundw
          case rel => exact ⟨k + 1, by go_num, by omega, HB1, HNY.out (fun h => by have h2 := h.1; rw [HMB.out] at h2; cases h2)⟩
          case measure => simp [intOf]; omega
        | true =>
          have HMB := Aside0.mk hmb
          rw [hmb] at HMA
          clear hmb
          go_wp2_with (first | (with_reducible refine HMA.out.mono ?_; rintro e w1 ⟨rfl, hb1⟩; have HB1 := Aside0.mk (below_step HB.out hb1); clear hb1) | (at_builtin; refine own_append_rows (w0 := w1) (R := fun x cs => (kInt .i64).K w x cs) w1.heap.size rfl _ _ 23 3 (.int .i64 0) 1 8 rfl Try.underlying23 infoI rfl (by omega) (by omega) (.slice none 0 0) [] (LinF.nums q) B q.length d rfl rfl (OwnRow.none_ _ _ _ _ _) (Kd.C_below HQ.out HB1.out) (fun x cs h => (kInt .i64).K_one h) (Below.refl _ _) (Nat.le_refl _) (by simp; omega) ?_; intro v1 w3 hown hB3 hg3 hat3; have HOW := Aside0.mk hown; have HB3 := Aside0.mk hB3; clear hown hB3 hg3 hat3) | (at_builtin; refine own_append_rows (w0 := w1) (R := fun x cs => (kInt .i64).K w x cs) w1.heap.size rfl _ _ 23 3 (.int .i64 0) 1 8 rfl Try.underlying23 infoI rfl (by omega) (by omega) v1 (LinF.nums q) [(k : Int)] (some ⟨w3.heap.size, 0, none⟩) 1 1 rfl (by show Value.slice _ 1 1 = _; simp) (OwnRow.below HOW.out (below_alloc (Below.refl _ _) _)) (one_int (by omega)) (fun x cs h => (kInt .i64).K_one h) (below_alloc HB3.out _) (below_alloc HB3.out _).size (by rw [nums_len]; omega) ?_; intro v2 w4 hown4 hB4 hg4 hat4; have HOW4 := Aside0.mk hown4; have HB4 := Aside0.mk (below_step HB1.out hB4); clear hown4 hB4 hg4 hat4))
          rw [← nums_app] at HOW4
          obtain ⟨A4, c4, rfl, hl4, hC4⟩ := OwnRow.reads HOW4.out
          rw [nums_len] at hl4 hC4 ⊢
          have HC4 : Aside0 ((kInt .i64).C w4 A4 (q ++ [k]).length (LinF.nums (q ++ [k]))) := ⟨hC4⟩
          have HQK4 : Aside0 (∀ j ∈ q ++ [k], j < xs.length) := ⟨fun j hj => by
            rcases List.mem_append.1 hj with h | h
            · exact HQK.out j h
            · rw [List.mem_singleton] at h; subst h; exact hlt⟩
          have HVK : Aside0 (valR xs (q ++ [k]) = nxt (xs.getD k Deed.z) (valR xs q).1) := ⟨by rw [valR_snoc, HVE.out, stp_nxt _ (HKN.out k hlt)]⟩
          have hfr := free_lt hlt (mayB_bit HMB.out)
          rw [← LinJ.mask_snoc] at hfr
          have hql4 : (q ++ [k]).length + free xs (mask (q ++ [k])) ≤ 20 := by have := HQL.out; rw [List.length_append, List.length_singleton]; omega
          have hq20 : (q ++ [k]).length ≤ 20 := by omega
          have HREC : (valR xs (q ++ [k])).2 = true → Aside0 (∀ W, Below w4.heap.size w4 W → Calls Try.prog 53 #[.slice A xs.length c, .slice A4 (q ++ [k]).length c4] W (FromTold xs (q ++ [k]) W)) := fun h => ⟨fun W hW => HIH.out _ (by have := HF.out; omega) (q ++ [k]) A4 c4 W rfl (below_step HB0.out (below_step HB4.out hW)) (Kd.C_below HC4.out hW) hql4 HQK4.out h⟩
          have HRC := Aside0.mk HREC
          have HVA := Aside0.mk (value_calls A A4 c c4 xs (q ++ [k]) w4 (Kd.C_below HR.out HB4.out) HC4.out (by omega) HQK4.out)
          have HVI : Aside0 (Via xs q k ↔ (valR xs (q ++ [k])).2 = true ∧ ∃ p, Path xs (mask (q ++ [k])) (valR xs (q ++ [k])).1 p) := ⟨by
            unfold Via
            rw [HVK.out, LinJ.mask_snoc, HMB.out]
            exact ⟨fun h => h.2, fun h => ⟨rfl, h⟩⟩⟩
          clear hC4 hl4 hfr hql4 HREC
          generalize q ++ [k] = q2 at *
          cases hok2 : (valR xs q2).2 with
          | false =>
            have HO2 := Aside0.mk hok2
            rw [hok2] at HVA
            clear hok2
            refine HVA.out.mono ?_
            rintro e w5 ⟨xh, xA, xn, xc, rfl, hb5⟩
            have HB5 := Aside0.mk (below_step HB4.out hb5)
            clear hb5
            go_wp2
            go_roundw
            case rel => exact ⟨k + 1, by go_num, by omega, ⟨below_alloc HB5.out _⟩, HNY.out (fun h => by have h2 := (HVI.out.1 h).1; rw [HO2.out] at h2; cases h2)⟩
            case measure => simp [intOf]; omega
          | true =>
            have HO2 := Aside0.mk hok2
            have HRE := HRC.out hok2
            rw [hok2] at HVA
            clear hok2
            refine HVA.out.mono ?_
            rintro e w5 ⟨xh, xA, xn, xc, rfl, hb5⟩
            have HB5 := Aside0.mk hb5
            clear hb5
            go_wp2_with fail
            refine (HRE.out _ (below_alloc HB5.out _)).mono ?_
            rintro e w6 ⟨v6, b, rfl, hbp, hb6⟩
            have HB6 := Aside0.mk (below_step (below_step HB4.out (below_alloc HB5.out _)) hb6)
            have HBP := Aside0.mk hbp
            clear hbp hb6
            cases b with
            | true =>
              go_wp2
              go_ret2
              exact ⟨_, true, rfl, ⟨fun _ => HPB.out k hlt (HVI.out.2 ⟨HO2.out, HBP.out.1 trivial⟩), fun _ => rfl⟩, HB6.out⟩
            | false =>
              go_wp2
              go_roundw
              case rel => exact ⟨k + 1, by go_num, by omega, HB6, HNY.out (fun h => by have h2 := HBP.out.2 (HVI.out.1 h).2; cases h2)⟩
              case measure => simp [intOf]; omega
      · obtain rfl : k = xs.length := by omega
        go_wp2
        go_ret2
        exact ⟨_, false, rfl, ⟨fun h => (by cases h), fun h => (by obtain ⟨j, hj, hv⟩ := HPA.out h; exact absurd hv (HT.out j hj))⟩, HB.out⟩
theorem from_calls (A : Option Addr) (c : Nat) (xs : List Deed) (w0 : World) (hr : Deed.k.C w0 A xs.length xs) (hn : xs.length ≤ 20) (hkn : xs.any (fun x => !kn x.kind) = false) (n : Nat) : FromC A c xs w0 n := by
  induction n using Nat.strongRecOn with
  | _ n ih => exact from_step A c xs w0 hr hn hkn n ih
/-- What the reference's Order tells: its code. -/
def RefOrd (xs : List Deed) (c : Int) : Prop := (20 < xs.length ∧ c = 3) ∨ (xs.length ≤ 20 ∧ (c = 0 ∧ LinKey xs ∨ c = 4 ∧ ¬ LinKey xs))
def ROrderTold (xs : List Deed) (w : World) (e : Ending) (w' : World) : Prop := ∃ v c, e = .returned (.tuple #[v, .int .i64 c]) ∧ RefOrd xs c ∧ Below w.heap.size w w'
theorem free_le (xs : List Deed) (m : Nat) : free xs m ≤ xs.length := by
  unfold free
  exact Nat.le_trans (List.length_filter_le _ _) (by simp)
set_option maxHeartbeats 1000000 in
theorem refOrder_calls (A : Option Addr) (c : Nat) (xs : List Deed) (w : World) (hr : Deed.k.C w A xs.length xs) (hn : xs.length ≤ 1300000000000) :
    Calls Try.prog 45 #[.slice A xs.length c] w (ROrderTold xs w) := by
  have HR := Aside0.mk hr
  have HK := Aside0.mk (kinds_calls A c xs w hr hn)
  clear hr
  by_cases h20 : 20 < xs.length
  · have h20' : (20 : Int) < ((xs.length : Nat) : Int) := by omega
    go_enter Try.func45, Try.ntmps45
    go_wp2_with fail
    go_ret2
    exact ⟨_, 3, rfl, .inl ⟨h20, rfl⟩, Below.refl _ _⟩
  · have h20' : ¬ (20 : Int) < ((xs.length : Nat) : Int) := by omega
    have hle : xs.length ≤ 20 := by omega
    cases hkn : xs.any (fun x => !kn x.kind) with
    | true =>
      have HKN := Aside0.mk hkn
      rw [hkn] at HK
      clear hkn
      go_enter Try.func45, Try.ntmps45
      go_wp2_with (first | (with_reducible refine HK.out.mono ?_; rintro e w1 ⟨rfl, hw⟩; obtain rfl := hw.symm))
      go_ret2
      exact ⟨_, 4, rfl, .inr ⟨hle, .inr ⟨rfl, fun h => by have := h.1; rw [HKN.out] at this; cases this⟩⟩, Below.refl _ _⟩
    | false =>
      have HKN := Aside0.mk hkn
      have HFR : Aside0 (Calls Try.prog 53 #[.slice A xs.length c, .slice none 0 0] w (FromTold xs [] w)) := ⟨from_calls A c xs w HR.out hle hkn _ [] none 0 w rfl (Below.refl _ _) (Kd.C_nil _ _) (by have := free_le xs (mask []); simp; omega) (fun k hk => by cases hk) rfl⟩
      rw [hkn] at HK
      clear hkn
      go_enter Try.func45, Try.ntmps45
      go_wp2_with (first | (with_reducible refine HK.out.mono ?_; rintro e w1 ⟨rfl, hw⟩; obtain rfl := hw.symm))
      refine HFR.out.mono ?_
      rintro e w2 ⟨v, b, rfl, hbp, hb2⟩
      have HB2 := Aside0.mk hb2
      have HBP : Aside0 (b = true ↔ ∃ p, Path xs 0 Val.z p) := ⟨hbp⟩
      clear hbp hb2
      cases b with
      | true =>
        go_wp2
        go_ret2
        exact ⟨_, 0, rfl, .inr ⟨hle, .inl ⟨rfl, HKN.out, HBP.out.1 trivial⟩⟩, HB2.out⟩
      | false =>
        go_wp2
        go_ret2
        exact ⟨_, 4, rfl, .inr ⟨hle, .inr ⟨rfl, fun h => by have h2 := HBP.out.2 h.2; cases h2⟩⟩, HB2.out⟩
end RefE
end Go.Proofs.Ytgconogjnjhmgaa
