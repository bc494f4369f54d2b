/- CellsWhole, walked: a room that may be (UNDER WAY: does not stand yet). -/
import Derived.Test.YtgfjkpnaabiecaaTabT
import Derived.Deep.CutBlock
import Derived.Deep.QuietTactic
import Derived.BigQuiet
set_option linter.unusedVariables false
set_option linter.unusedSimpArgs false
namespace Go.Proofs.Ytgfjkpnaabiecaa
open Go.RowKit Go.Proofs.YtgfjkpnaabiecaaW.PrintWords
namespace Tab
open Tags
set_option maxRecDepth 100000 in
set_option maxHeartbeats 1000000 in
theorem whole_good (r : Room) (A : Option Addr) (c : Nat) (xs : List Do) (key : ByteArray) (w : World) (hr : Do.k.C w A xs.length xs) (hn : xs.length ≤ 1600000000000) (hb : RoomOk r) (hk : key.size ≤ 100) (hxl : ∀ x ∈ xs, x.e.val.b.length ≤ 140737488351232) :
    Calls Try.prog 3 #[.agg #[.int .i64 r.cells, .int .i64 r.bytes, .int .i64 r.buckets, .bool r.fresh], .slice A xs.length c, .string key] w (TrueTold w) := by
  have HR := Aside0.mk hr
  obtain ⟨ra, rb, rc, rd⟩ := r
  have HRM : Aside0 (RoomOk ⟨ra, rb, rc, true⟩) := ⟨hb⟩
  have HN : Aside0 (∀ w', Calls Try.prog 10 #[.agg #[.int .i64 ra, .int .i64 rb, .int .i64 rc, .bool true]] w' fun e w'' => ∃ p mb tb, e = .returned (.tuple #[.pointer (some ⟨p, 0, none⟩), .int .i64 0]) ∧ TbR w'' p mb tb (newT ⟨ra, rb, rc, true⟩) ∧ (w'.heap.size ≤ p ∧ w'.heap.size ≤ mb ∧ w'.heap.size ≤ tb) ∧ Below w'.heap.size w' w'') := ⟨fun w' => by
    refine (new_calls ⟨ra, rb, rc, true⟩ w').mono ?_
    intro e w'' h
    unfold NewTold at h
    rw [if_pos HRM.out] at h
    obtain ⟨p, mb, tb, rfl, h1, h2, h3, h4, h5⟩ := h
    exact ⟨p, mb, tb, rfl, h1, ⟨h2, h3, h4⟩, h5⟩⟩
  dsimp only at *
  have HL : Aside0 (∀ w', Below w.heap.size w w' → Calls Try.prog 11 #[.slice A xs.length c] w' fun e w'' => ∃ n : Int, e = .returned (.int .i64 n) ∧ Below w'.heap.size w' w'') := ⟨fun w' h => long_calls A c xs w' (Kd.C_below HR.out h) hn⟩
  have hk1 : decide ((100 : Int) < (key.size : Int)) = false := by
    have : ¬ (100 : Int) < (key.size : Int) := by omega
    simpa using this
  have hks : key.size ≤ 140737488351232 := by omega
  have HXL := Aside0.mk hxl
  clear hr hb hk hxl
  go_enter Try.func3, Try.ntmps3
  go_wp2_with (first
    | ((with_reducible refine (HN.out _).mono ?_); rintro e w1 ⟨p, mb, tb, rfl, h1, h2, h⟩; have HB := Aside0.mk (Below.then_ (below_alloc (Below.refl _ w) _) h (Nat.le_refl _)); have HT := Aside0.mk (And.intro h1 (show w.heap.size ≤ p ∧ w.heap.size ≤ mb ∧ w.heap.size ≤ tb from by simp at h2; omega)); clear h1 h2 h)
    | ((with_reducible refine (HL.out _ HB.out).mono ?_); rintro e w2 ⟨n, rfl, h⟩; have HT := Aside0.mk (And.intro (HT.out.1.below h) HT.out.2); have HB := Aside0.mk (Below.then_ HB.out h (Nat.le_refl _)); clear h)
    | ((with_reducible refine (known_true _).mono ?_); rintro e w3 ⟨rfl, h⟩; have HB := Aside0.mk (Below.then_ HB.out h (Nat.le_refl _)); clear h))
  · obtain ⟨w3, hw3⟩ : ∃ w3 : World, w3 = (w2.alloc (.cells #[.int .i64 0, .int .i64 0, .int .i64 0] 32)).alloc (.cells #[.string key, .int .i64 0, .int .i64 0, .int .i64 0, .bool false, .slice none 0 0] 37) := ⟨_, rfl⟩
    rw [← hw3]
    have HS : Aside0 (WS w p mb tb w2.heap.size (w2.heap.size + 1) (newT ⟨ra, rb, rc, true⟩) Tag.z ⟨key, Tag.z, Val.z⟩ none 0 w3) := ⟨by rw [hw3]; exact WS.start hks HT.out.1 HB.out HT.out.2⟩
    clear hw3
    obtain ⟨bB, hbB⟩ : ∃ b, b = w2.heap.size := ⟨_, rfl⟩
    obtain ⟨kB, hkB⟩ : ∃ b, b = w2.heap.size + 1 := ⟨_, rfl⟩
    rw [← hkB, ← hbB] at HS
    try rw [← hkB]
    try rw [← hbB]
    clear hkB hbB
    go_loopg [11] xs.length (fun gk v11 wr => ∃ (k : Nat) (T : Tb) (best : Tag) (kept : Entry) (Ak : Option Addr) (ck : Nat), v11 = .int .i64 (k : Int) ∧ k ≤ xs.length ∧ Aside0 (gk + k = xs.length) ∧ Aside0 (WS w p mb tb bB kB T best kept Ak ck wr) ∧ Aside0 (KInv T key best kept) ∧ Aside0 (Wf T (1 + 10000 * (k : Int))) ∧ Aside0 (kept.val.b.length ≤ 60000))
    case atStart => exact ⟨0, _, _, _, _, _, rfl, Nat.zero_le _, ⟨rfl⟩, HS, ⟨KInv.start key⟩, ⟨Wf.new_ HRM.out⟩, ⟨by simp [Val.z]⟩⟩
    case round =>
      clear HS
      obtain ⟨k, T, best, kept, Ak, ck, rfl, hk, HGK, HW, HK, HF, HKL⟩ := hrel
      by_cases hlt : k < xs.length
      · obtain ⟨ad, x, A6, c6, rfl, HX, y0, y1, y2, y3, y4, y5, y6, y7, y8⟩ := Do.at_ HR.out k hlt
        have x0 := pw_cell_below HW.out.bl y0
        have x1 := pw_cell_below HW.out.bl y1
        have x2 := pw_cell_below HW.out.bl y2
        have x3 := pw_cell_below HW.out.bl y3
        have x4 := pw_cell_below HW.out.bl y4
        have x5 := pw_cell_below HW.out.bl y5
        have x6 := pw_cell_below HW.out.bl y6
        have x7 := pw_cell_below HW.out.bl y7
        have HXE := Aside0.mk (do_ent y8.out)
        have HS := Aside0.mk (RS.start HW.out x A6 c6)
        have HXM : Aside0 (x.e.val.b.length ≤ 140737488351232) := ⟨HXL.out x (List.mem_of_getElem? HX.out)⟩
        clear y0 y1 y2 y3 y4 y5 y6 y7 y8 HX
        obtain ⟨kd, ⟨xk, ⟨s1, s2, s3⟩, ⟨xh, xb⟩⟩, tk⟩ := x
        dsimp only at x0 x1 x2 x3 x4 x5 x6 x7 HXE HXM
        go_upto_block 2 with (fail)
        obtain ⟨dB, hdB⟩ : ∃ d, d = wr.heap.size := ⟨_, rfl⟩
        rw [← hdB] at HS
        rw [← hdB]
        generalize hwd : wr.alloc (.cells #[.int .i64 kd, .string xk, .int .i64 s1, .int .i64 s2, .int .i64 s3, .bool xh, .slice A6 xb.length c6, .int .i64 tk] 39) = wd
        have HS : Aside0 (RS w p mb tb bB kB dB T best kept Ak ck ⟨kd, ⟨xk, ⟨s1, s2, s3⟩, ⟨xh, xb⟩⟩, tk⟩ A6 c6 wd) := ⟨by rw [← hwd]; exact HS.out⟩
        clear x0 x1 x2 x3 x4 x5 x6 x7 hwd hdB
        have HKE : Aside0 (kept.val.b.length ≤ 140737488351232 ∧ xb.length ≤ 140737488351232) := ⟨by have := HKL.out; omega, HXM.out⟩
        have HXS : Aside0 (xk.size ≤ 140737488351232) := ⟨by
          obtain ⟨_, _, _, s0, _⟩ := Entry.open_ HXE.out
          exact s0⟩
        have hk4 : 1 + 10000 * (k : Int) ≤ 2000000000000000000 := by omega
        have HNM : Aside0 (Num T (1 + 10000 * (k : Int))) := ⟨HF.out.num (by omega)⟩
        go_cut [] (fun wx => ∃ (T' : Tb) (best' : Tag) (kept' : Entry) (Ak' : Option Addr) (ck' : Nat), Aside0 (RS w p mb tb bB kB dB T' best' kept' Ak' ck' ⟨kd, ⟨xk, ⟨s1, s2, s3⟩, ⟨xh, xb⟩⟩, tk⟩ A6 c6 wx) ∧ Aside0 (KInv T' key best' kept') ∧ Aside0 (Wf T' (1 + 10000 * (k : Int) + 5000)) ∧ Aside0 (kept'.val.b.length ≤ 60000))
        case first =>
          obtain ⟨⟨d0, d1, d2, d3, d4, d5, d6, d7⟩, ⟨b0, b1, b2⟩, k0, k1, k2, k3, k4, k5⟩ := HS.out.cells
          dsimp only at d0 d1 d2 d3 d4 d5 d6 d7
          by_cases h2 : kd = 2
          · subst h2
            have HC := Aside0.mk (store_calls p mb tb T ⟨xk, ⟨s1, s2, s3⟩, ⟨xh, xb⟩⟩ A6 c6 _ wd HS.out.s.t HNM.out hk4 (HS.out.s.storeF HXE.out) HKE.out.2)
            obtain ⟨se, hse⟩ : ∃ se, se = storeE T ⟨xk, ⟨s1, s2, s3⟩, ⟨xh, xb⟩⟩ := ⟨_, rfl⟩
            rw [← hse] at HC
            have HSE := Aside0.mk hse
            clear hse
            have HKT : Aside0 (KInv (storeT T ⟨xk, ⟨s1, s2, s3⟩, ⟨xh, xb⟩⟩) key (bestS T ⟨xk, ⟨s1, s2, s3⟩, ⟨xh, xb⟩⟩ key best) kept ∧ Wf (storeT T ⟨xk, ⟨s1, s2, s3⟩, ⟨xh, xb⟩⟩) (1 + 10000 * (k : Int) + 5000)) := ⟨HK.out.store_ HF.out _, HF.out.store_ _⟩
            by_cases hs : se = 0
            · subst hs
              by_cases hkk : xk = key
              · subst hkk
                have HCM := Aside0.mk (fun w' => compareR_calls ⟨s1, s2, s3⟩ best w')
                by_cases hcm : 0 < cmpT ⟨s1, s2, s3⟩ best
                · have hcb : decide (0 < cmpT ⟨s1, s2, s3⟩ best) = true := by simpa using hcm
                  have HBE : Aside0 (bestS T ⟨xk, ⟨s1, s2, s3⟩, ⟨xh, xb⟩⟩ xk best = ⟨s1, s2, s3⟩) := ⟨by unfold bestS; rw [if_pos ⟨HSE.out.symm, rfl, hcm⟩]⟩
                  clear hcm
                  go_upto_region 15 with (first
                    | ((with_reducible refine HC.out.mono ?_); rintro e w1 ⟨rfl, h1, o1⟩; have HS := Aside0.mk (HS.out.told h1 o1); clear h1 o1; obtain ⟨⟨d0, d1, d2, d3, d4, d5, d6, d7⟩, ⟨b0, b1, b2⟩, k0, k1, k2, k3, k4, k5⟩ := HS.out.cells)
                    | ((with_reducible refine (HCM.out _).mono ?_); rintro e w4 ⟨rfl, hb4⟩; have HS := Aside0.mk (HS.out.below hb4); clear hb4; obtain ⟨⟨d0, d1, d2, d3, d4, d5, d6, d7⟩, ⟨b0, b1, b2⟩, k0, k1, k2, k3, k4, k5⟩ := HS.out.cells))
                  obtain ⟨⟨f0, f1, f2⟩, _⟩ := HS.out.frozen
                  go_wp2
                  go_meet
                  exact ⟨_, _, _, _, _, ⟨HS.out.setB ⟨s1, s2, s3⟩⟩, ⟨by have h := HKT.out.1; rw [HBE.out] at h; exact h⟩, ⟨HKT.out.2⟩, HKL⟩
                · have hcb : decide (0 < cmpT ⟨s1, s2, s3⟩ best) = false := by simpa using hcm
                  have HBE : Aside0 (bestS T ⟨xk, ⟨s1, s2, s3⟩, ⟨xh, xb⟩⟩ xk best = best) := ⟨by unfold bestS; rw [if_neg (fun h => hcm h.2.2)]⟩
                  clear hcm
                  go_wp2_with (first
                    | ((with_reducible refine HC.out.mono ?_); rintro e w1 ⟨rfl, h1, o1⟩; have HS := Aside0.mk (HS.out.told h1 o1); clear h1 o1; obtain ⟨⟨d0, d1, d2, d3, d4, d5, d6, d7⟩, ⟨b0, b1, b2⟩, k0, k1, k2, k3, k4, k5⟩ := HS.out.cells)
                    | ((with_reducible refine (HCM.out _).mono ?_); rintro e w4 ⟨rfl, hb4⟩; have HS := Aside0.mk (HS.out.below hb4); clear hb4; obtain ⟨⟨d0, d1, d2, d3, d4, d5, d6, d7⟩, ⟨b0, b1, b2⟩, k0, k1, k2, k3, k4, k5⟩ := HS.out.cells))
                  go_meet
                  exact ⟨_, _, _, _, _, HS, ⟨by rw [← HBE.out]; exact HKT.out.1⟩, ⟨HKT.out.2⟩, HKL⟩
              · have hkb : (xk.toList == key.toList) = false := by simpa using StrRow.txt_ne hkk
                have HBE : Aside0 (bestS T ⟨xk, ⟨s1, s2, s3⟩, ⟨xh, xb⟩⟩ key best = best) := ⟨by unfold bestS; rw [if_neg (fun h => hkk h.2.1)]⟩
                clear hkk
                go_wp2_with (first
                  | ((with_reducible refine HC.out.mono ?_); rintro e w1 ⟨rfl, h1, o1⟩; have HS := Aside0.mk (HS.out.told h1 o1); clear h1 o1; obtain ⟨⟨d0, d1, d2, d3, d4, d5, d6, d7⟩, ⟨b0, b1, b2⟩, k0, k1, k2, k3, k4, k5⟩ := HS.out.cells))
                go_meet
                exact ⟨_, _, _, _, _, HS, ⟨by rw [← HBE.out]; exact HKT.out.1⟩, ⟨HKT.out.2⟩, HKL⟩
            · have hsb : (se == 0) = false := by simpa using hs
              have HBE : Aside0 (bestS T ⟨xk, ⟨s1, s2, s3⟩, ⟨xh, xb⟩⟩ key best = best) := ⟨by unfold bestS; rw [if_neg (fun h => hs (HSE.out.trans h.1))]⟩
              clear hs
              go_wp2_with (first
                | ((with_reducible refine HC.out.mono ?_); rintro e w1 ⟨rfl, h1, o1⟩; have HS := Aside0.mk (HS.out.told h1 o1); clear h1 o1; obtain ⟨⟨d0, d1, d2, d3, d4, d5, d6, d7⟩, ⟨b0, b1, b2⟩, k0, k1, k2, k3, k4, k5⟩ := HS.out.cells))
              go_meet
              exact ⟨_, _, _, _, _, HS, ⟨by rw [← HBE.out]; exact HKT.out.1⟩, ⟨HKT.out.2⟩, HKL⟩
          · have e2 : (kd == 2) = false := by simpa using h2
            clear h2
            by_cases h3 : kd = 3
            · subst h3
              have HC := Aside0.mk (fill_calls p mb tb T kept tk Ak ck _ wd HS.out.s.t HNM.out hk4 HS.out.s.fillF HKE.out.1)
              go_wp2_with (first
                | ((with_reducible refine HC.out.mono ?_); rintro e w1 ⟨rfl, h1, o1⟩; have HS := Aside0.mk (HS.out.told h1 o1); clear h1 o1; obtain ⟨⟨d0, d1, d2, d3, d4, d5, d6, d7⟩, ⟨b0, b1, b2⟩, k0, k1, k2, k3, k4, k5⟩ := HS.out.cells))
              go_meet
              exact ⟨_, _, _, _, _, HS, ⟨HK.out.fill_ HF.out tk⟩, ⟨HF.out.fill_ _ _⟩, HKL⟩
            · have e3 : (kd == 3) = false := by simpa using h3
              clear h3
              by_cases h4 : kd = 4
              · subst h4
                have HC := Aside0.mk (cells_calls p mb tb T _ wd HS.out.s.t HNM.out)
                have hTl : T.l.length ≤ 4096 := by have h1 := HF.out.len; have h2 := HF.out.rm.2.1; omega
                have HLT : Aside0 (∀ i ∈ [p, mb, tb, bB, kB], i < wd.heap.size) := ⟨by
                  obtain ⟨l1, l2, l3⟩ := HS.out.s.t.lt
                  have l4 := HS.out.s.bt.lt
                  have l5 := HS.out.s.kt.lt
                  intro i hi
                  simp at hi
                  rcases hi with rfl | rfl | rfl | rfl | rfl <;> assumption⟩
                go_wp2_with (first
                  | ((with_reducible refine HC.out.mono ?_); rintro e w1 ⟨A, cc, rfl, hcc, hF, hb⟩; have HS := Aside0.mk (HS.out.below hb); have HFC := Aside0.mk hF; clear hb hF))
                clear d0 d1 d2 d3 d4 d5 d6 d7 b0 b1 b2 k0 k1 k2 k3 k4 k5
                go_loopg [14] T.l.length (fun gj v14 wj => ∃ (j : Nat) (T' : Tb) (kept' : Entry) (Ak' : Option Addr) (ck' : Nat), v14 = .int .i64 (j : Int) ∧ j ≤ T.l.length ∧ Aside0 (gj + j = T.l.length) ∧ Aside0 (RS w p mb tb bB kB dB T' best kept' Ak' ck' ⟨4, ⟨xk, ⟨s1, s2, s3⟩, ⟨xh, xb⟩⟩, tk⟩ A6 c6 wj) ∧ Aside0 (KInv T' key best kept') ∧ Aside0 (Wf T' (1 + 10000 * (k : Int))) ∧ Aside0 (kept'.val.b.length ≤ 60000) ∧ Aside0 (Kd.F Cell.k wj (fun i => wd.heap.size ≤ i) A T.l.length T.l) ∧ Aside0 ((T' = T ∧ kept' = kept) ∨ ∀ i, j ≤ i → ∀ c, T.l[i]? = some c → c.e.key ≠ xk))
                case atStart => exact ⟨0, T, kept, Ak, ck, rfl, Nat.zero_le _, ⟨rfl⟩, HS, HK, HF, HKL, HFC, ⟨.inl ⟨rfl, rfl⟩⟩⟩
                case round =>
                  clear HFC
                  obtain ⟨j, T', kept', Ak', ck', rfl, hjl, HGJ, HSJ, HK', HF', HKL', HFC, HALT⟩ := hrel
                  by_cases hj : j < T.l.length
                  · obtain ⟨ac, y, A5, c5, rfl, HY, z0, z1, z2, z3, z4, z5, HYE, HOK⟩ := cell_atF HFC.out j hj
                    have HAC : Aside0 (wd.heap.size ≤ (ac.add (j * 9)).block) := ⟨by rw [adr_block]; exact HOK.out⟩
                    have hjI : (j : Int) < (T.l.length : Int) := by omega
                    obtain ⟨⟨yk, ⟨t1, t2, t3⟩, ⟨yh, yb⟩⟩, yw, yc, yu⟩ := y
                    dsimp only at z0 z1 z2 z3 z4 z5 HYE
                    obtain ⟨⟨d0, d1, d2, d3, d4, d5, d6, d7⟩, ⟨b0, b1, b2⟩, k0, k1, k2, k3, k4, k5⟩ := HSJ.out.cells
                    dsimp only at d0 d1 d2 d3 d4 d5 d6 d7
                    by_cases hkx : xk = yk
                    · subst hkx
                      have HTT : Aside0 (T' = T ∧ kept' = kept) := ⟨by
                        rcases HALT.out with h | h
                        · exact h
                        · exact absurd rfl (h j (Nat.le_refl _) _ HY.out)⟩
                      obtain ⟨rfl, rfl⟩ := HTT.out
                      have HNX : Aside0 (∀ i, j + 1 ≤ i → ∀ c, T'.l[i]? = some c → c.e.key ≠ xk) := ⟨fun i hi c hc e => by
                        have hlt := srt_lt HF'.out.srt (i := j) (j := i) (by omega) HY.out hc
                        exact (ne_of hlt) e.symm⟩
                      have HFY : Aside0 (find T'.l xk = some ⟨⟨xk, ⟨t1, t2, t3⟩, ⟨yh, yb⟩⟩, yw, yc, yu⟩) := ⟨find_of HF'.out.srt (List.mem_of_getElem? HY.out)⟩
                      have HEO : Aside0 (yb.length ≤ 60000) := ⟨(HF'.out.ent _ (List.mem_of_getElem? HY.out)).2.2.1⟩
                      go_upto_region 23 with (fail)
                      go_quiet (fail)
                      by_cases hkk : xk = key
                      · subst hkk
                        go_upto_region 25 with (fail)
                        obtain ⟨W2, hW2⟩ : ∃ W, W = wr.drewN nq := ⟨_, rfl⟩
                        rw [← hW2]
                        have z0 : W2.cell? (ac.add (j * 9)) = some (.string xk) := by rw [hW2]; exact z0
                        have z1 : W2.cell? ⟨(ac.add (j * 9)).block, (ac.add (j * 9)).off + 1, none⟩ = some (.int .i64 t1) := by rw [hW2]; exact z1
                        have z2 : W2.cell? ⟨(ac.add (j * 9)).block, (ac.add (j * 9)).off + 2, none⟩ = some (.int .i64 t2) := by rw [hW2]; exact z2
                        have z3 : W2.cell? ⟨(ac.add (j * 9)).block, (ac.add (j * 9)).off + 3, none⟩ = some (.int .i64 t3) := by rw [hW2]; exact z3
                        have z4 : W2.cell? ⟨(ac.add (j * 9)).block, (ac.add (j * 9)).off + 4, none⟩ = some (.bool yh) := by rw [hW2]; exact z4
                        have z5 : W2.cell? ⟨(ac.add (j * 9)).block, (ac.add (j * 9)).off + 5, none⟩ = some (.slice A5 yb.length c5) := by rw [hW2]; exact z5
                        have HSJ := Aside0.mk (HSJ.out.below (w1 := W2) (by rw [hW2]; exact pw_below_drewN (Below.refl _ _) _))
                        have HFC := Aside0.mk (Kd.F_below (W1 := W2) HFC.out (by rw [hW2]; exact pw_below_drewN (Below.refl _ _) _))
                        have HYE : Aside0 (Kd.FK Entry.k W2 _ _ _) := ⟨Foot.step HYE.out (fun k _ _ => by rw [hW2]; rfl)⟩
                        clear hW2
                        obtain ⟨⟨d0, d1, d2, d3, d4, d5, d6, d7⟩, ⟨b0, b1, b2⟩, k0, k1, k2, k3, k4, k5⟩ := HSJ.out.cells
                        refine region_calm 6 (Eq W2.drew) (by kernel_rfl) (by kernel_rfl) rfl ?_
                        simp only [List.take_succ_cons, List.take_zero, List.drop_succ_cons, List.drop_zero]
                        (refine wpCalm_val (v := ?_) rfl ?_ ?_; rotate_left; (focus (rintro w' rfl; go_simp; try with_reducible rfl)))
                        (try simp only [Act.put, List.setIfInBounds_toArray, List.set_cons_zero, List.set_cons_succ])
                        (refine wpCalm_val (v := ?_) rfl ?_ ?_; rotate_left; (focus (rintro w' rfl; go_simp; try with_reducible rfl)))
                        (try simp only [Act.put, List.setIfInBounds_toArray, List.set_cons_zero, List.set_cons_succ])
                        (refine wpCalm_val (v := ?_) rfl ?_ ?_; rotate_left; (focus (rintro w' rfl; go_simp; try with_reducible rfl)))
                        (try simp only [Act.put, List.setIfInBounds_toArray, List.set_cons_zero, List.set_cons_succ])
                        (refine wpCalm_val (v := ?_) rfl ?_ ?_; rotate_left; (focus (rintro w' rfl; go_simp; try with_reducible rfl)))
                        (try simp only [Act.put, List.setIfInBounds_toArray, List.set_cons_zero, List.set_cons_succ])
                        (refine wpCalm_val (v := ?_) rfl ?_ ?_; rotate_left; (focus (rintro w' rfl; go_simp; try with_reducible rfl)))
                        (try simp only [Act.put, List.setIfInBounds_toArray, List.set_cons_zero, List.set_cons_succ])
                        (refine wpCalm_val (v := ?_) rfl ?_ ?_; rotate_left; (focus (rintro w' rfl; go_simp; try with_reducible rfl)))
                        (try simp only [Act.put, List.setIfInBounds_toArray, List.set_cons_zero, List.set_cons_succ])
                        refine wpCalm_nil ?_
                        rintro w2 rfl
                        obtain ⟨K2, A2, c2, hK2, hF2, hC2⟩ : ∃ (K2 : Entry) (A2 : Option Addr) (c2 : Nat), K2 = newerE kept' ⟨xk, ⟨t1, t2, t3⟩, ⟨yh, yb⟩⟩ ∧ Kd.FK Entry.k W2 (fun i => i ∉ [p, mb, tb, bB, kB]) K2 (ecs K2 A2 c2) ∧ ∀ w', Calls Try.prog 17 #[.agg #[.string kept'.key, .int .i64 kept'.tag.seq, .int .i64 kept'.tag.who, .int .i64 kept'.tag.op, .bool kept'.val.has, .slice Ak' kept'.val.b.length ck'], .agg #[.string xk, .int .i64 t1, .int .i64 t2, .int .i64 t3, .bool yh, .slice A5 yb.length c5]] w' fun e w'' => e = .returned (.agg #[.string K2.key, .int .i64 K2.tag.seq, .int .i64 K2.tag.who, .int .i64 K2.tag.op, .bool K2.val.has, .slice A2 K2.val.b.length c2]) ∧ Below w'.heap.size w' w'' := by
                          have hN := fun w' => newer_calls kept' ⟨xk, ⟨t1, t2, t3⟩, ⟨yh, yb⟩⟩ Ak' A5 ck' c5 w'
                          unfold newerE
                          by_cases hcm : cmpT kept'.tag ⟨t1, t2, t3⟩ < 0
                          · simp only [hcm, if_true] at hN ⊢
                            exact ⟨_, A5, c5, rfl, Foot.mono HYE.out (fun i hi hm => Nat.not_lt_of_le hi (HLT.out i hm)), hN⟩
                          · simp only [hcm, if_false] at hN ⊢
                            exact ⟨_, Ak', ck', rfl, HSJ.out.s.f, hN⟩
                        have HKI : Aside0 (KInv (cleanT T' xk ⟨t1, t2, t3⟩) xk best K2) := ⟨by rw [hK2]; exact HK'.out.clean_at HF'.out.srt HFY.out⟩
                        have HKL2 : Aside0 (K2.val.b.length ≤ 60000) := ⟨by rw [hK2]; unfold newerE; split <;> first | exact HEO.out | exact HKL'.out⟩
                        have HF2 := Aside0.mk hF2
                        have HC2 := Aside0.mk hC2
                        clear hK2 hF2 hC2
                        have HSD := Aside0.mk (HSJ.out.below (below_drew (Below.refl _ _)))
                        have HF2D : Aside0 (Kd.FK Entry.k W2.drew _ _ _) := ⟨Foot.step HF2.out (fun k _ _ => rfl)⟩
                        have HFCD := Aside0.mk (Kd.F_drew HFC.out)
                        clear d0 d1 d2 d3 d4 d5 d6 d7 b0 b1 b2 k0 k1 k2 k3 k4 k5
                        go_upto_region 26 with (first | ((with_reducible refine (HC2.out _).mono ?_); rintro e w4 ⟨rfl, hb4⟩; have HS4 := Aside0.mk (HSD.out.below hb4); have HF4 : Aside0 (Kd.FK Entry.k w4 _ _ _) := ⟨Foot.step HF2D.out (fun k _ h => hb4.block k h)⟩; have HFC4 := Aside0.mk (Kd.F_below HFCD.out hb4); have HB4 := Aside0.mk hb4; obtain ⟨_, _, k0, k1, k2, k3, k4, k5⟩ := HS4.out.cells; obtain ⟨_, f0, f1, f2, f3, f4, f5⟩ := HS4.out.frozen; clear hb4))
                        obtain ⟨W5, hW5⟩ : ∃ W, W = (((((w4.setCell ⟨kB, 0, none⟩ (.string K2.key)).setCell ⟨kB, 1, none⟩ (.int .i64 K2.tag.seq)).setCell ⟨kB, 2, none⟩ (.int .i64 K2.tag.who)).setCell ⟨kB, 3, none⟩ (.int .i64 K2.tag.op)).setCell ⟨kB, 4, none⟩ (.bool K2.val.has)).setCell ⟨kB, 5, none⟩ (.slice A2 K2.val.b.length c2) := ⟨_, rfl⟩
                        rw [← hW5]
                        have HS5 : Aside0 (RS w p mb tb bB kB dB T' best K2 A2 c2 ⟨4, ⟨xk, ⟨s1, s2, s3⟩, ⟨xh, xb⟩⟩, tk⟩ A6 c6 W5) := ⟨by rw [hW5]; exact HS4.out.setK K2 A2 c2 HF4.out⟩
                        have hO : Only [kB] w4 W5 := by rw [hW5]; exact ((((((Only.refl [kB] w4).set (p := ⟨kB, 0, none⟩) _ (.inl (by simp))).set (p := ⟨kB, 1, none⟩) _ (.inl (by simp))).set (p := ⟨kB, 2, none⟩) _ (.inl (by simp))).set (p := ⟨kB, 3, none⟩) _ (.inl (by simp))).set (p := ⟨kB, 4, none⟩) _ (.inl (by simp))).set (p := ⟨kB, 5, none⟩) _ (.inl (by simp))
                        have HFC := Aside0.mk (Foot.only HFC4.out hO (fun i hi hm => Nat.not_lt_of_le hi (HLT.out i (by simp at hm ⊢; omega))))
                        have HZ : Aside0 (∀ (q : Addr) v, q.block = (ac.add (j * 9)).block → W2.cell? q = some v → W5.cell? q = some v) := ⟨fun q v hq h => by
                          have h4 := pw_cell_below HB4.out (show W2.drew.cell? _ = some v from h)
                          rw [hO.cell (p := q) (World.block_lt_of_cell? _ _ h4) (fun hm => by
                            have h6 := HLT.out _ (show (ac.add (j * 9)).block ∈ [p, mb, tb, bB, kB] from by rw [← hq]; simp at hm ⊢; omega)
                            have h7 := HAC.out
                            omega)]
                          exact h4⟩
                        have z0 := HZ.out _ _ (by rfl) z0
                        have z1 := HZ.out _ _ (by rfl) z1
                        have z2 := HZ.out _ _ (by rfl) z2
                        have z3 := HZ.out _ _ (by rfl) z3
                        clear hW5 hO
                        obtain ⟨⟨d0, d1, d2, d3, d4, d5, d6, d7⟩, ⟨b0, b1, b2⟩, k0, k1, k2, k3, k4, k5⟩ := HS5.out.cells
                        dsimp only at d0 d1 d2 d3 d4 d5 d6 d7
                        refine region_calm 10 (Eq W5.drew) (by kernel_rfl) (by kernel_rfl) rfl ?_
                        simp only [List.take_succ_cons, List.take_zero, List.drop_succ_cons, List.drop_zero]
                        (refine wpCalm_val (v := ?_) rfl ?_ ?_; rotate_left; (focus (rintro w' rfl; go_simp; try with_reducible rfl)))
                        (try simp only [Act.put, List.setIfInBounds_toArray, List.set_cons_zero, List.set_cons_succ])
                        (refine wpCalm_val (v := ?_) rfl ?_ ?_; rotate_left; (focus (rintro w' rfl; go_simp; try with_reducible rfl)))
                        (try simp only [Act.put, List.setIfInBounds_toArray, List.set_cons_zero, List.set_cons_succ])
                        (refine wpCalm_val (v := ?_) rfl ?_ ?_; rotate_left; (focus (rintro w' rfl; go_simp; try with_reducible rfl)))
                        (try simp only [Act.put, List.setIfInBounds_toArray, List.set_cons_zero, List.set_cons_succ])
                        (refine wpCalm_val (v := ?_) rfl ?_ ?_; rotate_left; (focus (rintro w' rfl; go_simp; try with_reducible rfl)))
                        (try simp only [Act.put, List.setIfInBounds_toArray, List.set_cons_zero, List.set_cons_succ])
                        (refine wpCalm_val (v := ?_) rfl ?_ ?_; rotate_left; (focus (rintro w' rfl; go_simp; try with_reducible rfl)))
                        (try simp only [Act.put, List.setIfInBounds_toArray, List.set_cons_zero, List.set_cons_succ])
                        (refine wpCalm_val (v := ?_) rfl ?_ ?_; rotate_left; (focus (rintro w' rfl; go_simp; try with_reducible rfl)))
                        (try simp only [Act.put, List.setIfInBounds_toArray, List.set_cons_zero, List.set_cons_succ])
                        (refine wpCalm_val (v := ?_) rfl ?_ ?_; rotate_left; (focus (rintro w' rfl; go_simp; try with_reducible rfl)))
                        (try simp only [Act.put, List.setIfInBounds_toArray, List.set_cons_zero, List.set_cons_succ])
                        (refine wpCalm_val (v := ?_) rfl ?_ ?_; rotate_left; (focus (rintro w' rfl; go_simp; try with_reducible rfl)))
                        (try simp only [Act.put, List.setIfInBounds_toArray, List.set_cons_zero, List.set_cons_succ])
                        (refine wpCalm_val (v := ?_) rfl ?_ ?_; rotate_left; (focus (rintro w' rfl; go_simp; try with_reducible rfl)))
                        (try simp only [Act.put, List.setIfInBounds_toArray, List.set_cons_zero, List.set_cons_succ])
                        (refine wpCalm_val (v := ?_) rfl ?_ ?_; rotate_left; (focus (rintro w' rfl; go_simp; try with_reducible rfl)))
                        (try simp only [Act.put, List.setIfInBounds_toArray, List.set_cons_zero, List.set_cons_succ])
                        refine wpCalm_nil ?_
                        rintro w2 rfl
                        have HCL := Aside0.mk (clean_calls p mb tb T' xk t1 t2 t3 W5.drew (HS5.out.s.t.below (below_drew (Below.refl _ _))) HXS.out)
                        have HSD := Aside0.mk (HS5.out.below (below_drew (Below.refl _ _)))
                        have HFD := Aside0.mk (Kd.F_drew HFC.out)
                        go_wp2_with (first | ((with_reducible refine HCL.out.mono ?_); rintro e w5 ⟨rfl, h1, o1⟩; have HFC := Aside0.mk (Foot.only HFD.out o1 (fun i hi hm => Nat.not_lt_of_le hi (HLT.out i (by simp at hm ⊢; omega)))); have HSJ := Aside0.mk (HSD.out.told h1 o1); clear h1 o1))
                        go_roundg (T'.l.length - (j + 1))
                        case measure => have := HGJ.out; omega
                        case rel => exact ⟨j + 1, _, _, _, _, by go_num, by omega, ⟨by have := HGJ.out; omega⟩, HSJ, HKI, ⟨HF'.out.clean_ _ _⟩, HKL2, HFC, ⟨.inr HNX.out⟩⟩
                      · have hkb : (xk.toList == key.toList) = false := by simpa using StrRow.txt_ne hkk
                        have HKI : Aside0 (KInv (cleanT T' xk ⟨t1, t2, t3⟩) key best kept') := ⟨HK'.out.clean_far HF'.out.srt _ hkk⟩
                        clear hkk
                        go_upto_region 26 with (fail)
                        obtain ⟨W2, hW2⟩ : ∃ W, W = wr.drewN nq := ⟨_, rfl⟩
                        rw [← hW2]
                        have z0 : W2.cell? (ac.add (j * 9)) = some (.string xk) := by rw [hW2]; exact z0
                        have z1 : W2.cell? ⟨(ac.add (j * 9)).block, (ac.add (j * 9)).off + 1, none⟩ = some (.int .i64 t1) := by rw [hW2]; exact z1
                        have z2 : W2.cell? ⟨(ac.add (j * 9)).block, (ac.add (j * 9)).off + 2, none⟩ = some (.int .i64 t2) := by rw [hW2]; exact z2
                        have z3 : W2.cell? ⟨(ac.add (j * 9)).block, (ac.add (j * 9)).off + 3, none⟩ = some (.int .i64 t3) := by rw [hW2]; exact z3
                        have HSJ := Aside0.mk (HSJ.out.below (w1 := W2) (by rw [hW2]; exact pw_below_drewN (Below.refl _ _) _))
                        have HFC := Aside0.mk (Kd.F_below (W1 := W2) HFC.out (by rw [hW2]; exact pw_below_drewN (Below.refl _ _) _))
                        clear hW2
                        obtain ⟨⟨d0, d1, d2, d3, d4, d5, d6, d7⟩, ⟨b0, b1, b2⟩, k0, k1, k2, k3, k4, k5⟩ := HSJ.out.cells
                        dsimp only at d0 d1 d2 d3 d4 d5 d6 d7
                        refine region_calm 10 (Eq W2.drew) (by kernel_rfl) (by kernel_rfl) rfl ?_
                        simp only [List.take_succ_cons, List.take_zero, List.drop_succ_cons, List.drop_zero]
                        (refine wpCalm_val (v := ?_) rfl ?_ ?_; rotate_left; (focus (rintro w' rfl; go_simp; try with_reducible rfl)))
                        (try simp only [Act.put, List.setIfInBounds_toArray, List.set_cons_zero, List.set_cons_succ])
                        (refine wpCalm_val (v := ?_) rfl ?_ ?_; rotate_left; (focus (rintro w' rfl; go_simp; try with_reducible rfl)))
                        (try simp only [Act.put, List.setIfInBounds_toArray, List.set_cons_zero, List.set_cons_succ])
                        (refine wpCalm_val (v := ?_) rfl ?_ ?_; rotate_left; (focus (rintro w' rfl; go_simp; try with_reducible rfl)))
                        (try simp only [Act.put, List.setIfInBounds_toArray, List.set_cons_zero, List.set_cons_succ])
                        (refine wpCalm_val (v := ?_) rfl ?_ ?_; rotate_left; (focus (rintro w' rfl; go_simp; try with_reducible rfl)))
                        (try simp only [Act.put, List.setIfInBounds_toArray, List.set_cons_zero, List.set_cons_succ])
                        (refine wpCalm_val (v := ?_) rfl ?_ ?_; rotate_left; (focus (rintro w' rfl; go_simp; try with_reducible rfl)))
                        (try simp only [Act.put, List.setIfInBounds_toArray, List.set_cons_zero, List.set_cons_succ])
                        (refine wpCalm_val (v := ?_) rfl ?_ ?_; rotate_left; (focus (rintro w' rfl; go_simp; try with_reducible rfl)))
                        (try simp only [Act.put, List.setIfInBounds_toArray, List.set_cons_zero, List.set_cons_succ])
                        (refine wpCalm_val (v := ?_) rfl ?_ ?_; rotate_left; (focus (rintro w' rfl; go_simp; try with_reducible rfl)))
                        (try simp only [Act.put, List.setIfInBounds_toArray, List.set_cons_zero, List.set_cons_succ])
                        (refine wpCalm_val (v := ?_) rfl ?_ ?_; rotate_left; (focus (rintro w' rfl; go_simp; try with_reducible rfl)))
                        (try simp only [Act.put, List.setIfInBounds_toArray, List.set_cons_zero, List.set_cons_succ])
                        (refine wpCalm_val (v := ?_) rfl ?_ ?_; rotate_left; (focus (rintro w' rfl; go_simp; try with_reducible rfl)))
                        (try simp only [Act.put, List.setIfInBounds_toArray, List.set_cons_zero, List.set_cons_succ])
                        (refine wpCalm_val (v := ?_) rfl ?_ ?_; rotate_left; (focus (rintro w' rfl; go_simp; try with_reducible rfl)))
                        (try simp only [Act.put, List.setIfInBounds_toArray, List.set_cons_zero, List.set_cons_succ])
                        refine wpCalm_nil ?_
                        rintro w2 rfl
                        have HCL := Aside0.mk (clean_calls p mb tb T' xk t1 t2 t3 W2.drew (HSJ.out.s.t.below (below_drew (Below.refl _ _))) HXS.out)
                        have HSD := Aside0.mk (HSJ.out.below (below_drew (Below.refl _ _)))
                        have HFD := Aside0.mk (Kd.F_drew HFC.out)
                        go_wp2_with (first | ((with_reducible refine HCL.out.mono ?_); rintro e w5 ⟨rfl, h1, o1⟩; have HFC := Aside0.mk (Foot.only HFD.out o1 (fun i hi hm => Nat.not_lt_of_le hi (HLT.out i (by simp at hm ⊢; omega)))); have HSJ := Aside0.mk (HSD.out.told h1 o1); clear h1 o1))
                        go_roundg (T'.l.length - (j + 1))
                        case measure => have := HGJ.out; omega
                        case rel => exact ⟨j + 1, _, _, _, _, by go_num, by omega, ⟨by have := HGJ.out; omega⟩, HSJ, HKI, ⟨HF'.out.clean_ _ _⟩, HKL', HFC, ⟨.inr HNX.out⟩⟩
                    · have hkb : (yk.toList == xk.toList) = false := by simpa using StrRow.txt_ne (fun e => hkx e.symm)
                      have HNX : Aside0 ((T' = T ∧ kept' = kept) ∨ ∀ i, j + 1 ≤ i → ∀ c, T.l[i]? = some c → c.e.key ≠ xk) := ⟨HALT.out.imp id (fun h i hi c hc => h i (by omega) c hc)⟩
                      clear hkx
                      go_upto_region 23 with (fail)
                      go_quiet (fail)
                      go_wp2
                      go_roundg (T.l.length - (j + 1))
                      case measure => have := HGJ.out; omega
                      case rel => exact ⟨j + 1, _, _, _, _, by go_num, by omega, ⟨by have := HGJ.out; omega⟩, ⟨HSJ.out.below (pw_below_drewN (Below.refl _ _) _)⟩, HK', HF', HKL', ⟨Kd.F_drewN HFC.out _⟩, HNX⟩
                  · obtain rfl : j = T.l.length := by omega
                    go_wp2
                    go_meet
                    exact ⟨_, _, _, _, _, HSJ, HK', ⟨HF'.out.mono (by omega)⟩, HKL'⟩
              · have e4 : (kd == 4) = false := by simpa using h4
                clear h4
                by_cases h6 : kd = 6
                · subst h6
                  have HC := Aside0.mk (forget_calls p mb tb T _ wd HS.out.s.t HNM.out hk4)
                  go_wp2_with (first
                    | ((with_reducible refine HC.out.mono ?_); rintro e w1 ⟨rfl, h1, o1⟩; have HS := Aside0.mk (HS.out.told h1 o1); clear h1 o1; obtain ⟨⟨d0, d1, d2, d3, d4, d5, d6, d7⟩, ⟨b0, b1, b2⟩, k0, k1, k2, k3, k4, k5⟩ := HS.out.cells))
                  go_meet
                  exact ⟨_, _, _, _, _, HS, ⟨HK.out.forget_ HF.out⟩, ⟨HF.out.forget_⟩, HKL⟩
                · have e6 : (kd == 6) = false := by simpa using h6
                  clear h6
                  have HC := Aside0.mk (evict_calls p mb tb T xk _ wd HS.out.s.t HNM.out hk4 HXS.out)
                  go_wp2_with (first
                    | ((with_reducible refine HC.out.mono ?_); rintro e w1 ⟨rfl, h1, o1⟩; have HS := Aside0.mk (HS.out.told h1 o1); clear h1 o1; obtain ⟨⟨d0, d1, d2, d3, d4, d5, d6, d7⟩, ⟨b0, b1, b2⟩, k0, k1, k2, k3, k4, k5⟩ := HS.out.cells))
                  go_meet
                  exact ⟨_, _, _, _, _, HS, ⟨HK.out.evict_ HF.out xk⟩, ⟨HF.out.evict_ _⟩, HKL⟩
        case rest =>
          obtain ⟨T', best', kept', Ak', ck', HS, HK', HF', HKL'⟩ := hcut
          have HNM' : Aside0 (Num T' (1 + 10000 * (k : Int) + 5000)) := ⟨HF'.out.num (by omega)⟩
          have HQ := Aside0.mk (query_calls p mb tb T' key _ wc HS.out.s.t HNM'.out (by omega) hks)
          have HKQ : Aside0 (KInv (queryT T' key) key best' kept' ∧ Wf (queryT T' key) (1 + 10000 * ((k + 1 : Nat) : Int))) := ⟨HK'.out.query_ HF'.out.srt key, (HF'.out.query_ key).mono (by omega)⟩
          have HTE : Aside0 (queryE key = 0 → (queryR T' key).whole = true → ¬ cmpT (queryR T' key).e.tag best' < 0) := ⟨fun h1 h2 => by have := HK'.out.tells h1 h2; omega⟩
          obtain ⟨qe, hqe⟩ : ∃ q, q = queryE key := ⟨_, rfl⟩
          obtain ⟨R, hR⟩ : ∃ R, R = queryR T' key := ⟨_, rfl⟩
          unfold QueryTold at HQ
          rw [← hqe, ← hR] at HQ HTE
          clear hqe hR
          obtain ⟨⟨rk, ⟨r1, r2, r3⟩, ⟨rh, rb⟩⟩, rw_, rt⟩ := R
          dsimp only at HTE
          have HQ' : Aside0 (Calls Try.prog 21 #[.pointer (some ⟨p, 0, none⟩), .string key] wc fun e w' => ∃ A c, e = .returned (.tuple #[.agg #[.string rk, .int .i64 r1, .int .i64 r2, .int .i64 r3, .bool rh, .slice A rb.length c, .bool rw_, .int .i64 rt], .int .i64 qe]) ∧ TbR w' p mb tb (queryT T' key) ∧ Only [p, mb, tb] wc w') := ⟨by
            refine HQ.out.mono ?_
            rintro e w' ⟨cs, rfl, hbk, ht, ho⟩
            obtain ⟨A', c', he, _⟩ := Reply.open_ hbk.now
            have hcs : cs = cs.toList.toArray := by simp
            rw [hcs, he]
            exact ⟨A', c', rfl, ht, ho⟩⟩
          clear HQ
          have HCM := Aside0.mk (fun w' => compareR_calls ⟨r1, r2, r3⟩ best' w')
          obtain ⟨b1', b2', b3'⟩ := best'
          go_upto_region 30 with (first | ((with_reducible refine HQ'.out.mono ?_); rintro e w1 ⟨A', c', rfl, h1, o1⟩; have HS := Aside0.mk (HS.out.told h1 o1); clear h1 o1))
          generalize hwq : w1.alloc (.cells #[.string rk, .int .i64 r1, .int .i64 r2, .int .i64 r3, .bool rh, .slice A' rb.length c', .bool rw_, .int .i64 rt] 52) = wq
          have HSQ : Aside0 (RS w p mb tb bB kB dB (queryT T' key) ⟨b1', b2', b3'⟩ kept' Ak' ck' ⟨kd, ⟨xk, ⟨s1, s2, s3⟩, ⟨xh, xb⟩⟩, tk⟩ A6 c6 wq) := ⟨by rw [← hwq]; exact HS.out.below (below_alloc (Below.refl _ _) _)⟩
          obtain ⟨b0, b1, b2⟩ := HSQ.out.cells.2.1
          have hqb : Blk wq w1.heap.size [.string rk, .int .i64 r1, .int .i64 r2, .int .i64 r3, .bool rh, .slice A' rb.length c', .bool rw_, .int .i64 rt] := by rw [← hwq]; exact Blk.new_ _ _ _ rfl rfl
          clear hwq HS
          obtain ⟨⟨q0, q1, q2, q3, q4, q5, q6, q7⟩, _⟩ := hqb.eight
          clear hqb
          dsimp only at b0 b1 b2
          by_cases hqe : qe = 0
          · subst hqe
            cases rw_ with
            | true =>
              have hcb : decide (cmpT ⟨r1, r2, r3⟩ ⟨b1', b2', b3'⟩ < 0) = false := by simpa using HTE.out rfl rfl
              go_wp2_with (first | ((with_reducible refine (HCM.out _).mono ?_); rintro e w4 ⟨rfl, hb4⟩; have HSQ := Aside0.mk (HSQ.out.below hb4); clear hb4))
              go_roundg (xs.length - (k + 1))
              case measure => have := HGK.out; omega
              case rel => exact ⟨k + 1, _, _, _, _, _, by go_num, by omega, ⟨by omega⟩, ⟨HSQ.out.s⟩, ⟨HKQ.out.1⟩, ⟨HKQ.out.2⟩, HKL'⟩
            | false =>
              go_wp2
              go_roundg (xs.length - (k + 1))
              case measure => have := HGK.out; omega
              case rel => exact ⟨k + 1, _, _, _, _, _, by go_num, by omega, ⟨by omega⟩, ⟨HSQ.out.s⟩, ⟨HKQ.out.1⟩, ⟨HKQ.out.2⟩, HKL'⟩
          · have hqb : (qe == 0) = false := by simpa using hqe
            clear hqe
            go_wp2
            go_roundg (xs.length - (k + 1))
            case measure => have := HGK.out; omega
            case rel => exact ⟨k + 1, _, _, _, _, _, by go_num, by omega, ⟨by omega⟩, ⟨HSQ.out.s⟩, ⟨HKQ.out.1⟩, ⟨HKQ.out.2⟩, HKL'⟩
      · obtain rfl : k = xs.length := by omega
        go_wp2_with (first | ((with_reducible refine (known_true _).mono ?_); rintro e w5 ⟨rfl, h⟩; have HB := Aside0.mk (Below.then_ HW.out.bl h (Nat.le_refl _)); clear h))
        go_ret
        exact ⟨rfl, HB.out⟩
  · go_ret
    exact ⟨rfl, HB.out⟩
end Tab
end Go.Proofs.Ytgfjkpnaabiecaa
