/- Lemmas for the row (words on memory, contracts of the program's functions): LawC, Bridge, KindsCR, TabY0, LawCR. -/
import Derived.Deep.Slices
import Derived.ChangeArms
import Derived.SizedLaws
import Derived.Test.YtgfjkpnaabiecaaZC5
set_option linter.unusedVariables false
set_option linter.unusedSimpArgs false
namespace Go.Proofs.Ytgfjkpnaabiecaa
open Go.RowKit Go.Proofs.YtgfjkpnaabiecaaW.PrintWords
namespace Tab
open Tags
/-- Two tables that lie apart. -/
structure Apart2 (w : World) (p mb tb p2 mb2 tb2 : Nat) : Prop where
  a : p ∉ [p2, mb2, tb2] ∧ mb ∉ [p2, mb2, tb2] ∧ tb ∉ [p2, mb2, tb2]
  b : p2 ∉ [p, mb, tb] ∧ mb2 ∉ [p, mb, tb] ∧ tb2 ∉ [p, mb, tb]
theorem Apart2.mk_ {w wr : World} {p mb tb p2 mb2 tb2 : Nat} (h : ∀ i ∈ [p, mb, tb], i < wr.heap.size) (k : wr.heap.size ≤ p2 ∧ wr.heap.size ≤ mb2 ∧ wr.heap.size ≤ tb2) : Apart2 w p mb tb p2 mb2 tb2 := by
  have h1 := h p (by simp)
  have h2 := h mb (by simp)
  have h3 := h tb (by simp)
  refine ⟨⟨?_, ?_, ?_⟩, ?_, ?_, ?_⟩ <;> simp <;> omega
theorem LS.other {w wr w1 : World} {p mb tb p2 mb2 tb2 : Nat} {T T2 : Tb} (h : LS w p mb tb T wr) (k : LS w p2 mb2 tb2 T2 wr) (o : Only [p2, mb2, tb2] wr w1) (a : p ∉ [p2, mb2, tb2] ∧ mb ∉ [p2, mb2, tb2] ∧ tb ∉ [p2, mb2, tb2]) : LS w p mb tb T w1 :=
  h.only o a.1 a.2.1 a.2.2 k.t.noB (by intro i hi; obtain ⟨g1, g2, g3⟩ := k.g; simp at hi; rcases hi with rfl | rfl | rfl <;> assumption)
set_option maxRecDepth 100000 in
set_option maxHeartbeats 1000000 in
theorem copies_bad (r : Room) (A B : Option Addr) (c d : Nat) (xs ys : List Do) (w : World) (hr : Do.k.C w A xs.length xs) (hn : xs.length ≤ 1600000000000) (hr2 : Do.k.C w B ys.length ys) (hn2 : ys.length ≤ 1600000000000) (hb : ¬ RoomOk r) :
    Calls Try.prog 9 #[.agg #[.int .i64 r.cells, .int .i64 r.bytes, .int .i64 r.buckets, .bool r.fresh], .slice A xs.length c, .slice B ys.length d] w (TrueTold w) := by
  have HR2 := Aside0.mk hr2
  have HL2 : Aside0 (∀ w', Below w.heap.size w w' → Calls Try.prog 11 #[.slice B ys.length d] w' fun e w'' => ∃ n : Int, e = .returned (.int .i64 n) ∧ Below w'.heap.size w' w'') := ⟨fun w' h => long_calls B d ys w' (Kd.C_below HR2.out h) hn2⟩
  clear hr2
  have HR := Aside0.mk hr
  have HN : Aside0 (∀ w', Calls Try.prog 10 #[.agg #[.int .i64 r.cells, .int .i64 r.bytes, .int .i64 r.buckets, .bool r.fresh]] w' fun e w'' => e = .returned (.tuple #[.pointer none, .int .i64 2]) ∧ Below w'.heap.size w' w'') := ⟨new_no hb⟩
  have HL : Aside0 (∀ w', Below w.heap.size w w' → Calls Try.prog 11 #[.slice A xs.length c] w' fun e w'' => ∃ n : Int, e = .returned (.int .i64 n) ∧ Below w'.heap.size w' w'') := ⟨fun w' h => long_calls A c xs w' (Kd.C_below HR.out h) hn⟩
  obtain ⟨ra, rb, rc, rd⟩ := r
  dsimp only at *
  clear hr hb
  go_enter Try.func9, Try.ntmps9
  go_wp2_with (first
    | ((with_reducible refine (HN.out _).mono ?_); rintro e w1 ⟨rfl, h⟩; have HB := Aside0.mk (Below.then_ (below_alloc (Below.refl _ w) _) h (Nat.le_refl _)); clear h)
    | ((with_reducible refine (HL.out _ HB.out).mono ?_); rintro e w2 ⟨n, rfl, h⟩; have HB := Aside0.mk (Below.then_ HB.out h (Nat.le_refl _)); clear h)
    | ((with_reducible refine (HL2.out _ HB.out).mono ?_); rintro e w2 ⟨n2, rfl, h⟩; have HB := Aside0.mk (Below.then_ HB.out h (Nat.le_refl _)); clear h)
    | ((with_reducible refine (known_true _).mono ?_); rintro e w3 ⟨rfl, h⟩; have HB := Aside0.mk (Below.then_ HB.out h (Nat.le_refl _)); clear h))
  all_goals
    go_ret
    exact ⟨rfl, HB.out⟩
set_option maxRecDepth 100000 in
set_option maxHeartbeats 2000000 in
theorem copies_good (r : Room) (A B : Option Addr) (c d : Nat) (xs ys : List Do) (w : World) (hr : Do.k.C w A xs.length xs) (hn : xs.length ≤ 1600000000000) (hr2 : Do.k.C w B ys.length ys) (hn2 : ys.length ≤ 1600000000000) (hb : RoomOk r) (hxl : ∀ x ∈ xs, x.e.val.b.length ≤ 140737488351232) (hyl : ∀ x ∈ ys, x.e.val.b.length ≤ 140737488351232) :
    Calls Try.prog 9 #[.agg #[.int .i64 r.cells, .int .i64 r.bytes, .int .i64 r.buckets, .bool r.fresh], .slice A xs.length c, .slice B ys.length d] w (TrueTold w) := by
  have HR2 := Aside0.mk hr2
  have HYL := Aside0.mk hyl
  have HL2 : Aside0 (∀ w', Below w.heap.size w w' → Calls Try.prog 11 #[.slice B ys.length d] w' fun e w'' => ∃ n : Int, e = .returned (.int .i64 n) ∧ Below w'.heap.size w' w'') := ⟨fun w' h => long_calls B d ys w' (Kd.C_below HR2.out h) hn2⟩
  clear hr2 hyl
  have HR := Aside0.mk hr
  have HXL := Aside0.mk hxl
  obtain ⟨ra, rz, rc, rd⟩ := r
  have HRM : Aside0 (RoomOk ⟨ra, rz, rc, rd⟩) := ⟨hb⟩
  have HWF : Aside0 (∀ k, k ≤ xs.length → Wf (runT (newT ⟨ra, rz, rc, rd⟩) xs k) (1 + 5000 * (k : Int))) := ⟨fun k _ => (Wf.new_ hb).run xs k⟩
  have HN : Aside0 (∀ w', Calls Try.prog 10 #[.agg #[.int .i64 ra, .int .i64 rz, .int .i64 rc, .bool rd]] w' fun e w'' => ∃ p mb tb, e = .returned (.tuple #[.pointer (some ⟨p, 0, none⟩), .int .i64 0]) ∧ LS w' p mb tb (newT ⟨ra, rz, rc, rd⟩) w'') := ⟨new_ok (r := ⟨ra, rz, rc, rd⟩) hb⟩
  dsimp only at *
  have HL : Aside0 (∀ w', Below w.heap.size w w' → Calls Try.prog 11 #[.slice A xs.length c] w' fun e w'' => ∃ n : Int, e = .returned (.int .i64 n) ∧ Below w'.heap.size w' w'') := ⟨fun w' h => long_calls A c xs w' (Kd.C_below HR.out h) hn⟩
  clear hr hb hxl
  go_enter Try.func9, Try.ntmps9
  go_wp2_with (first
    | ((with_reducible refine (HN.out _).mono ?_); rintro e w1 ⟨p, mb, tb, rfl, h⟩; have HT := Aside0.mk (h.elder (below_alloc (Below.refl _ w) _)); have HB := Aside0.mk HT.out.bl; clear h)
    | ((with_reducible refine (HL.out _ HB.out).mono ?_); rintro e w2 ⟨n, rfl, h⟩; have HT := Aside0.mk (HT.out.below h); have HB := Aside0.mk HT.out.bl; clear h)
    | ((with_reducible refine (HL2.out _ HB.out).mono ?_); rintro e w2 ⟨n2, rfl, h⟩; have HT := Aside0.mk (HT.out.below h); have HB := Aside0.mk HT.out.bl; clear h)
    | ((with_reducible refine (known_true _).mono ?_); rintro e w3 ⟨rfl, h⟩; have HB := Aside0.mk (Below.then_ HB.out h (Nat.le_refl _)); clear h))
  · go_loopg [9] xs.length (fun gk v wr => ∃ k : Nat, v = .int .i64 (k : Int) ∧ k ≤ xs.length ∧ Aside0 (gk + k = xs.length) ∧ Aside0 (LS w p mb tb (runT (newT ⟨ra, rz, rc, rd⟩) xs k) wr))
    case atStart => exact ⟨0, rfl, Nat.zero_le _, ⟨rfl⟩, HT⟩
    case round =>
      obtain ⟨k, rfl, hk, HG, HS⟩ := hrel
      by_cases hlt : k < xs.length
      · obtain ⟨ad, x, A6, c6, rfl, HX, y0, y1, y2, y3, y4, y5, y6, y7, y8⟩ := Do.at_ HR.out k hlt
        have x0 := pw_cell_below HS.out.bl y0
        have x1 := pw_cell_below HS.out.bl y1
        have x2 := pw_cell_below HS.out.bl y2
        have x3 := pw_cell_below HS.out.bl y3
        have x4 := pw_cell_below HS.out.bl y4
        have x5 := pw_cell_below HS.out.bl y5
        have x6 := pw_cell_below HS.out.bl y6
        have x7 := pw_cell_below HS.out.bl y7
        have hltI : (k : Int) < (xs.length : Int) := by omega
        have HC := Aside0.mk (done_calls p mb tb _ x A6 c6 _ wr HS.out.t ((HWF.out k hk).num (by omega)) (by omega) (HS.out.storeF (do_ent y8.out)) (HXL.out x (List.mem_of_getElem? HX.out)))
        dsimp only [dcs] at HC
        clear y0 y1 y2 y3 y4 y5 y6 y7 y8
        go_wp2_with (first | ((with_reducible refine HC.out.mono ?_); rintro e w1 ⟨cs, rfl, _, h1, o1⟩; have HS1 := Aside0.mk (HS.out.told h1 o1); clear h1 o1))
        go_roundg (xs.length - (k + 1))
        case measure => have := HG.out; omega
        case rel => exact ⟨k + 1, by go_num, by omega, ⟨by omega⟩, ⟨by rw [runT_succ HX.out]; exact HS1.out⟩⟩
      · obtain rfl : k = xs.length := by omega
        have HWT := Aside0.mk (HWF.out xs.length (Nat.le_refl _))
        obtain ⟨T, hT⟩ : ∃ T, T = runT (newT ⟨ra, rz, rc, rd⟩) xs xs.length := ⟨_, rfl⟩
        rw [← hT] at HS HWT
        clear hT HWF HT HB
        have hn5 : 1 + 5000 * (xs.length : Int) ≤ 1000000000000000000 := by omega
        have hT0 : 0 < T.tok.length := HWT.out.tok_len.1
        have hT6 : T.tok.length ≤ 256 := HWT.out.tok_len.2
        have HWF : Aside0 (∀ k, k ≤ ys.length → Wf (runT T ys k) (1 + 5000 * (xs.length : Int) + 5000 * (k : Int))) := ⟨fun k _ => HWT.out.run ys k⟩
        have HC1 : Aside0 (∀ w', TbR w' p mb tb T → _) := ⟨fun w' h => cells_calls p mb tb T _ w' h (HWT.out.num (by omega))⟩
        have HK1 : Aside0 (∀ w', TbR w' p mb tb T → _) := ⟨fun w' h => tokens_calls p mb tb T w' h hT0 (by omega)⟩
        have HCP : Aside0 (∀ w', TbR w' p mb tb T → _) := ⟨fun w' h => copyT_calls p mb tb T w' h hT0 (by omega)⟩
        have HI1 := Aside0.mk (HWT.out.tok_in (by omega))
        go_upto_region 12 with (first
          | ((with_reducible refine (HC1.out _ HS.out.t).mono ?_); rintro e w1 ⟨A1, c1, rfl, hc1, hF, hb⟩; have HM1 := Aside0.mk (cells_keep hF HS.out.lt); have HS := Aside0.mk (HS.out.below hb); clear hb hF)
          | ((with_reducible refine (HK1.out _ HS.out.t).mono ?_); rintro e w2 ⟨g1, cg1, rfl, hg1, hgc1, hB, _, hb⟩; have HM2 := Aside0.mk (tok_keep hB hg1 HS.out.lt HI1.out (by omega)); have HM1 := Aside0.mk (Foot.step HM1.out (fun i _ hlt => hb.block i hlt)); have HS := Aside0.mk (HS.out.below hb); clear hb hB hg1 hgc1)
          | ((with_reducible refine (HCP.out _ HS.out.t).mono ?_); rintro e w3 ⟨p2, mb2, tb2, rfl, ht, hg, hb⟩; have HAP := Aside0.mk (Apart2.mk_ (w := w) HS.out.lt hg); have HS2 : Aside0 (LS w p2 mb2 tb2 T w3) := ⟨⟨ht, Below.then_ HS.out.bl hb (Nat.le_refl _), by have h1 := HS.out.bl.size; omega⟩⟩; have HM : Aside0 (Foot (fun W => Cell.k.C W A1 T.l.length T.l ∧ (kInt .i64).C W (some ⟨g1, 0, none⟩) T.tok.length T.tok) w3 (fun i => i ∉ [p, mb, tb] ∧ i ∉ [p2, mb2, tb2])) := ⟨Foot.mono (Foot.step (Foot.bound (Foot.both HM1.out HM2.out)) (fun i hi hlt => hb.block i hlt)) (fun i hi => ⟨hi.1, fun hm => by have h2 := hi.2; simp at hm; omega⟩)⟩; have HS := Aside0.mk (HS.out.below hb); clear ht hg hb))
        go_loopg [13] ys.length (fun gk v wr => ∃ k : Nat, v = .int .i64 (k : Int) ∧ k ≤ ys.length ∧ Aside0 (gk + k = ys.length) ∧ Aside0 (LS w p2 mb2 tb2 (runT T ys k) wr) ∧ Aside0 (LS w p mb tb T wr ∧ Foot (fun W => Cell.k.C W A1 T.l.length T.l ∧ (kInt .i64).C W (some ⟨g1, 0, none⟩) T.tok.length T.tok) wr (fun i => i ∉ [p, mb, tb] ∧ i ∉ [p2, mb2, tb2])))
        case atStart => exact ⟨0, rfl, Nat.zero_le _, ⟨rfl⟩, HS2, ⟨HS.out, HM.out⟩⟩
        case round =>
          obtain ⟨k, rfl, hk, HG, HS, HX⟩ := hrel
          by_cases hlt : k < ys.length
          · obtain ⟨ad, x, A6, c6, rfl, HXX, y0, y1, y2, y3, y4, y5, y6, y7, y8⟩ := Do.at_ HR2.out k hlt
            have x0 := pw_cell_below HS.out.bl y0
            have x1 := pw_cell_below HS.out.bl y1
            have x2 := pw_cell_below HS.out.bl y2
            have x3 := pw_cell_below HS.out.bl y3
            have x4 := pw_cell_below HS.out.bl y4
            have x5 := pw_cell_below HS.out.bl y5
            have x6 := pw_cell_below HS.out.bl y6
            have x7 := pw_cell_below HS.out.bl y7
            have hltI : (k : Int) < (ys.length : Int) := by omega
            have HC := Aside0.mk (done_calls p2 mb2 tb2 _ x A6 c6 _ wr HS.out.t ((HWF.out k hk).num (by omega)) (by omega) (HS.out.storeF (do_ent y8.out)) (HYL.out x (List.mem_of_getElem? HXX.out)))
            dsimp only [dcs] at HC
            clear y0 y1 y2 y3 y4 y5 y6 y7 y8
            go_wp2_with (first | ((with_reducible refine HC.out.mono ?_); rintro e w1 ⟨cs, rfl, _, h1, o1⟩; have HS1 := Aside0.mk (HS.out.told h1 o1); have HX1 := Aside0.mk (And.intro (HX.out.1.other HS.out o1 HAP.out.a) (Foot.only HX.out.2 o1 (fun i hi => hi.2))); clear h1 o1))
            go_roundg (ys.length - (k + 1))
            case measure => have := HG.out; omega
            case rel => exact ⟨k + 1, by go_num, by omega, ⟨by omega⟩, ⟨by rw [runT_succ HXX.out]; exact HS1.out⟩, HX1⟩
          · obtain rfl : k = ys.length := by omega
            have HWV := Aside0.mk (HWF.out ys.length (Nat.le_refl _))
            obtain ⟨V, hV⟩ : ∃ V, V = runT T ys ys.length := ⟨_, rfl⟩
            rw [← hV] at HS HWV
            have HVE := Aside0.mk hV
            clear hV
            clear HS2 HM
            have HSC := Aside0.mk HX.out.1
            have HM := Aside0.mk HX.out.2
            have HSI : Aside0 (∀ g cap w', (kInt .i64).C w' (some ⟨g, 0, none⟩) T.tok.length T.tok → (kInt .i64).C w' (some ⟨g1, 0, none⟩) T.tok.length T.tok → Calls Try.prog 28 #[.slice (some ⟨g, 0, none⟩) T.tok.length cap, .slice (some ⟨g1, 0, none⟩) T.tok.length cg1] w' (Cmp.Is true w')) := ⟨fun g cap w' h1 h2 => by
              have := Cmp.sameInts_calls T.tok T.tok _ _ cap cg1 w' h1 h2
              rw [decide_eq_true rfl] at this
              exact this⟩
            go_upto_region 18 with (first
              | ((with_reducible refine (HC1.out _ HSC.out.t).mono ?_); rintro e w4 ⟨A4, c4, rfl, hc4, hF, hb⟩; have HR4 := Aside0.mk (Kd.F_now hF); have HM := Aside0.mk (Foot.step HM.out (fun i _ hlt => hb.block i hlt)); have HSC := Aside0.mk (HSC.out.below hb); have HS := Aside0.mk (HS.out.below hb); clear hb hF)
              | ((with_reducible refine (Cmp.sameCells_refl _ _ _ _ _ _ HR4.out (Foot.now HM.out).1).mono ?_); rintro e w5 ⟨rfl, hb⟩; have HM := Aside0.mk (Foot.step HM.out (fun i _ hlt => hb.block i hlt)); have HSC := Aside0.mk (HSC.out.below hb); have HS := Aside0.mk (HS.out.below hb); clear hb)
              | ((with_reducible refine (HK1.out _ HSC.out.t).mono ?_); rintro e w6 ⟨g4, cg4, rfl, hg4, hgc4, hB, _, hb⟩; have HTK := Aside0.mk (blk_ints hB HI1.out (by omega)); have HM := Aside0.mk (Foot.step HM.out (fun i _ hlt => hb.block i hlt)); have HSC := Aside0.mk (HSC.out.below hb); have HS := Aside0.mk (HS.out.below hb); clear hb hB hg4 hgc4)
              | ((with_reducible refine (HSI.out _ _ _ HTK.out (Foot.now HM.out).2).mono ?_); rintro e w7 ⟨rfl, hb⟩; have HSC := Aside0.mk (HSC.out.below hb); have HS := Aside0.mk (HS.out.below hb); clear hb))
            have HSV := Aside0.mk HS.out
            clear HM HS HX HTK
            go_loopg [14] ys.length (fun gk v wr => ∃ k : Nat, v = .int .i64 (k : Int) ∧ k ≤ ys.length ∧ Aside0 (gk + k = ys.length) ∧ Aside0 (LS w p mb tb (runT T ys k) wr) ∧ Aside0 (LS w p2 mb2 tb2 V wr))
            case atStart => exact ⟨0, rfl, Nat.zero_le _, ⟨rfl⟩, HSC, HSV⟩
            case round =>
              obtain ⟨k, rfl, hk, HG, HS, HX⟩ := hrel
              by_cases hlt : k < ys.length
              · obtain ⟨ad, x, A6, c6, rfl, HXX, y0, y1, y2, y3, y4, y5, y6, y7, y8⟩ := Do.at_ HR2.out k hlt
                have x0 := pw_cell_below HS.out.bl y0
                have x1 := pw_cell_below HS.out.bl y1
                have x2 := pw_cell_below HS.out.bl y2
                have x3 := pw_cell_below HS.out.bl y3
                have x4 := pw_cell_below HS.out.bl y4
                have x5 := pw_cell_below HS.out.bl y5
                have x6 := pw_cell_below HS.out.bl y6
                have x7 := pw_cell_below HS.out.bl y7
                have hltI : (k : Int) < (ys.length : Int) := by omega
                have HC := Aside0.mk (done_calls p mb tb _ x A6 c6 _ wr HS.out.t ((HWF.out k hk).num (by omega)) (by omega) (HS.out.storeF (do_ent y8.out)) (HYL.out x (List.mem_of_getElem? HXX.out)))
                dsimp only [dcs] at HC
                clear y0 y1 y2 y3 y4 y5 y6 y7 y8
                go_wp2_with (first | ((with_reducible refine HC.out.mono ?_); rintro e w1 ⟨cs, rfl, _, h1, o1⟩; have HS1 := Aside0.mk (HS.out.told h1 o1); have HX1 := Aside0.mk (HX.out.other HS.out o1 HAP.out.b); clear h1 o1))
                go_roundg (ys.length - (k + 1))
                case measure => have := HG.out; omega
                case rel => exact ⟨k + 1, by go_num, by omega, ⟨by omega⟩, ⟨by rw [runT_succ HXX.out]; exact HS1.out⟩, HX1⟩
              · obtain rfl : k = ys.length := by omega
                rw [← HVE.out] at HS
                have HCV : Aside0 (∀ w', TbR w' p mb tb V → _) := ⟨fun w' h => cells_calls p mb tb V _ w' h (HWV.out.num (by omega))⟩
                have HCW : Aside0 (∀ w', TbR w' p2 mb2 tb2 V → _) := ⟨fun w' h => cells_calls p2 mb2 tb2 V _ w' h (HWV.out.num (by omega))⟩
                have hV0 : 0 < V.tok.length := HWV.out.tok_len.1
                have hV6 : V.tok.length ≤ 256 := HWV.out.tok_len.2
                have HKV : Aside0 (∀ w', TbR w' p mb tb V → _) := ⟨fun w' h => tokens_calls p mb tb V w' h hV0 (by omega)⟩
                have HKW : Aside0 (∀ w', TbR w' p2 mb2 tb2 V → _) := ⟨fun w' h => tokens_calls p2 mb2 tb2 V w' h hV0 (by omega)⟩
                have HIV := Aside0.mk (HWV.out.tok_in (by omega))
                have HSJ : Aside0 (∀ g g' cap cap' w', (kInt .i64).C w' (some ⟨g, 0, none⟩) V.tok.length V.tok → (kInt .i64).C w' (some ⟨g', 0, none⟩) V.tok.length V.tok → Calls Try.prog 28 #[.slice (some ⟨g, 0, none⟩) V.tok.length cap, .slice (some ⟨g', 0, none⟩) V.tok.length cap'] w' (Cmp.Is true w')) := ⟨fun g g' cap cap' w' h1 h2 => by
                  have := Cmp.sameInts_calls V.tok V.tok _ _ cap cap' w' h1 h2
                  rw [decide_eq_true rfl] at this
                  exact this⟩
                go_wp2_with (first
                  | ((with_reducible refine (HCV.out _ HS.out.t).mono ?_); rintro e w4 ⟨A4, c4, rfl, hc4, hF, hb⟩; have HR4 := Aside0.mk (Kd.F_now hF); have HX := Aside0.mk (HX.out.below hb); have HS := Aside0.mk (HS.out.below hb); clear hb hF)
                  | ((with_reducible refine (HCW.out _ HX.out.t).mono ?_); rintro e w5 ⟨A5, c5, rfl, hc5, hF, hb⟩; have HR5 := Aside0.mk (Kd.F_now hF); have HR4 := Aside0.mk (Kd.C_below HR4.out hb); have HX := Aside0.mk (HX.out.below hb); have HS := Aside0.mk (HS.out.below hb); clear hb hF)
                  | ((with_reducible refine (Cmp.sameCells_refl _ _ _ _ _ _ HR4.out HR5.out).mono ?_); rintro e w6 ⟨rfl, hb⟩; have HX := Aside0.mk (HX.out.below hb); have HS := Aside0.mk (HS.out.below hb); clear hb)
                  | ((with_reducible refine (HKV.out _ HS.out.t).mono ?_); rintro e w7 ⟨g7, cg7, rfl, hg7, hgc7, hB, _, hb⟩; have HT7 := Aside0.mk (blk_ints hB HIV.out (by omega)); have HX := Aside0.mk (HX.out.below hb); have HS := Aside0.mk (HS.out.below hb); clear hb hB hg7 hgc7)
                  | ((with_reducible refine (HKW.out _ HX.out.t).mono ?_); rintro e w8 ⟨g8, cg8, rfl, hg8, hgc8, hB, _, hb⟩; have HT8 := Aside0.mk (blk_ints hB HIV.out (by omega)); have HT7 := Aside0.mk (Kd.C_below HT7.out hb); have HX := Aside0.mk (HX.out.below hb); have HS := Aside0.mk (HS.out.below hb); clear hb hB hg8 hgc8)
                  | ((with_reducible refine (HSJ.out _ _ _ _ _ HT7.out HT8.out).mono ?_); rintro e w9 ⟨rfl, hb⟩; have HS := Aside0.mk (HS.out.below hb); clear hb)
                  | ((with_reducible refine (known_true _).mono ?_); rintro e w10 ⟨rfl, h⟩; have HS9 := Aside0.mk (HS.out.below h); clear h))
                go_ret
                exact ⟨rfl, HS9.out.bl⟩
  · go_ret
    exact ⟨rfl, HB.out⟩
end Tab
end Go.Proofs.Ytgfjkpnaabiecaa
namespace Go.Proofs.Ytgfjkpnaabiecaa
open Go.RowKit Go.Proofs.YtgfjkpnaabiecaaW.PrintWords
def BdT {α : Type} : α → Prop := fun _ => True
def BdS {α : Type} (B : Nat) (Bd : α → Prop) (l : List α) : Prop := l.length * B ≤ 140737488351232 ∧ ∀ x ∈ l, Bd x
def WOk {H : Type} (t : TypeId) (d : DataW H) : Prop := ∀ n ∈ DataW.weights Try.prog t d, n ≤ reachBytes
/-- What reads at type t is of kind k, within bounds. -/
structure Reads {α : Type} (t : TypeId) (k : Kd α) (Bd : α → Prop) : Prop where
  sz : Try.prog.cellsOf t = k.sz
  get : ∀ {H : Type} {enc : TypeId × Value → H} {w : World} {base : Nat} {spare : Nat → Bool} {held : Bool} {fuel : Nat} {cs : List Value} {x : DataW H × List MemPlace},
    DataW.trod enc Try.prog w base spare held fuel t cs = some x → WOk t x.1 → ∃ a, k.K w a cs ∧ Bd a
theorem Reads.int {t : TypeId} {q : IntKind} (ht : Try.prog.underlying t = some (.int q)) (hs : Try.prog.cellsOf t = 1) : Reads t (kInt q) BdT where
  sz := hs
  get := by
    intro H enc w base spare held fuel cs x h _
    obtain ⟨n, rfl, _, hw⟩ := DataW.trod_int ht h
    exact ⟨n, ⟨rfl, hw⟩, trivial⟩
theorem Reads.u8 {t : TypeId} (ht : Try.prog.underlying t = some (.int .u8)) (hs : Try.prog.cellsOf t = 1) : Reads t kU8 BdT where
  sz := hs
  get := by
    intro H enc w base spare held fuel cs x h _
    obtain ⟨n, rfl, _, hw⟩ := DataW.trod_int ht h
    obtain ⟨h0, h1⟩ := _root_.Go.bounds_u8 hw
    refine ⟨UInt8.ofNat n.toNat, ?_, trivial⟩
    show [Value.int .u8 n] = [Value.int .u8 ((UInt8.ofNat n.toNat).toNat : Int)]
    have : ((UInt8.ofNat n.toNat).toNat : Int) = n := by
      rw [UInt8.toNat_ofNat']
      omega
    rw [this]
theorem Reads.bool {t : TypeId} (ht : Try.prog.underlying t = some .bool) (hs : Try.prog.cellsOf t = 1) : Reads t Kd.bool BdT where
  sz := hs
  get := by
    intro H enc w base spare held fuel cs x h _
    obtain ⟨b, rfl, _⟩ := DataW.trod_bool ht h
    exact ⟨b, rfl, trivial⟩
theorem Reads.str {t : TypeId} (ht : Try.prog.underlying t = some .string) (hs : Try.prog.cellsOf t = 1) : Reads t kStr BdT where
  sz := hs
  get := by
    intro H enc w base spare held fuel cs x h hw
    obtain ⟨s, rfl, hx, _⟩ := DataW.trod_string ht h
    subst hx
    refine ⟨s, ⟨rfl, ?_⟩, trivial⟩
    have h2 : s.data.toList.length ≤ reachBytes := hw s.data.toList.length (List.mem_singleton.2 rfl)
    have e : s.data.toList.length = s.size := Array.length_toList
    rw [e] at h2
    exact h2
theorem cells_get {w : World} {base : Nat} {a : Addr} {n : Nat} {cs : List Value} (h : w.cells? base a n = some cs) : cs.length = n ∧ ∀ i u, cs[i]? = some u → w.cell? (a.add i) = some u := by
  unfold World.cells? at h
  split at h
  · refine ⟨by simpa using mapM_some_length h, fun i u hu => ?_⟩
    have hi : i < n := by
      have h1 := mapM_some_length h
      have h2 := (List.getElem?_eq_some_iff.1 hu).1
      simp at h1
      omega
    have h3 := mapM_some_get h i i (by simp [hi])
    rw [h3]
    exact hu
  · cases h
theorem weightsAll_mem {H : Type} {e : TypeId} : ∀ {l : List (DataW H)} {d : DataW H} {n : Nat}, d ∈ l → n ∈ d.weights Try.prog e → n ∈ DataW.weightsAll Try.prog e l
  | a :: r, d, n, hd, hn => by
    unfold DataW.weightsAll
    rcases List.mem_cons.1 hd with rfl | hd
    · exact List.mem_append_left _ hn
    · exact List.mem_append_right _ (weightsAll_mem hd hn)
theorem choose_list {α : Type} {n : Nat} {p : Nat → α → Prop} (h : ∀ i, i < n → ∃ x, p i x) : ∃ l : List α, l.length = n ∧ ∀ i x, l[i]? = some x → p i x := by
  induction n with
  | zero => exact ⟨[], rfl, fun i x hx => by simp at hx⟩
  | succ n ih =>
    obtain ⟨l, hl, hp⟩ := ih (fun i hi => h i (by omega))
    obtain ⟨x, hx⟩ := h n (by omega)
    refine ⟨l ++ [x], by simp [hl], fun i y hy => ?_⟩
    rcases Nat.lt_or_ge i n with hi | hi
    · rw [List.getElem?_append_left (by omega)] at hy
      exact hp i y hy
    · rw [List.getElem?_append_right (by omega)] at hy
      have : i = n := by
        have := (List.getElem?_eq_some_iff.1 hy).1
        simp at this
        omega
      subst this
      simp [hl] at hy
      subst hy
      exact hx
theorem Reads.slice {α : Type} {t e : TypeId} {k : Kd α} {Bd : α → Prop} {B : Nat} (ht : Try.prog.underlying t = some (.slice e)) (hs : Try.prog.cellsOf t = 1) (hB : Try.prog.bytesOf e = B) (R : Reads e k Bd) : Reads t (Kd.slice e k) (BdS B Bd) where
  sz := hs
  get := by
    intro H enc w base spare held fuel cs x h hw
    rcases Deep.open_slice ht h with ⟨rfl, rfl⟩ | ⟨a, len, cap, m, n, D, Pl, rfl, hb, hl, hm, hmm, rfl, hel⟩
    · exact ⟨[], ⟨none, 0, rfl, Nat.le_refl _, Kd.C_nil _ _⟩, by rw [List.length_nil, Nat.zero_mul]; exact Nat.zero_le _, fun _ h => by cases h⟩
    · have hlm : len ≤ m := by rw [hmm]; split <;> omega
      have hwe : ∀ i, i < len → WOk e (D i) := fun i hi n hn => hw n (by
        simp only [DataW.weights, ht]
        exact List.mem_cons_of_mem _ (List.mem_append_left _ (weightsAll_mem (List.mem_map.2 ⟨i, List.mem_range.2 hi, rfl⟩) hn)))
      have hk : ∀ i, i < len → ∃ z, Bd z ∧ ∃ c, w.cells? base (a.add (i * Try.prog.cellsOf e)) (Try.prog.cellsOf e) = some c ∧ k.K w z c := fun i hi => by
        obtain ⟨c, h1, h2⟩ := hel i (by omega)
        obtain ⟨z, h3, h4⟩ := R.get h2 (hwe i hi)
        exact ⟨z, h4, c, h1, h3⟩
      obtain ⟨zs, hzl, hz⟩ := choose_list hk
      have hm' : cap ≤ 9223372036854775807 := by simpa [maxLen] using hm
      subst hzl
      refine ⟨zs, ⟨_, cap, rfl, hl, rfl, by omega, fun _ => ⟨a, rfl, fun j p hj => ?_⟩⟩, ?_, fun z hzm => ?_⟩
      · obtain ⟨_, c, h1, h2⟩ := hz j p hj
        obtain ⟨h3, h4⟩ := cells_get h1
        refine ⟨c, by rw [h3, R.sz], h2, fun i u hu => ?_⟩
        have := h4 i u hu
        rwa [Go.Proofs.YtgfjkpnaabiecaaW.PrintWords.add_add, R.sz] at this
      · have hh := hw ((zs.length + (m - zs.length)) * B) (by
          simp only [DataW.weights, ht, hB]
          refine List.mem_cons.2 (.inl ?_)
          simp)
        refine Nat.le_trans (Nat.mul_le_mul_right _ ?_) hh
        omega
      · obtain ⟨j, hj, rfl⟩ := List.getElem_of_mem hzm
        exact (hz j _ (List.getElem?_eq_getElem hj)).1
end Go.Proofs.Ytgfjkpnaabiecaa
namespace Go.Proofs.Ytgfjkpnaabiecaa
open Go.RowKit Go.Proofs.YtgfjkpnaabiecaaW.PrintWords
theorem len2 {α : Type} {l : List α} (h : l.length = 2) : ∃ a0 a1, l = [a0, a1] := by
  match l, h with
  | [a0, a1], _ => exact ⟨a0, a1, rfl⟩
theorem len3 {α : Type} {l : List α} (h : l.length = 3) : ∃ a0 a1 a2, l = [a0, a1, a2] := by
  match l, h with
  | [a0, a1, a2], _ => exact ⟨a0, a1, a2, rfl⟩
theorem len4 {α : Type} {l : List α} (h : l.length = 4) : ∃ a0 a1 a2 a3, l = [a0, a1, a2, a3] := by
  match l, h with
  | [a0, a1, a2, a3], _ => exact ⟨a0, a1, a2, a3, rfl⟩
theorem len6 {α : Type} {l : List α} (h : l.length = 6) : ∃ a0 a1 a2 a3 a4 a5, l = [a0, a1, a2, a3, a4, a5] := by
  match l, h with
  | [a0, a1, a2, a3, a4, a5], _ => exact ⟨a0, a1, a2, a3, a4, a5, rfl⟩
theorem len8 {α : Type} {l : List α} (h : l.length = 8) : ∃ a0 a1 a2 a3 a4 a5 a6 a7, l = [a0, a1, a2, a3, a4, a5, a6, a7] := by
  match l, h with
  | [a0, a1, a2, a3, a4, a5, a6, a7], _ => exact ⟨a0, a1, a2, a3, a4, a5, a6, a7, rfl⟩
def Tag.Bd (x : Tag) : Prop := BdT x.seq ∧ BdT x.who ∧ BdT x.op
theorem Tag.reads : Reads 32 Tag.k Tag.Bd where
  sz := by kernel_rfl
  get := by
    intro H enc w base spare held fuel cs x h hw
    obtain ⟨xs, n, rfl, hx, hl, hxl, hf⟩ := DataW.trod_struct Try.underlying32 h
    have hz : Try.prog.cellsOf 32 = 3 := by kernel_rfl
    rw [hz] at hl
    obtain ⟨c0, c1, c2, rfl⟩ := len3 hl
    have hxl' : xs.length = 3 := hxl
    obtain ⟨x0, x1, x2, rfl⟩ := len3 hxl'
    subst hx
    have f0 : DataW.trod enc Try.prog w base spare held n 3 (([c0, c1, c2].drop 0).take (Try.prog.cellsOf 3)) = some x0 := hf 0 _ rfl
    have g0 : DataW.trod enc Try.prog w base spare held n 3 [c0] = some x0 := by
      have hc : Try.prog.cellsOf 3 = 1 := by kernel_rfl
      rw [hc] at f0
      exact f0
    obtain ⟨a0, k0, b0⟩ := (Reads.int Try.underlying3 (by kernel_rfl)).get g0 (fun z hz => hw z (by simp only [DataW.weights, Try.underlying32]; simp only [DataW.weightsEach, List.map_cons, List.map_nil, List.mem_append]; exact .inl hz))
    have f1 : DataW.trod enc Try.prog w base spare held n 3 (([c0, c1, c2].drop 1).take (Try.prog.cellsOf 3)) = some x1 := hf 1 _ rfl
    have g1 : DataW.trod enc Try.prog w base spare held n 3 [c1] = some x1 := by
      have hc : Try.prog.cellsOf 3 = 1 := by kernel_rfl
      rw [hc] at f1
      exact f1
    obtain ⟨a1, k1, b1⟩ := (Reads.int Try.underlying3 (by kernel_rfl)).get g1 (fun z hz => hw z (by simp only [DataW.weights, Try.underlying32]; simp only [DataW.weightsEach, List.map_cons, List.map_nil, List.mem_append]; exact .inr (.inl hz)))
    have f2 : DataW.trod enc Try.prog w base spare held n 3 (([c0, c1, c2].drop 2).take (Try.prog.cellsOf 3)) = some x2 := hf 2 _ rfl
    have g2 : DataW.trod enc Try.prog w base spare held n 3 [c2] = some x2 := by
      have hc : Try.prog.cellsOf 3 = 1 := by kernel_rfl
      rw [hc] at f2
      exact f2
    obtain ⟨a2, k2, b2⟩ := (Reads.int Try.underlying3 (by kernel_rfl)).get g2 (fun z hz => hw z (by simp only [DataW.weights, Try.underlying32]; simp only [DataW.weightsEach, List.map_cons, List.map_nil, List.mem_append]; exact .inr (.inr (.inl hz))))
    exact ⟨⟨a0, a1, a2⟩, ⟨_, _, rfl, k0, ⟨_, _, rfl, k1, k2⟩⟩, ⟨b0, b1, b2⟩⟩

def Val.Bd (x : Val) : Prop := BdT x.has ∧ (BdS 1 BdT) x.b
theorem Val.reads : Reads 35 Val.k Val.Bd where
  sz := by kernel_rfl
  get := by
    intro H enc w base spare held fuel cs x h hw
    obtain ⟨xs, n, rfl, hx, hl, hxl, hf⟩ := DataW.trod_struct Try.underlying35 h
    have hz : Try.prog.cellsOf 35 = 2 := by kernel_rfl
    rw [hz] at hl
    obtain ⟨c0, c1, rfl⟩ := len2 hl
    have hxl' : xs.length = 2 := hxl
    obtain ⟨x0, x1, rfl⟩ := len2 hxl'
    subst hx
    have f0 : DataW.trod enc Try.prog w base spare held n 4 (([c0, c1].drop 0).take (Try.prog.cellsOf 4)) = some x0 := hf 0 _ rfl
    have g0 : DataW.trod enc Try.prog w base spare held n 4 [c0] = some x0 := by
      have hc : Try.prog.cellsOf 4 = 1 := by kernel_rfl
      rw [hc] at f0
      exact f0
    obtain ⟨a0, k0, b0⟩ := (Reads.bool Try.underlying4 (by kernel_rfl)).get g0 (fun z hz => hw z (by simp only [DataW.weights, Try.underlying35]; simp only [DataW.weightsEach, List.map_cons, List.map_nil, List.mem_append]; exact .inl hz))
    have f1 : DataW.trod enc Try.prog w base spare held n 33 (([c0, c1].drop 1).take (Try.prog.cellsOf 33)) = some x1 := hf 1 _ rfl
    have g1 : DataW.trod enc Try.prog w base spare held n 33 [c1] = some x1 := by
      have hc : Try.prog.cellsOf 33 = 1 := by kernel_rfl
      rw [hc] at f1
      exact f1
    obtain ⟨a1, k1, b1⟩ := (Reads.slice (B := 1) Try.underlying33 (by kernel_rfl) (by kernel_rfl) (Reads.u8 Try.underlying5 (by kernel_rfl))).get g1 (fun z hz => hw z (by simp only [DataW.weights, Try.underlying35]; simp only [DataW.weightsEach, List.map_cons, List.map_nil, List.mem_append]; exact .inr (.inl hz)))
    exact ⟨⟨a0, a1⟩, ⟨_, _, rfl, k0, k1⟩, ⟨b0, b1⟩⟩

def Entry.Bd (x : Entry) : Prop := BdT x.key ∧ Tag.Bd x.tag ∧ Val.Bd x.val
theorem Entry.reads : Reads 37 Entry.k Entry.Bd where
  sz := by kernel_rfl
  get := by
    intro H enc w base spare held fuel cs x h hw
    obtain ⟨xs, n, rfl, hx, hl, hxl, hf⟩ := DataW.trod_struct Try.underlying37 h
    have hz : Try.prog.cellsOf 37 = 6 := by kernel_rfl
    rw [hz] at hl
    obtain ⟨c0, c1, c2, c3, c4, c5, rfl⟩ := len6 hl
    have hxl' : xs.length = 3 := hxl
    obtain ⟨x0, x1, x2, rfl⟩ := len3 hxl'
    subst hx
    have f0 : DataW.trod enc Try.prog w base spare held n 9 (([c0, c1, c2, c3, c4, c5].drop 0).take (Try.prog.cellsOf 9)) = some x0 := hf 0 _ rfl
    have g0 : DataW.trod enc Try.prog w base spare held n 9 [c0] = some x0 := by
      have hc : Try.prog.cellsOf 9 = 1 := by kernel_rfl
      rw [hc] at f0
      exact f0
    obtain ⟨a0, k0, b0⟩ := (Reads.str Try.underlying9 (by kernel_rfl)).get g0 (fun z hz => hw z (by simp only [DataW.weights, Try.underlying37]; simp only [DataW.weightsEach, List.map_cons, List.map_nil, List.mem_append]; exact .inl hz))
    have f1 : DataW.trod enc Try.prog w base spare held n 32 (([c0, c1, c2, c3, c4, c5].drop 1).take (Try.prog.cellsOf 32)) = some x1 := hf 1 _ rfl
    have g1 : DataW.trod enc Try.prog w base spare held n 32 [c1, c2, c3] = some x1 := by
      have hc : Try.prog.cellsOf 32 = 3 := by kernel_rfl
      rw [hc] at f1
      exact f1
    obtain ⟨a1, k1, b1⟩ := Tag.reads.get g1 (fun z hz => hw z (by simp only [DataW.weights, Try.underlying37]; simp only [DataW.weightsEach, List.map_cons, List.map_nil, List.mem_append]; exact .inr (.inl hz)))
    have f2 : DataW.trod enc Try.prog w base spare held n 35 (([c0, c1, c2, c3, c4, c5].drop 4).take (Try.prog.cellsOf 35)) = some x2 := hf 2 _ rfl
    have g2 : DataW.trod enc Try.prog w base spare held n 35 [c4, c5] = some x2 := by
      have hc : Try.prog.cellsOf 35 = 2 := by kernel_rfl
      rw [hc] at f2
      exact f2
    obtain ⟨a2, k2, b2⟩ := Val.reads.get g2 (fun z hz => hw z (by simp only [DataW.weights, Try.underlying37]; simp only [DataW.weightsEach, List.map_cons, List.map_nil, List.mem_append]; exact .inr (.inr (.inl hz))))
    exact ⟨⟨a0, a1, a2⟩, ⟨_, _, rfl, k0, ⟨_, _, rfl, k1, k2⟩⟩, ⟨b0, b1, b2⟩⟩

def Room.Bd (x : Room) : Prop := BdT x.cells ∧ BdT x.bytes ∧ BdT x.buckets ∧ BdT x.fresh
theorem Room.reads : Reads 23 Room.k Room.Bd where
  sz := by kernel_rfl
  get := by
    intro H enc w base spare held fuel cs x h hw
    obtain ⟨xs, n, rfl, hx, hl, hxl, hf⟩ := DataW.trod_struct Try.underlying23 h
    have hz : Try.prog.cellsOf 23 = 4 := by kernel_rfl
    rw [hz] at hl
    obtain ⟨c0, c1, c2, c3, rfl⟩ := len4 hl
    have hxl' : xs.length = 4 := hxl
    obtain ⟨x0, x1, x2, x3, rfl⟩ := len4 hxl'
    subst hx
    have f0 : DataW.trod enc Try.prog w base spare held n 3 (([c0, c1, c2, c3].drop 0).take (Try.prog.cellsOf 3)) = some x0 := hf 0 _ rfl
    have g0 : DataW.trod enc Try.prog w base spare held n 3 [c0] = some x0 := by
      have hc : Try.prog.cellsOf 3 = 1 := by kernel_rfl
      rw [hc] at f0
      exact f0
    obtain ⟨a0, k0, b0⟩ := (Reads.int Try.underlying3 (by kernel_rfl)).get g0 (fun z hz => hw z (by simp only [DataW.weights, Try.underlying23]; simp only [DataW.weightsEach, List.map_cons, List.map_nil, List.mem_append]; exact .inl hz))
    have f1 : DataW.trod enc Try.prog w base spare held n 3 (([c0, c1, c2, c3].drop 1).take (Try.prog.cellsOf 3)) = some x1 := hf 1 _ rfl
    have g1 : DataW.trod enc Try.prog w base spare held n 3 [c1] = some x1 := by
      have hc : Try.prog.cellsOf 3 = 1 := by kernel_rfl
      rw [hc] at f1
      exact f1
    obtain ⟨a1, k1, b1⟩ := (Reads.int Try.underlying3 (by kernel_rfl)).get g1 (fun z hz => hw z (by simp only [DataW.weights, Try.underlying23]; simp only [DataW.weightsEach, List.map_cons, List.map_nil, List.mem_append]; exact .inr (.inl hz)))
    have f2 : DataW.trod enc Try.prog w base spare held n 3 (([c0, c1, c2, c3].drop 2).take (Try.prog.cellsOf 3)) = some x2 := hf 2 _ rfl
    have g2 : DataW.trod enc Try.prog w base spare held n 3 [c2] = some x2 := by
      have hc : Try.prog.cellsOf 3 = 1 := by kernel_rfl
      rw [hc] at f2
      exact f2
    obtain ⟨a2, k2, b2⟩ := (Reads.int Try.underlying3 (by kernel_rfl)).get g2 (fun z hz => hw z (by simp only [DataW.weights, Try.underlying23]; simp only [DataW.weightsEach, List.map_cons, List.map_nil, List.mem_append]; exact .inr (.inr (.inl hz))))
    have f3 : DataW.trod enc Try.prog w base spare held n 4 (([c0, c1, c2, c3].drop 3).take (Try.prog.cellsOf 4)) = some x3 := hf 3 _ rfl
    have g3 : DataW.trod enc Try.prog w base spare held n 4 [c3] = some x3 := by
      have hc : Try.prog.cellsOf 4 = 1 := by kernel_rfl
      rw [hc] at f3
      exact f3
    obtain ⟨a3, k3, b3⟩ := (Reads.bool Try.underlying4 (by kernel_rfl)).get g3 (fun z hz => hw z (by simp only [DataW.weights, Try.underlying23]; simp only [DataW.weightsEach, List.map_cons, List.map_nil, List.mem_append]; exact .inr (.inr (.inr (.inl hz)))))
    exact ⟨⟨a0, a1, a2, a3⟩, ⟨_, _, rfl, k0, ⟨_, _, rfl, k1, ⟨_, _, rfl, k2, k3⟩⟩⟩, ⟨b0, b1, b2, b3⟩⟩

def Do.Bd (x : Do) : Prop := BdT x.kind ∧ Entry.Bd x.e ∧ BdT x.token
theorem Do.reads : Reads 39 Do.k Do.Bd where
  sz := by kernel_rfl
  get := by
    intro H enc w base spare held fuel cs x h hw
    obtain ⟨xs, n, rfl, hx, hl, hxl, hf⟩ := DataW.trod_struct Try.underlying39 h
    have hz : Try.prog.cellsOf 39 = 8 := by kernel_rfl
    rw [hz] at hl
    obtain ⟨c0, c1, c2, c3, c4, c5, c6, c7, rfl⟩ := len8 hl
    have hxl' : xs.length = 3 := hxl
    obtain ⟨x0, x1, x2, rfl⟩ := len3 hxl'
    subst hx
    have f0 : DataW.trod enc Try.prog w base spare held n 3 (([c0, c1, c2, c3, c4, c5, c6, c7].drop 0).take (Try.prog.cellsOf 3)) = some x0 := hf 0 _ rfl
    have g0 : DataW.trod enc Try.prog w base spare held n 3 [c0] = some x0 := by
      have hc : Try.prog.cellsOf 3 = 1 := by kernel_rfl
      rw [hc] at f0
      exact f0
    obtain ⟨a0, k0, b0⟩ := (Reads.int Try.underlying3 (by kernel_rfl)).get g0 (fun z hz => hw z (by simp only [DataW.weights, Try.underlying39]; simp only [DataW.weightsEach, List.map_cons, List.map_nil, List.mem_append]; exact .inl hz))
    have f1 : DataW.trod enc Try.prog w base spare held n 37 (([c0, c1, c2, c3, c4, c5, c6, c7].drop 1).take (Try.prog.cellsOf 37)) = some x1 := hf 1 _ rfl
    have g1 : DataW.trod enc Try.prog w base spare held n 37 [c1, c2, c3, c4, c5, c6] = some x1 := by
      have hc : Try.prog.cellsOf 37 = 6 := by kernel_rfl
      rw [hc] at f1
      exact f1
    obtain ⟨a1, k1, b1⟩ := Entry.reads.get g1 (fun z hz => hw z (by simp only [DataW.weights, Try.underlying39]; simp only [DataW.weightsEach, List.map_cons, List.map_nil, List.mem_append]; exact .inr (.inl hz)))
    have f2 : DataW.trod enc Try.prog w base spare held n 3 (([c0, c1, c2, c3, c4, c5, c6, c7].drop 7).take (Try.prog.cellsOf 3)) = some x2 := hf 2 _ rfl
    have g2 : DataW.trod enc Try.prog w base spare held n 3 [c7] = some x2 := by
      have hc : Try.prog.cellsOf 3 = 1 := by kernel_rfl
      rw [hc] at f2
      exact f2
    obtain ⟨a2, k2, b2⟩ := (Reads.int Try.underlying3 (by kernel_rfl)).get g2 (fun z hz => hw z (by simp only [DataW.weights, Try.underlying39]; simp only [DataW.weightsEach, List.map_cons, List.map_nil, List.mem_append]; exact .inr (.inr (.inl hz))))
    exact ⟨⟨a0, a1, a2⟩, ⟨_, _, rfl, k0, ⟨_, _, rfl, k1, k2⟩⟩, ⟨b0, b1, b2⟩⟩

end Go.Proofs.Ytgfjkpnaabiecaa
set_option linter.unusedVariables false
set_option linter.unusedSimpArgs false
namespace Go.Proofs.Ytgfjkpnaabiecaa
open Go.RowKit Go.Proofs.YtgfjkpnaabiecaaW.PrintWords
namespace Tab
theorem dos_bd {B : Nat} {xs : List Do} (h : BdS B Do.Bd xs) (hB : B = 88) : xs.length ≤ 1600000000000 ∧ ∀ x ∈ xs, x.e.val.b.length ≤ 140737488351232 := by
  subst hB
  obtain ⟨h1, h2⟩ := h
  refine ⟨by omega, fun x hx => ?_⟩
  obtain ⟨_, ⟨_, _, _, h3, _⟩, _⟩ := h2 x hx
  omega
theorem room_cs {w : World} {cs : Array Value} {r : Room} (h : Room.k.K w r cs.toList) : cs = #[.int .i64 r.cells, .int .i64 r.bytes, .int .i64 r.buckets, .bool r.fresh] := by
  obtain ⟨he, _⟩ := Room.open_ h
  have : cs = cs.toList.toArray := by simp
  rw [this, he]
end Tab
end Go.Proofs.Ytgfjkpnaabiecaa
set_option linter.unusedVariables false
set_option linter.unusedSimpArgs false
namespace Go.Proofs.Ytgfjkpnaabiecaa
open Go.RowKit Go.Proofs.YtgfjkpnaabiecaaW.PrintWords
namespace Tab
theorem copies_row {B C : Nat} (cs : Array Value) (r : Room) (A A2 : Option Addr) (c c2 : Nat) (xs ys : List Do) (w : World) (h0 : Room.k.K w r cs.toList) (hr : Do.k.C w A xs.length xs) (hb : BdS B Do.Bd xs) (hB : B = 88) (hr2 : Do.k.C w A2 ys.length ys) (hb2 : BdS C Do.Bd ys) (hC : C = 88) :
    Calls Try.prog 9 #[.agg cs, .slice A xs.length c, .slice A2 ys.length c2] w (TrueTold w) := by
  rw [room_cs h0]
  obtain ⟨b1, b2⟩ := dos_bd hb hB
  obtain ⟨b3, b4⟩ := dos_bd hb2 hC
  by_cases hR : RoomOk r
  · exact copies_good r A A2 c c2 xs ys w hr b1 hr2 b3 hR b2 b4
  · exact copies_bad r A A2 c c2 xs ys w hr b1 hr2 b3 hR
end Tab
end Go.Proofs.Ytgfjkpnaabiecaa
