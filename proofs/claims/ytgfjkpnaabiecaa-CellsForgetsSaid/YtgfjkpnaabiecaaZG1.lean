/- Lemmas for the row (words on memory, contracts of the program's functions): LawG, Bridge, KindsCR, TabY0, LawGR. -/
import Derived.Deep.Slices
import Derived.ChangeArms
import Derived.SizedLaws
import Derived.Test.YtgfjkpnaabiecaaZC5
set_option linter.unusedVariables false
set_option linter.unusedSimpArgs false
namespace Go.Proofs.Ytgfjkpnaabiecaa
open Go.RowKit Go.Proofs.YtgfjkpnaabiecaaW.PrintWords
namespace Tab
open Tags
set_option maxRecDepth 100000 in
set_option maxHeartbeats 1000000 in
theorem forgets_bad (r : Room) (A : Option Addr) (c : Nat) (xs : List Do) (key : ByteArray) (w : World) (hr : Do.k.C w A xs.length xs) (hn : xs.length ≤ 1600000000000) (hb : ¬ RoomOk r) :
    Calls Try.prog 6 #[.agg #[.int .i64 r.cells, .int .i64 r.bytes, .int .i64 r.buckets, .bool r.fresh], .slice A xs.length c, .string key] w (TrueTold w) := by
  have HR := Aside0.mk hr
  have HN : Aside0 (∀ w', Calls Try.prog 10 #[.agg #[.int .i64 r.cells, .int .i64 r.bytes, .int .i64 r.buckets, .bool r.fresh]] w' fun e w'' => e = .returned (.tuple #[.pointer none, .int .i64 2]) ∧ Below w'.heap.size w' w'') := ⟨new_no hb⟩
  have HL : Aside0 (∀ w', Below w.heap.size w w' → Calls Try.prog 11 #[.slice A xs.length c] w' fun e w'' => ∃ n : Int, e = .returned (.int .i64 n) ∧ Below w'.heap.size w' w'') := ⟨fun w' h => long_calls A c xs w' (Kd.C_below HR.out h) hn⟩
  obtain ⟨ra, rb, rc, rd⟩ := r
  dsimp only at *
  clear hr hb
  go_enter Try.func6, Try.ntmps6
  go_wp2_with (first
    | ((with_reducible refine (HN.out _).mono ?_); rintro e w1 ⟨rfl, h⟩; have HB := Aside0.mk (Below.then_ (below_alloc (Below.refl _ w) _) h (Nat.le_refl _)); clear h)
    | ((with_reducible refine (HL.out _ HB.out).mono ?_); rintro e w2 ⟨n, rfl, h⟩; have HB := Aside0.mk (Below.then_ HB.out h (Nat.le_refl _)); clear h)
    | ((with_reducible refine (known_true _).mono ?_); rintro e w3 ⟨rfl, h⟩; have HB := Aside0.mk (Below.then_ HB.out h (Nat.le_refl _)); clear h))
  all_goals
    go_ret
    exact ⟨rfl, HB.out⟩
set_option maxRecDepth 100000 in
set_option maxHeartbeats 1000000 in
theorem forgets_key (r : Room) (A : Option Addr) (c : Nat) (xs : List Do) (key : ByteArray) (w : World) (hr : Do.k.C w A xs.length xs) (hn : xs.length ≤ 1600000000000) (hb : RoomOk r) (hk : ¬ KeyOk key) (hxl : ∀ x ∈ xs, x.e.val.b.length ≤ 140737488351232) :
    Calls Try.prog 6 #[.agg #[.int .i64 r.cells, .int .i64 r.bytes, .int .i64 r.buckets, .bool r.fresh], .slice A xs.length c, .string key] w (TrueTold w) := by
  have HR := Aside0.mk hr
  have HXL := Aside0.mk hxl
  obtain ⟨ra, rz, rc, rd⟩ := r
  have HRM : Aside0 (RoomOk ⟨ra, rz, rc, rd⟩) := ⟨hb⟩
  have HWF : Aside0 (∀ k, k ≤ xs.length → Wf (runT (newT ⟨ra, rz, rc, rd⟩) xs k) (1 + 5000 * (k : Int))) := ⟨fun k _ => (Wf.new_ hb).run xs k⟩
  have HN : Aside0 (∀ w', Calls Try.prog 10 #[.agg #[.int .i64 ra, .int .i64 rz, .int .i64 rc, .bool rd]] w' fun e w'' => ∃ p mb tb, e = .returned (.tuple #[.pointer (some ⟨p, 0, none⟩), .int .i64 0]) ∧ LS w' p mb tb (newT ⟨ra, rz, rc, rd⟩) w'') := ⟨new_ok (r := ⟨ra, rz, rc, rd⟩) hb⟩
  dsimp only at *
  have HL : Aside0 (∀ w', Below w.heap.size w w' → Calls Try.prog 11 #[.slice A xs.length c] w' fun e w'' => ∃ n : Int, e = .returned (.int .i64 n) ∧ Below w'.heap.size w' w'') := ⟨fun w' h => long_calls A c xs w' (Kd.C_below HR.out h) hn⟩
  clear hr hb hxl
  by_cases hk0 : key.size = 0
  · have hk1 : ((key.size : Int) == 0) = true := by simp [hk0]
    clear hk0 hk
    go_enter Try.func6, Try.ntmps6
    go_wp2_with (first
      | ((with_reducible refine (HN.out _).mono ?_); rintro e w1 ⟨p, mb, tb, rfl, h⟩; have HB := Aside0.mk (h.elder (below_alloc (Below.refl _ w) _)).bl; clear h)
      | ((with_reducible refine (HL.out _ HB.out).mono ?_); rintro e w2 ⟨n, rfl, h⟩; have HB := Aside0.mk (Below.then_ HB.out h (Nat.le_refl _)); clear h)
      | ((with_reducible refine (known_true _).mono ?_); rintro e w3 ⟨rfl, h⟩; have HB := Aside0.mk (Below.then_ HB.out h (Nat.le_refl _)); clear h))
    all_goals
      go_ret
      exact ⟨rfl, HB.out⟩
  · have hk1 : ((key.size : Int) == 0) = false := by simpa using hk0
    have hk2 : decide ((250 : Int) < (key.size : Int)) = true := by
      have h1 : ¬ key.size ≤ 250 := fun h => hk ⟨by omega, h⟩
      have : (250 : Int) < (key.size : Int) := by omega
      simpa using this
    clear hk0 hk
    go_enter Try.func6, Try.ntmps6
    go_wp2_with (first
      | ((with_reducible refine (HN.out _).mono ?_); rintro e w1 ⟨p, mb, tb, rfl, h⟩; have HB := Aside0.mk (h.elder (below_alloc (Below.refl _ w) _)).bl; clear h)
      | ((with_reducible refine (HL.out _ HB.out).mono ?_); rintro e w2 ⟨n, rfl, h⟩; have HB := Aside0.mk (Below.then_ HB.out h (Nat.le_refl _)); clear h)
      | ((with_reducible refine (known_true _).mono ?_); rintro e w3 ⟨rfl, h⟩; have HB := Aside0.mk (Below.then_ HB.out h (Nat.le_refl _)); clear h))
    all_goals
      go_ret
      exact ⟨rfl, HB.out⟩
set_option maxRecDepth 100000 in
set_option maxHeartbeats 2000000 in
theorem forgets_good (r : Room) (A : Option Addr) (c : Nat) (xs : List Do) (key : ByteArray) (wS : World) (hr : Do.k.C wS A xs.length xs) (hn : xs.length ≤ 1600000000000) (hb : RoomOk r) (hk : KeyOk key) (hxl : ∀ x ∈ xs, x.e.val.b.length ≤ 140737488351232) :
    Calls Try.prog 6 #[.agg #[.int .i64 r.cells, .int .i64 r.bytes, .int .i64 r.buckets, .bool r.fresh], .slice A xs.length c, .string key] wS (TrueTold wS) := by
  have HS0 := Aside0.mk hr
  have HXL := Aside0.mk hxl
  obtain ⟨ra, rz, rc, rd⟩ := r
  have HRM : Aside0 (RoomOk ⟨ra, rz, rc, rd⟩) := ⟨hb⟩
  have HWF : Aside0 (∀ k, k ≤ xs.length → Wf (runT (newT ⟨ra, rz, rc, rd⟩) xs k) (1 + 5000 * (k : Int))) := ⟨fun k _ => (Wf.new_ hb).run xs k⟩
  have HN : Aside0 (∀ w', Calls Try.prog 10 #[.agg #[.int .i64 ra, .int .i64 rz, .int .i64 rc, .bool rd]] w' fun e w'' => ∃ p mb tb, e = .returned (.tuple #[.pointer (some ⟨p, 0, none⟩), .int .i64 0]) ∧ LS w' p mb tb (newT ⟨ra, rz, rc, rd⟩) w'') := ⟨new_ok (r := ⟨ra, rz, rc, rd⟩) hb⟩
  dsimp only at *
  clear hr hb hxl
  have HK := Aside0.mk hk
  obtain ⟨hk1, hk2⟩ := hk
  have hk3 : ((key.size : Int) == 0) = false := by
    have : ¬ key.size = 0 := by omega
    simpa using this
  have hk4 : decide ((250 : Int) < (key.size : Int)) = false := by
    have : ¬ (250 : Int) < (key.size : Int) := by omega
    simpa using this
  have hks : key.size ≤ 140737488351232 := by omega
  clear hk1 hk2
  go_enter Try.func6, Try.ntmps6
  go_upto_region 1 with (fail)
  generalize hX : World.alloc _ _ = w
  have HWS : Aside0 (Below wS.heap.size wS w) := ⟨by rw [← hX]; exact below_alloc (Below.refl _ _) _⟩
  have HR : Aside0 (Do.k.C w A xs.length xs) := ⟨Kd.C_below HS0.out HWS.out⟩
  have HL : Aside0 (∀ w', Below w.heap.size w w' → Calls Try.prog 11 #[.slice A xs.length c] w' fun e w'' => ∃ n : Int, e = .returned (.int .i64 n) ∧ Below w'.heap.size w' w'') := ⟨fun w' h => long_calls A c xs w' (Kd.C_below HR.out h) hn⟩
  have HRX : Aside0 (Blk w wS.heap.size [.int .i64 ra, .int .i64 rz, .int .i64 rc, .bool rd]) := ⟨by rw [← hX]; exact Blk.new_ _ _ _ rfl rfl⟩
  obtain ⟨rB, hrB⟩ : ∃ b, b = wS.heap.size := ⟨_, rfl⟩
  rw [← hrB] at HRX
  rw [← hrB]
  clear hX hrB
  have z0 := HRX.out.cell 0 rfl
  have z1 := HRX.out.cell 1 rfl
  have z2 := HRX.out.cell 2 rfl
  have z3 := HRX.out.cell 3 rfl
  go_wp2_with (first
    | ((with_reducible refine (HN.out _).mono ?_); rintro e w1 ⟨p, mb, tb, rfl, h⟩; have HT := Aside0.mk h; have HB := Aside0.mk HT.out.bl; clear h)
    | ((with_reducible refine (HL.out _ HB.out).mono ?_); rintro e w2 ⟨n, rfl, h⟩; have HT := Aside0.mk (HT.out.below h); have HB := Aside0.mk HT.out.bl; clear h)
    | ((with_reducible refine (known_true _).mono ?_); rintro e w3 ⟨rfl, h⟩; have HB := Aside0.mk (Below.then_ HB.out h (Nat.le_refl _)); clear h))
  · go_loopg [9] xs.length (fun gk v wr => ∃ k : Nat, v = .int .i64 (k : Int) ∧ k ≤ xs.length ∧ Aside0 (gk + k = xs.length) ∧ Aside0 (LS w p mb tb (runT (newT ⟨ra, rz, rc, rd⟩) xs k) wr))
    case atStart => exact ⟨0, rfl, Nat.zero_le _, ⟨rfl⟩, HT⟩
    case round =>
      obtain ⟨k, rfl, hk, HG, HS⟩ := hrel
      by_cases hlt : k < xs.length
      · obtain ⟨ad, x, A6, c6, rfl, HX, y0, y1, y2, y3, y4, y5, y6, y7, y8⟩ := Do.at_ HR.out k hlt
        have x0 := pw_cell_below HS.out.bl y0
        have x1 := pw_cell_below HS.out.bl y1
        have x2 := pw_cell_below HS.out.bl y2
        have x3 := pw_cell_below HS.out.bl y3
        have x4 := pw_cell_below HS.out.bl y4
        have x5 := pw_cell_below HS.out.bl y5
        have x6 := pw_cell_below HS.out.bl y6
        have x7 := pw_cell_below HS.out.bl y7
        have hltI : (k : Int) < (xs.length : Int) := by omega
        have HC := Aside0.mk (done_calls p mb tb _ x A6 c6 _ wr HS.out.t ((HWF.out k hk).num (by omega)) (by omega) (HS.out.storeF (do_ent y8.out)) (HXL.out x (List.mem_of_getElem? HX.out)))
        dsimp only [dcs] at HC
        clear y0 y1 y2 y3 y4 y5 y6 y7 y8
        go_wp2_with (first | ((with_reducible refine HC.out.mono ?_); rintro e w1 ⟨cs, rfl, _, h1, o1⟩; have HS1 := Aside0.mk (HS.out.told h1 o1); clear h1 o1))
        go_roundg (xs.length - (k + 1))
        case measure => have := HG.out; omega
        case rel => exact ⟨k + 1, by go_num, by omega, ⟨by omega⟩, ⟨by rw [runT_succ HX.out]; exact HS1.out⟩⟩
      · obtain rfl : k = xs.length := by omega
        have HWT := Aside0.mk (HWF.out xs.length (Nat.le_refl _))
        obtain ⟨T, hT⟩ : ∃ T, T = runT (newT ⟨ra, rz, rc, rd⟩) xs xs.length := ⟨_, rfl⟩
        have HRM2 : Aside0 (T.room.buckets = rc) := ⟨by rw [hT, run_room]; rfl⟩
        rw [← hT] at HS HWT
        clear hT HWF HT HB
        have hTl : T.l.length ≤ 4096 := by have h1 := HWT.out.len; have h2 := HWT.out.rm.2.1; omega
        have hn5 : 1 + 5000 * (xs.length : Int) ≤ 1000000000000000000 := by omega
        have HN0 : Aside0 (Num T (1 + 5000 * (xs.length : Int))) := ⟨HWT.out.num (by omega)⟩
        have HW1 := Aside0.mk HWT.out.forget_
        have HW2 := Aside0.mk (HW1.out.query_ key)
        have HC1 : Aside0 (∀ w', TbR w' p mb tb T → _) := ⟨fun w' h => cells_calls p mb tb T _ w' h HN0.out⟩
        have HK1 : Aside0 (∀ w', TbR w' p mb tb T → _) := ⟨fun w' h => tokens_calls p mb tb T w' h HWT.out.tok_len.1 (by have := HWT.out.tok_len.2; omega)⟩
        have HFG : Aside0 (∀ w', TbR w' p mb tb T → _) := ⟨fun w' h => forget_calls p mb tb T _ w' h HN0.out (by omega)⟩
        have HC2 : Aside0 (∀ w', TbR w' p mb tb (forgetT T) → _) := ⟨fun w' h => cells_calls p mb tb (forgetT T) _ w' h (HW1.out.num (by omega))⟩
        have HQ : Aside0 (∀ w', TbR w' p mb tb (forgetT T) → _) := ⟨fun w' h => queryC_calls p mb tb (forgetT T) key _ w' h (HW1.out.num (by omega)) (by omega) hks⟩
        have HK2 : Aside0 (∀ w', TbR w' p mb tb (queryT (forgetT T) key) → _) := ⟨fun w' h => tokens_calls p mb tb (queryT (forgetT T) key) w' h HW2.out.tok_len.1 (by have := HW2.out.tok_len.2; omega)⟩
        have hT2 : (queryT (forgetT T) key).l.length ≤ 4096 := by have h1 := HW2.out.len; have h2 := HW2.out.rm.2.1; omega
        have hNF : Aside0 (Num (queryT (forgetT T) key) (1 + 5000 * (xs.length : Int) + 5000 + 5000)) := ⟨HW2.out.num (by omega)⟩
        have HTL := Aside0.mk (forget_tells HWT.out HK.out)
        have HFB : Aside0 (∀ e, e.key = key → fillB (queryT (forgetT T) key) e (tokAt T key) = false) := ⟨fun e he => forget_fills HWT.out key e he⟩
        have HTT := Aside0.mk (forget_toks HWT.out key)
        have hqe : queryE key = 0 := by unfold queryE; rw [if_pos HK.out]
        rw [hqe] at HQ
        have HKB : Aside0 (tokAt T key ≤ 1 + 5000 * (xs.length : Int)) := ⟨by
          unfold tokAt
          have hi := KInv.tok_in HWT.out key
          generalize (Hash.bkt key T.room.buckets).toNat = i at *
          rw [List.getD_eq_getElem?_getD, List.getElem?_eq_getElem hi]
          exact (HWT.out.tk _ (List.getElem_mem hi)).2⟩
        obtain ⟨tk, htk⟩ : ∃ tk, tk = tokAt T key := ⟨_, rfl⟩
        rw [← htk] at HTL HFB HKB
        have HT2T : Aside0 ((queryT (forgetT T) key).tok.length = T.tok.length ∧ (T.tok.length : Int) = rc) := ⟨by
          rw [(query_tok _ _).1]
          exact ⟨by show (T.tok.map _).length = _; rw [List.length_map], by rw [← HRM2.out]; exact HWT.out.tl.symm⟩⟩
        have HI1 := Aside0.mk (HWT.out.tok_in (by omega))
        have HI2 := Aside0.mk (HW2.out.tok_in (by omega))
        have hl1 : (forgetT T).l = T.l.map off := rfl
        clear hqe htk
        have hR : ∃ R, R = queryR (forgetT T) key := ⟨_, rfl⟩
        obtain ⟨R, hR⟩ := hR
        rw [← hR] at HQ HTL
        clear hR
        generalize hT2e : queryT (forgetT T) key = T2 at HQ HW2 HK2 HFB HTT HT2T HI2 hT2 hNF
        clear hT2e
        rw [hl1] at HC2
        clear hl1
        obtain ⟨⟨rk, ⟨t1, t2, t3⟩, ⟨rh, rb⟩⟩, rw_, rt⟩ := R
        have HTB : Aside0 (rt = tk + 1) := ⟨HTL.out.2.1⟩
        have hrw : rw_ = false := HTL.out.1
        subst hrw
        have hrt1 : 1 ≤ rt := by have h1 := HTL.out.2.2; have h2 := HTB.out; omega
        have hrt2 : rt ≤ 2000000000000000000 := by have h1 := HKB.out; have h2 := HTB.out; omega
        clear HTL HRM2
        generalize hm1 : T.l.map off = l1 at HC2
        have HL1 : Aside0 (l1 = T.l.map off) := ⟨hm1.symm⟩
        have hln : l1.length = T.l.length := by rw [← hm1, List.length_map]
        clear hm1
        unfold CellsTold at HC2
        rw [hln] at HC2
        have HLN := Aside0.mk hln
        clear hln
        go_upto_region 13 with (first
          | ((with_reducible refine (HC1.out _ HS.out.t).mono ?_); rintro e w1 ⟨A1, c1, rfl, hc1, hF, hb⟩; have HM1 := Aside0.mk (cells_keep hF HS.out.lt); have HS := Aside0.mk (HS.out.below hb); clear hb hF)
          | ((with_reducible refine (HK1.out _ HS.out.t).mono ?_); rintro e w1 ⟨g1, cg1, rfl, hg1, hgc1, hB, _, hb⟩; have HM2 := Aside0.mk (tok_keep hB hg1 HS.out.lt HI1.out (by have := HWT.out.tok_len.2; omega)); have HM1 := Aside0.mk (Foot.step HM1.out (fun i _ hlt => hb.block i hlt)); have HS := Aside0.mk (HS.out.below hb); clear hb hB hg1 hgc1)
          | ((with_reducible refine (HFG.out _ HS.out.t).mono ?_); rintro e w1 ⟨rfl, ht, ho⟩; have HM2 := Aside0.mk (Foot.only HM2.out ho (fun i hi => hi)); have HM1 := Aside0.mk (Foot.only HM1.out ho (fun i hi => hi)); have HS := Aside0.mk (HS.out.told ht ho); clear ht ho)
          | ((with_reducible refine (HC2.out _ HS.out.t).mono ?_); rintro e w1 ⟨A3, c3, rfl, hc3, hF, hb⟩; have HM3 := Aside0.mk (cells_keep hF HS.out.lt); have HM2 := Aside0.mk (Foot.step HM2.out (fun i _ hlt => hb.block i hlt)); have HM1 := Aside0.mk (Foot.step HM1.out (fun i _ hlt => hb.block i hlt)); have HS := Aside0.mk (HS.out.below hb); clear hb hF)
          | ((with_reducible refine (HQ.out _ HS.out.t).mono ?_); rintro e w1 ⟨A2, c2, rfl, hb, ht, ho⟩; have HBK := Aside0.mk hb; have HM3 := Aside0.mk (Foot.only HM3.out ho (fun i hi => hi)); have HM2 := Aside0.mk (Foot.only HM2.out ho (fun i hi => hi)); have HM1 := Aside0.mk (Foot.only HM1.out ho (fun i hi => hi)); have HS := Aside0.mk (HS.out.told ht ho); clear hb ht ho))
        generalize hX : World.alloc _ _ = W1
        have HB1 : Aside0 (RB W1 w1.heap.size ⟨⟨rk, ⟨t1, t2, t3⟩, ⟨rh, rb⟩⟩, false, rt⟩ A2 c2) := ⟨by rw [← hX]; exact RB.new HBK.out⟩
        have HBW : Aside0 (Below w1.heap.size w1 W1) := ⟨by rw [← hX]; exact below_alloc (Below.refl _ _) _⟩
        have HS := Aside0.mk (HS.out.below HBW.out)
        have HM := Aside0.mk (Foot.both (Foot.both HM1.out HM2.out) HM3.out)
        have HM := Aside0.mk (Foot.step HM.out (fun i _ hlt => HBW.out.block i hlt))
        have z2 := pw_cell_below HS.out.bl z2
        obtain ⟨b1, hbx⟩ : ∃ b, b = w1.heap.size := ⟨_, rfl⟩
        rw [← hbx] at HB1
        rw [← hbx]
        clear hX hbx HBK HC1 HC2 HFG HQ HK1 HBW HM1 HM2 HM3
        have hq1 : ((T.tok.length : Int) == rc) = true := by simpa using HT2T.out.2
        have hq2 : ((T.tok.length : Int) != rc) = false := by simpa using HT2T.out.2
        have HTKL : Aside0 (T.tok.length ≤ 1000000) := ⟨by have := HWT.out.tok_len.2; omega⟩
        unfold TokTold at HK2
        rw [HT2T.out.1] at HK2
        have HSI : Aside0 (∀ g cap w', (kInt .i64).C w' (some ⟨g, 0, none⟩) T2.tok.length T2.tok → (kInt .i64).C w' (some ⟨g1, 0, none⟩) T.tok.length T.tok → Calls Try.prog 28 #[.slice (some ⟨g, 0, none⟩) T.tok.length cap, .slice (some ⟨g1, 0, none⟩) T.tok.length cg1] w' (Cmp.Is false w')) := ⟨fun g cap w' h1 h2 => by
          have := Cmp.sameInts_calls T2.tok T.tok _ _ cap cg1 w' h1 h2
          rw [HTT.out, HT2T.out.1] at this
          exact this⟩
        obtain ⟨⟨x0, x1, x2, x3, x4, x5, x6, x7⟩, _⟩ := HB1.out.blk.eight
        dsimp only at x0 x1 x2 x3 x4 x5 x6 x7
        have HMF := Aside0.mk (Foot.now HM.out)
        go_upto_region 16 with (first
          | ((with_reducible refine (HK2.out _ HS.out.t).mono ?_); rintro e w4 ⟨g4, cg4, rfl, hg4, hgc4, hB, _, hb⟩; have HTK4 := Aside0.mk (blk_ints hB HI2.out (by rw [HT2T.out.1]; exact HTKL.out)); have HB4 := Aside0.mk hb; clear hb hB hg4 hgc4)
          | ((with_reducible refine (HSI.out _ _ _ HTK4.out (Kd.C_below HMF.out.1.2 HB4.out)).mono ?_); rintro e w5 ⟨rfl, h⟩; have HB5 := Aside0.mk (Below.then_ HB4.out h (Nat.le_refl _)); clear h))
        have HS5 := Aside0.mk (HS.out.below HB5.out)
        have HB15 := Aside0.mk (HB1.out.below HB5.out)
        have HR1 := Aside0.mk (Kd.C_below HMF.out.1.1 HB5.out)
        have HR3 := Aside0.mk (Kd.C_below HMF.out.2 HB5.out)
        clear HMF HM HK2 HSI x0 x1 x2 x3 x4 x5 x6 x7 HB4 HTK4
        go_loopg [15] T.l.length (fun gj v wr => ∃ j : Nat, v = .int .i64 (j : Int) ∧ j ≤ T.l.length ∧ Aside0 (gj + j = T.l.length) ∧ Aside0 (Below w5.heap.size w5 wr))
        case atStart => exact ⟨0, rfl, Nat.zero_le _, ⟨rfl⟩, ⟨Below.refl _ _⟩⟩
        case round =>
          obtain ⟨j, rfl, hj, HG2, HR5⟩ := hrel
          by_cases hlt2 : j < T.l.length
          · obtain ⟨a1, u, A5, c5, rfl, HU, x0, x1, x2, x3, x4, x5, x6, x7, x8, HKU⟩ := Cell.at_ (Kd.C_below HR1.out HR5.out) j hlt2
            obtain ⟨a3, u', B5, d5, rfl, HU', y0, y1, y2, y3, y4, y5, y6, y7, y8, HKU'⟩ := Cell.at_ (Kd.C_below HR3.out HR5.out) j hlt2
            obtain rfl : u' = off u := by
              have h := HU'.out
              rw [HL1.out, List.getElem?_map, HU.out] at h
              exact (Option.some.inj h).symm
            have hltI : (j : Int) < (T.l.length : Int) := by omega
            have HSM : Aside0 (∀ w', Below wr.heap.size wr w' → Calls Try.prog 25 #[.agg #[.string u.e.key, .int .i64 u.e.tag.seq, .int .i64 u.e.tag.who, .int .i64 u.e.tag.op, .bool u.e.val.has, .slice B5 u.e.val.b.length d5], .agg #[.string u.e.key, .int .i64 u.e.tag.seq, .int .i64 u.e.tag.who, .int .i64 u.e.tag.op, .bool u.e.val.has, .slice A5 u.e.val.b.length c5]] w' (Cmp.Yes w')) := ⟨fun w' hb => by
              obtain ⟨A6, c6, he, _, _, _, _, _, g5, _⟩ := Cell.open_ HKU.out
              obtain ⟨B6, d6, he', _, _, _, _, _, g5', _⟩ := Cell.open_ HKU'.out
              simp only [off, List.cons.injEq, Value.slice.injEq, true_and, and_true] at he he'
              obtain ⟨rfl, rfl⟩ := he
              obtain ⟨rfl, rfl⟩ := he'
              exact Cmp.same_refl u.e B5 A5 d5 c5 w' (Kd.C_below g5' hb) (Kd.C_below g5 hb)⟩
            obtain ⟨⟨uk, ⟨s1, s2, s3⟩, ⟨uh, ub⟩⟩, uw, uc, uu⟩ := u
            dsimp only [off] at x0 x1 x2 x3 x4 x5 x6 x7 x8 y0 y1 y2 y3 y4 y5 y6 y7 y8 HSM
            have x0 := fun w' (h : Below wr.heap.size wr w') => pw_cell_below h x0
            have x1 := fun w' (h : Below wr.heap.size wr w') => pw_cell_below h x1
            have x2 := fun w' (h : Below wr.heap.size wr w') => pw_cell_below h x2
            have x3 := fun w' (h : Below wr.heap.size wr w') => pw_cell_below h x3
            have x4 := fun w' (h : Below wr.heap.size wr w') => pw_cell_below h x4
            have x5 := fun w' (h : Below wr.heap.size wr w') => pw_cell_below h x5
            have x6 := fun w' (h : Below wr.heap.size wr w') => pw_cell_below h x6
            have x7 := fun w' (h : Below wr.heap.size wr w') => pw_cell_below h x7
            have x8 := fun w' (h : Below wr.heap.size wr w') => pw_cell_below h x8
            have y0 := fun w' (h : Below wr.heap.size wr w') => pw_cell_below h y0
            have y1 := fun w' (h : Below wr.heap.size wr w') => pw_cell_below h y1
            have y2 := fun w' (h : Below wr.heap.size wr w') => pw_cell_below h y2
            have y3 := fun w' (h : Below wr.heap.size wr w') => pw_cell_below h y3
            have y4 := fun w' (h : Below wr.heap.size wr w') => pw_cell_below h y4
            have y5 := fun w' (h : Below wr.heap.size wr w') => pw_cell_below h y5
            have y6 := fun w' (h : Below wr.heap.size wr w') => pw_cell_below h y6
            have y7 := fun w' (h : Below wr.heap.size wr w') => pw_cell_below h y7
            have y8 := fun w' (h : Below wr.heap.size wr w') => pw_cell_below h y8
            go_upto_region 18 with (fail)
            refine wp_region_noPanic ?_
            refine wp_region_held_drew (S := Below wr.heap.size wr) (by kernel_rfl) (below_drew (Below.refl _ _)) (fun hHeld => ?_)
            (refine takeH 0 107 (v := ?_) rfl rfl (by kernel_rfl) (by kernel_rfl) (by kernel_rfl) (fun _ _ _ h => h) hHeld rfl ?_ ?_; rotate_left; (focus (intro w' hSw; go_simp; try with_reducible rfl)))
            (try simp only [Act.put, List.setIfInBounds_toArray, List.set_cons_zero, List.set_cons_succ])
            (refine takeH 1 108 (v := ?_) rfl rfl (by kernel_rfl) (by kernel_rfl) (by kernel_rfl) (fun _ _ _ h => h) hHeld rfl ?_ ?_; rotate_left; (focus (intro w' hSw; go_simp; try with_reducible rfl)))
            (try simp only [Act.put, List.setIfInBounds_toArray, List.set_cons_zero, List.set_cons_succ])
            (refine takeH 2 109 (v := ?_) rfl rfl (by kernel_rfl) (by kernel_rfl) (by kernel_rfl) (fun _ _ _ h => h) hHeld rfl ?_ ?_; rotate_left; (focus (intro w' hSw; go_simp; try with_reducible rfl)))
            (try simp only [Act.put, List.setIfInBounds_toArray, List.set_cons_zero, List.set_cons_succ])
            (refine takeH 3 110 (v := ?_) rfl rfl (by kernel_rfl) (by kernel_rfl) (by kernel_rfl) (fun _ _ _ h => h) hHeld rfl ?_ ?_; rotate_left; (focus (intro w' hSw; go_simp; try with_reducible rfl)))
            (try simp only [Act.put, List.setIfInBounds_toArray, List.set_cons_zero, List.set_cons_succ])
            (refine takeH 4 111 (v := ?_) rfl rfl (by kernel_rfl) (by kernel_rfl) (by kernel_rfl) (fun _ _ _ h => h) hHeld rfl ?_ ?_; rotate_left; (focus (intro w' hSw; go_simp; try with_reducible rfl)))
            (try simp only [Act.put, List.setIfInBounds_toArray, List.set_cons_zero, List.set_cons_succ])
            (refine takeH 5 112 (v := ?_) rfl rfl (by kernel_rfl) (by kernel_rfl) (by kernel_rfl) (fun _ _ _ h => h) hHeld rfl ?_ ?_; rotate_left; (focus (intro w' hSw; go_simp; try with_reducible rfl)))
            (try simp only [Act.put, List.setIfInBounds_toArray, List.set_cons_zero, List.set_cons_succ])
            (first | (refine skipH 6 113 rfl rfl (by kernel_rfl) (by kernel_rfl) (by kernel_rfl) (fun _ _ _ h => h) hHeld rfl ?_) | (refine takeH 6 113 (v := ?_) rfl rfl (by kernel_rfl) (by kernel_rfl) (by kernel_rfl) (fun _ _ _ h => h) hHeld rfl ?_ ?_; rotate_left; (focus (intro w' hSw; go_simp; try with_reducible rfl))))
            (try simp only [Act.put, List.setIfInBounds_toArray, List.set_cons_zero, List.set_cons_succ])
            (first | (refine skipH 7 114 rfl rfl (by kernel_rfl) (by kernel_rfl) (by kernel_rfl) (fun _ _ _ h => h) hHeld rfl ?_) | (refine takeH 7 114 (v := ?_) rfl rfl (by kernel_rfl) (by kernel_rfl) (by kernel_rfl) (fun _ _ _ h => h) hHeld rfl ?_ ?_; rotate_left; (focus (intro w' hSw; go_simp; try with_reducible rfl))))
            (try simp only [Act.put, List.setIfInBounds_toArray, List.set_cons_zero, List.set_cons_succ])
            (first | (refine skipH 8 115 rfl rfl (by kernel_rfl) (by kernel_rfl) (by kernel_rfl) (fun _ _ _ h => h) hHeld rfl ?_) | (refine takeH 8 115 (v := ?_) rfl rfl (by kernel_rfl) (by kernel_rfl) (by kernel_rfl) (fun _ _ _ h => h) hHeld rfl ?_ ?_; rotate_left; (focus (intro w' hSw; go_simp; try with_reducible rfl))))
            (try simp only [Act.put, List.setIfInBounds_toArray, List.set_cons_zero, List.set_cons_succ])
            (first | (refine skipH 9 116 rfl rfl (by kernel_rfl) (by kernel_rfl) (by kernel_rfl) (fun _ _ _ h => h) hHeld rfl ?_) | (refine takeH 9 116 (v := ?_) rfl rfl (by kernel_rfl) (by kernel_rfl) (by kernel_rfl) (fun _ _ _ h => h) hHeld rfl ?_ ?_; rotate_left; (focus (intro w' hSw; go_simp; try with_reducible rfl))))
            (try simp only [Act.put, List.setIfInBounds_toArray, List.set_cons_zero, List.set_cons_succ])
            (first | (refine skipH 10 117 rfl rfl (by kernel_rfl) (by kernel_rfl) (by kernel_rfl) (fun _ _ _ h => h) hHeld rfl ?_) | (refine takeH 10 117 (v := ?_) rfl rfl (by kernel_rfl) (by kernel_rfl) (by kernel_rfl) (fun _ _ _ h => h) hHeld rfl ?_ ?_; rotate_left; (focus (intro w' hSw; go_simp; try with_reducible rfl))))
            (try simp only [Act.put, List.setIfInBounds_toArray, List.set_cons_zero, List.set_cons_succ])
            (first | (refine skipH 11 118 rfl rfl (by kernel_rfl) (by kernel_rfl) (by kernel_rfl) (fun _ _ _ h => h) hHeld rfl ?_) | (refine takeH 11 118 (v := ?_) rfl rfl (by kernel_rfl) (by kernel_rfl) (by kernel_rfl) (fun _ _ _ h => h) hHeld rfl ?_ ?_; rotate_left; (focus (intro w' hSw; go_simp; try with_reducible rfl))))
            (try simp only [Act.put, List.setIfInBounds_toArray, List.set_cons_zero, List.set_cons_succ])
            (first | (refine skipH 12 119 rfl rfl (by kernel_rfl) (by kernel_rfl) (by kernel_rfl) (fun _ _ _ h => h) hHeld rfl ?_) | (refine takeH 12 119 (v := ?_) rfl rfl (by kernel_rfl) (by kernel_rfl) (by kernel_rfl) (fun _ _ _ h => h) hHeld rfl ?_ ?_; rotate_left; (focus (intro w' hSw; go_simp; try with_reducible rfl))))
            (try simp only [Act.put, List.setIfInBounds_toArray, List.set_cons_zero, List.set_cons_succ])
            (first | (refine skipH 13 120 rfl rfl (by kernel_rfl) (by kernel_rfl) (by kernel_rfl) (fun _ _ _ h => h) hHeld rfl ?_) | (refine takeH 13 120 (v := ?_) rfl rfl (by kernel_rfl) (by kernel_rfl) (by kernel_rfl) (fun _ _ _ h => h) hHeld rfl ?_ ?_; rotate_left; (focus (intro w' hSw; go_simp; try with_reducible rfl))))
            (try simp only [Act.put, List.setIfInBounds_toArray, List.set_cons_zero, List.set_cons_succ])
            (first | (refine skipH 14 121 rfl rfl (by kernel_rfl) (by kernel_rfl) (by kernel_rfl) (fun _ _ _ h => h) hHeld rfl ?_) | (refine takeH 14 121 (v := ?_) rfl rfl (by kernel_rfl) (by kernel_rfl) (by kernel_rfl) (fun _ _ _ h => h) hHeld rfl ?_ ?_; rotate_left; (focus (intro w' hSw; go_simp; try with_reducible rfl))))
            (try simp only [Act.put, List.setIfInBounds_toArray, List.set_cons_zero, List.set_cons_succ])
            (first | (refine skipH 15 122 rfl rfl (by kernel_rfl) (by kernel_rfl) (by kernel_rfl) (fun _ _ _ h => h) hHeld rfl ?_) | (refine takeH 15 122 (v := ?_) rfl rfl (by kernel_rfl) (by kernel_rfl) (by kernel_rfl) (fun _ _ _ h => h) hHeld rfl ?_ ?_; rotate_left; (focus (intro w' hSw; go_simp; try with_reducible rfl))))
            (try simp only [Act.put, List.setIfInBounds_toArray, List.set_cons_zero, List.set_cons_succ])
            (first | (refine skipH 16 123 rfl rfl (by kernel_rfl) (by kernel_rfl) (by kernel_rfl) (fun _ _ _ h => h) hHeld rfl ?_) | (refine takeH 16 123 (v := ?_) rfl rfl (by kernel_rfl) (by kernel_rfl) (by kernel_rfl) (fun _ _ _ h => h) hHeld rfl ?_ ?_; rotate_left; (focus (intro w' hSw; go_simp; try with_reducible rfl))))
            (try simp only [Act.put, List.setIfInBounds_toArray, List.set_cons_zero, List.set_cons_succ])
            (refine takeH 17 124 (v := ?_) rfl rfl (by kernel_rfl) (by kernel_rfl) (by kernel_rfl) (fun _ _ _ h => h) hHeld rfl ?_ ?_; rotate_left; (focus (intro w' hSw; go_simp; try with_reducible rfl)))
            (try simp only [Act.put, List.setIfInBounds_toArray, List.set_cons_zero, List.set_cons_succ])
            (refine takeH 18 125 (v := ?_) rfl rfl (by kernel_rfl) (by kernel_rfl) (by kernel_rfl) (fun _ _ _ h => h) hHeld rfl ?_ ?_; rotate_left; (focus (intro w' hSw; go_simp; try with_reducible rfl)))
            (try simp only [Act.put, List.setIfInBounds_toArray, List.set_cons_zero, List.set_cons_succ])
            (first | (refine skipH 19 126 rfl rfl (by kernel_rfl) (by kernel_rfl) (by kernel_rfl) (fun _ _ _ h => h) hHeld rfl ?_) | (refine takeH 19 126 (v := ?_) rfl rfl (by kernel_rfl) (by kernel_rfl) (by kernel_rfl) (fun _ _ _ h => h) hHeld rfl ?_ ?_; rotate_left; (focus (intro w' hSw; go_simp; try with_reducible rfl))))
            (try simp only [Act.put, List.setIfInBounds_toArray, List.set_cons_zero, List.set_cons_succ])
            (first | (refine skipH 20 127 rfl rfl (by kernel_rfl) (by kernel_rfl) (by kernel_rfl) (fun _ _ _ h => h) hHeld rfl ?_) | (refine takeH 20 127 (v := ?_) rfl rfl (by kernel_rfl) (by kernel_rfl) (by kernel_rfl) (fun _ _ _ h => h) hHeld rfl ?_ ?_; rotate_left; (focus (intro w' hSw; go_simp; try with_reducible rfl))))
            (try simp only [Act.put, List.setIfInBounds_toArray, List.set_cons_zero, List.set_cons_succ])
            (first | (refine skipH 21 128 rfl rfl (by kernel_rfl) (by kernel_rfl) (by kernel_rfl) (fun _ _ _ h => h) hHeld rfl ?_) | (refine takeH 21 128 (v := ?_) rfl rfl (by kernel_rfl) (by kernel_rfl) (by kernel_rfl) (fun _ _ _ h => h) hHeld rfl ?_ ?_; rotate_left; (focus (intro w' hSw; go_simp; try with_reducible rfl))))
            (try simp only [Act.put, List.setIfInBounds_toArray, List.set_cons_zero, List.set_cons_succ])
            (first | (refine skipH 22 129 rfl rfl (by kernel_rfl) (by kernel_rfl) (by kernel_rfl) (fun _ _ _ h => h) hHeld rfl ?_) | (refine takeH 22 129 (v := ?_) rfl rfl (by kernel_rfl) (by kernel_rfl) (by kernel_rfl) (fun _ _ _ h => h) hHeld rfl ?_ ?_; rotate_left; (focus (intro w' hSw; go_simp; try with_reducible rfl))))
            (try simp only [Act.put, List.setIfInBounds_toArray, List.set_cons_zero, List.set_cons_succ])
            (first | (refine skipH 23 130 rfl rfl (by kernel_rfl) (by kernel_rfl) (by kernel_rfl) (fun _ _ _ h => h) hHeld rfl ?_) | (refine takeH 23 130 (v := ?_) rfl rfl (by kernel_rfl) (by kernel_rfl) (by kernel_rfl) (fun _ _ _ h => h) hHeld rfl ?_ ?_; rotate_left; (focus (intro w' hSw; go_simp; try with_reducible rfl))))
            (try simp only [Act.put, List.setIfInBounds_toArray, List.set_cons_zero, List.set_cons_succ])
            (first | (refine skipH 24 131 rfl rfl (by kernel_rfl) (by kernel_rfl) (by kernel_rfl) (fun _ _ _ h => h) hHeld rfl ?_) | (refine takeH 24 131 (v := ?_) rfl rfl (by kernel_rfl) (by kernel_rfl) (by kernel_rfl) (fun _ _ _ h => h) hHeld rfl ?_ ?_; rotate_left; (focus (intro w' hSw; go_simp; try with_reducible rfl))))
            (try simp only [Act.put, List.setIfInBounds_toArray, List.set_cons_zero, List.set_cons_succ])
            (first | (refine skipH 25 132 rfl rfl (by kernel_rfl) (by kernel_rfl) (by kernel_rfl) (fun _ _ _ h => h) hHeld rfl ?_) | (refine takeH 25 132 (v := ?_) rfl rfl (by kernel_rfl) (by kernel_rfl) (by kernel_rfl) (fun _ _ _ h => h) hHeld rfl ?_ ?_; rotate_left; (focus (intro w' hSw; go_simp; try with_reducible rfl))))
            (try simp only [Act.put, List.setIfInBounds_toArray, List.set_cons_zero, List.set_cons_succ])
            (first | (refine skipH 26 133 rfl rfl (by kernel_rfl) (by kernel_rfl) (by kernel_rfl) (fun _ _ _ h => h) hHeld rfl ?_) | (refine takeH 26 133 (v := ?_) rfl rfl (by kernel_rfl) (by kernel_rfl) (by kernel_rfl) (fun _ _ _ h => h) hHeld rfl ?_ ?_; rotate_left; (focus (intro w' hSw; go_simp; try with_reducible rfl))))
            (try simp only [Act.put, List.setIfInBounds_toArray, List.set_cons_zero, List.set_cons_succ])
            (first | (refine skipH 27 134 rfl rfl (by kernel_rfl) (by kernel_rfl) (by kernel_rfl) (fun _ _ _ h => h) hHeld rfl ?_) | (refine takeH 27 134 (v := ?_) rfl rfl (by kernel_rfl) (by kernel_rfl) (by kernel_rfl) (fun _ _ _ h => h) hHeld rfl ?_ ?_; rotate_left; (focus (intro w' hSw; go_simp; try with_reducible rfl))))
            (try simp only [Act.put, List.setIfInBounds_toArray, List.set_cons_zero, List.set_cons_succ])
            (first | (refine skipH 28 135 rfl rfl (by kernel_rfl) (by kernel_rfl) (by kernel_rfl) (fun _ _ _ h => h) hHeld rfl ?_) | (refine takeH 28 135 (v := ?_) rfl rfl (by kernel_rfl) (by kernel_rfl) (by kernel_rfl) (fun _ _ _ h => h) hHeld rfl ?_ ?_; rotate_left; (focus (intro w' hSw; go_simp; try with_reducible rfl))))
            (try simp only [Act.put, List.setIfInBounds_toArray, List.set_cons_zero, List.set_cons_succ])
            refine wpAnyH_ready (rs := [29]) (by kernel_rfl) (by simp) ?_
            refine AllReadyH.cons rfl (fun K hK => ?_) AllReadyH.nil
            go_simp
            refine (HSM.out _ (below_drew (Below.refl _ _))).mono ?_
            rintro e w6 ⟨rfl, h1⟩
            have H1 := Aside0.mk (Below.then_ (below_drew (Below.refl wr.heap.size wr)) h1 (Nat.le_refl _))
            clear h1
            refine hK.out _ _ (H1.out) (fun hHeld => ?_)
            clear hK K
            (try simp only [Act.put, List.setIfInBounds_toArray, List.set_cons_zero, List.set_cons_succ])
            (first | (refine skipH 30 137 rfl rfl (by kernel_rfl) (by kernel_rfl) (by kernel_rfl) (fun _ _ _ h => h) hHeld rfl ?_) | (refine takeH 30 137 (v := ?_) rfl rfl (by kernel_rfl) (by kernel_rfl) (by kernel_rfl) (fun _ _ _ h => h) hHeld rfl ?_ ?_; rotate_left; (focus (intro w' hSw; go_simp; try with_reducible rfl))))
            (try simp only [Act.put, List.setIfInBounds_toArray, List.set_cons_zero, List.set_cons_succ])
            (refine takeH 31 138 (v := ?_) rfl rfl (by kernel_rfl) (by kernel_rfl) (by kernel_rfl) (fun _ _ _ h => h) hHeld rfl ?_ ?_; rotate_left; (focus (intro w' hSw; go_simp; try with_reducible rfl)))
            (try simp only [Act.put, List.setIfInBounds_toArray, List.set_cons_zero, List.set_cons_succ])
            refine wpAnyH_done (by kernel_rfl) ?_ _
            refine NoPanic.normal ?_
            go_wp2
            go_roundg (T.l.length - (j + 1))
            case measure => have := HG2.out; omega
            case rel => exact ⟨j + 1, by go_num, by omega, ⟨by omega⟩, ⟨Below.then_ HR5.out H1.out (Nat.le_refl _)⟩⟩
          · obtain rfl : j = T.l.length := by omega
            have HS6 := Aside0.mk (HS5.out.below HR5.out)
            have HB6 := Aside0.mk (HB15.out.below HR5.out)
            obtain ⟨⟨x0, x1, x2, x3, x4, x5, x6, x7⟩, _⟩ := HB6.out.blk.eight
            dsimp only at x0 x1 x2 x3 x4 x5 x6 x7
            have HFL : Aside0 (∀ w', TbR w' p mb tb T2 → Calls Try.prog 15 #[.pointer (some ⟨p, 0, none⟩), .agg #[.string key, .int .i64 0, .int .i64 0, .int .i64 0, .bool false, .slice none 0 0], .int .i64 (rt - 1)] w' fun e w'' => ∃ z : Int, e = .returned (.tuple #[.bool false, .int .i64 z]) ∧ (∃ T3, TbR w'' p mb tb T3) ∧ Only [p, mb, tb] w' w'') := ⟨fun w' h => by
              refine (fill_calls p mb tb T2 ⟨key, Tag.z, Val.z⟩ (rt - 1) none 0 _ w' h hNF.out (by omega) (fun W' _ => Entry.mk_ W' ⟨key, Tag.z, Val.z⟩ hks izr izr izr (Nat.le_refl _) (Kd.C_nil _ _)) (by simp [Val.z])).mono ?_
              rintro e w'' ⟨rfl, ht, ho⟩
              have h1 : fillB T2 ⟨key, Tag.z, Val.z⟩ (rt - 1) = false := by
                have h2 : rt - 1 = tk := by have := HTB.out; omega
                rw [h2]; exact HFB.out _ rfl
              exact ⟨_, by rw [h1], ⟨_, ht⟩, ho⟩⟩
            go_wp2_with (first
              | ((with_reducible refine (HFL.out _ HS6.out.t).mono ?_); rintro e w7 ⟨z, rfl, ⟨T3, ht⟩, ho⟩; have HS7 := Aside0.mk (HS6.out.told ht ho); clear ht ho)
              | ((with_reducible refine (known_true _).mono ?_); rintro e w8 ⟨rfl, h⟩; have HS8 := Aside0.mk (HS7.out.below h); clear h))
            go_ret
            exact ⟨rfl, Below.then_ HWS.out HS8.out.bl (Nat.le_refl _)⟩
  · go_ret
    exact ⟨rfl, Below.then_ HWS.out HB.out (Nat.le_refl _)⟩
end Tab
end Go.Proofs.Ytgfjkpnaabiecaa
namespace Go.Proofs.Ytgfjkpnaabiecaa
open Go.RowKit Go.Proofs.YtgfjkpnaabiecaaW.PrintWords
def BdT {α : Type} : α → Prop := fun _ => True
def BdS {α : Type} (B : Nat) (Bd : α → Prop) (l : List α) : Prop := l.length * B ≤ 140737488351232 ∧ ∀ x ∈ l, Bd x
def WOk {H : Type} (t : TypeId) (d : DataW H) : Prop := ∀ n ∈ DataW.weights Try.prog t d, n ≤ reachBytes
/-- What reads at type t is of kind k, within bounds. -/
structure Reads {α : Type} (t : TypeId) (k : Kd α) (Bd : α → Prop) : Prop where
  sz : Try.prog.cellsOf t = k.sz
  get : ∀ {H : Type} {enc : TypeId × Value → H} {w : World} {base : Nat} {spare : Nat → Bool} {held : Bool} {fuel : Nat} {cs : List Value} {x : DataW H × List MemPlace},
    DataW.trod enc Try.prog w base spare held fuel t cs = some x → WOk t x.1 → ∃ a, k.K w a cs ∧ Bd a
theorem Reads.int {t : TypeId} {q : IntKind} (ht : Try.prog.underlying t = some (.int q)) (hs : Try.prog.cellsOf t = 1) : Reads t (kInt q) BdT where
  sz := hs
  get := by
    intro H enc w base spare held fuel cs x h _
    obtain ⟨n, rfl, _, hw⟩ := DataW.trod_int ht h
    exact ⟨n, ⟨rfl, hw⟩, trivial⟩
theorem Reads.u8 {t : TypeId} (ht : Try.prog.underlying t = some (.int .u8)) (hs : Try.prog.cellsOf t = 1) : Reads t kU8 BdT where
  sz := hs
  get := by
    intro H enc w base spare held fuel cs x h _
    obtain ⟨n, rfl, _, hw⟩ := DataW.trod_int ht h
    obtain ⟨h0, h1⟩ := _root_.Go.bounds_u8 hw
    refine ⟨UInt8.ofNat n.toNat, ?_, trivial⟩
    show [Value.int .u8 n] = [Value.int .u8 ((UInt8.ofNat n.toNat).toNat : Int)]
    have : ((UInt8.ofNat n.toNat).toNat : Int) = n := by
      rw [UInt8.toNat_ofNat']
      omega
    rw [this]
theorem Reads.bool {t : TypeId} (ht : Try.prog.underlying t = some .bool) (hs : Try.prog.cellsOf t = 1) : Reads t Kd.bool BdT where
  sz := hs
  get := by
    intro H enc w base spare held fuel cs x h _
    obtain ⟨b, rfl, _⟩ := DataW.trod_bool ht h
    exact ⟨b, rfl, trivial⟩
theorem Reads.str {t : TypeId} (ht : Try.prog.underlying t = some .string) (hs : Try.prog.cellsOf t = 1) : Reads t kStr BdT where
  sz := hs
  get := by
    intro H enc w base spare held fuel cs x h hw
    obtain ⟨s, rfl, hx, _⟩ := DataW.trod_string ht h
    subst hx
    refine ⟨s, ⟨rfl, ?_⟩, trivial⟩
    have h2 : s.data.toList.length ≤ reachBytes := hw s.data.toList.length (List.mem_singleton.2 rfl)
    have e : s.data.toList.length = s.size := Array.length_toList
    rw [e] at h2
    exact h2
theorem cells_get {w : World} {base : Nat} {a : Addr} {n : Nat} {cs : List Value} (h : w.cells? base a n = some cs) : cs.length = n ∧ ∀ i u, cs[i]? = some u → w.cell? (a.add i) = some u := by
  unfold World.cells? at h
  split at h
  · refine ⟨by simpa using mapM_some_length h, fun i u hu => ?_⟩
    have hi : i < n := by
      have h1 := mapM_some_length h
      have h2 := (List.getElem?_eq_some_iff.1 hu).1
      simp at h1
      omega
    have h3 := mapM_some_get h i i (by simp [hi])
    rw [h3]
    exact hu
  · cases h
theorem weightsAll_mem {H : Type} {e : TypeId} : ∀ {l : List (DataW H)} {d : DataW H} {n : Nat}, d ∈ l → n ∈ d.weights Try.prog e → n ∈ DataW.weightsAll Try.prog e l
  | a :: r, d, n, hd, hn => by
    unfold DataW.weightsAll
    rcases List.mem_cons.1 hd with rfl | hd
    · exact List.mem_append_left _ hn
    · exact List.mem_append_right _ (weightsAll_mem hd hn)
theorem choose_list {α : Type} {n : Nat} {p : Nat → α → Prop} (h : ∀ i, i < n → ∃ x, p i x) : ∃ l : List α, l.length = n ∧ ∀ i x, l[i]? = some x → p i x := by
  induction n with
  | zero => exact ⟨[], rfl, fun i x hx => by simp at hx⟩
  | succ n ih =>
    obtain ⟨l, hl, hp⟩ := ih (fun i hi => h i (by omega))
    obtain ⟨x, hx⟩ := h n (by omega)
    refine ⟨l ++ [x], by simp [hl], fun i y hy => ?_⟩
    rcases Nat.lt_or_ge i n with hi | hi
    · rw [List.getElem?_append_left (by omega)] at hy
      exact hp i y hy
    · rw [List.getElem?_append_right (by omega)] at hy
      have : i = n := by
        have := (List.getElem?_eq_some_iff.1 hy).1
        simp at this
        omega
      subst this
      simp [hl] at hy
      subst hy
      exact hx
theorem Reads.slice {α : Type} {t e : TypeId} {k : Kd α} {Bd : α → Prop} {B : Nat} (ht : Try.prog.underlying t = some (.slice e)) (hs : Try.prog.cellsOf t = 1) (hB : Try.prog.bytesOf e = B) (R : Reads e k Bd) : Reads t (Kd.slice e k) (BdS B Bd) where
  sz := hs
  get := by
    intro H enc w base spare held fuel cs x h hw
    rcases Deep.open_slice ht h with ⟨rfl, rfl⟩ | ⟨a, len, cap, m, n, D, Pl, rfl, hb, hl, hm, hmm, rfl, hel⟩
    · exact ⟨[], ⟨none, 0, rfl, Nat.le_refl _, Kd.C_nil _ _⟩, by rw [List.length_nil, Nat.zero_mul]; exact Nat.zero_le _, fun _ h => by cases h⟩
    · have hlm : len ≤ m := by rw [hmm]; split <;> omega
      have hwe : ∀ i, i < len → WOk e (D i) := fun i hi n hn => hw n (by
        simp only [DataW.weights, ht]
        exact List.mem_cons_of_mem _ (List.mem_append_left _ (weightsAll_mem (List.mem_map.2 ⟨i, List.mem_range.2 hi, rfl⟩) hn)))
      have hk : ∀ i, i < len → ∃ z, Bd z ∧ ∃ c, w.cells? base (a.add (i * Try.prog.cellsOf e)) (Try.prog.cellsOf e) = some c ∧ k.K w z c := fun i hi => by
        obtain ⟨c, h1, h2⟩ := hel i (by omega)
        obtain ⟨z, h3, h4⟩ := R.get h2 (hwe i hi)
        exact ⟨z, h4, c, h1, h3⟩
      obtain ⟨zs, hzl, hz⟩ := choose_list hk
      have hm' : cap ≤ 9223372036854775807 := by simpa [maxLen] using hm
      subst hzl
      refine ⟨zs, ⟨_, cap, rfl, hl, rfl, by omega, fun _ => ⟨a, rfl, fun j p hj => ?_⟩⟩, ?_, fun z hzm => ?_⟩
      · obtain ⟨_, c, h1, h2⟩ := hz j p hj
        obtain ⟨h3, h4⟩ := cells_get h1
        refine ⟨c, by rw [h3, R.sz], h2, fun i u hu => ?_⟩
        have := h4 i u hu
        rwa [Go.Proofs.YtgfjkpnaabiecaaW.PrintWords.add_add, R.sz] at this
      · have hh := hw ((zs.length + (m - zs.length)) * B) (by
          simp only [DataW.weights, ht, hB]
          refine List.mem_cons.2 (.inl ?_)
          simp)
        refine Nat.le_trans (Nat.mul_le_mul_right _ ?_) hh
        omega
      · obtain ⟨j, hj, rfl⟩ := List.getElem_of_mem hzm
        exact (hz j _ (List.getElem?_eq_getElem hj)).1
end Go.Proofs.Ytgfjkpnaabiecaa
namespace Go.Proofs.Ytgfjkpnaabiecaa
open Go.RowKit Go.Proofs.YtgfjkpnaabiecaaW.PrintWords
theorem len2 {α : Type} {l : List α} (h : l.length = 2) : ∃ a0 a1, l = [a0, a1] := by
  match l, h with
  | [a0, a1], _ => exact ⟨a0, a1, rfl⟩
theorem len3 {α : Type} {l : List α} (h : l.length = 3) : ∃ a0 a1 a2, l = [a0, a1, a2] := by
  match l, h with
  | [a0, a1, a2], _ => exact ⟨a0, a1, a2, rfl⟩
theorem len4 {α : Type} {l : List α} (h : l.length = 4) : ∃ a0 a1 a2 a3, l = [a0, a1, a2, a3] := by
  match l, h with
  | [a0, a1, a2, a3], _ => exact ⟨a0, a1, a2, a3, rfl⟩
theorem len6 {α : Type} {l : List α} (h : l.length = 6) : ∃ a0 a1 a2 a3 a4 a5, l = [a0, a1, a2, a3, a4, a5] := by
  match l, h with
  | [a0, a1, a2, a3, a4, a5], _ => exact ⟨a0, a1, a2, a3, a4, a5, rfl⟩
theorem len8 {α : Type} {l : List α} (h : l.length = 8) : ∃ a0 a1 a2 a3 a4 a5 a6 a7, l = [a0, a1, a2, a3, a4, a5, a6, a7] := by
  match l, h with
  | [a0, a1, a2, a3, a4, a5, a6, a7], _ => exact ⟨a0, a1, a2, a3, a4, a5, a6, a7, rfl⟩
def Tag.Bd (x : Tag) : Prop := BdT x.seq ∧ BdT x.who ∧ BdT x.op
theorem Tag.reads : Reads 32 Tag.k Tag.Bd where
  sz := by kernel_rfl
  get := by
    intro H enc w base spare held fuel cs x h hw
    obtain ⟨xs, n, rfl, hx, hl, hxl, hf⟩ := DataW.trod_struct Try.underlying32 h
    have hz : Try.prog.cellsOf 32 = 3 := by kernel_rfl
    rw [hz] at hl
    obtain ⟨c0, c1, c2, rfl⟩ := len3 hl
    have hxl' : xs.length = 3 := hxl
    obtain ⟨x0, x1, x2, rfl⟩ := len3 hxl'
    subst hx
    have f0 : DataW.trod enc Try.prog w base spare held n 3 (([c0, c1, c2].drop 0).take (Try.prog.cellsOf 3)) = some x0 := hf 0 _ rfl
    have g0 : DataW.trod enc Try.prog w base spare held n 3 [c0] = some x0 := by
      have hc : Try.prog.cellsOf 3 = 1 := by kernel_rfl
      rw [hc] at f0
      exact f0
    obtain ⟨a0, k0, b0⟩ := (Reads.int Try.underlying3 (by kernel_rfl)).get g0 (fun z hz => hw z (by simp only [DataW.weights, Try.underlying32]; simp only [DataW.weightsEach, List.map_cons, List.map_nil, List.mem_append]; exact .inl hz))
    have f1 : DataW.trod enc Try.prog w base spare held n 3 (([c0, c1, c2].drop 1).take (Try.prog.cellsOf 3)) = some x1 := hf 1 _ rfl
    have g1 : DataW.trod enc Try.prog w base spare held n 3 [c1] = some x1 := by
      have hc : Try.prog.cellsOf 3 = 1 := by kernel_rfl
      rw [hc] at f1
      exact f1
    obtain ⟨a1, k1, b1⟩ := (Reads.int Try.underlying3 (by kernel_rfl)).get g1 (fun z hz => hw z (by simp only [DataW.weights, Try.underlying32]; simp only [DataW.weightsEach, List.map_cons, List.map_nil, List.mem_append]; exact .inr (.inl hz)))
    have f2 : DataW.trod enc Try.prog w base spare held n 3 (([c0, c1, c2].drop 2).take (Try.prog.cellsOf 3)) = some x2 := hf 2 _ rfl
    have g2 : DataW.trod enc Try.prog w base spare held n 3 [c2] = some x2 := by
      have hc : Try.prog.cellsOf 3 = 1 := by kernel_rfl
      rw [hc] at f2
      exact f2
    obtain ⟨a2, k2, b2⟩ := (Reads.int Try.underlying3 (by kernel_rfl)).get g2 (fun z hz => hw z (by simp only [DataW.weights, Try.underlying32]; simp only [DataW.weightsEach, List.map_cons, List.map_nil, List.mem_append]; exact .inr (.inr (.inl hz))))
    exact ⟨⟨a0, a1, a2⟩, ⟨_, _, rfl, k0, ⟨_, _, rfl, k1, k2⟩⟩, ⟨b0, b1, b2⟩⟩

def Val.Bd (x : Val) : Prop := BdT x.has ∧ (BdS 1 BdT) x.b
theorem Val.reads : Reads 35 Val.k Val.Bd where
  sz := by kernel_rfl
  get := by
    intro H enc w base spare held fuel cs x h hw
    obtain ⟨xs, n, rfl, hx, hl, hxl, hf⟩ := DataW.trod_struct Try.underlying35 h
    have hz : Try.prog.cellsOf 35 = 2 := by kernel_rfl
    rw [hz] at hl
    obtain ⟨c0, c1, rfl⟩ := len2 hl
    have hxl' : xs.length = 2 := hxl
    obtain ⟨x0, x1, rfl⟩ := len2 hxl'
    subst hx
    have f0 : DataW.trod enc Try.prog w base spare held n 4 (([c0, c1].drop 0).take (Try.prog.cellsOf 4)) = some x0 := hf 0 _ rfl
    have g0 : DataW.trod enc Try.prog w base spare held n 4 [c0] = some x0 := by
      have hc : Try.prog.cellsOf 4 = 1 := by kernel_rfl
      rw [hc] at f0
      exact f0
    obtain ⟨a0, k0, b0⟩ := (Reads.bool Try.underlying4 (by kernel_rfl)).get g0 (fun z hz => hw z (by simp only [DataW.weights, Try.underlying35]; simp only [DataW.weightsEach, List.map_cons, List.map_nil, List.mem_append]; exact .inl hz))
    have f1 : DataW.trod enc Try.prog w base spare held n 33 (([c0, c1].drop 1).take (Try.prog.cellsOf 33)) = some x1 := hf 1 _ rfl
    have g1 : DataW.trod enc Try.prog w base spare held n 33 [c1] = some x1 := by
      have hc : Try.prog.cellsOf 33 = 1 := by kernel_rfl
      rw [hc] at f1
      exact f1
    obtain ⟨a1, k1, b1⟩ := (Reads.slice (B := 1) Try.underlying33 (by kernel_rfl) (by kernel_rfl) (Reads.u8 Try.underlying5 (by kernel_rfl))).get g1 (fun z hz => hw z (by simp only [DataW.weights, Try.underlying35]; simp only [DataW.weightsEach, List.map_cons, List.map_nil, List.mem_append]; exact .inr (.inl hz)))
    exact ⟨⟨a0, a1⟩, ⟨_, _, rfl, k0, k1⟩, ⟨b0, b1⟩⟩

def Entry.Bd (x : Entry) : Prop := BdT x.key ∧ Tag.Bd x.tag ∧ Val.Bd x.val
theorem Entry.reads : Reads 37 Entry.k Entry.Bd where
  sz := by kernel_rfl
  get := by
    intro H enc w base spare held fuel cs x h hw
    obtain ⟨xs, n, rfl, hx, hl, hxl, hf⟩ := DataW.trod_struct Try.underlying37 h
    have hz : Try.prog.cellsOf 37 = 6 := by kernel_rfl
    rw [hz] at hl
    obtain ⟨c0, c1, c2, c3, c4, c5, rfl⟩ := len6 hl
    have hxl' : xs.length = 3 := hxl
    obtain ⟨x0, x1, x2, rfl⟩ := len3 hxl'
    subst hx
    have f0 : DataW.trod enc Try.prog w base spare held n 9 (([c0, c1, c2, c3, c4, c5].drop 0).take (Try.prog.cellsOf 9)) = some x0 := hf 0 _ rfl
    have g0 : DataW.trod enc Try.prog w base spare held n 9 [c0] = some x0 := by
      have hc : Try.prog.cellsOf 9 = 1 := by kernel_rfl
      rw [hc] at f0
      exact f0
    obtain ⟨a0, k0, b0⟩ := (Reads.str Try.underlying9 (by kernel_rfl)).get g0 (fun z hz => hw z (by simp only [DataW.weights, Try.underlying37]; simp only [DataW.weightsEach, List.map_cons, List.map_nil, List.mem_append]; exact .inl hz))
    have f1 : DataW.trod enc Try.prog w base spare held n 32 (([c0, c1, c2, c3, c4, c5].drop 1).take (Try.prog.cellsOf 32)) = some x1 := hf 1 _ rfl
    have g1 : DataW.trod enc Try.prog w base spare held n 32 [c1, c2, c3] = some x1 := by
      have hc : Try.prog.cellsOf 32 = 3 := by kernel_rfl
      rw [hc] at f1
      exact f1
    obtain ⟨a1, k1, b1⟩ := Tag.reads.get g1 (fun z hz => hw z (by simp only [DataW.weights, Try.underlying37]; simp only [DataW.weightsEach, List.map_cons, List.map_nil, List.mem_append]; exact .inr (.inl hz)))
    have f2 : DataW.trod enc Try.prog w base spare held n 35 (([c0, c1, c2, c3, c4, c5].drop 4).take (Try.prog.cellsOf 35)) = some x2 := hf 2 _ rfl
    have g2 : DataW.trod enc Try.prog w base spare held n 35 [c4, c5] = some x2 := by
      have hc : Try.prog.cellsOf 35 = 2 := by kernel_rfl
      rw [hc] at f2
      exact f2
    obtain ⟨a2, k2, b2⟩ := Val.reads.get g2 (fun z hz => hw z (by simp only [DataW.weights, Try.underlying37]; simp only [DataW.weightsEach, List.map_cons, List.map_nil, List.mem_append]; exact .inr (.inr (.inl hz))))
    exact ⟨⟨a0, a1, a2⟩, ⟨_, _, rfl, k0, ⟨_, _, rfl, k1, k2⟩⟩, ⟨b0, b1, b2⟩⟩

def Room.Bd (x : Room) : Prop := BdT x.cells ∧ BdT x.bytes ∧ BdT x.buckets ∧ BdT x.fresh
theorem Room.reads : Reads 23 Room.k Room.Bd where
  sz := by kernel_rfl
  get := by
    intro H enc w base spare held fuel cs x h hw
    obtain ⟨xs, n, rfl, hx, hl, hxl, hf⟩ := DataW.trod_struct Try.underlying23 h
    have hz : Try.prog.cellsOf 23 = 4 := by kernel_rfl
    rw [hz] at hl
    obtain ⟨c0, c1, c2, c3, rfl⟩ := len4 hl
    have hxl' : xs.length = 4 := hxl
    obtain ⟨x0, x1, x2, x3, rfl⟩ := len4 hxl'
    subst hx
    have f0 : DataW.trod enc Try.prog w base spare held n 3 (([c0, c1, c2, c3].drop 0).take (Try.prog.cellsOf 3)) = some x0 := hf 0 _ rfl
    have g0 : DataW.trod enc Try.prog w base spare held n 3 [c0] = some x0 := by
      have hc : Try.prog.cellsOf 3 = 1 := by kernel_rfl
      rw [hc] at f0
      exact f0
    obtain ⟨a0, k0, b0⟩ := (Reads.int Try.underlying3 (by kernel_rfl)).get g0 (fun z hz => hw z (by simp only [DataW.weights, Try.underlying23]; simp only [DataW.weightsEach, List.map_cons, List.map_nil, List.mem_append]; exact .inl hz))
    have f1 : DataW.trod enc Try.prog w base spare held n 3 (([c0, c1, c2, c3].drop 1).take (Try.prog.cellsOf 3)) = some x1 := hf 1 _ rfl
    have g1 : DataW.trod enc Try.prog w base spare held n 3 [c1] = some x1 := by
      have hc : Try.prog.cellsOf 3 = 1 := by kernel_rfl
      rw [hc] at f1
      exact f1
    obtain ⟨a1, k1, b1⟩ := (Reads.int Try.underlying3 (by kernel_rfl)).get g1 (fun z hz => hw z (by simp only [DataW.weights, Try.underlying23]; simp only [DataW.weightsEach, List.map_cons, List.map_nil, List.mem_append]; exact .inr (.inl hz)))
    have f2 : DataW.trod enc Try.prog w base spare held n 3 (([c0, c1, c2, c3].drop 2).take (Try.prog.cellsOf 3)) = some x2 := hf 2 _ rfl
    have g2 : DataW.trod enc Try.prog w base spare held n 3 [c2] = some x2 := by
      have hc : Try.prog.cellsOf 3 = 1 := by kernel_rfl
      rw [hc] at f2
      exact f2
    obtain ⟨a2, k2, b2⟩ := (Reads.int Try.underlying3 (by kernel_rfl)).get g2 (fun z hz => hw z (by simp only [DataW.weights, Try.underlying23]; simp only [DataW.weightsEach, List.map_cons, List.map_nil, List.mem_append]; exact .inr (.inr (.inl hz))))
    have f3 : DataW.trod enc Try.prog w base spare held n 4 (([c0, c1, c2, c3].drop 3).take (Try.prog.cellsOf 4)) = some x3 := hf 3 _ rfl
    have g3 : DataW.trod enc Try.prog w base spare held n 4 [c3] = some x3 := by
      have hc : Try.prog.cellsOf 4 = 1 := by kernel_rfl
      rw [hc] at f3
      exact f3
    obtain ⟨a3, k3, b3⟩ := (Reads.bool Try.underlying4 (by kernel_rfl)).get g3 (fun z hz => hw z (by simp only [DataW.weights, Try.underlying23]; simp only [DataW.weightsEach, List.map_cons, List.map_nil, List.mem_append]; exact .inr (.inr (.inr (.inl hz)))))
    exact ⟨⟨a0, a1, a2, a3⟩, ⟨_, _, rfl, k0, ⟨_, _, rfl, k1, ⟨_, _, rfl, k2, k3⟩⟩⟩, ⟨b0, b1, b2, b3⟩⟩

def Do.Bd (x : Do) : Prop := BdT x.kind ∧ Entry.Bd x.e ∧ BdT x.token
theorem Do.reads : Reads 39 Do.k Do.Bd where
  sz := by kernel_rfl
  get := by
    intro H enc w base spare held fuel cs x h hw
    obtain ⟨xs, n, rfl, hx, hl, hxl, hf⟩ := DataW.trod_struct Try.underlying39 h
    have hz : Try.prog.cellsOf 39 = 8 := by kernel_rfl
    rw [hz] at hl
    obtain ⟨c0, c1, c2, c3, c4, c5, c6, c7, rfl⟩ := len8 hl
    have hxl' : xs.length = 3 := hxl
    obtain ⟨x0, x1, x2, rfl⟩ := len3 hxl'
    subst hx
    have f0 : DataW.trod enc Try.prog w base spare held n 3 (([c0, c1, c2, c3, c4, c5, c6, c7].drop 0).take (Try.prog.cellsOf 3)) = some x0 := hf 0 _ rfl
    have g0 : DataW.trod enc Try.prog w base spare held n 3 [c0] = some x0 := by
      have hc : Try.prog.cellsOf 3 = 1 := by kernel_rfl
      rw [hc] at f0
      exact f0
    obtain ⟨a0, k0, b0⟩ := (Reads.int Try.underlying3 (by kernel_rfl)).get g0 (fun z hz => hw z (by simp only [DataW.weights, Try.underlying39]; simp only [DataW.weightsEach, List.map_cons, List.map_nil, List.mem_append]; exact .inl hz))
    have f1 : DataW.trod enc Try.prog w base spare held n 37 (([c0, c1, c2, c3, c4, c5, c6, c7].drop 1).take (Try.prog.cellsOf 37)) = some x1 := hf 1 _ rfl
    have g1 : DataW.trod enc Try.prog w base spare held n 37 [c1, c2, c3, c4, c5, c6] = some x1 := by
      have hc : Try.prog.cellsOf 37 = 6 := by kernel_rfl
      rw [hc] at f1
      exact f1
    obtain ⟨a1, k1, b1⟩ := Entry.reads.get g1 (fun z hz => hw z (by simp only [DataW.weights, Try.underlying39]; simp only [DataW.weightsEach, List.map_cons, List.map_nil, List.mem_append]; exact .inr (.inl hz)))
    have f2 : DataW.trod enc Try.prog w base spare held n 3 (([c0, c1, c2, c3, c4, c5, c6, c7].drop 7).take (Try.prog.cellsOf 3)) = some x2 := hf 2 _ rfl
    have g2 : DataW.trod enc Try.prog w base spare held n 3 [c7] = some x2 := by
      have hc : Try.prog.cellsOf 3 = 1 := by kernel_rfl
      rw [hc] at f2
      exact f2
    obtain ⟨a2, k2, b2⟩ := (Reads.int Try.underlying3 (by kernel_rfl)).get g2 (fun z hz => hw z (by simp only [DataW.weights, Try.underlying39]; simp only [DataW.weightsEach, List.map_cons, List.map_nil, List.mem_append]; exact .inr (.inr (.inl hz))))
    exact ⟨⟨a0, a1, a2⟩, ⟨_, _, rfl, k0, ⟨_, _, rfl, k1, k2⟩⟩, ⟨b0, b1, b2⟩⟩

end Go.Proofs.Ytgfjkpnaabiecaa
set_option linter.unusedVariables false
set_option linter.unusedSimpArgs false
namespace Go.Proofs.Ytgfjkpnaabiecaa
open Go.RowKit Go.Proofs.YtgfjkpnaabiecaaW.PrintWords
namespace Tab
theorem dos_bd {B : Nat} {xs : List Do} (h : BdS B Do.Bd xs) (hB : B = 88) : xs.length ≤ 1600000000000 ∧ ∀ x ∈ xs, x.e.val.b.length ≤ 140737488351232 := by
  subst hB
  obtain ⟨h1, h2⟩ := h
  refine ⟨by omega, fun x hx => ?_⟩
  obtain ⟨_, ⟨_, _, _, h3, _⟩, _⟩ := h2 x hx
  omega
theorem room_cs {w : World} {cs : Array Value} {r : Room} (h : Room.k.K w r cs.toList) : cs = #[.int .i64 r.cells, .int .i64 r.bytes, .int .i64 r.buckets, .bool r.fresh] := by
  obtain ⟨he, _⟩ := Room.open_ h
  have : cs = cs.toList.toArray := by simp
  rw [this, he]
end Tab
end Go.Proofs.Ytgfjkpnaabiecaa
set_option linter.unusedVariables false
set_option linter.unusedSimpArgs false
namespace Go.Proofs.Ytgfjkpnaabiecaa
open Go.RowKit Go.Proofs.YtgfjkpnaabiecaaW.PrintWords
namespace Tab
theorem forgets_row {B : Nat} (cs : Array Value) (r : Room) (A : Option Addr) (c : Nat) (xs : List Do) (key : ByteArray) (w : World) (h0 : Room.k.K w r cs.toList) (hr : Do.k.C w A xs.length xs) (hb : BdS B Do.Bd xs) (hB : B = 88) (hk : key.size ≤ 140737488351232) :
    Calls Try.prog 6 #[.agg cs, .slice A xs.length c, .string key] w (TrueTold w) := by
  rw [room_cs h0]
  obtain ⟨b1, b2⟩ := dos_bd hb hB
  by_cases hR : RoomOk r
  · by_cases h1 : KeyOk key
    · exact forgets_good r A c xs key w hr b1 hR h1 b2
    · exact forgets_key r A c xs key w hr b1 hR h1 b2
  · exact forgets_bad r A c xs key w hr b1 hR
end Tab
end Go.Proofs.Ytgfjkpnaabiecaa
