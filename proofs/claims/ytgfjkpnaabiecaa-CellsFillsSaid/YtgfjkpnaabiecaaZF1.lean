/- Lemmas for the row (words on memory, contracts of the program's functions): LawFP, LawF, Bridge, KindsCR, TabY0, LawFR. -/
import Derived.Deep.Slices
import Derived.ChangeArms
import Derived.SizedLaws
import Derived.Test.YtgfjkpnaabiecaaZC5
set_option linter.unusedVariables false
set_option linter.unusedSimpArgs false
namespace Go.Proofs.Ytgfjkpnaabiecaa
open Go.RowKit Go.Proofs.YtgfjkpnaabiecaaW.PrintWords
namespace Tab
open Tags
theorem tokAt_query (T : Tb) (k j : ByteArray) : tokAt (queryT T k) j = tokAt T j := by
  obtain ⟨a, b⟩ := query_tok T k
  unfold tokAt
  rw [a, b]
theorem queryR_token {T : Tb} {k : ByteArray} (hk : KeyOk k) : (queryR T k).token = tokAt T k := by
  unfold queryR
  rw [if_pos hk]
  split <;> rfl
theorem fill_other {T : Tb} {e : Entry} {tk : Int} (h : tokAt T e.key ≠ tk) : fillB T e tk = false ∧ fillT T e tk = T := by
  unfold fillB fillT
  rw [if_neg (fun h' => h h'.2), if_neg (fun h' => h h'.2)]
  exact ⟨rfl, rfl⟩
theorem fill_no {T : Tb} {e : Entry} {tk : Int} (h : tokAt T e.key = tk) (hb : fillB T e tk = false) : fillT T e tk = T ∧ (fillE T e tk = 30 ∨ fillE T e tk = 2) := by
  by_cases he : EntOk e
  · unfold fillB at hb
    rw [if_pos ⟨he, h⟩] at hb
    unfold fillT fillE
    rw [if_pos ⟨he, h⟩, if_pos he, if_pos h]
    cases hf : fillOld T e with
    | some c => rw [hf] at hb; cases hb
    | none =>
      rw [hf] at hb
      dsimp only at hb ⊢
      have h0 : ¬ makeE T e = 0 := by simpa using hb
      rw [if_neg h0]
      refine ⟨rfl, .inl ?_⟩
      rcases makeE_cases T e with ⟨h1, _⟩ | ⟨h1, _⟩
      · exact absurd h1 h0
      · exact h1
  · unfold fillT fillE
    rw [if_neg (fun h' => he h'.1), if_neg he]
    exact ⟨rfl, .inr rfl⟩
theorem fill_yes {T : Tb} {e : Entry} {tk n : Int} (w : Wf T n) (hb : fillB T e tk = true) (hk : KeyOk e.key) :
    fillE T e tk = 0 ∧ (queryR (fillT T e tk) e.key).whole = true ∧ 0 ≤ cmpT (queryR (fillT T e tk) e.key).e.tag e.tag := by
  by_cases hg : EntOk e ∧ tokAt T e.key = tk
  · unfold fillB at hb
    rw [if_pos hg] at hb
    unfold fillE fillT queryR
    rw [if_pos hk, if_pos hg.1, if_pos hg.2, if_pos hg]
    cases hf : fillOld T e with
    | some c =>
      rw [hf] at hb
      dsimp only
      unfold fillOld at hf
      obtain ⟨d, hd, hc⟩ := Option.bind_eq_some_iff.1 hf
      split at hc
      · rename_i hlt
        injection hc with hc
        subst hc
        obtain ⟨_, hkk⟩ := find_mem hd
        have h2 := find_lay (T := T) (c := { d with whole := true }) w.srt
        rw [show ({ d with whole := true } : Cell).e.key = e.key from hkk] at h2
        rw [h2]
        exact ⟨rfl, rfl, by dsimp only; omega⟩
      · cases hc
    | none =>
      rw [hf] at hb
      dsimp only at hb ⊢
      have h0 : makeE T e = 0 := by simpa using hb
      rw [if_pos h0]
      have hw := (w.make_ hg.1 h0 true true 0).1
      have h2 := find_lay (T := makeT T e) (c := ⟨e, true, true, 0⟩) hw.srt
      rw [show (⟨e, true, true, 0⟩ : Cell).e.key = e.key from rfl] at h2
      rw [h2]
      exact ⟨h0, rfl, by dsimp only; exact cmpT_ge.2 (tle_refl _)⟩
  · unfold fillB at hb
    rw [if_neg hg] at hb
    cases hb
end Tab
end Go.Proofs.Ytgfjkpnaabiecaa
set_option linter.unusedVariables false
set_option linter.unusedSimpArgs false
namespace Go.Proofs.Ytgfjkpnaabiecaa
open Go.RowKit Go.Proofs.YtgfjkpnaabiecaaW.PrintWords
namespace Tab
open Tags
set_option maxRecDepth 100000 in
set_option maxHeartbeats 1000000 in
theorem fills_bad (r : Room) (A Ae : Option Addr) (c ce : Nat) (xs : List Do) (ek : ByteArray) (a1 a2 a3 : Int) (eh : Bool) (eb : List UInt8) (other : Int) (w : World) (hr : Do.k.C w A xs.length xs) (hn : xs.length ≤ 1600000000000) (hb : ¬ RoomOk r) :
    Calls Try.prog 4 #[.agg #[.int .i64 r.cells, .int .i64 r.bytes, .int .i64 r.buckets, .bool r.fresh], .slice A xs.length c, .agg #[.string ek, .int .i64 a1, .int .i64 a2, .int .i64 a3, .bool eh, .slice Ae eb.length ce], .int .i64 other] w (TrueTold w) := by
  have HR := Aside0.mk hr
  have HN : Aside0 (∀ w', Calls Try.prog 10 #[.agg #[.int .i64 r.cells, .int .i64 r.bytes, .int .i64 r.buckets, .bool r.fresh]] w' fun e w'' => e = .returned (.tuple #[.pointer none, .int .i64 2]) ∧ Below w'.heap.size w' w'') := ⟨new_no hb⟩
  have HL : Aside0 (∀ w', Below w.heap.size w w' → Calls Try.prog 11 #[.slice A xs.length c] w' fun e w'' => ∃ n : Int, e = .returned (.int .i64 n) ∧ Below w'.heap.size w' w'') := ⟨fun w' h => long_calls A c xs w' (Kd.C_below HR.out h) hn⟩
  obtain ⟨ra, rb, rc, rd⟩ := r
  dsimp only at *
  clear hr hb
  go_enter Try.func4, Try.ntmps4
  go_wp2_with (first
    | ((with_reducible refine (HN.out _).mono ?_); rintro e w1 ⟨rfl, h⟩; have HB := Aside0.mk (Below.then_ (below_alloc (below_alloc (Below.refl _ w) _) _) h (Nat.le_refl _)); clear h)
    | ((with_reducible refine (HL.out _ HB.out).mono ?_); rintro e w2 ⟨n, rfl, h⟩; have HB := Aside0.mk (Below.then_ HB.out h (Nat.le_refl _)); clear h)
    | ((with_reducible refine (known_true _).mono ?_); rintro e w3 ⟨rfl, h⟩; have HB := Aside0.mk (Below.then_ HB.out h (Nat.le_refl _)); clear h))
  all_goals
    go_ret
    exact ⟨rfl, HB.out⟩
set_option maxRecDepth 100000 in
set_option maxHeartbeats 2000000 in
theorem fills_good (r : Room) (A Ae : Option Addr) (c ce : Nat) (xs : List Do) (e : Entry) (other : Int) (wS : World) (hr : Do.k.C wS A xs.length xs) (hn : xs.length ≤ 1600000000000) (hb : RoomOk r) (he : Entry.k.K wS e (ecs e Ae ce)) (hel : e.val.b.length ≤ 140737488351232) (hxl : ∀ x ∈ xs, x.e.val.b.length ≤ 140737488351232) :
    Calls Try.prog 4 #[.agg #[.int .i64 r.cells, .int .i64 r.bytes, .int .i64 r.buckets, .bool r.fresh], .slice A xs.length c, .agg (ecs e Ae ce).toArray, .int .i64 other] wS (TrueTold wS) := by
  have HE := Aside0.mk he
  have hks : e.key.size ≤ 140737488351232 := by obtain ⟨_, _, _, hks, _⟩ := Entry.open_ he; exact hks
  clear he
  obtain ⟨ek, ⟨a1, a2, a3⟩, ⟨eh, eb⟩⟩ := e
  have HS0 := Aside0.mk hr
  have HXL := Aside0.mk hxl
  obtain ⟨ra, rz, rc, rd⟩ := r
  have HRM : Aside0 (RoomOk ⟨ra, rz, rc, rd⟩) := ⟨hb⟩
  have HWF : Aside0 (∀ k, k ≤ xs.length → Wf (runT (newT ⟨ra, rz, rc, rd⟩) xs k) (1 + 5000 * (k : Int))) := ⟨fun k _ => (Wf.new_ hb).run xs k⟩
  have HN : Aside0 (∀ w', Calls Try.prog 10 #[.agg #[.int .i64 ra, .int .i64 rz, .int .i64 rc, .bool rd]] w' fun e w'' => ∃ p mb tb, e = .returned (.tuple #[.pointer (some ⟨p, 0, none⟩), .int .i64 0]) ∧ LS w' p mb tb (newT ⟨ra, rz, rc, rd⟩) w'') := ⟨new_ok (r := ⟨ra, rz, rc, rd⟩) hb⟩
  dsimp only at *
  clear hr hb hxl
  go_enter Try.func4, Try.ntmps4
  go_upto_region 1 with (fail)
  generalize hX : World.alloc _ _ = w
  have HWS : Aside0 (Below wS.heap.size wS w) := ⟨by rw [← hX]; exact below_alloc (below_alloc (Below.refl _ _) _) _⟩
  have HR : Aside0 (Do.k.C w A xs.length xs) := ⟨Kd.C_below HS0.out HWS.out⟩
  have HL : Aside0 (∀ w', Below w.heap.size w w' → Calls Try.prog 11 #[.slice A xs.length c] w' fun e w'' => ∃ n : Int, e = .returned (.int .i64 n) ∧ Below w'.heap.size w' w'') := ⟨fun w' h => long_calls A c xs w' (Kd.C_below HR.out h) hn⟩
  have HE : Aside0 (Entry.k.K w ⟨ek, ⟨a1, a2, a3⟩, ⟨eh, eb⟩⟩ (ecs ⟨ek, ⟨a1, a2, a3⟩, ⟨eh, eb⟩⟩ Ae ce)) := ⟨Entry.k.K_below HWS.out HE.out⟩
  have HRX : Aside0 (Blk w wS.heap.size [.int .i64 ra, .int .i64 rz, .int .i64 rc, .bool rd] ∧ Blk w (wS.heap.size + 1) (ecs ⟨ek, ⟨a1, a2, a3⟩, ⟨eh, eb⟩⟩ Ae ce)) := ⟨by rw [← hX]; exact ⟨(Blk.new_ _ _ _ rfl rfl).alloc _, Blk.new_ _ _ _ (by simp) rfl⟩⟩
  obtain ⟨rB, hrB⟩ : ∃ b, b = wS.heap.size := ⟨_, rfl⟩
  obtain ⟨eB, heB⟩ : ∃ b, b = wS.heap.size + 1 := ⟨_, rfl⟩
  rw [← heB, ← hrB] at HRX
  rw [← heB, ← hrB]
  clear hX hrB heB
  have z0 := HRX.out.1.cell 0 rfl
  have z1 := HRX.out.1.cell 1 rfl
  have z2 := HRX.out.1.cell 2 rfl
  have z3 := HRX.out.1.cell 3 rfl
  obtain ⟨⟨e0, e1, e2, e3, e4, e5⟩, _⟩ := HRX.out.2.six
  dsimp only at e0 e1 e2 e3 e4 e5
  by_cases hel3 : 300 < eb.length
  · have hq : decide ((300 : Int) < (eb.length : Int)) = true := by
      have : (300 : Int) < (eb.length : Int) := by omega
      simpa using this
    clear hel3
    go_wp2_with (first
      | ((with_reducible refine (HN.out _).mono ?_); rintro e w1 ⟨p, mb, tb, rfl, h⟩; have HB := Aside0.mk h.bl; have e5 := pw_cell_below h.bl e5; clear h)
      | ((with_reducible refine (HL.out _ HB.out).mono ?_); rintro e w2 ⟨n, rfl, h⟩; have HB := Aside0.mk (Below.then_ HB.out h (Nat.le_refl _)); have e5 := pw_cell_below h e5; clear h)
      | ((with_reducible refine (known_true _).mono ?_); rintro e w3 ⟨rfl, h⟩; have HB := Aside0.mk (Below.then_ HB.out h (Nat.le_refl _)); clear h))
    all_goals
      go_ret
      exact ⟨rfl, Below.then_ HWS.out HB.out (Nat.le_refl _)⟩
  · have hq : decide ((300 : Int) < (eb.length : Int)) = false := by
      have : ¬ (300 : Int) < (eb.length : Int) := by omega
      simpa using this
    clear hel3
    have HCE : Aside0 (∀ w', Below w.heap.size w w' → w'.cell? ⟨eB, 0, none⟩ = some (.string ek) ∧ w'.cell? ⟨eB, 1, none⟩ = some (.int .i64 a1) ∧ w'.cell? ⟨eB, 2, none⟩ = some (.int .i64 a2) ∧ w'.cell? ⟨eB, 3, none⟩ = some (.int .i64 a3) ∧ w'.cell? ⟨eB, 4, none⟩ = some (.bool eh) ∧ w'.cell? ⟨eB, 5, none⟩ = some (.slice Ae eb.length ce)) := ⟨fun w' h => (HRX.out.2.on h).six.1⟩
    clear z0 z1 z2 z3 e1 e2 e3 e4
    have z0 := HRX.out.1.cell 0 rfl
    have z1 := HRX.out.1.cell 1 rfl
    have z2 := HRX.out.1.cell 2 rfl
    have z3 := HRX.out.1.cell 3 rfl
    go_wp2_with (first
      | ((with_reducible refine (HN.out _).mono ?_); rintro e w1 ⟨p, mb, tb, rfl, h⟩; have HT := Aside0.mk h; have HB := Aside0.mk HT.out.bl; have e5 := pw_cell_below h.bl e5; clear h)
      | ((with_reducible refine (HL.out _ HB.out).mono ?_); rintro e w2 ⟨n, rfl, h⟩; have HT := Aside0.mk (HT.out.below h); have HB := Aside0.mk HT.out.bl; have e5 := pw_cell_below h e5; clear h)
      | ((with_reducible refine (known_true _).mono ?_); rintro e w3 ⟨rfl, h⟩; have HB := Aside0.mk (Below.then_ HB.out h (Nat.le_refl _)); clear h))
    · go_loopg [11] xs.length (fun gk v wr => ∃ k : Nat, v = .int .i64 (k : Int) ∧ k ≤ xs.length ∧ Aside0 (gk + k = xs.length) ∧ Aside0 (LS w p mb tb (runT (newT ⟨ra, rz, rc, rd⟩) xs k) wr))
      case atStart => exact ⟨0, rfl, Nat.zero_le _, ⟨rfl⟩, HT⟩
      case round =>
        obtain ⟨k, rfl, hk, HG, HS⟩ := hrel
        by_cases hlt : k < xs.length
        · obtain ⟨ad, x, A6, c6, rfl, HX, y0, y1, y2, y3, y4, y5, y6, y7, y8⟩ := Do.at_ HR.out k hlt
          have x0 := pw_cell_below HS.out.bl y0
          have x1 := pw_cell_below HS.out.bl y1
          have x2 := pw_cell_below HS.out.bl y2
          have x3 := pw_cell_below HS.out.bl y3
          have x4 := pw_cell_below HS.out.bl y4
          have x5 := pw_cell_below HS.out.bl y5
          have x6 := pw_cell_below HS.out.bl y6
          have x7 := pw_cell_below HS.out.bl y7
          have hltI : (k : Int) < (xs.length : Int) := by omega
          have HC := Aside0.mk (done_calls p mb tb _ x A6 c6 _ wr HS.out.t ((HWF.out k hk).num (by omega)) (by omega) (HS.out.storeF (do_ent y8.out)) (HXL.out x (List.mem_of_getElem? HX.out)))
          dsimp only [dcs] at HC
          clear y0 y1 y2 y3 y4 y5 y6 y7 y8
          go_wp2_with (first | ((with_reducible refine HC.out.mono ?_); rintro e w1 ⟨cs, rfl, _, h1, o1⟩; have HS1 := Aside0.mk (HS.out.told h1 o1); clear h1 o1))
          go_roundg (xs.length - (k + 1))
          case measure => have := HG.out; omega
          case rel => exact ⟨k + 1, by go_num, by omega, ⟨by omega⟩, ⟨by rw [runT_succ HX.out]; exact HS1.out⟩⟩
        · obtain rfl : k = xs.length := by omega
          have HWT := Aside0.mk (HWF.out xs.length (Nat.le_refl _))
          obtain ⟨T, hT⟩ : ∃ T, T = runT (newT ⟨ra, rz, rc, rd⟩) xs xs.length := ⟨_, rfl⟩
          rw [← hT] at HS HWT
          clear hT HWF HT HB
          have hn5 : 1 + 5000 * (xs.length : Int) ≤ 1000000000000000000 := by omega
          have HW1 := Aside0.mk (HWT.out.query_ ek)
          have HQ : Aside0 (∀ w', TbR w' p mb tb T → _) := ⟨fun w' h => queryC_calls p mb tb T ek _ w' h (HWT.out.num (by omega)) (by omega) hks⟩
          obtain ⟨e0, e1, e2, e3, e4, e5⟩ := HCE.out _ HS.out.bl
          by_cases hk : KeyOk ek
          · have HKO := Aside0.mk hk
            have hqe : queryE ek = 0 := by unfold queryE; rw [if_pos hk]
            rw [hqe] at HQ
            have HRT : Aside0 ((queryR T ek).token = tokAt (queryT T ek) ek) := ⟨by rw [tokAt_query]; exact queryR_token hk⟩
            clear hqe hk
            generalize queryT T ek = T1 at HQ HW1 HRT
            generalize queryR T ek = R at HQ HRT
            obtain ⟨⟨rk, ⟨t1, t2, t3⟩, ⟨rh, rb⟩⟩, rw_, rt⟩ := R
            dsimp only at HRT
            have hT1l : T1.l.length ≤ 4096 := by have h1 := HW1.out.len; have h2 := HW1.out.rm.2.1; omega
            have HN1 : Aside0 (Num T1 (1 + 5000 * (xs.length : Int) + 5000)) := ⟨HW1.out.num (by omega)⟩
            have HC1 : Aside0 (∀ w', TbR w' p mb tb T1 → _) := ⟨fun w' h => cells_calls p mb tb T1 _ w' h HN1.out⟩
            go_upto_region 12 with (first
              | ((with_reducible refine (HQ.out _ HS.out.t).mono ?_); rintro e w1 ⟨A2, c2, rfl, hb, ht, ho⟩; have HS := Aside0.mk (HS.out.told ht ho); have HS1 := Aside0.mk (HS.out.below (below_alloc (Below.refl _ _) (.cells #[.string rk, .int .i64 t1, .int .i64 t2, .int .i64 t3, .bool rh, .slice A2 rb.length c2, .bool rw_, .int .i64 rt] 52))); have HB1 := Aside0.mk (RB.new hb); clear hb ht ho)
              | ((with_reducible refine (HC1.out _ HS1.out.t).mono ?_); rintro e w3 ⟨A4, c4, rfl, hc4, hF, hb⟩; have HM := Aside0.mk (cells_keep hF HS1.out.lt); have HB1 := Aside0.mk (HB1.out.below hb); have HS := Aside0.mk (HS1.out.below hb); clear hb hF))
            clear HS1 HQ
            obtain ⟨b1, hbx⟩ : ∃ b, b = w1.heap.size := ⟨_, rfl⟩
            rw [← hbx] at HB1
            rw [← hbx]
            clear hbx
            clear e0 e1 e2 e3 e4 e5
            obtain ⟨⟨x0, x1, x2, x3, x4, x5, x6, x7⟩, _⟩ := HB1.out.blk.eight
            dsimp only at x0 x1 x2 x3 x4 x5 x6 x7
            go_upto_if 76 with (fail)
            go_cut [] (fun wx => Aside0 (LS w p mb tb T1 wx) ∧ Aside0 (RB wx b1 ⟨⟨rk, ⟨t1, t2, t3⟩, ⟨rh, rb⟩⟩, rw_, rt⟩ A2 c2) ∧ Aside0 (Foot (fun W => Cell.k.C W A4 T1.l.length T1.l) wx (fun i => i ∉ [p, mb, tb])))
            case first =>
              by_cases hot : other = rt
              · subst hot
                go_wp2
                go_meet
                exact ⟨HS, HB1, HM⟩
              · have hd1 : (other == rt) = false := by simpa using hot
                have hd2 : (other != rt) = true := by simpa using hot
                obtain ⟨f1, f2⟩ := fill_other (T := T1) (e := ⟨ek, ⟨a1, a2, a3⟩, ⟨eh, eb⟩⟩) (tk := other) (by dsimp only; rw [← HRT.out]; exact fun e => hot e.symm)
                have HFL := Aside0.mk (fill_calls p mb tb T1 ⟨ek, ⟨a1, a2, a3⟩, ⟨eh, eb⟩⟩ other Ae ce _ w3 HS.out.t HN1.out (by omega) (HS.out.storeF HE.out) hel)
                rw [f1, f2] at HFL
                clear hot f1 f2
                obtain ⟨e0, e1, e2, e3, e4, e5⟩ := HCE.out _ HS.out.bl
                go_wp2_with (first
                  | ((with_reducible refine HFL.out.mono ?_); rintro e w4 ⟨rfl, ht, ho⟩; have HB4 := Aside0.mk (HB1.out.told HS.out.t ho); have HM4 := Aside0.mk (Foot.only HM.out ho (fun i hi => hi)); have HS4 := Aside0.mk (HS.out.told ht ho); clear ht ho)
                  | ((with_reducible refine (HC1.out _ HS4.out.t).mono ?_); rintro e w5 ⟨A5, c5, rfl, hc5, hF, hb⟩; have HR5 := Aside0.mk (Kd.F_now hF); have HM5 := Aside0.mk (Foot.step HM4.out (fun i _ hlt => hb.block i hlt)); have HB5 := Aside0.mk (HB4.out.below hb); have HS5 := Aside0.mk (HS4.out.below hb); clear hb hF)
                  | ((with_reducible refine (Cmp.sameCells_refl _ _ _ _ _ _ HR5.out (Foot.now HM5.out)).mono ?_); rintro e w6 ⟨rfl, hb⟩; have HM6 := Aside0.mk (Foot.step HM5.out (fun i _ hlt => hb.block i hlt)); have HB6 := Aside0.mk (HB5.out.below hb); have HS6 := Aside0.mk (HS5.out.below hb); clear hb))
                go_meet
                exact ⟨HS6, HB6, HM6⟩
            case rest =>
              obtain ⟨HS, HB1, HM⟩ := hcut
              obtain ⟨e0, e1, e2, e3, e4, e5⟩ := HCE.out _ HS.out.bl
              obtain ⟨⟨x0, x1, x2, x3, x4, x5, x6, x7⟩, _⟩ := HB1.out.blk.eight
              dsimp only at x0 x1 x2 x3 x4 x5 x6 x7
              have HFL := Aside0.mk (fill_calls p mb tb T1 ⟨ek, ⟨a1, a2, a3⟩, ⟨eh, eb⟩⟩ rt Ae ce _ wc HS.out.t HN1.out (by omega) (HS.out.storeF HE.out) hel)
              cases hfb : fillB T1 ⟨ek, ⟨a1, a2, a3⟩, ⟨eh, eb⟩⟩ rt with
              | false =>
                obtain ⟨f1, f2⟩ := fill_no (T := T1) (e := ⟨ek, ⟨a1, a2, a3⟩, ⟨eh, eb⟩⟩) (tk := rt) HRT.out.symm hfb
                rw [f1, hfb] at HFL
                clear f1 hfb
                rcases f2 with f2 | f2
                · rw [f2] at HFL
                  clear f2
                  go_wp2_with (first
                    | ((with_reducible refine HFL.out.mono ?_); rintro e w4 ⟨rfl, ht, ho⟩; have HM4 := Aside0.mk (Foot.only HM.out ho (fun i hi => hi)); have HS4 := Aside0.mk (HS.out.told ht ho); clear ht ho)
                    | ((with_reducible refine (HC1.out _ HS4.out.t).mono ?_); rintro e w5 ⟨A5, c5, rfl, hc5, hF, hb⟩; have HR5 := Aside0.mk (Kd.F_now hF); have HM5 := Aside0.mk (Foot.step HM4.out (fun i _ hlt => hb.block i hlt)); have HS5 := Aside0.mk (HS4.out.below hb); clear hb hF)
                    | ((with_reducible refine (Cmp.sameCells_refl _ _ _ _ _ _ HR5.out (Foot.now HM5.out)).mono ?_); rintro e w6 ⟨rfl, hb⟩; have HS6 := Aside0.mk (HS5.out.below hb); clear hb)
                    | ((with_reducible refine (known_true _).mono ?_); rintro e w8 ⟨rfl, h⟩; have HS8 := Aside0.mk (HS6.out.below h); clear h))
                  go_ret
                  exact ⟨rfl, Below.then_ HWS.out HS8.out.bl (Nat.le_refl _)⟩
                · rw [f2] at HFL
                  clear f2
                  go_wp2_with (first
                    | ((with_reducible refine HFL.out.mono ?_); rintro e w4 ⟨rfl, ht, ho⟩; have HM4 := Aside0.mk (Foot.only HM.out ho (fun i hi => hi)); have HS4 := Aside0.mk (HS.out.told ht ho); clear ht ho)
                    | ((with_reducible refine (HC1.out _ HS4.out.t).mono ?_); rintro e w5 ⟨A5, c5, rfl, hc5, hF, hb⟩; have HR5 := Aside0.mk (Kd.F_now hF); have HM5 := Aside0.mk (Foot.step HM4.out (fun i _ hlt => hb.block i hlt)); have HS5 := Aside0.mk (HS4.out.below hb); clear hb hF)
                    | ((with_reducible refine (Cmp.sameCells_refl _ _ _ _ _ _ HR5.out (Foot.now HM5.out)).mono ?_); rintro e w6 ⟨rfl, hb⟩; have HS6 := Aside0.mk (HS5.out.below hb); clear hb)
                    | ((with_reducible refine (known_true _).mono ?_); rintro e w8 ⟨rfl, h⟩; have HS8 := Aside0.mk (HS6.out.below h); clear h))
                  go_ret
                  exact ⟨rfl, Below.then_ HWS.out HS8.out.bl (Nat.le_refl _)⟩
              | true =>
                obtain ⟨f1, f2, f3⟩ := fill_yes (T := T1) (e := ⟨ek, ⟨a1, a2, a3⟩, ⟨eh, eb⟩⟩) (tk := rt) HW1.out hfb HKO.out
                have HW3 := Aside0.mk (HW1.out.fill_ ⟨ek, ⟨a1, a2, a3⟩, ⟨eh, eb⟩⟩ rt)
                rw [f1, hfb] at HFL
                clear f1 hfb
                generalize fillT T1 ⟨ek, ⟨a1, a2, a3⟩, ⟨eh, eb⟩⟩ rt = T3 at HFL f2 f3 HW3
                dsimp only at f2 f3
                have HQ3 : Aside0 (∀ w', TbR w' p mb tb T3 → _) := ⟨fun w' h => queryC_calls p mb tb T3 ek _ w' h (HW3.out.num (by omega)) (by omega) hks⟩
                have hqe : queryE ek = 0 := by unfold queryE; rw [if_pos HKO.out]
                rw [hqe] at HQ3
                clear hqe
                generalize queryR T3 ek = R3 at HQ3 f2 f3
                generalize queryT T3 ek = T4 at HQ3
                obtain ⟨⟨qk, ⟨q1, q2, q3⟩, ⟨qh, qb⟩⟩, qw, qt⟩ := R3
                dsimp only at f2 f3
                subst f2
                have hcb : decide (0 ≤ cmpT ⟨q1, q2, q3⟩ ⟨a1, a2, a3⟩) = true := by simpa using f3
                clear f3
                have HCM := Aside0.mk (fun w' => compareR_calls ⟨q1, q2, q3⟩ ⟨a1, a2, a3⟩ w')
                go_upto_region 20 with (first
                  | ((with_reducible refine HFL.out.mono ?_); rintro e w4 ⟨rfl, ht, ho⟩; have HS4 := Aside0.mk (HS.out.told ht ho); obtain ⟨e0, e1, e2, e3, e4, e5⟩ := HCE.out _ HS4.out.bl; clear ht ho)
                  | ((with_reducible refine (HQ3.out _ HS4.out.t).mono ?_); rintro e w5 ⟨A6, c6, rfl, hb, ht, ho⟩; have HS5 := Aside0.mk (HS4.out.told ht ho); have HBK := Aside0.mk hb; clear hb ht ho))
                generalize hX : World.alloc _ _ = W6
                have HB6 : Aside0 (RB W6 w5.heap.size ⟨⟨qk, ⟨q1, q2, q3⟩, ⟨qh, qb⟩⟩, true, qt⟩ A6 c6) := ⟨by rw [← hX]; exact RB.new HBK.out⟩
                have HS6 := Aside0.mk (HS5.out.below (w1 := W6) (by rw [← hX]; exact below_alloc (Below.refl _ _) _))
                clear hX HBK
                clear e0 e1 e2 e3 e4 e5 x0 x1 x2 x3 x4 x5 x6 x7
                obtain ⟨e0, e1, e2, e3, e4, e5⟩ := HCE.out _ HS6.out.bl
                obtain ⟨⟨x0, x1, x2, x3, x4, x5, x6, x7⟩, _⟩ := HB6.out.blk.eight
                dsimp only at x0 x1 x2 x3 x4 x5 x6 x7
                go_wp2_with (first
                  | ((with_reducible refine (HCM.out _).mono ?_); rintro e w7 ⟨rfl, h⟩; have HS7 := Aside0.mk (HS6.out.below h); clear h)
                  | ((with_reducible refine (known_true _).mono ?_); rintro e w8 ⟨rfl, h⟩; have HS8 := Aside0.mk (HS7.out.below h); clear h))
                go_ret
                exact ⟨rfl, Below.then_ HWS.out HS8.out.bl (Nat.le_refl _)⟩
          · have hqe : queryE ek = 2 := by unfold queryE; rw [if_neg hk]
            rw [hqe] at HQ
            clear hqe hk
            generalize queryR T ek = R at HQ
            obtain ⟨⟨rk, ⟨t1, t2, t3⟩, ⟨rh, rb⟩⟩, rw_, rt⟩ := R
            go_wp2_with (first
              | ((with_reducible refine (HQ.out _ HS.out.t).mono ?_); rintro e w1 ⟨A2, c2, rfl, hb, ht, ho⟩; have HS := Aside0.mk (HS.out.told ht ho); have HB1 := Aside0.mk (HS.out.below (below_alloc (Below.refl _ _) (.cells #[.string rk, .int .i64 t1, .int .i64 t2, .int .i64 t3, .bool rh, .slice A2 rb.length c2, .bool rw_, .int .i64 rt] 52))).bl; clear hb ht ho)
              | ((with_reducible refine (known_true _).mono ?_); rintro e w8 ⟨rfl, h⟩; have HB8 := Aside0.mk (Below.then_ HB1.out h (Nat.le_refl _)); clear h))
            go_ret
            exact ⟨rfl, Below.then_ HWS.out HB8.out (Nat.le_refl _)⟩
    · go_ret
      exact ⟨rfl, Below.then_ HWS.out HB.out (Nat.le_refl _)⟩
end Tab
end Go.Proofs.Ytgfjkpnaabiecaa
namespace Go.Proofs.Ytgfjkpnaabiecaa
open Go.RowKit Go.Proofs.YtgfjkpnaabiecaaW.PrintWords
def BdT {α : Type} : α → Prop := fun _ => True
def BdS {α : Type} (B : Nat) (Bd : α → Prop) (l : List α) : Prop := l.length * B ≤ 140737488351232 ∧ ∀ x ∈ l, Bd x
def WOk {H : Type} (t : TypeId) (d : DataW H) : Prop := ∀ n ∈ DataW.weights Try.prog t d, n ≤ reachBytes
/-- What reads at type t is of kind k, within bounds. -/
structure Reads {α : Type} (t : TypeId) (k : Kd α) (Bd : α → Prop) : Prop where
  sz : Try.prog.cellsOf t = k.sz
  get : ∀ {H : Type} {enc : TypeId × Value → H} {w : World} {base : Nat} {spare : Nat → Bool} {held : Bool} {fuel : Nat} {cs : List Value} {x : DataW H × List MemPlace},
    DataW.trod enc Try.prog w base spare held fuel t cs = some x → WOk t x.1 → ∃ a, k.K w a cs ∧ Bd a
theorem Reads.int {t : TypeId} {q : IntKind} (ht : Try.prog.underlying t = some (.int q)) (hs : Try.prog.cellsOf t = 1) : Reads t (kInt q) BdT where
  sz := hs
  get := by
    intro H enc w base spare held fuel cs x h _
    obtain ⟨n, rfl, _, hw⟩ := DataW.trod_int ht h
    exact ⟨n, ⟨rfl, hw⟩, trivial⟩
theorem Reads.u8 {t : TypeId} (ht : Try.prog.underlying t = some (.int .u8)) (hs : Try.prog.cellsOf t = 1) : Reads t kU8 BdT where
  sz := hs
  get := by
    intro H enc w base spare held fuel cs x h _
    obtain ⟨n, rfl, _, hw⟩ := DataW.trod_int ht h
    obtain ⟨h0, h1⟩ := _root_.Go.bounds_u8 hw
    refine ⟨UInt8.ofNat n.toNat, ?_, trivial⟩
    show [Value.int .u8 n] = [Value.int .u8 ((UInt8.ofNat n.toNat).toNat : Int)]
    have : ((UInt8.ofNat n.toNat).toNat : Int) = n := by
      rw [UInt8.toNat_ofNat']
      omega
    rw [this]
theorem Reads.bool {t : TypeId} (ht : Try.prog.underlying t = some .bool) (hs : Try.prog.cellsOf t = 1) : Reads t Kd.bool BdT where
  sz := hs
  get := by
    intro H enc w base spare held fuel cs x h _
    obtain ⟨b, rfl, _⟩ := DataW.trod_bool ht h
    exact ⟨b, rfl, trivial⟩
theorem Reads.str {t : TypeId} (ht : Try.prog.underlying t = some .string) (hs : Try.prog.cellsOf t = 1) : Reads t kStr BdT where
  sz := hs
  get := by
    intro H enc w base spare held fuel cs x h hw
    obtain ⟨s, rfl, hx, _⟩ := DataW.trod_string ht h
    subst hx
    refine ⟨s, ⟨rfl, ?_⟩, trivial⟩
    have h2 : s.data.toList.length ≤ reachBytes := hw s.data.toList.length (List.mem_singleton.2 rfl)
    have e : s.data.toList.length = s.size := Array.length_toList
    rw [e] at h2
    exact h2
theorem cells_get {w : World} {base : Nat} {a : Addr} {n : Nat} {cs : List Value} (h : w.cells? base a n = some cs) : cs.length = n ∧ ∀ i u, cs[i]? = some u → w.cell? (a.add i) = some u := by
  unfold World.cells? at h
  split at h
  · refine ⟨by simpa using mapM_some_length h, fun i u hu => ?_⟩
    have hi : i < n := by
      have h1 := mapM_some_length h
      have h2 := (List.getElem?_eq_some_iff.1 hu).1
      simp at h1
      omega
    have h3 := mapM_some_get h i i (by simp [hi])
    rw [h3]
    exact hu
  · cases h
theorem weightsAll_mem {H : Type} {e : TypeId} : ∀ {l : List (DataW H)} {d : DataW H} {n : Nat}, d ∈ l → n ∈ d.weights Try.prog e → n ∈ DataW.weightsAll Try.prog e l
  | a :: r, d, n, hd, hn => by
    unfold DataW.weightsAll
    rcases List.mem_cons.1 hd with rfl | hd
    · exact List.mem_append_left _ hn
    · exact List.mem_append_right _ (weightsAll_mem hd hn)
theorem choose_list {α : Type} {n : Nat} {p : Nat → α → Prop} (h : ∀ i, i < n → ∃ x, p i x) : ∃ l : List α, l.length = n ∧ ∀ i x, l[i]? = some x → p i x := by
  induction n with
  | zero => exact ⟨[], rfl, fun i x hx => by simp at hx⟩
  | succ n ih =>
    obtain ⟨l, hl, hp⟩ := ih (fun i hi => h i (by omega))
    obtain ⟨x, hx⟩ := h n (by omega)
    refine ⟨l ++ [x], by simp [hl], fun i y hy => ?_⟩
    rcases Nat.lt_or_ge i n with hi | hi
    · rw [List.getElem?_append_left (by omega)] at hy
      exact hp i y hy
    · rw [List.getElem?_append_right (by omega)] at hy
      have : i = n := by
        have := (List.getElem?_eq_some_iff.1 hy).1
        simp at this
        omega
      subst this
      simp [hl] at hy
      subst hy
      exact hx
theorem Reads.slice {α : Type} {t e : TypeId} {k : Kd α} {Bd : α → Prop} {B : Nat} (ht : Try.prog.underlying t = some (.slice e)) (hs : Try.prog.cellsOf t = 1) (hB : Try.prog.bytesOf e = B) (R : Reads e k Bd) : Reads t (Kd.slice e k) (BdS B Bd) where
  sz := hs
  get := by
    intro H enc w base spare held fuel cs x h hw
    rcases Deep.open_slice ht h with ⟨rfl, rfl⟩ | ⟨a, len, cap, m, n, D, Pl, rfl, hb, hl, hm, hmm, rfl, hel⟩
    · exact ⟨[], ⟨none, 0, rfl, Nat.le_refl _, Kd.C_nil _ _⟩, by rw [List.length_nil, Nat.zero_mul]; exact Nat.zero_le _, fun _ h => by cases h⟩
    · have hlm : len ≤ m := by rw [hmm]; split <;> omega
      have hwe : ∀ i, i < len → WOk e (D i) := fun i hi n hn => hw n (by
        simp only [DataW.weights, ht]
        exact List.mem_cons_of_mem _ (List.mem_append_left _ (weightsAll_mem (List.mem_map.2 ⟨i, List.mem_range.2 hi, rfl⟩) hn)))
      have hk : ∀ i, i < len → ∃ z, Bd z ∧ ∃ c, w.cells? base (a.add (i * Try.prog.cellsOf e)) (Try.prog.cellsOf e) = some c ∧ k.K w z c := fun i hi => by
        obtain ⟨c, h1, h2⟩ := hel i (by omega)
        obtain ⟨z, h3, h4⟩ := R.get h2 (hwe i hi)
        exact ⟨z, h4, c, h1, h3⟩
      obtain ⟨zs, hzl, hz⟩ := choose_list hk
      have hm' : cap ≤ 9223372036854775807 := by simpa [maxLen] using hm
      subst hzl
      refine ⟨zs, ⟨_, cap, rfl, hl, rfl, by omega, fun _ => ⟨a, rfl, fun j p hj => ?_⟩⟩, ?_, fun z hzm => ?_⟩
      · obtain ⟨_, c, h1, h2⟩ := hz j p hj
        obtain ⟨h3, h4⟩ := cells_get h1
        refine ⟨c, by rw [h3, R.sz], h2, fun i u hu => ?_⟩
        have := h4 i u hu
        rwa [Go.Proofs.YtgfjkpnaabiecaaW.PrintWords.add_add, R.sz] at this
      · have hh := hw ((zs.length + (m - zs.length)) * B) (by
          simp only [DataW.weights, ht, hB]
          refine List.mem_cons.2 (.inl ?_)
          simp)
        refine Nat.le_trans (Nat.mul_le_mul_right _ ?_) hh
        omega
      · obtain ⟨j, hj, rfl⟩ := List.getElem_of_mem hzm
        exact (hz j _ (List.getElem?_eq_getElem hj)).1
end Go.Proofs.Ytgfjkpnaabiecaa
namespace Go.Proofs.Ytgfjkpnaabiecaa
open Go.RowKit Go.Proofs.YtgfjkpnaabiecaaW.PrintWords
theorem len2 {α : Type} {l : List α} (h : l.length = 2) : ∃ a0 a1, l = [a0, a1] := by
  match l, h with
  | [a0, a1], _ => exact ⟨a0, a1, rfl⟩
theorem len3 {α : Type} {l : List α} (h : l.length = 3) : ∃ a0 a1 a2, l = [a0, a1, a2] := by
  match l, h with
  | [a0, a1, a2], _ => exact ⟨a0, a1, a2, rfl⟩
theorem len4 {α : Type} {l : List α} (h : l.length = 4) : ∃ a0 a1 a2 a3, l = [a0, a1, a2, a3] := by
  match l, h with
  | [a0, a1, a2, a3], _ => exact ⟨a0, a1, a2, a3, rfl⟩
theorem len6 {α : Type} {l : List α} (h : l.length = 6) : ∃ a0 a1 a2 a3 a4 a5, l = [a0, a1, a2, a3, a4, a5] := by
  match l, h with
  | [a0, a1, a2, a3, a4, a5], _ => exact ⟨a0, a1, a2, a3, a4, a5, rfl⟩
theorem len8 {α : Type} {l : List α} (h : l.length = 8) : ∃ a0 a1 a2 a3 a4 a5 a6 a7, l = [a0, a1, a2, a3, a4, a5, a6, a7] := by
  match l, h with
  | [a0, a1, a2, a3, a4, a5, a6, a7], _ => exact ⟨a0, a1, a2, a3, a4, a5, a6, a7, rfl⟩
def Tag.Bd (x : Tag) : Prop := BdT x.seq ∧ BdT x.who ∧ BdT x.op
theorem Tag.reads : Reads 32 Tag.k Tag.Bd where
  sz := by kernel_rfl
  get := by
    intro H enc w base spare held fuel cs x h hw
    obtain ⟨xs, n, rfl, hx, hl, hxl, hf⟩ := DataW.trod_struct Try.underlying32 h
    have hz : Try.prog.cellsOf 32 = 3 := by kernel_rfl
    rw [hz] at hl
    obtain ⟨c0, c1, c2, rfl⟩ := len3 hl
    have hxl' : xs.length = 3 := hxl
    obtain ⟨x0, x1, x2, rfl⟩ := len3 hxl'
    subst hx
    have f0 : DataW.trod enc Try.prog w base spare held n 3 (([c0, c1, c2].drop 0).take (Try.prog.cellsOf 3)) = some x0 := hf 0 _ rfl
    have g0 : DataW.trod enc Try.prog w base spare held n 3 [c0] = some x0 := by
      have hc : Try.prog.cellsOf 3 = 1 := by kernel_rfl
      rw [hc] at f0
      exact f0
    obtain ⟨a0, k0, b0⟩ := (Reads.int Try.underlying3 (by kernel_rfl)).get g0 (fun z hz => hw z (by simp only [DataW.weights, Try.underlying32]; simp only [DataW.weightsEach, List.map_cons, List.map_nil, List.mem_append]; exact .inl hz))
    have f1 : DataW.trod enc Try.prog w base spare held n 3 (([c0, c1, c2].drop 1).take (Try.prog.cellsOf 3)) = some x1 := hf 1 _ rfl
    have g1 : DataW.trod enc Try.prog w base spare held n 3 [c1] = some x1 := by
      have hc : Try.prog.cellsOf 3 = 1 := by kernel_rfl
      rw [hc] at f1
      exact f1
    obtain ⟨a1, k1, b1⟩ := (Reads.int Try.underlying3 (by kernel_rfl)).get g1 (fun z hz => hw z (by simp only [DataW.weights, Try.underlying32]; simp only [DataW.weightsEach, List.map_cons, List.map_nil, List.mem_append]; exact .inr (.inl hz)))
    have f2 : DataW.trod enc Try.prog w base spare held n 3 (([c0, c1, c2].drop 2).take (Try.prog.cellsOf 3)) = some x2 := hf 2 _ rfl
    have g2 : DataW.trod enc Try.prog w base spare held n 3 [c2] = some x2 := by
      have hc : Try.prog.cellsOf 3 = 1 := by kernel_rfl
      rw [hc] at f2
      exact f2
    obtain ⟨a2, k2, b2⟩ := (Reads.int Try.underlying3 (by kernel_rfl)).get g2 (fun z hz => hw z (by simp only [DataW.weights, Try.underlying32]; simp only [DataW.weightsEach, List.map_cons, List.map_nil, List.mem_append]; exact .inr (.inr (.inl hz))))
    exact ⟨⟨a0, a1, a2⟩, ⟨_, _, rfl, k0, ⟨_, _, rfl, k1, k2⟩⟩, ⟨b0, b1, b2⟩⟩

def Val.Bd (x : Val) : Prop := BdT x.has ∧ (BdS 1 BdT) x.b
theorem Val.reads : Reads 35 Val.k Val.Bd where
  sz := by kernel_rfl
  get := by
    intro H enc w base spare held fuel cs x h hw
    obtain ⟨xs, n, rfl, hx, hl, hxl, hf⟩ := DataW.trod_struct Try.underlying35 h
    have hz : Try.prog.cellsOf 35 = 2 := by kernel_rfl
    rw [hz] at hl
    obtain ⟨c0, c1, rfl⟩ := len2 hl
    have hxl' : xs.length = 2 := hxl
    obtain ⟨x0, x1, rfl⟩ := len2 hxl'
    subst hx
    have f0 : DataW.trod enc Try.prog w base spare held n 4 (([c0, c1].drop 0).take (Try.prog.cellsOf 4)) = some x0 := hf 0 _ rfl
    have g0 : DataW.trod enc Try.prog w base spare held n 4 [c0] = some x0 := by
      have hc : Try.prog.cellsOf 4 = 1 := by kernel_rfl
      rw [hc] at f0
      exact f0
    obtain ⟨a0, k0, b0⟩ := (Reads.bool Try.underlying4 (by kernel_rfl)).get g0 (fun z hz => hw z (by simp only [DataW.weights, Try.underlying35]; simp only [DataW.weightsEach, List.map_cons, List.map_nil, List.mem_append]; exact .inl hz))
    have f1 : DataW.trod enc Try.prog w base spare held n 33 (([c0, c1].drop 1).take (Try.prog.cellsOf 33)) = some x1 := hf 1 _ rfl
    have g1 : DataW.trod enc Try.prog w base spare held n 33 [c1] = some x1 := by
      have hc : Try.prog.cellsOf 33 = 1 := by kernel_rfl
      rw [hc] at f1
      exact f1
    obtain ⟨a1, k1, b1⟩ := (Reads.slice (B := 1) Try.underlying33 (by kernel_rfl) (by kernel_rfl) (Reads.u8 Try.underlying5 (by kernel_rfl))).get g1 (fun z hz => hw z (by simp only [DataW.weights, Try.underlying35]; simp only [DataW.weightsEach, List.map_cons, List.map_nil, List.mem_append]; exact .inr (.inl hz)))
    exact ⟨⟨a0, a1⟩, ⟨_, _, rfl, k0, k1⟩, ⟨b0, b1⟩⟩

def Entry.Bd (x : Entry) : Prop := BdT x.key ∧ Tag.Bd x.tag ∧ Val.Bd x.val
theorem Entry.reads : Reads 37 Entry.k Entry.Bd where
  sz := by kernel_rfl
  get := by
    intro H enc w base spare held fuel cs x h hw
    obtain ⟨xs, n, rfl, hx, hl, hxl, hf⟩ := DataW.trod_struct Try.underlying37 h
    have hz : Try.prog.cellsOf 37 = 6 := by kernel_rfl
    rw [hz] at hl
    obtain ⟨c0, c1, c2, c3, c4, c5, rfl⟩ := len6 hl
    have hxl' : xs.length = 3 := hxl
    obtain ⟨x0, x1, x2, rfl⟩ := len3 hxl'
    subst hx
    have f0 : DataW.trod enc Try.prog w base spare held n 9 (([c0, c1, c2, c3, c4, c5].drop 0).take (Try.prog.cellsOf 9)) = some x0 := hf 0 _ rfl
    have g0 : DataW.trod enc Try.prog w base spare held n 9 [c0] = some x0 := by
      have hc : Try.prog.cellsOf 9 = 1 := by kernel_rfl
      rw [hc] at f0
      exact f0
    obtain ⟨a0, k0, b0⟩ := (Reads.str Try.underlying9 (by kernel_rfl)).get g0 (fun z hz => hw z (by simp only [DataW.weights, Try.underlying37]; simp only [DataW.weightsEach, List.map_cons, List.map_nil, List.mem_append]; exact .inl hz))
    have f1 : DataW.trod enc Try.prog w base spare held n 32 (([c0, c1, c2, c3, c4, c5].drop 1).take (Try.prog.cellsOf 32)) = some x1 := hf 1 _ rfl
    have g1 : DataW.trod enc Try.prog w base spare held n 32 [c1, c2, c3] = some x1 := by
      have hc : Try.prog.cellsOf 32 = 3 := by kernel_rfl
      rw [hc] at f1
      exact f1
    obtain ⟨a1, k1, b1⟩ := Tag.reads.get g1 (fun z hz => hw z (by simp only [DataW.weights, Try.underlying37]; simp only [DataW.weightsEach, List.map_cons, List.map_nil, List.mem_append]; exact .inr (.inl hz)))
    have f2 : DataW.trod enc Try.prog w base spare held n 35 (([c0, c1, c2, c3, c4, c5].drop 4).take (Try.prog.cellsOf 35)) = some x2 := hf 2 _ rfl
    have g2 : DataW.trod enc Try.prog w base spare held n 35 [c4, c5] = some x2 := by
      have hc : Try.prog.cellsOf 35 = 2 := by kernel_rfl
      rw [hc] at f2
      exact f2
    obtain ⟨a2, k2, b2⟩ := Val.reads.get g2 (fun z hz => hw z (by simp only [DataW.weights, Try.underlying37]; simp only [DataW.weightsEach, List.map_cons, List.map_nil, List.mem_append]; exact .inr (.inr (.inl hz))))
    exact ⟨⟨a0, a1, a2⟩, ⟨_, _, rfl, k0, ⟨_, _, rfl, k1, k2⟩⟩, ⟨b0, b1, b2⟩⟩

def Room.Bd (x : Room) : Prop := BdT x.cells ∧ BdT x.bytes ∧ BdT x.buckets ∧ BdT x.fresh
theorem Room.reads : Reads 23 Room.k Room.Bd where
  sz := by kernel_rfl
  get := by
    intro H enc w base spare held fuel cs x h hw
    obtain ⟨xs, n, rfl, hx, hl, hxl, hf⟩ := DataW.trod_struct Try.underlying23 h
    have hz : Try.prog.cellsOf 23 = 4 := by kernel_rfl
    rw [hz] at hl
    obtain ⟨c0, c1, c2, c3, rfl⟩ := len4 hl
    have hxl' : xs.length = 4 := hxl
    obtain ⟨x0, x1, x2, x3, rfl⟩ := len4 hxl'
    subst hx
    have f0 : DataW.trod enc Try.prog w base spare held n 3 (([c0, c1, c2, c3].drop 0).take (Try.prog.cellsOf 3)) = some x0 := hf 0 _ rfl
    have g0 : DataW.trod enc Try.prog w base spare held n 3 [c0] = some x0 := by
      have hc : Try.prog.cellsOf 3 = 1 := by kernel_rfl
      rw [hc] at f0
      exact f0
    obtain ⟨a0, k0, b0⟩ := (Reads.int Try.underlying3 (by kernel_rfl)).get g0 (fun z hz => hw z (by simp only [DataW.weights, Try.underlying23]; simp only [DataW.weightsEach, List.map_cons, List.map_nil, List.mem_append]; exact .inl hz))
    have f1 : DataW.trod enc Try.prog w base spare held n 3 (([c0, c1, c2, c3].drop 1).take (Try.prog.cellsOf 3)) = some x1 := hf 1 _ rfl
    have g1 : DataW.trod enc Try.prog w base spare held n 3 [c1] = some x1 := by
      have hc : Try.prog.cellsOf 3 = 1 := by kernel_rfl
      rw [hc] at f1
      exact f1
    obtain ⟨a1, k1, b1⟩ := (Reads.int Try.underlying3 (by kernel_rfl)).get g1 (fun z hz => hw z (by simp only [DataW.weights, Try.underlying23]; simp only [DataW.weightsEach, List.map_cons, List.map_nil, List.mem_append]; exact .inr (.inl hz)))
    have f2 : DataW.trod enc Try.prog w base spare held n 3 (([c0, c1, c2, c3].drop 2).take (Try.prog.cellsOf 3)) = some x2 := hf 2 _ rfl
    have g2 : DataW.trod enc Try.prog w base spare held n 3 [c2] = some x2 := by
      have hc : Try.prog.cellsOf 3 = 1 := by kernel_rfl
      rw [hc] at f2
      exact f2
    obtain ⟨a2, k2, b2⟩ := (Reads.int Try.underlying3 (by kernel_rfl)).get g2 (fun z hz => hw z (by simp only [DataW.weights, Try.underlying23]; simp only [DataW.weightsEach, List.map_cons, List.map_nil, List.mem_append]; exact .inr (.inr (.inl hz))))
    have f3 : DataW.trod enc Try.prog w base spare held n 4 (([c0, c1, c2, c3].drop 3).take (Try.prog.cellsOf 4)) = some x3 := hf 3 _ rfl
    have g3 : DataW.trod enc Try.prog w base spare held n 4 [c3] = some x3 := by
      have hc : Try.prog.cellsOf 4 = 1 := by kernel_rfl
      rw [hc] at f3
      exact f3
    obtain ⟨a3, k3, b3⟩ := (Reads.bool Try.underlying4 (by kernel_rfl)).get g3 (fun z hz => hw z (by simp only [DataW.weights, Try.underlying23]; simp only [DataW.weightsEach, List.map_cons, List.map_nil, List.mem_append]; exact .inr (.inr (.inr (.inl hz)))))
    exact ⟨⟨a0, a1, a2, a3⟩, ⟨_, _, rfl, k0, ⟨_, _, rfl, k1, ⟨_, _, rfl, k2, k3⟩⟩⟩, ⟨b0, b1, b2, b3⟩⟩

def Do.Bd (x : Do) : Prop := BdT x.kind ∧ Entry.Bd x.e ∧ BdT x.token
theorem Do.reads : Reads 39 Do.k Do.Bd where
  sz := by kernel_rfl
  get := by
    intro H enc w base spare held fuel cs x h hw
    obtain ⟨xs, n, rfl, hx, hl, hxl, hf⟩ := DataW.trod_struct Try.underlying39 h
    have hz : Try.prog.cellsOf 39 = 8 := by kernel_rfl
    rw [hz] at hl
    obtain ⟨c0, c1, c2, c3, c4, c5, c6, c7, rfl⟩ := len8 hl
    have hxl' : xs.length = 3 := hxl
    obtain ⟨x0, x1, x2, rfl⟩ := len3 hxl'
    subst hx
    have f0 : DataW.trod enc Try.prog w base spare held n 3 (([c0, c1, c2, c3, c4, c5, c6, c7].drop 0).take (Try.prog.cellsOf 3)) = some x0 := hf 0 _ rfl
    have g0 : DataW.trod enc Try.prog w base spare held n 3 [c0] = some x0 := by
      have hc : Try.prog.cellsOf 3 = 1 := by kernel_rfl
      rw [hc] at f0
      exact f0
    obtain ⟨a0, k0, b0⟩ := (Reads.int Try.underlying3 (by kernel_rfl)).get g0 (fun z hz => hw z (by simp only [DataW.weights, Try.underlying39]; simp only [DataW.weightsEach, List.map_cons, List.map_nil, List.mem_append]; exact .inl hz))
    have f1 : DataW.trod enc Try.prog w base spare held n 37 (([c0, c1, c2, c3, c4, c5, c6, c7].drop 1).take (Try.prog.cellsOf 37)) = some x1 := hf 1 _ rfl
    have g1 : DataW.trod enc Try.prog w base spare held n 37 [c1, c2, c3, c4, c5, c6] = some x1 := by
      have hc : Try.prog.cellsOf 37 = 6 := by kernel_rfl
      rw [hc] at f1
      exact f1
    obtain ⟨a1, k1, b1⟩ := Entry.reads.get g1 (fun z hz => hw z (by simp only [DataW.weights, Try.underlying39]; simp only [DataW.weightsEach, List.map_cons, List.map_nil, List.mem_append]; exact .inr (.inl hz)))
    have f2 : DataW.trod enc Try.prog w base spare held n 3 (([c0, c1, c2, c3, c4, c5, c6, c7].drop 7).take (Try.prog.cellsOf 3)) = some x2 := hf 2 _ rfl
    have g2 : DataW.trod enc Try.prog w base spare held n 3 [c7] = some x2 := by
      have hc : Try.prog.cellsOf 3 = 1 := by kernel_rfl
      rw [hc] at f2
      exact f2
    obtain ⟨a2, k2, b2⟩ := (Reads.int Try.underlying3 (by kernel_rfl)).get g2 (fun z hz => hw z (by simp only [DataW.weights, Try.underlying39]; simp only [DataW.weightsEach, List.map_cons, List.map_nil, List.mem_append]; exact .inr (.inr (.inl hz))))
    exact ⟨⟨a0, a1, a2⟩, ⟨_, _, rfl, k0, ⟨_, _, rfl, k1, k2⟩⟩, ⟨b0, b1, b2⟩⟩

end Go.Proofs.Ytgfjkpnaabiecaa
set_option linter.unusedVariables false
set_option linter.unusedSimpArgs false
namespace Go.Proofs.Ytgfjkpnaabiecaa
open Go.RowKit Go.Proofs.YtgfjkpnaabiecaaW.PrintWords
namespace Tab
theorem dos_bd {B : Nat} {xs : List Do} (h : BdS B Do.Bd xs) (hB : B = 88) : xs.length ≤ 1600000000000 ∧ ∀ x ∈ xs, x.e.val.b.length ≤ 140737488351232 := by
  subst hB
  obtain ⟨h1, h2⟩ := h
  refine ⟨by omega, fun x hx => ?_⟩
  obtain ⟨_, ⟨_, _, _, h3, _⟩, _⟩ := h2 x hx
  omega
theorem room_cs {w : World} {cs : Array Value} {r : Room} (h : Room.k.K w r cs.toList) : cs = #[.int .i64 r.cells, .int .i64 r.bytes, .int .i64 r.buckets, .bool r.fresh] := by
  obtain ⟨he, _⟩ := Room.open_ h
  have : cs = cs.toList.toArray := by simp
  rw [this, he]
end Tab
end Go.Proofs.Ytgfjkpnaabiecaa
set_option linter.unusedVariables false
set_option linter.unusedSimpArgs false
namespace Go.Proofs.Ytgfjkpnaabiecaa
open Go.RowKit Go.Proofs.YtgfjkpnaabiecaaW.PrintWords
namespace Tab
theorem fills_row {B : Nat} (cs : Array Value) (r : Room) (A : Option Addr) (c : Nat) (xs : List Do) (cs2 : Array Value) (e : Entry) (other : Int) (w : World) (h0 : Room.k.K w r cs.toList) (hr : Do.k.C w A xs.length xs) (hb : BdS B Do.Bd xs) (hB : B = 88) (h2 : Entry.k.K w e cs2.toList) (hb2 : Entry.Bd e) :
    Calls Try.prog 4 #[.agg cs, .slice A xs.length c, .agg cs2, .int .i64 other] w (TrueTold w) := by
  rw [room_cs h0]
  obtain ⟨b1, b2⟩ := dos_bd hb hB
  obtain ⟨Ae, ce, he, _⟩ := Entry.open_ h2
  have hcs : cs2 = cs2.toList.toArray := by simp
  rw [he] at h2
  rw [hcs, he]
  have hel : e.val.b.length ≤ 140737488351232 := by obtain ⟨_, _, _, h3, _⟩ := hb2; omega
  by_cases hR : RoomOk r
  · exact fills_good r A Ae c ce xs e other w hr b1 hR h2 hel b2
  · exact fills_bad r A Ae c ce xs e.key e.tag.seq e.tag.who e.tag.op e.val.has e.val.b other w hr b1 hR
end Tab
end Go.Proofs.Ytgfjkpnaabiecaa
