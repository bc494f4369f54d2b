/- Lemmas for the row (words on memory, contracts of the program's functions): RefTL, RefTM, RefTN. -/
import Derived.Test.YtgfjkpnaabiecaaZT6
set_option linter.unusedVariables false
set_option linter.unusedSimpArgs false
namespace Go.Proofs.Ytgfjkpnaabiecaa
open Go.RowKit Go.Proofs.YtgfjkpnaabiecaaW.PrintWords
namespace RTab
open Tags Tab Cmp
theorem map_take {α β : Type} (f : α → β) {l : List α} {i : Nat} {u : α} (h : l[i]? = some u) : (l.take i).map f ++ [f u] = (l.take (i + 1)).map f := by
  rw [List.take_add_one, h]
  simp
theorem int_block {w : World} {ok : Nat → Prop} {ad : Addr} {n : Nat} {xs : List Int} (h : Kd.F (kInt .i64) w ok (some ad) n xs) (k : Nat) (h1 : k < n) : ok ad.block := by
  have hl : xs.length = n := Kd.F_len h
  obtain ⟨ad', c, e, _, _, _, hok⟩ := Kd.F_get h 0 (k : Int) (by omega) (by omega)
  obtain rfl : ad = ad' := Option.some.inj e
  exact hok (by decide)
set_option maxRecDepth 100000 in
set_option maxHeartbeats 2000000 in
theorem forgetR_calls (T : Tb) (A : Option Addr) (c : Nat) (B : Option Addr) (d : Nat) (n : Int) (ok : Nat → Prop) (w : World) (h : RT w ok T A c B d) (hw : Wf T n) (hn : n ≤ 1900000000000000000) :
    Calls Try.prog 53 #[.agg (rtc T A c B d).toArray] w (MadeT w ok (forgetT T)) := by
  obtain ⟨okb, hok⟩ : ∃ k : Nat → Prop, k = fun i => ok i ∧ i < w.heap.size := ⟨_, rfl⟩
  have HT : Aside0 (RT w okb T A c B d) := ⟨by rw [hok]; exact h.bound⟩
  have HOK : Aside0 (∀ i, okb i → ok i ∧ i < w.heap.size) := ⟨fun i hi => by rw [hok] at hi; exact hi⟩
  have hTl : T.l.length ≤ 4096 := by have h1 := hw.len; have h2 := hw.rm.2.1; omega
  have hKl : T.tok.length ≤ 256 := hw.tok_len.2
  have HTK : Aside0 (∀ x ∈ T.tok, 0 ≤ x ∧ x ≤ 1900000000000000000) := ⟨fun x hx => by have := hw.tk x hx; omega⟩
  clear h hw hok
  obtain ⟨⟨ra, rz, rc, rd⟩, l, tok, us⟩ := T
  dsimp only [rtc] at *
  have hone := run_one
  go_enter Try.func53, Try.ntmps53
  go_upto_region 1 with (fail)
  generalize hX : World.alloc _ _ = W0
  have HB0 : Aside0 (Below w.heap.size w W0) := ⟨by rw [← hX]; exact below_alloc (below_alloc (Below.refl _ _) _) _⟩
  have HX : Aside0 (Blk W0 w.heap.size [.int .i64 ra, .int .i64 rz, .int .i64 rc, .bool rd, .slice A l.length c, .slice B tok.length d, .int .i64 us] ∧ Blk W0 (w.heap.size + 1) [.int .i64 0, .int .i64 0, .int .i64 0, .bool false, .slice none 0 0, .slice none 0 0, .int .i64 0]) := ⟨by rw [← hX]; exact ⟨(Blk.new_ _ _ _ rfl rfl).alloc _, Blk.new_ _ _ _ (by simp) rfl⟩⟩
  have hs0 : w.heap.size + 2 ≤ W0.heap.size := by have := HX.out.2.lt; omega
  have HT0 := Aside0.mk (HT.out.below HB0.out)
  clear hX
  obtain ⟨⟨x0, x1, x2, x3, x4, x5, x6⟩, _⟩ := seven HX.out.1
  go_upto_region 3 with (fail)
  generalize hX : World.alloc _ _ = W1
  have HG1 : Aside0 (Grow Cell.k 47 okb W0.heap.size W0 W1 (.slice none 0 0) []) := ⟨by rw [← hX]; exact (Grow.start _ _ _ W0).below (below_alloc (Below.refl _ _) _)⟩
  have HU1 : Aside0 (UB W1 W0.heap.size ⟨ra, rz, rc, rd⟩ (.slice none 0 0) (.slice none 0 0) us) := ⟨by rw [← hX]; exact UB.new W0 ⟨ra, rz, rc, rd⟩ _ _ us⟩
  clear hX
  go_loopg [4] l.length (fun gk v wr => ∃ (i : Nat) (v4 : Value), v = .int .i64 (i : Int) ∧ i ≤ l.length ∧ Aside0 (gk + i = l.length) ∧ Aside0 (Grow Cell.k 47 okb W0.heap.size W0 wr v4 ((l.take i).map off)) ∧ Aside0 (UB wr W0.heap.size ⟨ra, rz, rc, rd⟩ v4 (.slice none 0 0) us))
  case atStart => exact ⟨0, _, rfl, Nat.zero_le _, ⟨rfl⟩, HG1, HU1⟩
  case round =>
    obtain ⟨i, v4, rfl, hi, HG, HR, HU⟩ := hrel
    have HBW := Aside0.mk HR.out.bl
    have x0 := pw_cell_below HBW.out x0
    have x1 := pw_cell_below HBW.out x1
    have x2 := pw_cell_below HBW.out x2
    have x3 := pw_cell_below HBW.out x3
    have x4 := pw_cell_below HBW.out x4
    have x5 := pw_cell_below HBW.out x5
    have x6 := pw_cell_below HBW.out x6
    obtain ⟨⟨y0, y1, y2, y3, y4, y5, y6⟩, f0, f1, f2, f3, f4, f5, f6⟩ := seven HU.out.blk
    have hbl := HU.out.blk.lt
    by_cases hlt : i < l.length
    · have hltI : (i : Int) < (l.length : Int) := by omega
      obtain ⟨au, u, A5, c5, rfl, HUX, k0, k1, k2, k3, k4, k5, k6, k7, k8, HFK⟩ := RTab.cell_at HT0.out.l HBW.out i hlt
      have HMT := Aside0.mk (map_take off HUX.out)
      have HLL : Aside0 (((l.take i).map off).length = i) := ⟨by rw [List.length_map, List.length_take]; omega⟩
      have HRO : Aside0 (∀ W', Below wr.heap.size wr W' → RO Cell.k okb W0.heap.size W' (off u) (ccs (off u) A5 c5)) := ⟨fun W' hb => by
        refine Grow.ro_step ?_ (hb.mono HR.out.hN)
        refine HR.out.elem rfl ?_
        exact fk_cell (fk_ent HFK.out) false u.clean (by obtain ⟨_, _, _, _, _, _, _, _, _, r8⟩ := Cell.open_ (Kd.FK_now HFK.out); exact r8)⟩
      go_upto_region 7 with (fail)
      generalize hXc : World.alloc _ _ = Wc
      have HBc : Aside0 (Below wr.heap.size wr Wc) := ⟨by rw [← hXc]; exact below_alloc (Below.refl _ _) _⟩
      have HXc : Aside0 (Blk Wc wr.heap.size (ccs (off u) A5 c5)) := ⟨by rw [← hXc]; exact Blk.new_ _ _ _ rfl rfl⟩
      have HRc := Aside0.mk (HR.out.below HBc.out)
      have HUc := Aside0.mk (HU.out.below HBc.out)
      have HROc := Aside0.mk (HRO.out Wc HBc.out)
      clear hXc x0 x1 x2 x3 x4 x5 x6 y0 y1 y2 y3 y4 y5 y6 f0 f1 f2 f3 f4 f5 f6 k0 k1 k2 k3 k4 k5 k6 k7 k8 hbl
      obtain ⟨⟨k0, k1, k2, k3, k4, k5, k6, k7, k8⟩, _⟩ := HXc.out.nine
      dsimp only [ccs, off] at k0 k1 k2 k3 k4 k5 k6 k7 k8
      obtain ⟨⟨y0, y1, y2, y3, y4, y5, y6⟩, f0, f1, f2, f3, f4, f5, f6⟩ := seven HUc.out.blk
      have hbl := HUc.out.blk.lt
      go_wp2_with (first | (at_builtin; refine Grow.push3 (cells := (ccs (off u) A5 c5).toArray) rfl _ _ 44 _ 88 rfl Try.underlying44 infoCell rfl (by decide) (by omega) HRc.out HROc.out rfl rfl (by rw [HLL.out]; omega) ?_; intro v1 w9 hG9 o9; obtain ⟨A1, c1, rfl, hc1⟩ := hG9.slice; rw [show ((l.take i).map off ++ [off u]).length = i + 1 from by rw [List.length_append, HLL.out]; rfl] at hG9; have HU9 := Aside0.mk (HUc.out.only o9 (HRc.out.ne HUc.out.ty tCellT)); have HG9 := Aside0.mk hG9; clear hG9 o9 hc1 y0 y1 y2 y3 y4 y5 y6 f0 f1 f2 f3 f4 f5 f6; obtain ⟨⟨y0, y1, y2, y3, y4, y5, y6⟩, f0, f1, f2, f3, f4, f5, f6⟩ := seven HU9.out.blk))
      go_roundg (l.length - (i + 1))
      case measure => have := HG.out; omega
      case rel => exact ⟨i + 1, _, by go_num, by omega, ⟨by omega⟩, ⟨by rw [← HMT.out]; exact HG9.out.setCell HU9.out.ty tCellT (Nat.le_refl _)⟩, ⟨HU9.out.set4 _⟩⟩
    · obtain rfl : i = l.length := by omega
      rw [List.take_length] at HR
      obtain ⟨l2, hl2⟩ : ∃ l2, l2 = l.map off := ⟨_, rfl⟩
      rw [← hl2] at HR
      have HL2 := Aside0.mk hl2
      clear hl2
      go_upto_region 9 with (fail)
      go_loopg [6] tok.length (fun gk v wr => ∃ (j : Nat) (v5 : Value), v = .int .i64 (j : Int) ∧ j ≤ tok.length ∧ Aside0 (gk + j = tok.length) ∧ Aside0 (Grow Cell.k 47 okb W0.heap.size W0 wr v4 l2) ∧ Aside0 (Grow (kInt .i64) 3 okb W0.heap.size W0 wr v5 ((tok.take j).map (· + 1))) ∧ Aside0 (UB wr W0.heap.size ⟨ra, rz, rc, rd⟩ v4 v5 us))
      case atStart => exact ⟨0, _, rfl, Nat.zero_le _, ⟨rfl⟩, HR, ⟨⟨OwnRow.none_ _ _ _ _ _, HR.out.bl, HR.out.hN⟩⟩, HU⟩
      case round =>
        obtain ⟨j, v5, rfl, hj, HG, HRC, HRI, HU⟩ := hrel
        have HBX := Aside0.mk HRC.out.bl
        have HXX := Aside0.mk (And.intro (HX.out.1.on HBX.out) (HX.out.2.on HBX.out))
        obtain ⟨x0, x1, x2, x3, x4, x5, x6⟩ := (seven HXX.out.1).1
        obtain ⟨⟨y0, y1, y2, y3, y4, y5, y6⟩, f0, f1, f2, f3, f4, f5, f6⟩ := seven HU.out.blk
        have hbl := HU.out.blk.lt
        by_cases hlt : j < tok.length
        · have hltI : (j : Int) < (tok.length : Int) := by omega
          obtain ⟨ad, x, rfl, HXJ, t0, _⟩ := int_at (Kd.F_now (HT0.out.below HBX.out).k) j hlt
          obtain ⟨hx0, hx1⟩ := HTK.out x (List.mem_of_getElem? HXJ.out)
          have HMT := Aside0.mk (map_take (· + 1) HXJ.out)
          have HLL : Aside0 (((tok.take j).map (· + 1)).length = j) := ⟨by rw [List.length_map, List.length_take]; omega⟩
          have HXR : Aside0 (InR .i64 (x + 1)) := ⟨InR.mk64 (x := x + 1) (by omega) (by omega)⟩
          have e1 : IntKind.i64.wrap (x + 1) = x + 1 := IntWalk.i64_in _ (by omega)
          go_upto_region 11 with (fail)
          have hnot : ∀ q, q < W0.heap.size → q ∉ W0.heap.size :: v5.ownBlock.toList := fun q hq hm => by
            rcases List.mem_cons.1 hm with hm | hm
            · omega
            · have := HRI.out.own_ge q hm; omega
          have hib := int_block (HT0.out.below HBX.out).k j hlt
          have hadb : ad.block < W0.heap.size := by have := HOK.out _ hib; omega
          have hx5 : ∀ w', Only (W0.heap.size :: v5.ownBlock.toList) wr w' → w'.cell? ⟨w.heap.size, 5, none⟩ = some (.slice (some ad) tok.length d) := fun w' h => (h.cell (p := ⟨w.heap.size, 5, none⟩) (World.block_lt_of_cell? _ _ x5) (hnot _ (by dsimp only; omega))).trans x5
          have ht0 : ∀ w', Only (W0.heap.size :: v5.ownBlock.toList) wr w' → w'.cell? (ad.add j) = some (.int .i64 x) := fun w' h => (h.cell (p := ad.add j) (World.block_lt_of_cell? _ _ t0) (hnot _ (by rw [blk_add]; exact hadb))).trans t0
          clear x0 x1 x2 x3 x4 x5 x6 t0 y0 y1 y2 y3 y4 y6 f0 f1 f2 f3 f4 f5 f6 hib
          obtain ⟨wd, hD⟩ : ∃ wd, wd = World.drew wr := ⟨_, rfl⟩
          have HBD : Aside0 (Below wr.heap.size wr wd) := ⟨by rw [hD]; exact below_drew (Below.refl _ _)⟩
          have HCD := Aside0.mk (HRC.out.below HBD.out)
          have HID := Aside0.mk (HRI.out.below HBD.out)
          have HUD := Aside0.mk (HU.out.below HBD.out)
          have HOD := Aside0.mk (Only.of_below (W0.heap.size :: v5.ownBlock.toList) HBD.out)
          have y5 := pw_cell_below HBD.out y5
          refine wp_region_noPanic ?_
          refine wp_region_held_drew (S := Only (W0.heap.size :: v5.ownBlock.toList) wr) (by kernel_rfl) ((Only.refl _ _).drew) (fun hHeld => ?_)
          rw [← hD]
          clear hD hHeld
          have hHeld := HOD.out
          (refine takeH 0 38 (v := ?_) rfl rfl (by kernel_rfl) (by kernel_rfl) (by kernel_rfl) (fun _ _ _ h => h) hHeld rfl ?_ ?_; rotate_left; (focus (intro w' hSw; go_simp; try with_reducible rfl)))
          (try simp only [Act.put, List.setIfInBounds_toArray, List.set_cons_zero, List.set_cons_succ])
          (refine takeH 2 40 (v := ?_) rfl rfl (by kernel_rfl) (by kernel_rfl) (by kernel_rfl) (fun _ _ _ h => h) hHeld rfl ?_ ?_; rotate_left; (focus (intro w' hSw; go_simp; try with_reducible rfl)))
          (try simp only [Act.put, List.setIfInBounds_toArray, List.set_cons_zero, List.set_cons_succ])
          (refine takeH 3 41 (v := ?_) rfl rfl (by kernel_rfl) (by kernel_rfl) (by kernel_rfl) (fun _ _ _ h => h) hHeld rfl ?_ ?_; rotate_left; (focus (intro w' hSw; go_simp; try with_reducible rfl)))
          (try simp only [Act.put, List.setIfInBounds_toArray, List.set_cons_zero, List.set_cons_succ])
          (refine takeH 4 42 (v := ?_) rfl rfl (by kernel_rfl) (by kernel_rfl) (by kernel_rfl) (fun _ _ _ h => h) hHeld rfl ?_ ?_; rotate_left; (focus (intro w' hSw; go_simp; try with_reducible rfl)))
          (try simp only [Act.put, List.setIfInBounds_toArray, List.set_cons_zero, List.set_cons_succ])
          (refine takeH 5 43 (v := ?_) rfl rfl (by kernel_rfl) (by kernel_rfl) (by kernel_rfl) (fun _ _ _ h => h) hHeld rfl ?_ ?_; rotate_left; (focus (intro w' hSw; go_simp; try with_reducible rfl)))
          (try simp only [Act.put, List.setIfInBounds_toArray, List.set_cons_zero, List.set_cons_succ])
          (refine takeH 6 44 (v := ?_) rfl rfl (by kernel_rfl) (by kernel_rfl) (by kernel_rfl) (fun _ _ _ h => h) hHeld rfl ?_ ?_; rotate_left; (focus (intro w' hSw; go_simp; try with_reducible rfl)))
          (try simp only [Act.put, List.setIfInBounds_toArray, List.set_cons_zero, List.set_cons_succ])
          (refine takeH 7 45 (v := ?_) rfl rfl (by kernel_rfl) (by kernel_rfl) (by kernel_rfl) (fun _ _ _ h => h) hHeld rfl ?_ ?_; rotate_left; (focus (intro w' hSw; go_simp; try with_reducible rfl)))
          (try simp only [Act.put, List.setIfInBounds_toArray, List.set_cons_zero, List.set_cons_succ])
          have hdl := HUD.out.blk.lt
          refine wpAnyH_ready (rs := [1, 8]) (by kernel_rfl) (by simp) ?_
          refine AllReadyH.cons rfl (fun K hK => ?_) (AllReadyH.cons rfl (fun K hK => ?_) AllReadyH.nil)
          · go_simp
            refine hK.out _ _ HOD.out (fun hHeld => ?_)
            clear hK K
            (try simp only [Act.put, List.setIfInBounds_toArray, List.set_cons_zero, List.set_cons_succ])
            refine wpAnyH_ready (rs := [8]) (by kernel_rfl) (by simp) ?_
            refine AllReadyH.cons rfl (fun K hK => ?_) AllReadyH.nil
            go_simp
            refine hK.out _ _ (HOD.out.alloc _) (fun hHeld => ?_)
            clear hK K
            (try simp only [Act.put, List.setIfInBounds_toArray, List.set_cons_zero, List.set_cons_succ])
            refine wpAnyH_ready (rs := [9]) (by kernel_rfl) (by simp) ?_
            refine AllReadyH.cons rfl (fun K hK => ?_) AllReadyH.nil
            refine Grow.step_push3 (y := x + 1) (cells := #[.int .i64 (x + 1)]) rfl _ _ 64 _ 8 rfl Try.underlying64 infoInt rfl (by decide) (by omega) HID.out (int_one HXR.out) rfl rfl (by rw [HLL.out]; omega) ?_
            intro v1 w9 hG9 o9
            obtain ⟨A1, c1, rfl, hc1⟩ := hG9.slice
            rw [List.length_append, HLL.out, List.length_singleton] at hG9
            rw [List.length_append, HLL.out, List.length_singleton]
            have HU9 := Aside0.mk (HUD.out.only o9 (HID.out.ne HUD.out.ty tIntT))
            have HC9 := Aside0.mk (HCD.out.only o9 HID.out.own_ge (HCD.out.ne2 HID.out tCellInt))
            have HG9 := Aside0.mk hG9
            have HO9 := Aside0.mk (HOD.out.trans (o9.mono (fun k hk => .inl (List.mem_cons_of_mem _ hk))))
            clear hG9 o9 hc1 y5
            refine hK.out _ _ HO9.out (fun hHeld => ?_)
            clear hK K
            (try simp only [Act.put, List.setIfInBounds_toArray, List.set_cons_zero, List.set_cons_succ])
            (refine takeH 10 48 (v := ?_) rfl rfl (by kernel_rfl) (by kernel_rfl) (by kernel_rfl) (fun _ _ _ h => h) hHeld rfl ?_ ?_; rotate_left; (focus (intro w' hSw; go_simp; try with_reducible rfl)))
            (try simp only [Act.put, List.setIfInBounds_toArray, List.set_cons_zero, List.set_cons_succ])
            obtain ⟨⟨_, _, _, _, _, y5, _⟩, _, _, _, _, _, f5, _⟩ := seven HU9.out.blk
            refine wpAnyH_ready (rs := [11]) (by kernel_rfl) (by simp) ?_
            refine AllReadyH.cons rfl (fun K hK => ?_) AllReadyH.nil
            go_simp
            refine hK.out _ _ (HO9.out.set _ (.inl (by simp))) (fun hHeld => ?_)
            clear hK K
            (try simp only [Act.put, List.setIfInBounds_toArray, List.set_cons_zero, List.set_cons_succ])
            refine wpAnyH_done (by kernel_rfl) ?_ _
            refine NoPanic.normal ?_
            go_wp2
            go_roundg (tok.length - (j + 1))
            case measure => have := HG.out; omega
            case rel => exact ⟨j + 1, _, by go_num, by omega, ⟨by omega⟩, ⟨HC9.out.setCell HU9.out.ty tCellT (Nat.le_refl _)⟩, ⟨by rw [← HMT.out]; exact HG9.out.setCell HU9.out.ty tIntT (Nat.le_refl _)⟩, ⟨HU9.out.set5 _⟩⟩
          · go_simp
            refine hK.out _ _ (HOD.out.alloc _) (fun hHeld => ?_)
            clear hK K
            (try simp only [Act.put, List.setIfInBounds_toArray, List.set_cons_zero, List.set_cons_succ])
            have y5a := cell_alloc y5
            refine wpAnyH_ready (rs := [1]) (by kernel_rfl) (by simp) ?_
            refine AllReadyH.cons rfl (fun K hK => ?_) AllReadyH.nil
            go_simp
            refine hK.out _ _ (HOD.out.alloc _) (fun hHeld => ?_)
            clear hK K
            (try simp only [Act.put, List.setIfInBounds_toArray, List.set_cons_zero, List.set_cons_succ])
            refine wpAnyH_ready (rs := [9]) (by kernel_rfl) (by simp) ?_
            refine AllReadyH.cons rfl (fun K hK => ?_) AllReadyH.nil
            refine Grow.step_push3 (y := x + 1) (cells := #[.int .i64 (x + 1)]) rfl _ _ 64 _ 8 rfl Try.underlying64 infoInt rfl (by decide) (by omega) HID.out (int_one HXR.out) rfl rfl (by rw [HLL.out]; omega) ?_
            intro v1 w9 hG9 o9
            obtain ⟨A1, c1, rfl, hc1⟩ := hG9.slice
            rw [List.length_append, HLL.out, List.length_singleton] at hG9
            rw [List.length_append, HLL.out, List.length_singleton]
            have HU9 := Aside0.mk (HUD.out.only o9 (HID.out.ne HUD.out.ty tIntT))
            have HC9 := Aside0.mk (HCD.out.only o9 HID.out.own_ge (HCD.out.ne2 HID.out tCellInt))
            have HG9 := Aside0.mk hG9
            have HO9 := Aside0.mk (HOD.out.trans (o9.mono (fun k hk => .inl (List.mem_cons_of_mem _ hk))))
            clear hG9 o9 hc1 y5
            refine hK.out _ _ HO9.out (fun hHeld => ?_)
            clear hK K
            (try simp only [Act.put, List.setIfInBounds_toArray, List.set_cons_zero, List.set_cons_succ])
            (refine takeH 10 48 (v := ?_) rfl rfl (by kernel_rfl) (by kernel_rfl) (by kernel_rfl) (fun _ _ _ h => h) hHeld rfl ?_ ?_; rotate_left; (focus (intro w' hSw; go_simp; try with_reducible rfl)))
            (try simp only [Act.put, List.setIfInBounds_toArray, List.set_cons_zero, List.set_cons_succ])
            obtain ⟨⟨_, _, _, _, _, y5, _⟩, _, _, _, _, _, f5, _⟩ := seven HU9.out.blk
            refine wpAnyH_ready (rs := [11]) (by kernel_rfl) (by simp) ?_
            refine AllReadyH.cons rfl (fun K hK => ?_) AllReadyH.nil
            go_simp
            refine hK.out _ _ (HO9.out.set _ (.inl (by simp))) (fun hHeld => ?_)
            clear hK K
            (try simp only [Act.put, List.setIfInBounds_toArray, List.set_cons_zero, List.set_cons_succ])
            refine wpAnyH_done (by kernel_rfl) ?_ _
            refine NoPanic.normal ?_
            go_wp2
            go_roundg (tok.length - (j + 1))
            case measure => have := HG.out; omega
            case rel => exact ⟨j + 1, _, by go_num, by omega, ⟨by omega⟩, ⟨HC9.out.setCell HU9.out.ty tCellT (Nat.le_refl _)⟩, ⟨by rw [← HMT.out]; exact HG9.out.setCell HU9.out.ty tIntT (Nat.le_refl _)⟩, ⟨HU9.out.set5 _⟩⟩
        · obtain rfl : j = tok.length := by omega
          rw [List.take_length] at HRI
          obtain ⟨t2, ht2⟩ : ∃ t2, t2 = tok.map (· + 1) := ⟨_, rfl⟩
          rw [← ht2] at HRI
          have HT2 := Aside0.mk ht2
          clear ht2
          obtain ⟨A', c', rfl, hc', hF⟩ := HRC.out.foot
          obtain ⟨B', d', rfl, hd', hK⟩ := HRI.out.foot
          have HRT : Aside0 (RT wr (fun i => okb i ∨ W0.heap.size ≤ i) ⟨⟨ra, rz, rc, rd⟩, l2, t2, us⟩ A' c' B' d') := ⟨⟨hF, hK, hc', hd'⟩⟩
          clear hF hK hc' hd'
          obtain ⟨⟨r0, r1, r2, r3, r4, r5, r6⟩, g0, g1, g2, g3, g4, g5, g6⟩ := seven HXX.out.2
          go_wp2
          generalize hW9 : World.setCell _ _ _ = W9
          have h9 := ret7 (W9 := W9) (Below.then_ HB0.out HBX.out (Nat.le_refl _)) HXX.out.2 (by omega) HRT.out (ok := ok) (fun j hj => by rcases hj with hj | hj; have := HOK.out j hj; exact ⟨by omega, .inl this.1⟩; exact ⟨by omega, .inr (by omega)⟩) hW9
          clear hW9
          have H9 := Aside0.mk h9.2
          obtain ⟨z0, z1, z2, z3, z4, z5, z6⟩ := h9.1
          clear h9
          refine bodyPost_ret (v := .agg (rtc ⟨⟨ra, rz, rc, rd⟩, l2, t2, us⟩ A' c' B' d').toArray) (by simp [results, Try.results53, go_sem, z0, z1, z2, z3, z4, z5, z6, rtc]; try rfl) rfl ?_
          have hfe : forgetT ⟨⟨ra, rz, rc, rd⟩, l, tok, us⟩ = ⟨⟨ra, rz, rc, rd⟩, l2, t2, us⟩ := by rw [HL2.out, HT2.out]; rfl
          rw [hfe]
          exact ⟨A', c', B', d', rfl, H9.out.1, H9.out.2⟩
end RTab
end Go.Proofs.Ytgfjkpnaabiecaa
set_option linter.unusedVariables false
set_option linter.unusedSimpArgs false
namespace Go.Proofs.Ytgfjkpnaabiecaa
open Go.RowKit Go.Proofs.YtgfjkpnaabiecaaW.PrintWords
namespace RTab
open Tags Tab Cmp
/-- A function that hands a table and a reply over. -/
theorem ret78 {w W W9 : World} {ok okX : Nat → Prop} {T : Tb} {A B A5 : Option Addr} {c d c5 rb qb : Nat} {R : Reply} {u0 u1 u2 u3 u4 u5 u6 v0 v1 v2 v3 v4 v5 v6 v7 : Value} (hb : Below w.heap.size w W) (hr : Blk W rb [u0, u1, u2, u3, u4, u5, u6]) (hq : Blk W qb [v0, v1, v2, v3, v4, v5, v6, v7]) (hne : rb ≠ qb) (hrb : w.heap.size ≤ rb) (hqb : w.heap.size ≤ qb) (hT : RT W okX T A c B d) (hR : Kd.FK Reply.k W okX R (rcs R A5 c5)) (hk : ∀ i, okX i → i ≠ rb ∧ i ≠ qb ∧ (ok i ∨ w.heap.size ≤ i))
    (hW : set8 (set7 W rb (.int .i64 T.room.cells) (.int .i64 T.room.bytes) (.int .i64 T.room.buckets) (.bool T.room.fresh) (.slice A T.l.length c) (.slice B T.tok.length d) (.int .i64 T.uses)) qb (.string R.e.key) (.int .i64 R.e.tag.seq) (.int .i64 R.e.tag.who) (.int .i64 R.e.tag.op) (.bool R.e.val.has) (.slice A5 R.e.val.b.length c5) (.bool R.whole) (.int .i64 R.token) = W9) :
    ((W9.cell? ⟨rb, 0, none⟩ = some (.int .i64 T.room.cells) ∧ W9.cell? ⟨rb, 1, none⟩ = some (.int .i64 T.room.bytes) ∧ W9.cell? ⟨rb, 2, none⟩ = some (.int .i64 T.room.buckets) ∧ W9.cell? ⟨rb, 3, none⟩ = some (.bool T.room.fresh) ∧ W9.cell? ⟨rb, 4, none⟩ = some (.slice A T.l.length c) ∧ W9.cell? ⟨rb, 5, none⟩ = some (.slice B T.tok.length d) ∧ W9.cell? ⟨rb, 6, none⟩ = some (.int .i64 T.uses)) ∧
    (W9.cell? ⟨qb, 0, none⟩ = some (.string R.e.key) ∧ W9.cell? ⟨qb, 1, none⟩ = some (.int .i64 R.e.tag.seq) ∧ W9.cell? ⟨qb, 2, none⟩ = some (.int .i64 R.e.tag.who) ∧ W9.cell? ⟨qb, 3, none⟩ = some (.int .i64 R.e.tag.op) ∧ W9.cell? ⟨qb, 4, none⟩ = some (.bool R.e.val.has) ∧ W9.cell? ⟨qb, 5, none⟩ = some (.slice A5 R.e.val.b.length c5) ∧ W9.cell? ⟨qb, 6, none⟩ = some (.bool R.whole) ∧ W9.cell? ⟨qb, 7, none⟩ = some (.int .i64 R.token))) ∧
    RT W9 (fun i => ok i ∨ w.heap.size ≤ i) T A c B d ∧ Kd.FK Reply.k W9 (fun i => ok i ∨ w.heap.size ≤ i) R (rcs R A5 c5) ∧ Below w.heap.size w W9 := by
  subst hW
  obtain ⟨h1, h2, hO⟩ := two_set hr hq hne (.int .i64 T.room.cells) (.int .i64 T.room.bytes) (.int .i64 T.room.buckets) (.bool T.room.fresh) (.slice A T.l.length c) (.slice B T.tok.length d) (.int .i64 T.uses) (.string R.e.key) (.int .i64 R.e.tag.seq) (.int .i64 R.e.tag.who) (.int .i64 R.e.tag.op) (.bool R.e.val.has) (.slice A5 R.e.val.b.length c5) (.bool R.whole) (.int .i64 R.token)
  have hn : ∀ i, okX i → i ∉ [rb, qb] := fun i hi hm => by
    obtain ⟨k1, k2, _⟩ := hk i hi
    simp at hm
    omega
  refine ⟨⟨(seven h1).1, h2.eight.1⟩, (hT.only hO hn).mono (fun i hi => (hk i hi).2.2), Foot.mono (Foot.only hR hO hn) (fun i hi => (hk i hi).2.2), ?_⟩
  exact ((Only.of_below [rb, qb] hb).trans hO).below (by intro i hi; simp at hi; omega) (Nat.le_refl _)
/-- What Step leaves. -/
def StepR (w : World) (ok : Nat → Prop) (T : Tb) (x : Do) (e : Ending) (w' : World) : Prop :=
  ∃ A c B d A5 c5, e = .returned (.tuple #[.agg (rtc (Tab.stepT T x) A c B d).toArray, .agg (rcs (Tab.stepR T x) A5 c5).toArray, .bool (Tab.stepB T x), .int .i64 (Tab.stepE T x)]) ∧ RT w' (fun i => ok i ∨ w.heap.size ≤ i) (Tab.stepT T x) A c B d ∧ Kd.FK Reply.k w' (fun i => ok i ∨ w.heap.size ≤ i) (Tab.stepR T x) (rcs (Tab.stepR T x) A5 c5) ∧ Below w.heap.size w w'
set_option maxRecDepth 100000 in
set_option maxHeartbeats 2000000 in
theorem stepR_calls (T : Tb) (A : Option Addr) (c : Nat) (B : Option Addr) (d : Nat) (x : Do) (Ad : Option Addr) (cd : Nat) (n : Int) (ok : Nat → Prop) (w : World) (h : RT w ok T A c B d) (hw : Wf T n) (hn : n ≤ 1900000000000000000) (hF : Kd.FK Entry.k w ok x.e (ecs x.e Ad cd)) (hxl : x.e.val.b.length ≤ 140737488351232) :
    Calls Try.prog 30 #[.agg (rtc T A c B d).toArray, .agg (dcs x Ad cd).toArray] w (StepR w ok T x) := by
  have HT := Aside0.mk h.bound
  have HF := Aside0.mk (Foot.bound hF)
  have hks : x.e.key.size ≤ 140737488351232 := by obtain ⟨_, _, _, s0, _⟩ := Entry.open_ (Kd.FK_now hF); exact s0
  have HQ1 : Aside0 (∀ w' okx, RT w' okx T A c B d → Calls Try.prog 49 #[.agg (rtc T A c B d).toArray, .string x.e.key] w' (QueryR w' okx T x.e.key)) := ⟨fun w' okx h => queryR_calls T A c B d x.e.key n okx w' h hw (by omega) hks⟩
  have HQ2 : Aside0 (∀ w' okx, RT w' okx T A c B d → Kd.FK Entry.k w' okx x.e (ecs x.e Ad cd) → Calls Try.prog 50 #[.agg (rtc T A c B d).toArray, .agg (ecs x.e Ad cd).toArray] w' (MadeV w' okx (storeT T x.e) [.int .i64 (storeE T x.e)])) := ⟨fun w' okx h h2 => storeR_calls T A c B d x.e Ad cd n okx w' h hw hn h2 hxl⟩
  have HQ3 : Aside0 (∀ w' okx, RT w' okx T A c B d → Kd.FK Entry.k w' okx x.e (ecs x.e Ad cd) → Calls Try.prog 51 #[.agg (rtc T A c B d).toArray, .agg (ecs x.e Ad cd).toArray, .int .i64 x.token] w' (MadeV w' okx (fillT T x.e x.token) [.bool (fillB T x.e x.token), .int .i64 (fillE T x.e x.token)])) := ⟨fun w' okx h h2 => fillR_calls T A c B d x.e Ad cd x.token n okx w' h hw hn h2 hxl⟩
  have HQ4 : Aside0 (∀ w' okx, RT w' okx T A c B d → Calls Try.prog 52 #[.agg (rtc T A c B d).toArray, .string x.e.key, .agg #[.int .i64 x.e.tag.seq, .int .i64 x.e.tag.who, .int .i64 x.e.tag.op]] w' (MadeV w' okx (cleanT T x.e.key x.e.tag) [.bool (cleanOn T x.e.key x.e.tag).isSome])) := ⟨fun w' okx h => cleanR_calls T A c B d x.e.key x.e.tag n okx w' h hw hn⟩
  have HQ5 : Aside0 (∀ w' okx, RT w' okx T A c B d → Calls Try.prog 54 #[.agg (rtc T A c B d).toArray, .string x.e.key] w' (MadeV w' okx (evictT T x.e.key) [.bool (evictB T x.e.key)])) := ⟨fun w' okx h => evictR_calls T A c B d x.e.key n okx w' h hw hn⟩
  have HQ6 : Aside0 (∀ w' okx, RT w' okx T A c B d → Calls Try.prog 53 #[.agg (rtc T A c B d).toArray] w' (MadeT w' okx (forgetT T))) := ⟨fun w' okx h => forgetR_calls T A c B d n okx w' h hw hn⟩
  obtain ⟨xT, hxT⟩ : ∃ t, t = Tab.stepT T x := ⟨_, rfl⟩
  obtain ⟨xR, hxR⟩ : ∃ t, t = Tab.stepR T x := ⟨_, rfl⟩
  obtain ⟨xB, hxB⟩ : ∃ t, t = Tab.stepB T x := ⟨_, rfl⟩
  obtain ⟨xE, hxE⟩ : ∃ t, t = Tab.stepE T x := ⟨_, rfl⟩
  have HSP : Aside0 (StepR w ok T x = fun e w' => ∃ A c B d A5 c5, e = .returned (.tuple #[.agg (rtc xT A c B d).toArray, .agg (rcs xR A5 c5).toArray, .bool xB, .int .i64 xE]) ∧ RT w' (fun i => ok i ∨ w.heap.size ≤ i) xT A c B d ∧ Kd.FK Reply.k w' (fun i => ok i ∨ w.heap.size ≤ i) xR (rcs xR A5 c5) ∧ Below w.heap.size w w') := ⟨by rw [hxT, hxR, hxB, hxE]; rfl⟩
  rw [HSP.out]
  clear HSP
  have H1 : Aside0 (x.kind = 1 → xT = queryT T x.e.key ∧ xR = queryR T x.e.key ∧ xB = false ∧ xE = queryE x.e.key) := ⟨fun h => by rw [hxT, hxR, hxB, hxE]; unfold Tab.stepT Tab.stepR Tab.stepB Tab.stepE; simp [h]⟩
  have H2 : Aside0 (x.kind = 2 → xT = storeT T x.e ∧ xR = Reply.z ∧ xB = false ∧ xE = storeE T x.e) := ⟨fun h => by rw [hxT, hxR, hxB, hxE]; unfold Tab.stepT Tab.stepR Tab.stepB Tab.stepE; simp [h]⟩
  have H3 : Aside0 (x.kind = 3 → xT = fillT T x.e x.token ∧ xR = Reply.z ∧ xB = fillB T x.e x.token ∧ xE = fillE T x.e x.token) := ⟨fun h => by rw [hxT, hxR, hxB, hxE]; unfold Tab.stepT Tab.stepR Tab.stepB Tab.stepE; simp [h]⟩
  have H4 : Aside0 (x.kind = 4 → xT = cleanT T x.e.key x.e.tag ∧ xR = Reply.z ∧ xB = (cleanOn T x.e.key x.e.tag).isSome ∧ xE = 0) := ⟨fun h => by rw [hxT, hxR, hxB, hxE]; unfold Tab.stepT Tab.stepR Tab.stepB Tab.stepE; simp [h]⟩
  have H6 : Aside0 (x.kind = 6 → xT = forgetT T ∧ xR = Reply.z ∧ xB = false ∧ xE = 0) := ⟨fun h => by rw [hxT, hxR, hxB, hxE]; unfold Tab.stepT Tab.stepR Tab.stepB Tab.stepE; simp [h]⟩
  have H5 : Aside0 (x.kind ≠ 1 ∧ x.kind ≠ 2 ∧ x.kind ≠ 3 ∧ x.kind ≠ 4 ∧ x.kind ≠ 6 → xT = evictT T x.e.key ∧ xR = Reply.z ∧ xB = evictB T x.e.key ∧ xE = 0) := ⟨fun h => by obtain ⟨h1, h2, h3, h4, h5⟩ := h; rw [hxT, hxR, hxB, hxE]; unfold Tab.stepT Tab.stepR Tab.stepB Tab.stepE; simp [h1, h2, h3, h4, h5]⟩
  clear hxT hxR hxB hxE hw h hF
  obtain ⟨⟨ra, rz, rc, rd⟩, l, tok, us⟩ := T
  obtain ⟨xk, ⟨ek, ⟨a1, a2, a3⟩, ⟨eh, eb⟩⟩, xt⟩ := x
  dsimp only [rtc, ecs, dcs] at *
  go_enter Try.func30, Try.ntmps30
  go_upto_region 1 with (fail)
  generalize hX : World.alloc _ _ = W0
  have HB0 : Aside0 (Below w.heap.size w W0) := ⟨by rw [← hX]; exact below_alloc (below_alloc (below_alloc (below_alloc (Below.refl _ _) _) _) _) _⟩
  have HX : Aside0 (Blk W0 w.heap.size [.int .i64 ra, .int .i64 rz, .int .i64 rc, .bool rd, .slice A l.length c, .slice B tok.length d, .int .i64 us] ∧ Blk W0 (w.heap.size + 1) [.int .i64 xk, .string ek, .int .i64 a1, .int .i64 a2, .int .i64 a3, .bool eh, .slice Ad eb.length cd, .int .i64 xt] ∧ Blk W0 (w.heap.size + 2) [.int .i64 0, .int .i64 0, .int .i64 0, .bool false, .slice none 0 0, .slice none 0 0, .int .i64 0] ∧ Blk W0 (w.heap.size + 3) [.string ByteArray.empty, .int .i64 0, .int .i64 0, .int .i64 0, .bool false, .slice none 0 0, .bool false, .int .i64 0]) := ⟨by rw [← hX]; exact ⟨(((Blk.new_ _ _ _ rfl rfl).alloc _).alloc _).alloc _, ((Blk.new_ _ _ _ (by simp) rfl).alloc _).alloc _, (Blk.new_ _ _ _ (by simp) rfl).alloc _, Blk.new_ _ _ _ (by simp) rfl⟩⟩
  have hs4 : w.heap.size + 4 ≤ W0.heap.size := by have := HX.out.2.2.2.lt; omega
  have HT0 := Aside0.mk (HT.out.below HB0.out)
  have HF0 : Aside0 (Kd.FK Entry.k W0 _ _ _) := ⟨Foot.step HF.out (fun i _ hlt => HB0.out.block i hlt)⟩
  have HQ1 := Aside0.mk (HQ1.out W0 _ HT0.out)
  have HQ2 := Aside0.mk (HQ2.out W0 _ HT0.out HF0.out)
  have HQ3 := Aside0.mk (HQ3.out W0 _ HT0.out HF0.out)
  have HQ4 := Aside0.mk (HQ4.out W0 _ HT0.out)
  have HQ5 := Aside0.mk (HQ5.out W0 _ HT0.out)
  have HQ6 := Aside0.mk (HQ6.out W0 _ HT0.out)
  clear hX
  obtain ⟨⟨x0, x1, x2, x3, x4, x5, x6⟩, _⟩ := seven HX.out.1
  obtain ⟨⟨k0, k1, k2, k3, k4, k5, k6, k7⟩, _⟩ := HX.out.2.1.eight
  have hne : w.heap.size + 2 ≠ w.heap.size + 3 := by omega
  by_cases h1 : xk = 1
  · subst h1
    have HS := Aside0.mk (H1.out rfl)
    have hq := HQ1.out
    unfold QueryR at hq
    rw [← HS.out.1, ← HS.out.2.1, ← HS.out.2.2.2] at hq
    have HQ := Aside0.mk hq
    clear hq
    go_upto_region 4 with (first | ((with_reducible refine HQ.out.mono ?_); rintro r w4 ⟨A4, c4, B4, d4, A5, c5, rfl, hR, hR2, hb⟩; have HR4 := Aside0.mk (And.intro hR hR2); have HB4 := Aside0.mk hb; clear hR hR2 hb))
    generalize hX5 : World.alloc _ _ = W5
    have HB5 : Aside0 (Below w4.heap.size w4 W5) := ⟨by rw [← hX5]; exact below_alloc (below_alloc (Below.refl _ _) _) _⟩
    have HX5 : Aside0 (Blk W5 w4.heap.size (rtc xT A4 c4 B4 d4) ∧ Blk W5 (w4.heap.size + 1) (rcs xR A5 c5)) := ⟨by rw [← hX5]; exact ⟨(Blk.new_ _ _ _ rfl rfl).alloc _, Blk.new_ _ _ _ (by simp) rfl⟩⟩
    have HBW5 := Aside0.mk (Below.then_ HB4.out HB5.out (Nat.le_refl _))
    have HR5 := Aside0.mk (HR4.out.1.below HB5.out)
    have HRR5 : Aside0 (Kd.FK Reply.k W5 _ xR (rcs xR A5 c5)) := ⟨Foot.step HR4.out.2 (fun i _ hlt => HB5.out.block i hlt)⟩
    have HY5 := Aside0.mk (HX.out.2.2.1.on HBW5.out)
    have HZ5 := Aside0.mk (HX.out.2.2.2.on HBW5.out)
    have s4 := HB4.out.size
    clear hX5 x0 x1 x2 x3 x4 x5 x6 k0 k1 k2 k3 k4 k5 k6 k7
    obtain ⟨⟨x0, x1, x2, x3, x4, x5, x6⟩, _⟩ := seven HX5.out.1
    obtain ⟨⟨k0, k1, k2, k3, k4, k5, k6, k7⟩, _⟩ := HX5.out.2.eight
    obtain ⟨⟨r0, r1, r2, r3, r4, r5, r6⟩, g0, g1, g2, g3, g4, g5, g6⟩ := seven HY5.out
    obtain ⟨⟨q0, q1, q2, q3, q4, q5, q6, q7⟩, p0, p1, p2, p3, p4, p5, p6, p7⟩ := HZ5.out.eight
    have s5 := HX5.out.2.lt
    have hl5 : w4.heap.size < W5.heap.size := by omega
    have x0 := fun w' (h : Only [w.heap.size + 2, w.heap.size + 3] W5 w') => (h.cell (World.block_lt_of_cell? _ _ x0) (by simp; try omega)).trans x0
    have x1 := fun w' (h : Only [w.heap.size + 2, w.heap.size + 3] W5 w') => (h.cell (World.block_lt_of_cell? _ _ x1) (by simp; try omega)).trans x1
    have x2 := fun w' (h : Only [w.heap.size + 2, w.heap.size + 3] W5 w') => (h.cell (World.block_lt_of_cell? _ _ x2) (by simp; try omega)).trans x2
    have x3 := fun w' (h : Only [w.heap.size + 2, w.heap.size + 3] W5 w') => (h.cell (World.block_lt_of_cell? _ _ x3) (by simp; try omega)).trans x3
    have x4 := fun w' (h : Only [w.heap.size + 2, w.heap.size + 3] W5 w') => (h.cell (World.block_lt_of_cell? _ _ x4) (by simp; try omega)).trans x4
    have x5 := fun w' (h : Only [w.heap.size + 2, w.heap.size + 3] W5 w') => (h.cell (World.block_lt_of_cell? _ _ x5) (by simp; try omega)).trans x5
    have x6 := fun w' (h : Only [w.heap.size + 2, w.heap.size + 3] W5 w') => (h.cell (World.block_lt_of_cell? _ _ x6) (by simp; try omega)).trans x6
    have k0 := fun w' (h : Only [w.heap.size + 2, w.heap.size + 3] W5 w') => (h.cell (World.block_lt_of_cell? _ _ k0) (by simp; try omega)).trans k0
    have k1 := fun w' (h : Only [w.heap.size + 2, w.heap.size + 3] W5 w') => (h.cell (World.block_lt_of_cell? _ _ k1) (by simp; try omega)).trans k1
    have k2 := fun w' (h : Only [w.heap.size + 2, w.heap.size + 3] W5 w') => (h.cell (World.block_lt_of_cell? _ _ k2) (by simp; try omega)).trans k2
    have k3 := fun w' (h : Only [w.heap.size + 2, w.heap.size + 3] W5 w') => (h.cell (World.block_lt_of_cell? _ _ k3) (by simp; try omega)).trans k3
    have k4 := fun w' (h : Only [w.heap.size + 2, w.heap.size + 3] W5 w') => (h.cell (World.block_lt_of_cell? _ _ k4) (by simp; try omega)).trans k4
    have k5 := fun w' (h : Only [w.heap.size + 2, w.heap.size + 3] W5 w') => (h.cell (World.block_lt_of_cell? _ _ k5) (by simp; try omega)).trans k5
    have k6 := fun w' (h : Only [w.heap.size + 2, w.heap.size + 3] W5 w') => (h.cell (World.block_lt_of_cell? _ _ k6) (by simp; try omega)).trans k6
    have k7 := fun w' (h : Only [w.heap.size + 2, w.heap.size + 3] W5 w') => (h.cell (World.block_lt_of_cell? _ _ k7) (by simp; try omega)).trans k7
    obtain ⟨wd, hD⟩ : ∃ wd, wd = World.drew W5 := ⟨_, rfl⟩
    have HBD : Aside0 (Below W5.heap.size W5 wd) := ⟨by rw [hD]; exact below_drew (Below.refl _ _)⟩
    have HY5 := Aside0.mk (HY5.out.on HBD.out)
    have HZ5 := Aside0.mk (HZ5.out.on HBD.out)
    have HR5 := Aside0.mk (HR5.out.below HBD.out)
    have HRR5 : Aside0 (Kd.FK Reply.k wd _ xR (rcs xR A5 c5)) := ⟨Foot.step HRR5.out (fun i _ hlt => HBD.out.block i hlt)⟩
    clear r0 r1 r2 r3 r4 r5 r6 g0 g1 g2 g3 g4 g5 g6 q0 q1 q2 q3 q4 q5 q6 q7 p0 p1 p2 p3 p4 p5 p6 p7
    obtain ⟨⟨r0, r1, r2, r3, r4, r5, r6⟩, g0, g1, g2, g3, g4, g5, g6⟩ := seven HY5.out
    obtain ⟨⟨q0, q1, q2, q3, q4, q5, q6, q7⟩, p0, p1, p2, p3, p4, p5, p6, p7⟩ := HZ5.out.eight
    refine wp_region_noPanic ?_
    refine wp_region_held_drew (S := Only [w.heap.size + 2, w.heap.size + 3] W5) (by kernel_rfl) ((Only.refl _ _).drew) (fun hHeld => ?_)
    rw [← hD]
    clear hD hHeld
    have hHeld := Only.of_below [w.heap.size + 2, w.heap.size + 3] HBD.out
    (refine takeH 0 33 (v := ?_) rfl rfl (by kernel_rfl) (by kernel_rfl) (by kernel_rfl) (fun _ _ _ h => h) hHeld rfl ?_ ?_; rotate_left; (focus (intro w' hSw; go_simp; try with_reducible rfl)))
    (try simp only [Act.put, List.setIfInBounds_toArray, List.set_cons_zero, List.set_cons_succ])
    (refine takeH 1 34 (v := ?_) rfl rfl (by kernel_rfl) (by kernel_rfl) (by kernel_rfl) (fun _ _ _ h => h) hHeld rfl ?_ ?_; rotate_left; (focus (intro w' hSw; go_simp; try with_reducible rfl)))
    (try simp only [Act.put, List.setIfInBounds_toArray, List.set_cons_zero, List.set_cons_succ])
    (refine takeH 2 35 (v := ?_) rfl rfl (by kernel_rfl) (by kernel_rfl) (by kernel_rfl) (fun _ _ _ h => h) hHeld rfl ?_ ?_; rotate_left; (focus (intro w' hSw; go_simp; try with_reducible rfl)))
    (try simp only [Act.put, List.setIfInBounds_toArray, List.set_cons_zero, List.set_cons_succ])
    refine wpAnyH_ready (rs := [3]) (by kernel_rfl) (by simp) ?_
    refine AllReadyH.cons rfl (fun K hK => ?_) AllReadyH.nil
    go_simp
    refine hK.out _ _ (((((((((Only.of_below [w.heap.size + 2, w.heap.size + 3] HBD.out).set _ (.inl (by simp))).set _ (.inl (by simp))).set _ (.inl (by simp))).set _ (.inl (by simp))).set _ (.inl (by simp))).set _ (.inl (by simp))).set _ (.inl (by simp)))) (fun hHeld => ?_)
    clear hK K
    (try simp only [Act.put, List.setIfInBounds_toArray, List.set_cons_zero, List.set_cons_succ])
    refine wpAnyH_ready (rs := [4]) (by kernel_rfl) (by simp) ?_
    refine AllReadyH.cons rfl (fun K hK => ?_) AllReadyH.nil
    go_simp
    refine hK.out _ _ (((((((((((((((((Only.of_below [w.heap.size + 2, w.heap.size + 3] HBD.out).set _ (.inl (by simp))).set _ (.inl (by simp))).set _ (.inl (by simp))).set _ (.inl (by simp))).set _ (.inl (by simp))).set _ (.inl (by simp))).set _ (.inl (by simp))).set _ (.inl (by simp))).set _ (.inl (by simp))).set _ (.inl (by simp))).set _ (.inl (by simp))).set _ (.inl (by simp))).set _ (.inl (by simp))).set _ (.inl (by simp))).set _ (.inl (by simp)))) (fun hHeld => ?_)
    clear hK K
    (try simp only [Act.put, List.setIfInBounds_toArray, List.set_cons_zero, List.set_cons_succ])
    (refine takeH 5 6 (v := ?_) rfl rfl (by kernel_rfl) (by kernel_rfl) (by kernel_rfl) (fun _ _ _ h => h) hHeld rfl ?_ ?_; rotate_left; (focus (intro w' hSw; go_simp; try with_reducible rfl)))
    (try simp only [Act.put, List.setIfInBounds_toArray, List.set_cons_zero, List.set_cons_succ])
    (refine takeH 6 7 (v := ?_) rfl rfl (by kernel_rfl) (by kernel_rfl) (by kernel_rfl) (fun _ _ _ h => h) hHeld rfl ?_ ?_; rotate_left; (focus (intro w' hSw; go_simp; try with_reducible rfl)))
    (try simp only [Act.put, List.setIfInBounds_toArray, List.set_cons_zero, List.set_cons_succ])
    refine wpAnyH_done (by kernel_rfl) ?_ _
    refine NoPanic.normal ?_
    go_wp2
    generalize hW9 : World.setCell _ _ _ = W9
    have h9 := ret78 (W9 := W9) (R := xR) (ok := ok) (Below.then_ (Below.then_ HB0.out HBW5.out (Nat.le_refl _)) HBD.out (Nat.le_refl _)) HY5.out HZ5.out hne (by omega) (by omega) HR5.out HRR5.out (fun i hi => by rcases hi with hi | hi; exact ⟨by have := hi.2; omega, by have := hi.2; omega, .inl hi.1⟩; exact ⟨by omega, by omega, .inr (by omega)⟩) hW9
    clear hW9
    have H9 := Aside0.mk h9.2
    obtain ⟨⟨z0, z1, z2, z3, z4, z5, z6⟩, y0, y1, y2, y3, y4, y5, y6, y7⟩ := h9.1
    clear h9
    refine bodyPost_ret (v := .tuple #[.agg (rtc xT A4 c4 B4 d4).toArray, .agg (rcs xR A5 c5).toArray, .bool false, .int .i64 xE]) (by simp [results, Try.results30, go_sem, z0, z1, z2, z3, z4, z5, z6, y0, y1, y2, y3, y4, y5, y6, y7, rtc, rcs]; try rfl) rfl ?_
    rw [HS.out.2.2.1]
    exact ⟨A4, c4, B4, d4, A5, c5, rfl, H9.out.1, H9.out.2.1, H9.out.2.2⟩
  by_cases h2 : xk = 2
  · subst h2
    have HS := Aside0.mk (H2.out rfl)
    have hq := HQ2.out
    rw [← HS.out.1, ← HS.out.2.2.2] at hq
    unfold MadeV at hq
    have HQ := Aside0.mk hq
    clear hq
    go_upto_region 7 with (first | ((with_reducible refine HQ.out.mono ?_); rintro r w4 ⟨A4, c4, B4, d4, rfl, hR, hb⟩; have HR4 := Aside0.mk hR; have HB4 := Aside0.mk hb; clear hR hb))
    generalize hX5 : World.alloc _ _ = W5
    have HB5 : Aside0 (Below w4.heap.size w4 W5) := ⟨by rw [← hX5]; exact below_alloc (Below.refl _ _) _⟩
    have HX5 : Aside0 (Blk W5 w4.heap.size (rtc xT A4 c4 B4 d4)) := ⟨by rw [← hX5]; exact Blk.new_ _ _ _ rfl rfl⟩
    have HBW5 := Aside0.mk (Below.then_ HB4.out HB5.out (Nat.le_refl _))
    have HR5 := Aside0.mk (HR4.out.below HB5.out)
    have HY5 := Aside0.mk (HX.out.2.2.1.on HBW5.out)
    have HZ5 := Aside0.mk (HX.out.2.2.2.on HBW5.out)
    have s4 := HB4.out.size
    clear hX5 x0 x1 x2 x3 x4 x5 x6 k0 k1 k2 k3 k4 k5 k6 k7
    obtain ⟨⟨x0, x1, x2, x3, x4, x5, x6⟩, _⟩ := seven HX5.out
    obtain ⟨⟨r0, r1, r2, r3, r4, r5, r6⟩, g0, g1, g2, g3, g4, g5, g6⟩ := seven HY5.out
    obtain ⟨⟨q0, q1, q2, q3, q4, q5, q6, q7⟩, p0, p1, p2, p3, p4, p5, p6, p7⟩ := HZ5.out.eight
    go_wp2
    generalize hW9 : World.setCell _ _ _ = W9
    have h9 := ret78 (W9 := W9) (R := Reply.z) (ok := ok) (Below.then_ HB0.out HBW5.out (Nat.le_refl _)) HY5.out HZ5.out hne (by omega) (by omega) HR5.out (fk_repz _ _) (fun i hi => by rcases hi with hi | hi; exact ⟨by have := hi.2; omega, by have := hi.2; omega, .inl hi.1⟩; exact ⟨by omega, by omega, .inr (by omega)⟩) hW9
    clear hW9
    have H9 := Aside0.mk h9.2
    obtain ⟨⟨z0, z1, z2, z3, z4, z5, z6⟩, y0, y1, y2, y3, y4, y5, y6, y7⟩ := h9.1
    clear h9
    refine bodyPost_ret (v := .tuple #[.agg (rtc xT A4 c4 B4 d4).toArray, .agg (rcs Reply.z none 0).toArray, .bool false, .int .i64 xE]) (by simp [results, Try.results30, go_sem, z0, z1, z2, z3, z4, z5, z6, y0, y1, y2, y3, y4, y5, y6, y7, rtc, rcs]; try rfl) rfl ?_
    rw [HS.out.2.1, HS.out.2.2.1]
    exact ⟨A4, c4, B4, d4, none, 0, rfl, H9.out.1, H9.out.2.1, H9.out.2.2⟩
  by_cases h3 : xk = 3
  · subst h3
    have HS := Aside0.mk (H3.out rfl)
    have hq := HQ3.out
    rw [← HS.out.1, ← HS.out.2.2.1, ← HS.out.2.2.2] at hq
    unfold MadeV at hq
    have HQ := Aside0.mk hq
    clear hq
    go_upto_region 10 with (first | ((with_reducible refine HQ.out.mono ?_); rintro r w4 ⟨A4, c4, B4, d4, rfl, hR, hb⟩; have HR4 := Aside0.mk hR; have HB4 := Aside0.mk hb; clear hR hb))
    generalize hX5 : World.alloc _ _ = W5
    have HB5 : Aside0 (Below w4.heap.size w4 W5) := ⟨by rw [← hX5]; exact below_alloc (Below.refl _ _) _⟩
    have HX5 : Aside0 (Blk W5 w4.heap.size (rtc xT A4 c4 B4 d4)) := ⟨by rw [← hX5]; exact Blk.new_ _ _ _ rfl rfl⟩
    have HBW5 := Aside0.mk (Below.then_ HB4.out HB5.out (Nat.le_refl _))
    have HR5 := Aside0.mk (HR4.out.below HB5.out)
    have HY5 := Aside0.mk (HX.out.2.2.1.on HBW5.out)
    have HZ5 := Aside0.mk (HX.out.2.2.2.on HBW5.out)
    have s4 := HB4.out.size
    clear hX5 x0 x1 x2 x3 x4 x5 x6 k0 k1 k2 k3 k4 k5 k6 k7
    obtain ⟨⟨x0, x1, x2, x3, x4, x5, x6⟩, _⟩ := seven HX5.out
    obtain ⟨⟨r0, r1, r2, r3, r4, r5, r6⟩, g0, g1, g2, g3, g4, g5, g6⟩ := seven HY5.out
    obtain ⟨⟨q0, q1, q2, q3, q4, q5, q6, q7⟩, p0, p1, p2, p3, p4, p5, p6, p7⟩ := HZ5.out.eight
    go_wp2
    generalize hW9 : World.setCell _ _ _ = W9
    have h9 := ret78 (W9 := W9) (R := Reply.z) (ok := ok) (Below.then_ HB0.out HBW5.out (Nat.le_refl _)) HY5.out HZ5.out hne (by omega) (by omega) HR5.out (fk_repz _ _) (fun i hi => by rcases hi with hi | hi; exact ⟨by have := hi.2; omega, by have := hi.2; omega, .inl hi.1⟩; exact ⟨by omega, by omega, .inr (by omega)⟩) hW9
    clear hW9
    have H9 := Aside0.mk h9.2
    obtain ⟨⟨z0, z1, z2, z3, z4, z5, z6⟩, y0, y1, y2, y3, y4, y5, y6, y7⟩ := h9.1
    clear h9
    refine bodyPost_ret (v := .tuple #[.agg (rtc xT A4 c4 B4 d4).toArray, .agg (rcs Reply.z none 0).toArray, .bool xB, .int .i64 xE]) (by simp [results, Try.results30, go_sem, z0, z1, z2, z3, z4, z5, z6, y0, y1, y2, y3, y4, y5, y6, y7, rtc, rcs]; try rfl) rfl ?_
    rw [HS.out.2.1]
    exact ⟨A4, c4, B4, d4, none, 0, rfl, H9.out.1, H9.out.2.1, H9.out.2.2⟩
  by_cases h4 : xk = 4
  · subst h4
    have HS := Aside0.mk (H4.out rfl)
    have hq := HQ4.out
    rw [← HS.out.1, ← HS.out.2.2.1] at hq
    unfold MadeV at hq
    have HQ := Aside0.mk hq
    clear hq
    go_upto_region 13 with (first | ((with_reducible refine HQ.out.mono ?_); rintro r w4 ⟨A4, c4, B4, d4, rfl, hR, hb⟩; have HR4 := Aside0.mk hR; have HB4 := Aside0.mk hb; clear hR hb))
    generalize hX5 : World.alloc _ _ = W5
    have HB5 : Aside0 (Below w4.heap.size w4 W5) := ⟨by rw [← hX5]; exact below_alloc (Below.refl _ _) _⟩
    have HX5 : Aside0 (Blk W5 w4.heap.size (rtc xT A4 c4 B4 d4)) := ⟨by rw [← hX5]; exact Blk.new_ _ _ _ rfl rfl⟩
    have HBW5 := Aside0.mk (Below.then_ HB4.out HB5.out (Nat.le_refl _))
    have HR5 := Aside0.mk (HR4.out.below HB5.out)
    have HY5 := Aside0.mk (HX.out.2.2.1.on HBW5.out)
    have HZ5 := Aside0.mk (HX.out.2.2.2.on HBW5.out)
    have s4 := HB4.out.size
    clear hX5 x0 x1 x2 x3 x4 x5 x6 k0 k1 k2 k3 k4 k5 k6 k7
    obtain ⟨⟨x0, x1, x2, x3, x4, x5, x6⟩, _⟩ := seven HX5.out
    obtain ⟨⟨r0, r1, r2, r3, r4, r5, r6⟩, g0, g1, g2, g3, g4, g5, g6⟩ := seven HY5.out
    obtain ⟨⟨q0, q1, q2, q3, q4, q5, q6, q7⟩, p0, p1, p2, p3, p4, p5, p6, p7⟩ := HZ5.out.eight
    go_wp2
    generalize hW9 : World.setCell _ _ _ = W9
    have h9 := ret78 (W9 := W9) (R := Reply.z) (ok := ok) (Below.then_ HB0.out HBW5.out (Nat.le_refl _)) HY5.out HZ5.out hne (by omega) (by omega) HR5.out (fk_repz _ _) (fun i hi => by rcases hi with hi | hi; exact ⟨by have := hi.2; omega, by have := hi.2; omega, .inl hi.1⟩; exact ⟨by omega, by omega, .inr (by omega)⟩) hW9
    clear hW9
    have H9 := Aside0.mk h9.2
    obtain ⟨⟨z0, z1, z2, z3, z4, z5, z6⟩, y0, y1, y2, y3, y4, y5, y6, y7⟩ := h9.1
    clear h9
    refine bodyPost_ret (v := .tuple #[.agg (rtc xT A4 c4 B4 d4).toArray, .agg (rcs Reply.z none 0).toArray, .bool xB, .int .i64 0]) (by simp [results, Try.results30, go_sem, z0, z1, z2, z3, z4, z5, z6, y0, y1, y2, y3, y4, y5, y6, y7, rtc, rcs]; try rfl) rfl ?_
    rw [HS.out.2.1, HS.out.2.2.2]
    exact ⟨A4, c4, B4, d4, none, 0, rfl, H9.out.1, H9.out.2.1, H9.out.2.2⟩
  by_cases h6 : xk = 6
  · subst h6
    have HS := Aside0.mk (H6.out rfl)
    have hq := HQ6.out
    rw [← HS.out.1] at hq
    unfold MadeT at hq
    have HQ := Aside0.mk hq
    clear hq k1 k2 k3 k4 k5 k6 k7
    go_wp2_with (first | ((with_reducible refine HQ.out.mono ?_); rintro r w4 ⟨A4, c4, B4, d4, rfl, hR, hb⟩; have HR4 := Aside0.mk hR; have HB4 := Aside0.mk hb; clear hR hb; have HY4 := Aside0.mk (HX.out.2.2.1.on HB4.out); have HZ4 := Aside0.mk (HX.out.2.2.2.on HB4.out); obtain ⟨⟨r0, r1, r2, r3, r4, r5, r6⟩, g0, g1, g2, g3, g4, g5, g6⟩ := seven HY4.out; obtain ⟨⟨q0, q1, q2, q3, q4, q5, q6, q7⟩, p0, p1, p2, p3, p4, p5, p6, p7⟩ := HZ4.out.eight))
    have s4 := HB4.out.size
    generalize hW9 : World.setCell _ _ _ = W9
    have h9 := ret78 (W9 := W9) (R := Reply.z) (ok := ok) (Below.then_ HB0.out HB4.out (Nat.le_refl _)) HY4.out HZ4.out hne (by omega) (by omega) HR4.out (fk_repz _ _) (fun i hi => by rcases hi with hi | hi; exact ⟨by have := hi.2; omega, by have := hi.2; omega, .inl hi.1⟩; exact ⟨by omega, by omega, .inr (by omega)⟩) hW9
    clear hW9
    have H9 := Aside0.mk h9.2
    obtain ⟨⟨z0, z1, z2, z3, z4, z5, z6⟩, y0, y1, y2, y3, y4, y5, y6, y7⟩ := h9.1
    clear h9
    refine bodyPost_ret (v := .tuple #[.agg (rtc xT A4 c4 B4 d4).toArray, .agg (rcs Reply.z none 0).toArray, .bool false, .int .i64 0]) (by simp [results, Try.results30, go_sem, z0, z1, z2, z3, z4, z5, z6, y0, y1, y2, y3, y4, y5, y6, y7, rtc, rcs]; try rfl) rfl ?_
    rw [HS.out.2.1, HS.out.2.2.1, HS.out.2.2.2]
    exact ⟨A4, c4, B4, d4, none, 0, rfl, H9.out.1, H9.out.2.1, H9.out.2.2⟩
  · have HS := Aside0.mk (H5.out ⟨h1, h2, h3, h4, h6⟩)
    have hq := HQ5.out
    rw [← HS.out.1, ← HS.out.2.2.1] at hq
    unfold MadeV at hq
    have HQ := Aside0.mk hq
    clear hq
    go_upto_region 17 with (first | ((with_reducible refine HQ.out.mono ?_); rintro r w4 ⟨A4, c4, B4, d4, rfl, hR, hb⟩; have HR4 := Aside0.mk hR; have HB4 := Aside0.mk hb; clear hR hb))
    generalize hX5 : World.alloc _ _ = W5
    have HB5 : Aside0 (Below w4.heap.size w4 W5) := ⟨by rw [← hX5]; exact below_alloc (Below.refl _ _) _⟩
    have HX5 : Aside0 (Blk W5 w4.heap.size (rtc xT A4 c4 B4 d4)) := ⟨by rw [← hX5]; exact Blk.new_ _ _ _ rfl rfl⟩
    have HBW5 := Aside0.mk (Below.then_ HB4.out HB5.out (Nat.le_refl _))
    have HR5 := Aside0.mk (HR4.out.below HB5.out)
    have HY5 := Aside0.mk (HX.out.2.2.1.on HBW5.out)
    have HZ5 := Aside0.mk (HX.out.2.2.2.on HBW5.out)
    have s4 := HB4.out.size
    clear hX5 x0 x1 x2 x3 x4 x5 x6 k0 k1 k2 k3 k4 k5 k6 k7
    obtain ⟨⟨x0, x1, x2, x3, x4, x5, x6⟩, _⟩ := seven HX5.out
    obtain ⟨⟨r0, r1, r2, r3, r4, r5, r6⟩, g0, g1, g2, g3, g4, g5, g6⟩ := seven HY5.out
    obtain ⟨⟨q0, q1, q2, q3, q4, q5, q6, q7⟩, p0, p1, p2, p3, p4, p5, p6, p7⟩ := HZ5.out.eight
    go_wp2
    generalize hW9 : World.setCell _ _ _ = W9
    have h9 := ret78 (W9 := W9) (R := Reply.z) (ok := ok) (Below.then_ HB0.out HBW5.out (Nat.le_refl _)) HY5.out HZ5.out hne (by omega) (by omega) HR5.out (fk_repz _ _) (fun i hi => by rcases hi with hi | hi; exact ⟨by have := hi.2; omega, by have := hi.2; omega, .inl hi.1⟩; exact ⟨by omega, by omega, .inr (by omega)⟩) hW9
    clear hW9
    have H9 := Aside0.mk h9.2
    obtain ⟨⟨z0, z1, z2, z3, z4, z5, z6⟩, y0, y1, y2, y3, y4, y5, y6, y7⟩ := h9.1
    clear h9
    refine bodyPost_ret (v := .tuple #[.agg (rtc xT A4 c4 B4 d4).toArray, .agg (rcs Reply.z none 0).toArray, .bool xB, .int .i64 0]) (by simp [results, Try.results30, go_sem, z0, z1, z2, z3, z4, z5, z6, y0, y1, y2, y3, y4, y5, y6, y7, rtc, rcs]; try rfl) rfl ?_
    rw [HS.out.2.1, HS.out.2.2.2]
    exact ⟨A4, c4, B4, d4, none, 0, rfl, H9.out.1, H9.out.2.1, H9.out.2.2⟩
end RTab
end Go.Proofs.Ytgfjkpnaabiecaa
set_option linter.unusedVariables false
set_option linter.unusedSimpArgs false
namespace Go.Proofs.Ytgfjkpnaabiecaa
open Go.RowKit Go.Proofs.YtgfjkpnaabiecaaW.PrintWords
namespace RTab
open Tags Tab Cmp
set_option maxRecDepth 100000 in
set_option maxHeartbeats 1000000 in
theorem sameAll_refl (l : List Entry) (A B : Option Addr) (c d : Nat) (w : World) (ha : Entry.k.C w A l.length l) (hb : Entry.k.C w B l.length l) :
    Calls Try.prog 32 #[.slice A l.length c, .slice B l.length d] w (Yes w) := by
  have HA := Aside0.mk ha
  have HB := Aside0.mk hb
  have hl : l.length ≤ 9223372036854775807 := ha.2.1
  clear ha hb
  go_enter Try.func32, Try.ntmps32
  go_wp2
  go_loopg [5] l.length (fun gk v wr => ∃ k : Nat, v = .int .i64 (k : Int) ∧ k ≤ l.length ∧ Aside0 (gk + k = l.length) ∧ Aside0 (Below w.heap.size w wr))
  case atStart => exact ⟨0, rfl, Nat.zero_le _, ⟨rfl⟩, ⟨Below.refl _ _⟩⟩
  case round =>
    obtain ⟨k, rfl, hk, HG, HR⟩ := hrel
    by_cases hlt : k < l.length
    · obtain ⟨a1, u, A5, c5, rfl, HU, x0, x1, x2, x3, x4, x5, HK⟩ := Entry.at_ (Kd.C_below HA.out HR.out) k hlt
      obtain ⟨a2, u', B5, d5, rfl, HU', y0, y1, y2, y3, y4, y5, HK'⟩ := Entry.at_ (Kd.C_below HB.out HR.out) k hlt
      obtain rfl : u' = u := Option.some.inj (HU'.out.symm.trans HU.out)
      have hltI : (k : Int) < (l.length : Int) := by omega
      have HSM : Aside0 (∀ w', Below wr.heap.size wr w' → Calls Try.prog 25 #[.agg #[.string u'.key, .int .i64 u'.tag.seq, .int .i64 u'.tag.who, .int .i64 u'.tag.op, .bool u'.val.has, .slice A5 u'.val.b.length c5], .agg #[.string u'.key, .int .i64 u'.tag.seq, .int .i64 u'.tag.who, .int .i64 u'.tag.op, .bool u'.val.has, .slice B5 u'.val.b.length d5]] w' (Yes w')) := ⟨fun w' hb => by
        obtain ⟨A6, c6, he, _, _, _, _, _, g5⟩ := Entry.open_ HK.out
        obtain ⟨B6, d6, he', _, _, _, _, _, g5'⟩ := Entry.open_ HK'.out
        simp only [List.cons.injEq, Value.slice.injEq, true_and, and_true] at he he'
        obtain ⟨rfl, rfl⟩ := he
        obtain ⟨rfl, rfl⟩ := he'
        exact same_refl u' A5 B5 c5 d5 w' (Kd.C_below g5 hb) (Kd.C_below g5' hb)⟩
      obtain ⟨uk, ⟨t1, t2, t3⟩, ⟨uh, ub⟩⟩ := u'
      dsimp only at x0 x1 x2 x3 x4 x5 y0 y1 y2 y3 y4 y5 HSM
      have x0 := fun w' (h : Below wr.heap.size wr w') => pw_cell_below h x0
      have x1 := fun w' (h : Below wr.heap.size wr w') => pw_cell_below h x1
      have x2 := fun w' (h : Below wr.heap.size wr w') => pw_cell_below h x2
      have x3 := fun w' (h : Below wr.heap.size wr w') => pw_cell_below h x3
      have x4 := fun w' (h : Below wr.heap.size wr w') => pw_cell_below h x4
      have x5 := fun w' (h : Below wr.heap.size wr w') => pw_cell_below h x5
      have y0 := fun w' (h : Below wr.heap.size wr w') => pw_cell_below h y0
      have y1 := fun w' (h : Below wr.heap.size wr w') => pw_cell_below h y1
      have y2 := fun w' (h : Below wr.heap.size wr w') => pw_cell_below h y2
      have y3 := fun w' (h : Below wr.heap.size wr w') => pw_cell_below h y3
      have y4 := fun w' (h : Below wr.heap.size wr w') => pw_cell_below h y4
      have y5 := fun w' (h : Below wr.heap.size wr w') => pw_cell_below h y5
      go_upto_region 6 with (fail)
      refine wp_region_noPanic ?_
      refine wp_region_held_drew (S := Below wr.heap.size wr) (by kernel_rfl) (below_drew (Below.refl _ _)) (fun hHeld => ?_)
      (refine takeH 0 17 (v := ?_) rfl rfl (by kernel_rfl) (by kernel_rfl) (by kernel_rfl) (fun _ _ _ h => h) hHeld rfl ?_ ?_; rotate_left; (focus (intro w' hSw; go_simp; try with_reducible rfl)))
      (try simp only [Act.put, List.setIfInBounds_toArray, List.set_cons_zero, List.set_cons_succ])
      (refine takeH 1 18 (v := ?_) rfl rfl (by kernel_rfl) (by kernel_rfl) (by kernel_rfl) (fun _ _ _ h => h) hHeld rfl ?_ ?_; rotate_left; (focus (intro w' hSw; go_simp; try with_reducible rfl)))
      (try simp only [Act.put, List.setIfInBounds_toArray, List.set_cons_zero, List.set_cons_succ])
      (refine takeH 2 19 (v := ?_) rfl rfl (by kernel_rfl) (by kernel_rfl) (by kernel_rfl) (fun _ _ _ h => h) hHeld rfl ?_ ?_; rotate_left; (focus (intro w' hSw; go_simp; try with_reducible rfl)))
      (try simp only [Act.put, List.setIfInBounds_toArray, List.set_cons_zero, List.set_cons_succ])
      (refine takeH 3 20 (v := ?_) rfl rfl (by kernel_rfl) (by kernel_rfl) (by kernel_rfl) (fun _ _ _ h => h) hHeld rfl ?_ ?_; rotate_left; (focus (intro w' hSw; go_simp; try with_reducible rfl)))
      (try simp only [Act.put, List.setIfInBounds_toArray, List.set_cons_zero, List.set_cons_succ])
      (refine takeH 4 21 (v := ?_) rfl rfl (by kernel_rfl) (by kernel_rfl) (by kernel_rfl) (fun _ _ _ h => h) hHeld rfl ?_ ?_; rotate_left; (focus (intro w' hSw; go_simp; try with_reducible rfl)))
      (try simp only [Act.put, List.setIfInBounds_toArray, List.set_cons_zero, List.set_cons_succ])
      (refine takeH 5 22 (v := ?_) rfl rfl (by kernel_rfl) (by kernel_rfl) (by kernel_rfl) (fun _ _ _ h => h) hHeld rfl ?_ ?_; rotate_left; (focus (intro w' hSw; go_simp; try with_reducible rfl)))
      (try simp only [Act.put, List.setIfInBounds_toArray, List.set_cons_zero, List.set_cons_succ])
      (refine takeH 6 23 (v := ?_) rfl rfl (by kernel_rfl) (by kernel_rfl) (by kernel_rfl) (fun _ _ _ h => h) hHeld rfl ?_ ?_; rotate_left; (focus (intro w' hSw; go_simp; try with_reducible rfl)))
      (try simp only [Act.put, List.setIfInBounds_toArray, List.set_cons_zero, List.set_cons_succ])
      (refine takeH 7 24 (v := ?_) rfl rfl (by kernel_rfl) (by kernel_rfl) (by kernel_rfl) (fun _ _ _ h => h) hHeld rfl ?_ ?_; rotate_left; (focus (intro w' hSw; go_simp; try with_reducible rfl)))
      (try simp only [Act.put, List.setIfInBounds_toArray, List.set_cons_zero, List.set_cons_succ])
      refine wpAnyH_ready (rs := [8]) (by kernel_rfl) (by simp) ?_
      refine AllReadyH.cons rfl (fun K hK => ?_) AllReadyH.nil
      go_simp
      refine (HSM.out _ (below_drew (Below.refl _ _))).mono ?_
      rintro e w1 ⟨rfl, h1⟩
      have H1 := Aside0.mk (Below.then_ (below_drew (Below.refl wr.heap.size wr)) h1 (Nat.le_refl _))
      clear h1
      refine hK.out _ _ (H1.out) (fun hHeld => ?_)
      clear hK K
      (try simp only [Act.put, List.setIfInBounds_toArray, List.set_cons_zero, List.set_cons_succ])
      (refine takeH 9 26 (v := ?_) rfl rfl (by kernel_rfl) (by kernel_rfl) (by kernel_rfl) (fun _ _ _ h => h) hHeld rfl ?_ ?_; rotate_left; (focus (intro w' hSw; go_simp; try with_reducible rfl)))
      (try simp only [Act.put, List.setIfInBounds_toArray, List.set_cons_zero, List.set_cons_succ])
      refine wpAnyH_done (by kernel_rfl) ?_ _
      refine NoPanic.normal ?_
      go_wp2
      go_roundg (l.length - (k + 1))
      case measure => have := HG.out; omega
      case rel => exact ⟨k + 1, by go_num, by omega, ⟨by omega⟩, ⟨Below.then_ HR.out H1.out (Nat.le_refl _)⟩⟩
    · obtain rfl : k = l.length := by omega
      go_wp2
      go_ret
      exact ⟨rfl, HR.out⟩
/-- What the store may not have. -/
def dirtyL (l : List Cell) : List Entry := (l.filter (fun c => !c.clean)).map (·.e)
theorem dirty_skip {l : List Cell} {i : Nat} {u : Cell} (h : l[i]? = some u) (hc : u.clean = true) : dirtyL (l.take (i + 1)) = dirtyL (l.take i) := by
  unfold dirtyL
  rw [List.take_add_one, h]
  simp [hc]
theorem dirty_add {l : List Cell} {i : Nat} {u : Cell} (h : l[i]? = some u) (hc : u.clean = false) : dirtyL (l.take (i + 1)) = dirtyL (l.take i) ++ [u.e] := by
  unfold dirtyL
  rw [List.take_add_one, h]
  simp [hc]
theorem dirty_len (l : List Cell) (i : Nat) : (dirtyL (l.take i)).length ≤ l.length := by
  unfold dirtyL
  rw [List.length_map]
  exact Nat.le_trans (List.length_filter_le _ _) (by rw [List.length_take]; omega)
theorem infoEnt : (Try.prog.info? 37).map (fun i => (i.zero, i.size, i.bytes)) = some (some (.agg #[.string ByteArray.empty, .int .i64 0, .int .i64 0, .int .i64 0, .bool false, .slice none 0 0]), 6, 72) := by kernel_rfl
def DirtyTold (w : World) (ok : Nat → Prop) (l : List Entry) (e : Ending) (w' : World) : Prop :=
  ∃ A c, e = .returned (.slice A l.length c) ∧ Kd.F Entry.k w' (fun i => ok i ∨ w.heap.size ≤ i) A l.length l ∧ Below w.heap.size w w'
set_option maxRecDepth 100000 in
set_option maxHeartbeats 1000000 in
theorem dirtyR_calls (l : List Cell) (A : Option Addr) (c : Nat) (ok : Nat → Prop) (w : World) (h : Kd.F Cell.k w ok A l.length l) (hl : l.length ≤ 1000000) :
    Calls Try.prog 34 #[.slice A l.length c] w (DirtyTold w ok (dirtyL l)) := by
  have HR := Aside0.mk h
  clear h
  go_enter Try.func34, Try.ntmps34
  go_wp2
  go_loopg [3, 4] l.length (fun gk v3 v wr => ∃ i : Nat, v = .int .i64 (i : Int) ∧ i ≤ l.length ∧ Aside0 (gk + i = l.length) ∧ Aside0 (Grow Entry.k 37 ok w.heap.size w wr v3 (dirtyL (l.take i))))
  case atStart => exact ⟨0, rfl, Nat.zero_le _, ⟨rfl⟩, ⟨by simpa [dirtyL] using Grow.start 37 Entry.k ok w⟩⟩
  case round =>
    obtain ⟨i, rfl, hi, HG, HS⟩ := hrel
    have HBW := Aside0.mk HS.out.bl
    by_cases hlt : i < l.length
    · have hltI : (i : Int) < (l.length : Int) := by omega
      obtain ⟨a1, u, A5, c5, rfl, HU, y0, y1, y2, y3, y4, y5, y6, y7, y8, HFK⟩ := RTab.cell_at HR.out HBW.out i hlt
      by_cases hc : u.clean = true
      · have HE := Aside0.mk (dirty_skip HU.out hc)
        rw [hc] at y7
        clear hc
        go_wp2
        go_roundg (l.length - (i + 1))
        case measure => have := HG.out; omega
        case rel => exact ⟨i + 1, by go_num, by omega, ⟨by omega⟩, ⟨by rw [HE.out]; exact HS.out⟩⟩
      · have hc' : u.clean = false := by simpa using hc
        have HE := Aside0.mk (dirty_add HU.out hc')
        have HLL : Aside0 ((dirtyL (l.take i)).length ≤ 1000000) := ⟨Nat.le_trans (dirty_len l i) hl⟩
        rw [hc'] at y7
        clear hc hc'
        go_wp2_with (first | (at_builtin; refine Grow.push (cells := (ecs u.e A5 c5).toArray) rfl _ _ 76 _ 72 rfl Try.underlying76 infoEnt rfl (by decide) (by omega) HS.out (HS.out.elem rfl (fk_ent HFK.out)) rfl rfl (by have := HLL.out; omega) ?_; intro v1 w9 hG9; have HG9 := Aside0.mk hG9; clear hG9))
        go_roundg (l.length - (i + 1))
        case measure => have := HG.out; omega
        case rel => exact ⟨i + 1, by go_num, by omega, ⟨by omega⟩, ⟨by rw [HE.out]; exact HG9.out⟩⟩
    · obtain rfl : i = l.length := by omega
      rw [List.take_length] at HS
      obtain ⟨A', c', rfl, hc', hF⟩ := HS.out.foot
      have HFF := Aside0.mk hF
      clear hF
      go_wp2
      go_ret
      exact ⟨A', c', rfl, HFF.out, HBW.out⟩
set_option maxRecDepth 100000 in
set_option maxHeartbeats 1000000 in
theorem dirtyC_calls (p mb tb : Nat) (T : Tb) (n : Int) (w : World) (h : TbR w p mb tb T) (hN : Num T n) (hl : T.l.length ≤ 1000000) :
    Calls Try.prog 33 #[.pointer (some ⟨p, 0, none⟩)] w (DirtyTold w (fun _ => False) (dirtyL T.l)) := by
  have HC := Aside0.mk (cells_calls p mb tb T n w h hN)
  obtain ⟨l, hll⟩ : ∃ l, l = T.l := ⟨_, rfl⟩
  rw [← hll] at HC hl ⊢
  clear hll h hN
  go_enter Try.func33, Try.ntmps33
  go_upto_region 3 with (first | ((with_reducible refine HC.out.mono ?_); rintro e w1 ⟨A, c, rfl, hc, hF, hb⟩; have HF := Aside0.mk hF; have HB := Aside0.mk hb; clear hF hb))
  go_loopg [3, 9] l.length (fun gk v3 v wr => ∃ i : Nat, v = .int .i64 (i : Int) ∧ i ≤ l.length ∧ Aside0 (gk + i = l.length) ∧ Aside0 (Grow Entry.k 37 (fun k => w.heap.size ≤ k) w1.heap.size w1 wr v3 (dirtyL (l.take i))))
  case atStart => exact ⟨0, rfl, Nat.zero_le _, ⟨rfl⟩, ⟨by simpa [dirtyL] using Grow.start 37 Entry.k (fun k => w.heap.size ≤ k) w1⟩⟩
  case round =>
    obtain ⟨i, rfl, hi, HG, HS⟩ := hrel
    have HBW := Aside0.mk HS.out.bl
    by_cases hlt : i < l.length
    · have hltI : (i : Int) < (l.length : Int) := by omega
      obtain ⟨a1, u, A5, c5, rfl, HU, y0, y1, y2, y3, y4, y5, y6, y7, y8, HFK⟩ := RTab.cell_at HF.out HBW.out i hlt
      have HRO : Aside0 (∀ W', Below wr.heap.size wr W' → RO Entry.k (fun k => w.heap.size ≤ k) w1.heap.size W' u.e (ecs u.e A5 c5)) := ⟨fun W' hb => Grow.ro_step (HS.out.elem rfl (fk_ent HFK.out)) (hb.mono HS.out.hN)⟩
      by_cases hc : u.clean = true
      · have HE := Aside0.mk (dirty_skip HU.out hc)
        rw [hc] at y7
        clear hc
        go_wp2
        go_roundg (l.length - (i + 1))
        case measure => have := HG.out; omega
        case rel => exact ⟨i + 1, by go_num, by omega, ⟨by omega⟩, ⟨by rw [HE.out]; exact HS.out.below (below_alloc (Below.refl _ _) _)⟩⟩
      · have hc' : u.clean = false := by simpa using hc
        have HE := Aside0.mk (dirty_add HU.out hc')
        have HLL : Aside0 ((dirtyL (l.take i)).length ≤ 1000000) := ⟨Nat.le_trans (dirty_len l i) hl⟩
        rw [hc'] at y7
        clear hc hc'
        go_upto_region 5 with (fail)
        generalize hXc : World.alloc _ _ = Wc
        have HBc : Aside0 (Below wr.heap.size wr Wc) := ⟨by rw [← hXc]; exact below_alloc (Below.refl _ _) _⟩
        have HXc : Aside0 (Blk Wc wr.heap.size (ccs ⟨u.e, u.whole, false, u.used⟩ A5 c5)) := ⟨by rw [← hXc]; exact Blk.new_ _ _ _ rfl rfl⟩
        have HSc := Aside0.mk (HS.out.below HBc.out)
        have HROc := Aside0.mk (HRO.out Wc HBc.out)
        clear hXc y0 y1 y2 y3 y4 y5 y6 y7 y8
        obtain ⟨⟨k0, k1, k2, k3, k4, k5, k6, k7, k8⟩, _⟩ := HXc.out.nine
        dsimp only [ccs] at k0 k1 k2 k3 k4 k5 k6 k7 k8
        go_wp2_with (first | (at_builtin; refine Grow.push (cells := (ecs u.e A5 c5).toArray) rfl _ _ 76 _ 72 rfl Try.underlying76 infoEnt rfl (by decide) (by omega) HSc.out HROc.out rfl rfl (by have := HLL.out; omega) ?_; intro v1 w9 hG9; have HG9 := Aside0.mk hG9; clear hG9))
        go_roundg (l.length - (i + 1))
        case measure => have := HG.out; omega
        case rel => exact ⟨i + 1, by go_num, by omega, ⟨by omega⟩, ⟨by rw [HE.out]; exact HG9.out⟩⟩
    · obtain rfl : i = l.length := by omega
      rw [List.take_length] at HS
      obtain ⟨A', c', rfl, hc', hF⟩ := HS.out.foot
      have HFF := Aside0.mk hF
      clear hF
      go_wp2
      go_ret
      have hs := HB.out.size
      exact ⟨A', c', rfl, Foot.mono HFF.out (fun i hi => by rcases hi with hi | hi; exact .inr hi; right; omega), Below.then_ HB.out HBW.out (Nat.le_refl _)⟩
end RTab
end Go.Proofs.Ytgfjkpnaabiecaa
