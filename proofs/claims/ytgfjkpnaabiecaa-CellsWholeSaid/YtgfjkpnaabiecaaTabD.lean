/- Layer cells: Store, walked. -/
import Derived.Test.YtgfjkpnaabiecaaTabC
import Derived.Deep.CutBlock
set_option linter.unusedVariables false
set_option linter.unusedSimpArgs false
namespace Go.Proofs.Ytgfjkpnaabiecaa
open Go.RowKit Go.Proofs.YtgfjkpnaabiecaaW.PrintWords
namespace Tab
open Tags
def tokAt (T : Tb) (k : ByteArray) : Int := T.tok.getD (Hash.bkt k T.room.buckets).toNat 0
/-- Store, past its arguments. -/
def storeOld (T : Tb) (e : Entry) : Option Cell := (find T.l e.key).bind fun c => if 0 ≤ cmpT c.e.tag e.tag then some c else none
def wholeT (T : Tb) (k : ByteArray) : Bool := match find T.l k with
  | some c => c.whole
  | none => tokAt T k == 0
def storeT (T : Tb) (e : Entry) : Tb :=
  if EntOk e ∧ e.tag.seq ≠ 0 then match storeOld T e with
    | some c => lay T c
    | none => if makeE T e = 0 then lay (makeT T e) ⟨e, wholeT T e.key, false, 0⟩ else T
  else T
def storeE (T : Tb) (e : Entry) : Int :=
  if EntOk e ∧ e.tag.seq ≠ 0 then match storeOld T e with
    | some _ => 0
    | none => makeE T e
  else 2
theorem makeE_cases (T : Tb) (e : Entry) : (makeE T e = 0 ∧ makeT T e = drops T (vict T e).1) ∨ (makeE T e = 30 ∧ makeT T e = T) := by
  unfold makeE makeT
  cases (vict T e).2 <;> simp
theorem Num.make {T : Tb} {n : Int} (e : Entry) (h : Num T n) (hs : Srt T.l) (hn : n ≤ 3000000000000000000) : Num (makeT T e) (n + 1000000) := by
  rcases makeE_cases T e with ⟨_, h2⟩ | ⟨_, h2⟩
  · rw [h2]
    have := (vict_len (T := T) e hs).1
    exact h.drops _ _ (by have := h.len; omega) (by omega)
  · rw [h2]
    exact h.drops [] _ (by simp only [List.length_nil]; omega) (by omega)
theorem bk_cell {w : World} {e : Entry} {A : Option Addr} {c : Nat} {x y : Bool} {u : Int} (h : BK Entry.k w e [.string e.key, .int .i64 e.tag.seq, .int .i64 e.tag.who, .int .i64 e.tag.op, .bool e.val.has, .slice A e.val.b.length c]) (hu : InR .i64 u := by exact InR.mk64 (by omega) (by omega)) :
    BK Cell.k w ⟨e, x, y, u⟩ [.string e.key, .int .i64 e.tag.seq, .int .i64 e.tag.who, .int .i64 e.tag.op, .bool e.val.has, .slice A e.val.b.length c, .bool x, .bool y, .int .i64 u] := by
  refine Foot.imp h (fun W' hK => ?_)
  obtain ⟨A5, c5, he, s0, r1, r2, r3, l5, g5⟩ := Entry.open_ hK
  simp only [List.cons.injEq, Value.slice.injEq, true_and, and_true] at he
  obtain ⟨rfl, rfl⟩ := he
  exact Cell.mk_ W' ⟨e, x, y, u⟩ s0 r1 r2 r3 l5 g5 hu
set_option maxRecDepth 100000 in
set_option maxHeartbeats 1000000 in
theorem store_calls (p mb tb : Nat) (T : Tb) (e : Entry) (A : Option Addr) (cp : Nat) (n : Int) (w : World) (h : TbR w p mb tb T) (hN : Num T n) (hn : n ≤ 2000000000000000000)
    (hF : Kd.FK Entry.k w (fun k => k ∉ [p, mb, tb]) e [.string e.key, .int .i64 e.tag.seq, .int .i64 e.tag.who, .int .i64 e.tag.op, .bool e.val.has, .slice A e.val.b.length cp]) (hbl : e.val.b.length ≤ 140737488351232) :
    Calls Try.prog 13 #[.pointer (some ⟨p, 0, none⟩), .agg #[.string e.key, .int .i64 e.tag.seq, .int .i64 e.tag.who, .int .i64 e.tag.op, .bool e.val.has, .slice A e.val.b.length cp]] w (TabTold w p mb tb (storeT T e) (.int .i64 (storeE T e))) := by
  have HT := Aside0.mk h
  have HN := Aside0.mk hN
  have HKE := Aside0.mk hF
  have hks : e.key.size ≤ 140737488351232 := by obtain ⟨_, _, _, hks, _⟩ := Entry.open_ (Kd.FK_now hF); exact hks
  have HR := Aside0.mk (fun w' => right_calls e.key e.tag.seq e.tag.who e.tag.op e.val.has A cp e.val.b w' hks hbl)
  obtain ⟨cap, hcap, hB⟩ := h.blk
  have hpl := h.lt.1
  have hml := h.lt.2.1
  obtain ⟨⟨p0, p1, p2, p3, p4, p5, p6, p7⟩, fx⟩ := hB.eight
  clear fx hB h hN hF
  by_cases hgood : EntOk e ∧ e.tag.seq ≠ 0
  · obtain ⟨ho, hs⟩ := hgood
    have hgd : EntOk e ∧ e.tag.seq ≠ 0 := ⟨ho, hs⟩
    have hr0 := rgt_ok ho
    have hkz : e.key.size ≤ 250 := ho.2.1
    have hbz : e.val.b.length ≤ 60000 := ho.2.2.1
    have hs0 : (e.tag.seq == 0) = false := by simpa using hs
    obtain ⟨E, hE⟩ : ∃ E : Entry, E = e := ⟨_, rfl⟩
    rw [← hE] at hgd
    have HGOOD := Aside0.mk hgd
    clear hgd
    obtain ⟨ek, ⟨a1, a2, a3⟩, ⟨eh, eb⟩⟩ := e
    dsimp only at *
    rw [hr0] at HR
    rw [← hE]
    rw [← hE] at HKE
    have HE := Aside0.mk hE
    clear hE ho hs hr0
    obtain ⟨o, Ao, co, hoe, hbo, hlk⟩ := HT.out.map.look_or ek (by omega)
    obtain ⟨hasB, hhas⟩ : ∃ b, b = (find T.l ek).isSome := ⟨_, rfl⟩
    have rl : ∀ w', Below w.heap.size w w' → (Instr.lookup 81 (.map (some mb)) (.string ek) true).run Try.prog w' = .ok (.tuple #[.agg #[.string o.e.key, .int .i64 o.e.tag.seq, .int .i64 o.e.tag.who, .int .i64 o.e.tag.op, .bool o.e.val.has, .slice Ao o.e.val.b.length co, .bool o.whole, .bool o.clean, .int .i64 o.used], .bool hasB]) w' := fun w' h => by
      have := hlk true w' (h.block mb hml)
      rw [← hhas] at this
      exact this
    have HO := Aside0.mk (And.intro hoe (And.intro hbo hhas))
    clear hlk hoe hbo hhas
    go_enter Try.func13, Try.ntmps13
    go_wp2_with (first | ((with_reducible refine (HR.out _).mono ?_); rintro e w1 ⟨rfl, hb1⟩; have HB1 := Aside0.mk hb1; have hz1 : w.heap.size < w1.heap.size := (by have := hb1.size; simp at this; omega); have hcc := (bcell hb1).1; clear hb1) | ((with_reducible refine (none_calls _ _ _ _).mono ?_); rintro e w2 ⟨rfl, hb2⟩; have HB2 := Aside0.mk hb2; clear hb2))
    have HW2 : Aside0 (Below w.heap.size w w2 ∧ Blk w2 w.heap.size [.string ek, .int .i64 a1, .int .i64 a2, .int .i64 a3, .bool eh, .slice A eb.length cp]) := ⟨Below.then_ (Below.then_ (below_alloc (Below.refl _ w) _) HB1.out (Nat.le_refl _)) HB2.out (Nat.le_refl _), ((Blk.new w _ _).on HB1.out).on HB2.out⟩
    clear hz1 hcc HB1 HB2
    have r4 : ∀ w', Below w2.heap.size w2 w' → w'.cell? ⟨p, 4, none⟩ = some (.map (some mb)) := fun w' h => pw_cell_below (Below.then_ HW2.out.1 h (Nat.le_refl _)) p4
    have re0 : ∀ w', Below w2.heap.size w2 w' → w'.cell? ⟨w.heap.size, 0, none⟩ = some (.string ek) := fun w' h => pw_cell_below h (HW2.out.2.cell 0 rfl)
    have rl1 := fun w' (h : Below w2.heap.size w2 w') => rl w' (Below.then_ HW2.out.1 h (Nat.le_refl _))
    clear rl
    refine wp_region_noPanic ?_
    refine wp_region_held_drew (S := Below w2.heap.size w2) (by kernel_rfl) (below_drew (Below.refl _ _)) (fun hHeld => ?_)
    (refine takeH 0 21 (v := ?_) rfl rfl (by kernel_rfl) (by kernel_rfl) (by kernel_rfl) (fun _ _ _ h => h) hHeld rfl ?_ ?_; rotate_left; (focus (intro w' hSw; go_simp; try with_reducible rfl)))
    (try simp only [Act.put, List.setIfInBounds_toArray, List.set_cons_zero, List.set_cons_succ])
    (refine takeH 1 22 (v := ?_) rfl rfl (by kernel_rfl) (by kernel_rfl) (by kernel_rfl) (fun _ _ _ h => h) hHeld rfl ?_ ?_; rotate_left; (focus (intro w' hSw; go_simp; try with_reducible rfl)))
    (try simp only [Act.put, List.setIfInBounds_toArray, List.set_cons_zero, List.set_cons_succ])
    (refine takeH 2 23 (v := ?_) rfl rfl (by kernel_rfl) (by kernel_rfl) (by kernel_rfl) (fun _ _ _ h => h) hHeld rfl ?_ ?_; rotate_left; (focus (intro w' hSw; go_simp; try with_reducible rfl)))
    (try simp only [Act.put, List.setIfInBounds_toArray, List.set_cons_zero, List.set_cons_succ])
    (refine takeH 3 24 (v := ?_) rfl rfl (by kernel_rfl) (by kernel_rfl) (by kernel_rfl) (fun _ _ _ h => h) hHeld rfl ?_ ?_; rotate_left; (focus (intro w' hSw; go_simp; try with_reducible rfl)))
    (try simp only [Act.put, List.setIfInBounds_toArray, List.set_cons_zero, List.set_cons_succ])
    (refine takeH 4 25 (v := ?_) rfl rfl (by kernel_rfl) (by kernel_rfl) (by kernel_rfl) (fun _ _ _ h => h) hHeld rfl ?_ ?_; rotate_left; (focus (intro w' hSw; go_simp; try with_reducible rfl)))
    (try simp only [Act.put, List.setIfInBounds_toArray, List.set_cons_zero, List.set_cons_succ])
    (refine takeH 5 26 (v := ?_) rfl rfl (by kernel_rfl) (by kernel_rfl) (by kernel_rfl) (fun _ _ _ h => h) hHeld rfl ?_ ?_; rotate_left; (focus (intro w' hSw; go_simp; try with_reducible rfl)))
    (try simp only [Act.put, List.setIfInBounds_toArray, List.set_cons_zero, List.set_cons_succ])
    (refine takeH 6 27 (v := ?_) rfl rfl (by kernel_rfl) (by kernel_rfl) (by kernel_rfl) (fun _ _ _ h => h) hHeld rfl ?_ ?_; rotate_left; (focus (intro w' hSw; go_simp; try with_reducible rfl)))
    (try simp only [Act.put, List.setIfInBounds_toArray, List.set_cons_zero, List.set_cons_succ])
    (refine takeH 7 20 (v := ?_) rfl rfl (by kernel_rfl) (by kernel_rfl) (by kernel_rfl) (fun _ _ _ h => h) hHeld rfl ?_ ?_; rotate_left; (focus (intro w' hSw; go_simp; try with_reducible rfl)))
    (try simp only [Act.put, List.setIfInBounds_toArray, List.set_cons_zero, List.set_cons_succ])
    (refine takeH 8 28 (v := ?_) rfl rfl (by kernel_rfl) (by kernel_rfl) (by kernel_rfl) (fun _ _ _ h => h) hHeld rfl ?_ ?_; rotate_left; (focus (intro w' hSw; go_simp; try with_reducible rfl)))
    (try simp only [Act.put, List.setIfInBounds_toArray, List.set_cons_zero, List.set_cons_succ])
    (refine takeH 9 29 (v := ?_) rfl rfl (by kernel_rfl) (by kernel_rfl) (by kernel_rfl) (fun _ _ _ h => h) hHeld rfl ?_ ?_; rotate_left; (focus (intro w' hSw; go_simp; try with_reducible rfl)))
    (try simp only [Act.put, List.setIfInBounds_toArray, List.set_cons_zero, List.set_cons_succ])
    refine wpAnyH_ready (rs := [10]) (by kernel_rfl) (by simp) ?_
    refine AllReadyH.cons rfl (fun K hK => ?_) AllReadyH.nil
    go_simp
    refine hK.out _ _ (below_alloc (by assumption) _) (fun hHeld => ?_)
    clear hK K
    (try simp only [Act.put, List.setIfInBounds_toArray, List.set_cons_zero, List.set_cons_succ])
    refine wpAnyH_ready (rs := [11]) (by kernel_rfl) (by simp) ?_
    refine AllReadyH.cons rfl (fun K hK => ?_) AllReadyH.nil
    go_simp
    refine hK.out _ _ (below_drew (below_alloc (Below.refl _ _) _)) (fun hHeld => ?_)
    clear hK K
    (try simp only [Act.put, List.setIfInBounds_toArray, List.set_cons_zero, List.set_cons_succ])
    (refine takeH 12 6 (v := ?_) rfl rfl (by kernel_rfl) (by kernel_rfl) (by kernel_rfl) (fun _ _ _ h => h) hHeld rfl ?_ ?_; rotate_left; (focus (intro w' hSw; go_simp; try with_reducible rfl)))
    (try simp only [Act.put, List.setIfInBounds_toArray, List.set_cons_zero, List.set_cons_succ])
    refine wpAnyH_done (by kernel_rfl) ?_ _
    refine NoPanic.normal ?_
    obtain ⟨W3, hW3⟩ : ∃ W3 : World, W3 = (w2.alloc (.cells #[.string o.e.key, .int .i64 o.e.tag.seq, .int .i64 o.e.tag.who, .int .i64 o.e.tag.op, .bool o.e.val.has, .slice Ao o.e.val.b.length co, .bool o.whole, .bool o.clean, .int .i64 o.used] 47)).drew := ⟨_, rfl⟩
    have HX3 : Aside0 (Blk W3 w2.heap.size [.string o.e.key, .int .i64 o.e.tag.seq, .int .i64 o.e.tag.who, .int .i64 o.e.tag.op, .bool o.e.val.has, .slice Ao o.e.val.b.length co, .bool o.whole, .bool o.clean, .int .i64 o.used] ∧ Below w2.heap.size w2 W3) := ⟨by rw [hW3]; exact ⟨(Blk.new w2 _ _).drew, below_drew (below_alloc (Below.refl _ _) _)⟩⟩
    go_upto_region 6 with (fail)
    rw [← hW3]
    clear hW3
    clear r4 re0 rl1 p0 p1 p2 p3 p4 p5 p6 p7
    have HB3 : Aside0 (Below w.heap.size w W3) := ⟨Below.then_ HW2.out.1 HX3.out.2 (Nat.le_refl _)⟩
    have HE3 := HW2.out.2.on HX3.out.2
    obtain ⟨⟨e0, e1, e2, e3, e4, e5⟩, fe⟩ := HE3.six
    obtain ⟨⟨x0, x1, x2, x3, x4, x5, x6, x7, x8⟩, fx⟩ := HX3.out.1.nine
    clear fe fx HE3
    have hc0 := fun w' => compareT_calls o.e.tag ⟨a1, a2, a3⟩ w'
    dsimp only at hc0
    have HC := Aside0.mk hc0
    clear hc0
    have HNE : Aside0 (w.heap.size ∉ [p, mb, tb] ∧ w2.heap.size ∉ [p, mb, tb]) := ⟨by
      have h1 := HT.out.lt
      have h2 := HW2.out.1.size
      simp
      omega⟩
    have hnn := HN.out.us
    have hnp := HN.out.pos
    have hm0 := fun w' (hb' : Below w.heap.size w w') => make_calls p mb tb T ⟨ek, ⟨a1, a2, a3⟩, ⟨eh, eb⟩⟩ A cp n w' (HT.out.below hb') HN.out (by omega) (by dsimp only; omega) (by dsimp only; omega)
    dsimp only at hm0
    rw [← HE.out] at hm0
    have HM := Aside0.mk hm0
    clear hm0
    cases hasB with
    | true =>
      have HFD : Aside0 (find T.l E.key = some o) := ⟨by
        rw [HE.out]
        have h1 := HO.out.1
        cases hf : find T.l ek with
        | none => have h2 := HO.out.2.2; rw [hf] at h2; cases h2
        | some c => rw [hf] at h1; rw [h1]; rfl⟩
      by_cases hcm : 0 ≤ cmpT o.e.tag ⟨a1, a2, a3⟩
      · have hcb : decide (0 ≤ cmpT o.e.tag ⟨a1, a2, a3⟩) = true := by simpa using hcm
        have HS : Aside0 (storeT T E = lay T o ∧ storeE T E = 0) := ⟨by
          have : storeOld T E = some o := by unfold storeOld; rw [HFD.out]; show (if 0 ≤ cmpT o.e.tag E.tag then some o else none) = some o; rw [HE.out, if_pos hcm]
          unfold storeT storeE
          rw [if_pos HGOOD.out, if_pos HGOOD.out, this]
          exact ⟨rfl, rfl⟩⟩
        have hoT := (find_mem HFD.out).1
        have hky := HN.out.ky o hoT
        have HLY := Aside0.mk (fun w' (hb' : Below w.heap.size w w') => lay_calls p mb tb T o Ao co w' (HT.out.below hb') (HO.out.2.1.below hb') (by omega) (by have := HN.out.sz; omega) hky.1 hky.2)
        clear hoT hky hcm
        go_wp2_with (first | ((with_reducible refine (HC.out _).mono ?_); rintro e w4 ⟨rfl, hb4⟩; have HB4 := Aside0.mk hb4; obtain ⟨⟨x0, x1, x2, x3, x4, x5, x6, x7, x8⟩, fx⟩ := (HX3.out.1.on hb4).nine; clear hb4 fx) | ((with_reducible refine (HLY.out _ (Below.then_ HB3.out HB4.out (Nat.le_refl _))).mono ?_); rintro e w5 ⟨rfl, h5, o5⟩; have H5 := Aside0.mk (And.intro h5 o5); clear h5 o5))
        go_ret
        exact ⟨by rw [HS.out.2]; rfl, by rw [HS.out.1]; exact H5.out.1, (Only.of_below _ (Below.then_ HB3.out HB4.out (Nat.le_refl _))).trans H5.out.2⟩
      · have hcb : decide (0 ≤ cmpT o.e.tag ⟨a1, a2, a3⟩) = false := by simpa using hcm
        have HSO : Aside0 (storeOld T E = none) := ⟨by unfold storeOld; rw [HFD.out]; show (if 0 ≤ cmpT o.e.tag E.tag then some o else none) = none; rw [HE.out, if_neg hcm]⟩
        have HWH : Aside0 (wholeT T E.key = o.whole) := ⟨by unfold wholeT; rw [HFD.out]⟩
        clear hcm
        have hmk := makeE_cases T E
        go_wp2_with (first | ((with_reducible refine (HC.out _).mono ?_); rintro e w4 ⟨rfl, hb4⟩; have HB4 := Aside0.mk hb4; obtain ⟨⟨x0, x1, x2, x3, x4, x5, x6, x7, x8⟩, fx⟩ := (HX3.out.1.on hb4).nine; obtain ⟨⟨e0, e1, e2, e3, e4, e5⟩, fe⟩ := ((HW2.out.2.on HX3.out.2).on hb4).six; clear hb4 fx fe) | ((with_reducible refine (HM.out _ (Below.then_ HB3.out HB4.out (Nat.le_refl _))).mono ?_); rintro e w5 ⟨rfl, h5, o5⟩; have H5 := Aside0.mk (And.intro h5 o5); have HE5 := Aside0.mk (((HW2.out.2.on HX3.out.2).on HB4.out).only o5 HNE.out.1); have HX5 := Aside0.mk (((HX3.out.1.on HB4.out).only o5 HNE.out.2).cell 6 rfl); clear h5 o5))
        · have hz : ¬ makeE T E = 0 := by
            have : (makeE T E != 0) = true := by assumption
            simpa using this
          have hme : makeE T E = 30 ∧ makeT T E = T := by
            rcases hmk with h | h
            · exact absurd h.1 hz
            · exact h
          go_ret
          have h1 : storeE T E = 30 ∧ storeT T E = T := by
            unfold storeT storeE
            rw [if_pos HGOOD.out, if_pos HGOOD.out, HSO.out]
            dsimp only
            rw [if_neg hz]
            exact ⟨hme.1, rfl⟩
          have h2 := H5.out.1
          rw [hme.2] at h2
          exact ⟨by rw [h1.1, hme.1]; rfl, by rw [h1.2]; exact h2, (Only.of_below _ (Below.then_ HB3.out HB4.out (Nat.le_refl _))).trans H5.out.2⟩
        · have hz : makeE T E = 0 := by
            have : (makeE T E != 0) = false := by assumption
            simpa using this
          have HZ := Aside0.mk hz
          have hNM := HN.out.make E HT.out.srt (by omega)
          have HNM := Aside0.mk hNM
          clear hz hmk hNM
          clear e0 e1 e2 e3 e4 e5 x0 x1 x2 x3 x4 x5 x6 x7 x8
          obtain ⟨⟨e0, e1, e2, e3, e4, e5⟩, fe⟩ := HE5.out.six
          have x6 := HX5.out
          clear fe
          have re0 : ∀ w', Only [p, mb, tb] w5 w' → w'.cell? ⟨w.heap.size, 0, none⟩ = some (.string ek) := fun w' h => (h.cell (p := ⟨w.heap.size, 0, none⟩) HE5.out.lt HNE.out.1).trans e0
          have re1 : ∀ w', Only [p, mb, tb] w5 w' → w'.cell? ⟨w.heap.size, 1, none⟩ = some (.int .i64 a1) := fun w' h => (h.cell (p := ⟨w.heap.size, 1, none⟩) HE5.out.lt HNE.out.1).trans e1
          have re2 : ∀ w', Only [p, mb, tb] w5 w' → w'.cell? ⟨w.heap.size, 2, none⟩ = some (.int .i64 a2) := fun w' h => (h.cell (p := ⟨w.heap.size, 2, none⟩) HE5.out.lt HNE.out.1).trans e2
          have re3 : ∀ w', Only [p, mb, tb] w5 w' → w'.cell? ⟨w.heap.size, 3, none⟩ = some (.int .i64 a3) := fun w' h => (h.cell (p := ⟨w.heap.size, 3, none⟩) HE5.out.lt HNE.out.1).trans e3
          have re4 : ∀ w', Only [p, mb, tb] w5 w' → w'.cell? ⟨w.heap.size, 4, none⟩ = some (.bool eh) := fun w' h => (h.cell (p := ⟨w.heap.size, 4, none⟩) HE5.out.lt HNE.out.1).trans e4
          have re5 : ∀ w', Only [p, mb, tb] w5 w' → w'.cell? ⟨w.heap.size, 5, none⟩ = some (.slice A eb.length cp) := fun w' h => (h.cell (p := ⟨w.heap.size, 5, none⟩) HE5.out.lt HNE.out.1).trans e5
          have rx6 : ∀ w', Only [p, mb, tb] w5 w' → w'.cell? ⟨w2.heap.size, 6, none⟩ = some (.bool o.whole) := fun w' h => (h.cell (p := ⟨w2.heap.size, 6, none⟩) (World.block_lt_of_cell? _ _ x6) HNE.out.2).trans x6
          clear e0 e1 e2 e3 e4 e5 x6
          have hFK5 : Kd.FK Entry.k w5.drew (fun k => k ∉ [p, mb, tb]) E [.string ek, .int .i64 a1, .int .i64 a2, .int .i64 a3, .bool eh, .slice A eb.length cp] := Kd.FK_below (FK_only (FK_only HKE.out (Only.of_below [p, mb, tb] (Below.then_ HB3.out HB4.out (Nat.le_refl _))) (fun i hi => hi)) H5.out.2 (fun i hi => hi)) (below_drew (Below.refl _ w5))
          have hcp0 := copy_calls E A cp w5.drew (by rw [HE.out]; have := Kd.FK_now hFK5; rw [HE.out] at this; exact this) (by rw [HE.out]; dsimp only; omega)
          rw [HE.out] at hcp0
          dsimp only at hcp0
          rw [← HE.out] at hcp0
          have HCP := Aside0.mk hcp0
          clear hcp0 hFK5
          refine wp_region_noPanic ?_
          refine wp_region_held_drew (S := Only [p, mb, tb] w5) (by kernel_rfl) ((Only.refl [p, mb, tb] w5).drew) (fun hHeld => ?_)
          (refine takeH 0 63 (v := ?_) rfl rfl (by kernel_rfl) (by kernel_rfl) (by kernel_rfl) (fun _ _ _ h => h) hHeld rfl ?_ ?_; rotate_left; (focus (intro w' hSw; go_simp; try with_reducible rfl)))
          (try simp only [Act.put, List.setIfInBounds_toArray, List.set_cons_zero, List.set_cons_succ])
          (refine takeH 1 64 (v := ?_) rfl rfl (by kernel_rfl) (by kernel_rfl) (by kernel_rfl) (fun _ _ _ h => h) hHeld rfl ?_ ?_; rotate_left; (focus (intro w' hSw; go_simp; try with_reducible rfl)))
          (try simp only [Act.put, List.setIfInBounds_toArray, List.set_cons_zero, List.set_cons_succ])
          (refine takeH 3 66 (v := ?_) rfl rfl (by kernel_rfl) (by kernel_rfl) (by kernel_rfl) (fun _ _ _ h => h) hHeld rfl ?_ ?_; rotate_left; (focus (intro w' hSw; go_simp; try with_reducible rfl)))
          (try simp only [Act.put, List.setIfInBounds_toArray, List.set_cons_zero, List.set_cons_succ])
          (refine takeH 4 67 (v := ?_) rfl rfl (by kernel_rfl) (by kernel_rfl) (by kernel_rfl) (fun _ _ _ h => h) hHeld rfl ?_ ?_; rotate_left; (focus (intro w' hSw; go_simp; try with_reducible rfl)))
          (try simp only [Act.put, List.setIfInBounds_toArray, List.set_cons_zero, List.set_cons_succ])
          refine wpAnyH_ready (rs := [2]) (by kernel_rfl) (by simp) ?_
          refine AllReadyH.cons rfl (fun K hK => ?_) AllReadyH.nil
          go_simp
          refine HCP.out.mono ?_
          rintro e w6 ⟨cs, rfl, hbk, hfk, hb6⟩
          obtain ⟨A', c', he, _⟩ := Entry.open_ hbk.now
          have hcs : cs = #[.string ek, .int .i64 a1, .int .i64 a2, .int .i64 a3, .bool eh, .slice A' eb.length c'] := by
            have : cs = cs.toList.toArray := by simp
            rw [this, he, HE.out]
          rw [hcs] at hbk
          subst hcs
          have H6 := Aside0.mk (And.intro hbk hb6)
          clear he hfk hbk
          refine hK.out _ _ ((Only.refl [p, mb, tb] w5).drew.on hb6) (fun hHeld => ?_)
          clear hK K hb6
          (try simp only [Act.put, List.setIfInBounds_toArray, List.set_cons_zero, List.set_cons_succ])
          (refine takeH 5 68 (v := ?_) rfl rfl (by kernel_rfl) (by kernel_rfl) (by kernel_rfl) (fun _ _ _ h => h) hHeld rfl ?_ ?_; rotate_left; (focus (intro w' hSw; go_simp; try with_reducible rfl)))
          (try simp only [Act.put, List.setIfInBounds_toArray, List.set_cons_zero, List.set_cons_succ])
          refine wpAnyH_ready (rs := [6]) (by kernel_rfl) (by simp) ?_
          refine AllReadyH.cons rfl (fun K hK => ?_) AllReadyH.nil
          go_simp
          have hbc : BK Cell.k w6 ⟨⟨ek, ⟨a1, a2, a3⟩, ⟨eh, eb⟩⟩, o.whole, false, 0⟩ [.string ek, .int .i64 a1, .int .i64 a2, .int .i64 a3, .bool eh, .slice A' eb.length c', .bool o.whole, .bool false, .int .i64 0] := bk_cell (by have := H6.out.1; rw [HE.out] at this; exact this)
          have hl := lay_calls p mb tb (makeT T E) ⟨⟨ek, ⟨a1, a2, a3⟩, ⟨eh, eb⟩⟩, o.whole, false, 0⟩ A' c' w6 ((H5.out.1.below (below_drew (Below.refl _ w5))).below H6.out.2) hbc (by have := HNM.out.us; omega) (by have := HNM.out.sz; omega) (by dsimp only; omega) (by dsimp only; omega)
          dsimp only at hl
          refine hl.mono ?_
          rintro e w7 ⟨rfl, h7, o7⟩
          refine hK.out _ _ (((Only.refl [p, mb, tb] w5).drew.on H6.out.2).trans o7) (fun hHeld => ?_)
          have H7 := Aside0.mk (And.intro h7 o7)
          clear hK K hbc hl h7 o7
          (try simp only [Act.put, List.setIfInBounds_toArray, List.set_cons_zero, List.set_cons_succ])
          refine wpAnyH_done (by kernel_rfl) ?_ _
          refine NoPanic.normal ?_
          go_wp2
          go_ret
          have h1 : storeE T E = 0 ∧ storeT T E = lay (makeT T E) ⟨E, o.whole, false, 0⟩ := by
            unfold storeT storeE
            rw [if_pos HGOOD.out, if_pos HGOOD.out, HSO.out]
            dsimp only
            rw [if_pos HZ.out, HWH.out]
            exact ⟨HZ.out, rfl⟩
          refine ⟨by rw [h1.1]; rfl, by rw [h1.2, HE.out]; rw [HE.out] at H7; exact H7.out.1, (((Only.of_below _ (Below.then_ HB3.out HB4.out (Nat.le_refl _))).trans H5.out.2).trans ((Only.refl [p, mb, tb] w5).drew.on H6.out.2)).trans H7.out.2⟩
    | false =>
      have HFN : Aside0 (find T.l E.key = none) := ⟨by
        rw [HE.out]
        cases hf : find T.l ek with
        | none => rfl
        | some c => have h2 := HO.out.2.2; rw [hf] at h2; cases h2⟩
      have HSO : Aside0 (storeOld T E = none) := ⟨by unfold storeOld; rw [HFN.out]; rfl⟩
      obtain ⟨b0, b1⟩ := Hash.bkt_bd ek HN.out.bk.1
      obtain ⟨i, hi⟩ : ∃ i : Nat, Hash.bkt ek T.room.buckets = (i : Int) := ⟨_, (Int.toNat_of_nonneg b0).symm⟩
      rw [hi] at b1
      have HI := Aside0.mk hi
      clear hi b0
      have hil : i < T.tok.length := by have := HN.out.tl; omega
      obtain ⟨x, hx⟩ : ∃ x, x = T.tok[i] := ⟨_, rfl⟩
      have hxi : T.tok[i]? = some x := by rw [List.getElem?_eq_getElem hil, hx]
      have HWH : Aside0 (wholeT T E.key = (x == 0)) := ⟨by
        have : tokAt T ek = x := by unfold tokAt; rw [HI.out, Int.toNat_natCast, List.getD_eq_getElem?_getD, hxi]; rfl
        unfold wholeT; rw [HFN.out]; rw [HE.out]; dsimp only; rw [this]⟩
      obtain ⟨cap, hcap, hB⟩ := HT.out.blk
      have p2 := pw_cell_below HB3.out (hB.cell 2 rfl)
      have p5 := pw_cell_below HB3.out (hB.cell 5 rfl)
      have hcx : W3.cell? ⟨tb, i, none⟩ = some (.int .i64 x) := pw_cell_below HB3.out (HT.out.tok.cell i (by rw [List.getElem?_map, hxi]; rfl))
      have hkk : ek.size ≤ 140737488351232 := by omega
      have Z3 : Aside0 (∀ w', Below W3.heap.size W3 w' → Calls Try.prog 41 #[.pointer (some ⟨p, 0, none⟩), .string ek] w' fun e w'' => e = .returned (.int .i64 (i : Int)) ∧ Below w'.heap.size w' w'') := ⟨fun w' hb => by
        have := bucketT_calls p ek T.room.buckets w' (pw_cell_below hb p2) hkk HN.out.bk.1 HN.out.bk.2
        rw [HI.out] at this
        exact this⟩
      have r5 : ∀ w', Below W3.heap.size W3 w' → w'.cell? ⟨p, 5, none⟩ = some (.slice (some ⟨tb, 0, none⟩) T.tok.length cap) := fun w' h => pw_cell_below h p5
      have rx : ∀ w', Below W3.heap.size W3 w' → w'.cell? ⟨tb, i, none⟩ = some (.int .i64 x) := fun w' h => pw_cell_below h hcx
      have re0 : ∀ w', Below W3.heap.size W3 w' → w'.cell? ⟨w.heap.size, 0, none⟩ = some (.string ek) := fun w' h => pw_cell_below h e0
      have i0 : (0 : Int) ≤ (i : Int) := by omega
      have i1 : (i : Int) < (T.tok.length : Int) := by omega
      clear hx hxi b1 hB hcx p2 p5
      go_wp2
      refine region_calm 11 (Below W3.heap.size W3) (by kernel_rfl) (by kernel_rfl) (below_drew (Below.refl _ _)) ?_
      simp only [List.take_succ_cons, List.take_zero, List.drop_succ_cons, List.drop_zero]
      (refine wpCalm_val (v := ?_) rfl ?_ ?_; rotate_left; (focus (intro w' hSw; go_simp; try with_reducible rfl)))
      (try simp only [Act.put, List.setIfInBounds_toArray, List.set_cons_zero, List.set_cons_succ])
      (refine wpCalm_val (v := ?_) rfl ?_ ?_; rotate_left; (focus (intro w' hSw; go_simp; try with_reducible rfl)))
      (try simp only [Act.put, List.setIfInBounds_toArray, List.set_cons_zero, List.set_cons_succ])
      (refine wpCalm_val (v := ?_) rfl ?_ ?_; rotate_left; (focus (intro w' hSw; go_simp; try with_reducible rfl)))
      (try simp only [Act.put, List.setIfInBounds_toArray, List.set_cons_zero, List.set_cons_succ])
      (refine wpCalm_val (v := ?_) rfl ?_ ?_; rotate_left; (focus (intro w' hSw; go_simp; try with_reducible rfl)))
      (try simp only [Act.put, List.setIfInBounds_toArray, List.set_cons_zero, List.set_cons_succ])
      (refine wpCalm_val (v := ?_) rfl ?_ ?_; rotate_left; (focus (intro w' hSw; go_simp; try with_reducible rfl)))
      (try simp only [Act.put, List.setIfInBounds_toArray, List.set_cons_zero, List.set_cons_succ])
      (refine wpCalm_val (v := ?_) rfl ?_ ?_; rotate_left; (focus (intro w' hSw; go_simp; try with_reducible rfl)))
      (try simp only [Act.put, List.setIfInBounds_toArray, List.set_cons_zero, List.set_cons_succ])
      (refine wpCalm_val (v := ?_) rfl ?_ ?_; rotate_left; (focus (intro w' hSw; go_simp; try with_reducible rfl)))
      (try simp only [Act.put, List.setIfInBounds_toArray, List.set_cons_zero, List.set_cons_succ])
      (refine wpCalm_call (v := .int .i64 (i : Int)) (f := ?_) (args := ?_) rfl ?_ ?_ ?_; rotate_left 2; (focus (intro w' hSw; go_simp; constructor <;> with_reducible rfl)); (focus (intro w' hSw; exact (Z3.out w' hSw).mono fun e w1 ⟨h1, h2⟩ => ⟨h1, Below.then_ hSw h2 (Nat.le_refl _)⟩)))
      (try simp only [Act.put, List.setIfInBounds_toArray, List.set_cons_zero, List.set_cons_succ])
      (refine wpCalm_val (v := ?_) rfl ?_ ?_; rotate_left; (focus (intro w' hSw; go_simp; try with_reducible rfl)))
      (try simp only [Act.put, List.setIfInBounds_toArray, List.set_cons_zero, List.set_cons_succ])
      (refine wpCalm_val (v := ?_) rfl ?_ ?_; rotate_left; (focus (intro w' hSw; go_simp; try with_reducible rfl)))
      (try simp only [Act.put, List.setIfInBounds_toArray, List.set_cons_zero, List.set_cons_succ])
      (refine wpCalm_val (v := ?_) rfl ?_ ?_; rotate_left; (focus (intro w' hSw; go_simp; try with_reducible rfl)))
      (try simp only [Act.put, List.setIfInBounds_toArray, List.set_cons_zero, List.set_cons_succ])
      refine wpCalm_nil ?_
      intro w4 hS4
      have hx4 := HX3.out.1.on hS4
      have HX4 := Aside0.mk hx4
      have x6' := hx4.cell 6 rfl
      have f6' := hx4.frozen 6 rfl
      have HS4 := Aside0.mk hS4
      clear hS4 hx4 r5 rx re0 e0 e1 e2 e3 e4 e5 x0 x1 x2 x3 x4 x5 x6 x7 x8
      go_upto_region 11 with (fail)
      obtain ⟨W4, hW4⟩ : ∃ W4 : World, W4 = w4.setCell ⟨w2.heap.size, 6, none⟩ (.bool (x == 0)) := ⟨_, rfl⟩
      rw [← hW4]
      have HBW : Aside0 (Below w.heap.size w W4) := ⟨by rw [hW4]; exact (Below.then_ HB3.out HS4.out (Nat.le_refl _)).setCell (p := ⟨w2.heap.size, 6, none⟩) HW2.out.1.size _⟩
      have hne2 : w.heap.size ≠ w2.heap.size := by have := HW2.out.2.lt; omega
      have he4 : Blk W4 w.heap.size [.string ek, .int .i64 a1, .int .i64 a2, .int .i64 a3, .bool eh, .slice A eb.length cp] := by rw [hW4]; exact ((HW2.out.2.on HX3.out.2).on HS4.out).set_far hne2.symm 6 _
      have HE4 := Aside0.mk he4
      have HX4' : Aside0 (W4.cell? ⟨w2.heap.size, 6, none⟩ = some (.bool (x == 0))) := ⟨by rw [hW4]; exact (HX4.out.set 6 (.bool (x == 0))).cell 6 rfl⟩
      obtain ⟨⟨e0, e1, e2, e3, e4, e5⟩, fe⟩ := he4.six
      have x0 := HX4'.out
      have x1 := x0
      have x2 := x0
      have x3 := x0
      have x4 := x0
      have x5 := x0
      have x6 := x0
      have x7 := x0
      have x8 := x0
      clear hW4 he4 fe x6' f6' hne2 x1 x2 x3 x4 x5 x6 x7 x8
      have x1 : True := trivial
      have x2 : True := trivial
      have x3 : True := trivial
      have x4 : True := trivial
      have x5 : True := trivial
      have x6 : True := trivial
      have x7 : True := trivial
      have x8 : True := trivial
      have hmk := makeE_cases T E
      go_wp2_with (first | ((with_reducible refine (HM.out _ HBW.out).mono ?_); rintro e w5 ⟨rfl, h5, o5⟩; have H5 := Aside0.mk (And.intro h5 o5); have HE5 := Aside0.mk (HE4.out.only o5 HNE.out.1); have HX5 : Aside0 (w5.cell? ⟨w2.heap.size, 6, none⟩ = some (.bool (x == 0))) := ⟨(o5.cell (p := ⟨w2.heap.size, 6, none⟩) (World.block_lt_of_cell? _ _ HX4'.out) HNE.out.2).trans HX4'.out⟩; clear h5 o5))
      · have hz : ¬ makeE T E = 0 := by
          have : (makeE T E != 0) = true := by assumption
          simpa using this
        have hme : makeE T E = 30 ∧ makeT T E = T := by
          rcases hmk with h | h
          · exact absurd h.1 hz
          · exact h
        go_ret
        have h1 : storeE T E = 30 ∧ storeT T E = T := by
          unfold storeT storeE
          rw [if_pos HGOOD.out, if_pos HGOOD.out, HSO.out]
          dsimp only
          rw [if_neg hz]
          exact ⟨hme.1, rfl⟩
        have h2 := H5.out.1
        rw [hme.2] at h2
        exact ⟨by rw [h1.1, hme.1]; rfl, by rw [h1.2]; exact h2, (Only.of_below _ HBW.out).trans H5.out.2⟩
      · have hz : makeE T E = 0 := by
          have : (makeE T E != 0) = false := by assumption
          simpa using this
        have HZ := Aside0.mk hz
        have hNM := HN.out.make E HT.out.srt (by omega)
        have HNM := Aside0.mk hNM
        clear hz hmk hNM
        clear e0 e1 e2 e3 e4 e5 x0 x1 x2 x3 x4 x5 x6 x7 x8
        obtain ⟨⟨e0, e1, e2, e3, e4, e5⟩, fe⟩ := HE5.out.six
        have x6 := HX5.out
        clear fe
        have re0 : ∀ w', Only [p, mb, tb] w5 w' → w'.cell? ⟨w.heap.size, 0, none⟩ = some (.string ek) := fun w' h => (h.cell (p := ⟨w.heap.size, 0, none⟩) HE5.out.lt HNE.out.1).trans e0
        have re1 : ∀ w', Only [p, mb, tb] w5 w' → w'.cell? ⟨w.heap.size, 1, none⟩ = some (.int .i64 a1) := fun w' h => (h.cell (p := ⟨w.heap.size, 1, none⟩) HE5.out.lt HNE.out.1).trans e1
        have re2 : ∀ w', Only [p, mb, tb] w5 w' → w'.cell? ⟨w.heap.size, 2, none⟩ = some (.int .i64 a2) := fun w' h => (h.cell (p := ⟨w.heap.size, 2, none⟩) HE5.out.lt HNE.out.1).trans e2
        have re3 : ∀ w', Only [p, mb, tb] w5 w' → w'.cell? ⟨w.heap.size, 3, none⟩ = some (.int .i64 a3) := fun w' h => (h.cell (p := ⟨w.heap.size, 3, none⟩) HE5.out.lt HNE.out.1).trans e3
        have re4 : ∀ w', Only [p, mb, tb] w5 w' → w'.cell? ⟨w.heap.size, 4, none⟩ = some (.bool eh) := fun w' h => (h.cell (p := ⟨w.heap.size, 4, none⟩) HE5.out.lt HNE.out.1).trans e4
        have re5 : ∀ w', Only [p, mb, tb] w5 w' → w'.cell? ⟨w.heap.size, 5, none⟩ = some (.slice A eb.length cp) := fun w' h => (h.cell (p := ⟨w.heap.size, 5, none⟩) HE5.out.lt HNE.out.1).trans e5
        have rx6 : ∀ w', Only [p, mb, tb] w5 w' → w'.cell? ⟨w2.heap.size, 6, none⟩ = some (.bool (x == 0)) := fun w' h => (h.cell (p := ⟨w2.heap.size, 6, none⟩) (World.block_lt_of_cell? _ _ x6) HNE.out.2).trans x6
        clear e0 e1 e2 e3 e4 e5 x6
        have hFK5 : Kd.FK Entry.k w5.drew (fun k => k ∉ [p, mb, tb]) E [.string ek, .int .i64 a1, .int .i64 a2, .int .i64 a3, .bool eh, .slice A eb.length cp] := Kd.FK_below (FK_only (FK_only HKE.out (Only.of_below [p, mb, tb] HBW.out) (fun i hi => hi)) H5.out.2 (fun i hi => hi)) (below_drew (Below.refl _ w5))
        have hcp0 := copy_calls E A cp w5.drew (by rw [HE.out]; have := Kd.FK_now hFK5; rw [HE.out] at this; exact this) (by rw [HE.out]; dsimp only; omega)
        rw [HE.out] at hcp0
        dsimp only at hcp0
        rw [← HE.out] at hcp0
        have HCP := Aside0.mk hcp0
        clear hcp0 hFK5
        refine wp_region_noPanic ?_
        refine wp_region_held_drew (S := Only [p, mb, tb] w5) (by kernel_rfl) ((Only.refl [p, mb, tb] w5).drew) (fun hHeld => ?_)
        (refine takeH 0 63 (v := ?_) rfl rfl (by kernel_rfl) (by kernel_rfl) (by kernel_rfl) (fun _ _ _ h => h) hHeld rfl ?_ ?_; rotate_left; (focus (intro w' hSw; go_simp; try with_reducible rfl)))
        (try simp only [Act.put, List.setIfInBounds_toArray, List.set_cons_zero, List.set_cons_succ])
        (refine takeH 1 64 (v := ?_) rfl rfl (by kernel_rfl) (by kernel_rfl) (by kernel_rfl) (fun _ _ _ h => h) hHeld rfl ?_ ?_; rotate_left; (focus (intro w' hSw; go_simp; try with_reducible rfl)))
        (try simp only [Act.put, List.setIfInBounds_toArray, List.set_cons_zero, List.set_cons_succ])
        (refine takeH 3 66 (v := ?_) rfl rfl (by kernel_rfl) (by kernel_rfl) (by kernel_rfl) (fun _ _ _ h => h) hHeld rfl ?_ ?_; rotate_left; (focus (intro w' hSw; go_simp; try with_reducible rfl)))
        (try simp only [Act.put, List.setIfInBounds_toArray, List.set_cons_zero, List.set_cons_succ])
        (refine takeH 4 67 (v := ?_) rfl rfl (by kernel_rfl) (by kernel_rfl) (by kernel_rfl) (fun _ _ _ h => h) hHeld rfl ?_ ?_; rotate_left; (focus (intro w' hSw; go_simp; try with_reducible rfl)))
        (try simp only [Act.put, List.setIfInBounds_toArray, List.set_cons_zero, List.set_cons_succ])
        refine wpAnyH_ready (rs := [2]) (by kernel_rfl) (by simp) ?_
        refine AllReadyH.cons rfl (fun K hK => ?_) AllReadyH.nil
        go_simp
        refine HCP.out.mono ?_
        rintro e w6 ⟨cs, rfl, hbk, hfk, hb6⟩
        obtain ⟨A', c', he, _⟩ := Entry.open_ hbk.now
        have hcs : cs = #[.string ek, .int .i64 a1, .int .i64 a2, .int .i64 a3, .bool eh, .slice A' eb.length c'] := by
          have : cs = cs.toList.toArray := by simp
          rw [this, he, HE.out]
        rw [hcs] at hbk
        subst hcs
        have H6 := Aside0.mk (And.intro hbk hb6)
        clear he hfk hbk
        refine hK.out _ _ ((Only.refl [p, mb, tb] w5).drew.on hb6) (fun hHeld => ?_)
        clear hK K hb6
        (try simp only [Act.put, List.setIfInBounds_toArray, List.set_cons_zero, List.set_cons_succ])
        (refine takeH 5 68 (v := ?_) rfl rfl (by kernel_rfl) (by kernel_rfl) (by kernel_rfl) (fun _ _ _ h => h) hHeld rfl ?_ ?_; rotate_left; (focus (intro w' hSw; go_simp; try with_reducible rfl)))
        (try simp only [Act.put, List.setIfInBounds_toArray, List.set_cons_zero, List.set_cons_succ])
        refine wpAnyH_ready (rs := [6]) (by kernel_rfl) (by simp) ?_
        refine AllReadyH.cons rfl (fun K hK => ?_) AllReadyH.nil
        go_simp
        have hbc : BK Cell.k w6 ⟨⟨ek, ⟨a1, a2, a3⟩, ⟨eh, eb⟩⟩, (x == 0), false, 0⟩ [.string ek, .int .i64 a1, .int .i64 a2, .int .i64 a3, .bool eh, .slice A' eb.length c', .bool (x == 0), .bool false, .int .i64 0] := bk_cell (by have := H6.out.1; rw [HE.out] at this; exact this)
        have hl := lay_calls p mb tb (makeT T E) ⟨⟨ek, ⟨a1, a2, a3⟩, ⟨eh, eb⟩⟩, (x == 0), false, 0⟩ A' c' w6 ((H5.out.1.below (below_drew (Below.refl _ w5))).below H6.out.2) hbc (by have := HNM.out.us; omega) (by have := HNM.out.sz; omega) (by dsimp only; omega) (by dsimp only; omega)
        dsimp only at hl
        refine hl.mono ?_
        rintro e w7 ⟨rfl, h7, o7⟩
        refine hK.out _ _ (((Only.refl [p, mb, tb] w5).drew.on H6.out.2).trans o7) (fun hHeld => ?_)
        have H7 := Aside0.mk (And.intro h7 o7)
        clear hK K hbc hl h7 o7
        (try simp only [Act.put, List.setIfInBounds_toArray, List.set_cons_zero, List.set_cons_succ])
        refine wpAnyH_done (by kernel_rfl) ?_ _
        refine NoPanic.normal ?_
        go_wp2
        go_ret
        have h1 : storeE T E = 0 ∧ storeT T E = lay (makeT T E) ⟨E, (x == 0), false, 0⟩ := by
          unfold storeT storeE
          rw [if_pos HGOOD.out, if_pos HGOOD.out, HSO.out]
          dsimp only
          rw [if_pos HZ.out, HWH.out]
          exact ⟨HZ.out, rfl⟩
        refine ⟨by rw [h1.1]; rfl, by rw [h1.2, HE.out]; rw [HE.out] at H7; exact H7.out.1, (((Only.of_below _ HBW.out).trans H5.out.2).trans ((Only.refl [p, mb, tb] w5).drew.on H6.out.2)).trans H7.out.2⟩
  · have HBAD : Aside0 (storeT T e = T ∧ storeE T e = 2) := ⟨by unfold storeT storeE; rw [if_neg hgood, if_neg hgood]; exact ⟨rfl, rfl⟩⟩
    obtain ⟨ek, ⟨a1, a2, a3⟩, ⟨eh, eb⟩⟩ := e
    dsimp only at *
    by_cases ho : EntOk ⟨ek, ⟨a1, a2, a3⟩, ⟨eh, eb⟩⟩
    · have hs0 : (a1 == 0) = true := by
        have : ¬ a1 ≠ 0 := fun hh => hgood ⟨ho, hh⟩
        simpa using this
      have hr0 := rgt_ok ho
      rw [hr0] at HR
      clear hgood ho hr0
      go_enter Try.func13, Try.ntmps13
      go_wp2_with (first | ((with_reducible refine (HR.out _).mono ?_); rintro e w1 ⟨rfl, hb1⟩; have HB1 := Aside0.mk hb1; have hz1 : w.heap.size < w1.heap.size := (by have := hb1.size; simp at this; omega); have hcc := (bcell hb1).1; clear hb1) | ((with_reducible refine (none_calls _ _ _ _).mono ?_); rintro e w2 ⟨rfl, hb2⟩; have HB2 := Aside0.mk hb2; clear hb2))
      go_ret
      have hbf := Below.then_ (Below.then_ (below_alloc (Below.refl _ w) _) HB1.out (Nat.le_refl _)) HB2.out (Nat.le_refl _)
      exact ⟨by rw [HBAD.out.2]; rfl, by rw [HBAD.out.1]; exact HT.out.below hbf, Only.of_below _ hbf⟩
    · have hr0 := rgt_no ho
      rw [hr0] at HR
      clear hgood ho hr0
      go_enter Try.func13, Try.ntmps13
      go_wp2_with (first | ((with_reducible refine (HR.out _).mono ?_); rintro e w1 ⟨rfl, hb1⟩; have HB1 := Aside0.mk hb1; clear hb1))
      go_ret
      have hbf := Below.then_ (below_alloc (Below.refl _ w) _) HB1.out (Nat.le_refl _)
      exact ⟨by rw [HBAD.out.2]; rfl, by rw [HBAD.out.1]; exact HT.out.below hbf, Only.of_below _ hbf⟩
end Tab
end Go.Proofs.Ytgfjkpnaabiecaa
