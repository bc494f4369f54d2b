/- The reference of layer 18: Deeds. -/
import Derived.Test.YtgconogjnjhmgaaRefF
namespace Go.Proofs.Ytgconogjnjhmgaa
open Go.RowKit Go.Proofs.YtgconogjnjhmgaaW.PrintWords
namespace RefG
open LinA LinB LinC LinD LinE LinF LinG LinH LinJ RightA DeedA DeedsB RefA RefB RefC RefD RefF
attribute [local go_sem ↓] Go.wp_at_zero Go.wp_at_succ
theorem kn_of' {k : Int} (h1 : 1 ≤ k) (h2 : k ≤ 3) : kn k = true := by unfold kn; simp; omega
theorem ansIx_lt {xs : List Note} {a j : Nat} (h : ansIx xs a = some j) : a < j ∧ j < xs.length := by
  unfold ansIx at h
  have h4 := List.find?_some h
  have h5 := List.mem_range.1 (List.mem_of_find?_eq_some h)
  simp only [Bool.and_eq_true, decide_eq_true_eq] at h4
  exact ⟨h4.1, h5⟩
set_option maxRecDepth 100000 in
set_option maxHeartbeats 8000000 in
theorem refDeeds_calls (key : ByteArray) (A : Option Addr) (c : Nat) (xs : List Note) (w : World) (hr : Note.k.C w A xs.length xs) (hn : xs.length ≤ 1300000000000) :
    Calls Try.prog 20 #[.string key, .slice A xs.length c] w (DeedsTold key xs w) := by
  have HR := Aside0.mk hr
  have HRI := Aside0.mk (refRight_calls A c xs w HR.out hn)
  clear hr
  go_enter Try.func20, Try.ntmps20
  cases hrt : rightB xs with
  | false =>
    have hrc : rightC xs = 2 := by unfold rightC; rw [hrt]; rfl
    have HRC := Aside0.mk hrc
    have HDL : Aside0 (deedsL key xs = []) := ⟨by unfold deedsL; rw [hrt]; rfl⟩
    rw [hrc] at HRI
    clear hrc hrt
    go_wp2_with (first | (with_reducible refine HRI.out.mono ?_; rintro e w1 ⟨rfl, hw⟩; obtain rfl := hw.symm))
    go_ret2
    exact ⟨none, 0, by rw [HRC.out, HDL.out]; rfl, by rw [HDL.out]; exact Nat.le_refl _, by rw [HDL.out]; exact Kd.C_nil _ _, Below.refl _ _⟩
  | true =>
    have hrc : rightC xs = 0 := by unfold rightC; rw [hrt]; rfl
    have HRC := Aside0.mk hrc
    have HRT := Aside0.mk hrt
    have HDL : Aside0 (deedsL key xs = dTo key xs xs.length) := ⟨by unfold deedsL; rw [hrt]; rfl⟩
    have HAN : Aside0 (∀ W, Below w.heap.size w W → ∀ k : Nat, k < xs.length → (xs.getD k Note.z).isAnswer = false → Calls Try.prog 44 #[.slice A xs.length c, .int .i64 k] W fun e w' => e = .returned (.int .i64 (toI (ansIx xs k))) ∧ w' = W) := ⟨fun W hW k hk hc => by
      have := answer_calls A c xs k W (Kd.C_below HR.out hW) hn hk
      rw [ans_is HRT.out hk hc] at this
      exact this⟩
    rw [hrc] at HRI
    clear hrc hrt
    go_wp2_with (first | (with_reducible refine HRI.out.mono ?_; rintro e w1 ⟨rfl, hw⟩; obtain rfl := hw.symm))
    go_loopw [6, 7] (fun v6 v7 wr => ∃ k : Nat, v7 = .int .i64 k ∧ k ≤ xs.length ∧ Aside0 (Below w.heap.size w wr) ∧ Aside0 (OwnRow (RD w) 30 7 wr w.heap.size v6 (dTo key xs k))) (fun _ v7 _ => xs.length - (intOf v7).toNat)
    case atStart => exact ⟨0, rfl, Nat.zero_le _, ⟨Below.refl _ _⟩, ⟨OwnRow.none_ _ _ _ _ _⟩⟩
    case round =>
      obtain ⟨k, rfl, hk, HB, HO⟩ := hrel
      by_cases hlt : k < xs.length
      · obtain ⟨ad, x, A4, c4, A8, c8, rfl, HE, hx0, hx1, hx2, hx3, hx4, hx5, hx6, hx7, hx8, HMM⟩ := Note.at_ HR.out k hlt
        have HXK : Aside0 (xs.getD k Note.z = x) := ⟨by rw [List.getD_eq_getElem?_getD, HE.out]; rfl⟩
        have HSU := Aside0.mk (dTo_succ key xs k)
        have hle := dTo_length key xs k
        have z0 := pw_cell_below HB.out hx0
        have y0 := cell_alloc z0
        have z1 := pw_cell_below HB.out hx1
        have z2 : wr.cell? ⟨(ad.add (k * 9)).block, (ad.add (k * 9)).off + 1 + 1, none⟩ = _ := pw_cell_below HB.out hx2
        have z3 : wr.cell? ⟨(ad.add (k * 9)).block, (ad.add (k * 9)).off + 1 + 2, none⟩ = _ := pw_cell_below HB.out hx3
        have z4 : wr.cell? ⟨(ad.add (k * 9)).block, (ad.add (k * 9)).off + 1 + 3, none⟩ = _ := pw_cell_below HB.out hx4
        have HDG := Aside0.mk (note_dig HMM.out)
        have h0 : (0 : Int) ≤ (k : Int) := by omega
        have h1 : (k : Int) < (xs.length : Int) := by omega
        have HDK := Aside0.mk (deedD_kind xs k)
        rw [HXK.out] at HDK
        have HNO : Aside0 (dIs key xs k = false → ∀ o, Below wr.heap.size wr o → OwnRow (RD w) 30 7 o w.heap.size u6 (dTo key xs (k + 1))) := ⟨fun h o ho => by
          rw [HSU.out, h, if_neg Bool.false_ne_true, List.append_nil]
          exact OwnRow.below HO.out ho⟩
        clear hx0 hx1 hx2 hx3 hx4 hx5 hx6 hx7 hx8 HMM
        obtain ⟨xa, ⟨ci, ck, cy, cb⟩, ⟨ai, ae, av⟩⟩ := x
        simp only at *
        cases xa with
        | true =>
          go_wp2_with fail
          go_roundw
          case rel => exact ⟨k + 1, by go_num, by omega, ⟨below_alloc HB.out _⟩, ⟨HNO.out (by unfold dIs; rw [HXK.out]; rfl) _ (below_alloc (Below.refl _ _) _)⟩⟩
          case measure => simp [intOf]; omega
        | false =>
          by_cases hky : cy = key
          · subst hky
            by_cases q1 : ck < 1
            · have HDI : Aside0 (dIs cy xs k = false) := ⟨by unfold dIs deedIs; rw [HDK.out, HXK.out, show kn ck = false by unfold kn; simp; omega]; simp⟩
              go_wp2_with fail
              go_roundw
              case rel => exact ⟨k + 1, by go_num, by omega, ⟨below_alloc HB.out _⟩, ⟨HNO.out HDI.out _ (below_alloc (Below.refl _ _) _)⟩⟩
              case measure => simp [intOf]; omega
            · by_cases q2 : 3 < ck
              · have HDI : Aside0 (dIs cy xs k = false) := ⟨by unfold dIs deedIs; rw [HDK.out, HXK.out, show kn ck = false by unfold kn; simp; omega]; simp⟩
                go_wp2_with fail
                go_roundw
                case rel => exact ⟨k + 1, by go_num, by omega, ⟨below_alloc HB.out _⟩, ⟨HNO.out HDI.out _ (below_alloc (Below.refl _ _) _)⟩⟩
                case measure => simp [intOf]; omega
              · have HA := Aside0.mk (fun W (hW : Below w.heap.size w W) => HAN.out W hW k hlt (by rw [HXK.out]))
                cases hax : ansIx xs k with
                | none =>
                  have HAX := Aside0.mk hax
                  rw [hax] at HA
                  clear hax
                  rw [show toI none = -1 from rfl] at HA
                  have HDE : Aside0 (deedE xs k = 40) := ⟨by unfold deedE; rw [HAX.out]⟩
                  have HDD : Aside0 (deedD xs k = ⟨ck, cb, k, xs.length, false, Val.z⟩) := ⟨by unfold deedD; rw [HAX.out, HXK.out]; rfl⟩
                  by_cases q3 : ck = 1
                  · have HDI : Aside0 (dIs cy xs k = false) := ⟨by unfold dIs deedIs; rw [HDK.out, HXK.out, show kn ck = true from kn_of' (by omega) (by omega), HDD.out, HDE.out]; simp [q3]⟩
                    go_wp2_with (first | (with_reducible refine (HA.out _ (below_alloc (below_alloc HB.out _) _)).mono ?_; rintro e w1 ⟨rfl, hw⟩; obtain rfl := hw.symm))
                    go_roundw
                    case rel => exact ⟨k + 1, by go_num, by omega, ⟨below_alloc (below_alloc HB.out _) _⟩, ⟨HNO.out HDI.out _ (below_alloc (below_alloc (Below.refl _ _) _) _)⟩⟩
                    case measure => simp [intOf]; omega
                  · have HDI : Aside0 (dIs cy xs k = true) := ⟨by unfold dIs deedIs; rw [HDK.out, HXK.out, show kn ck = true from kn_of' (by omega) (by omega), HDD.out, HDE.out]; simp [q3]⟩
                    have HRD := Aside0.mk (rd_of (w := w) (k := ck) (b := cb) (f := k) (t := xs.length) (dn := false) (v := Val.z) (A6 := none) (c6 := 0) HDG.out.2.2.2.2.2.1 HDG.out.2.1 HDG.out.1 (by omega) hn (Nat.le_refl _) (nil8 _))
                    go_wp2_with (first | (with_reducible refine (HA.out _ (below_alloc (below_alloc HB.out _) _)).mono ?_; rintro e w1 ⟨rfl, hw⟩; obtain rfl := hw.symm) | (at_builtin; refine own_append_rows (w0 := w) (R := RD w) w.heap.size rfl _ _ 22 30 _ 7 88 rfl Try.underlying22 infoD rfl (by omega) (by omega) u6 (dTo cy xs k) [⟨ck, cb, k, xs.length, false, Val.z⟩] (some ⟨wr.heap.size + 2, 0, none⟩) 1 1 rfl (by show Value.slice _ 1 1 = _; simp) (OwnRow.below HO.out (below_alloc (below_alloc (below_alloc (Below.refl _ _) _) _) _)) (reads1d HRD.out (Blk.new_ _ _ _ (by simp) rfl)) (fun _ _ h => h.2.1) (below_alloc (below_alloc (below_alloc HB.out _) _) _) (below_alloc (below_alloc (below_alloc HB.out _) _) _).size (by omega) ?_; intro v1 w3 hown hB3 hg3 hat3; have HOW := Aside0.mk hown; have HB3 := Aside0.mk hB3; clear hown hB3 hg3 hat3))
                    go_roundw
                    case rel => exact ⟨k + 1, by go_num, by omega, HB3, ⟨by rw [HSU.out, HDI.out, if_pos rfl, HDD.out]; exact HOW.out⟩⟩
                    case measure => simp [intOf]; omega
                | some j =>
                  obtain ⟨hkj, hjl⟩ := ansIx_lt hax
                  have HAX := Aside0.mk hax
                  rw [hax] at HA
                  rw [show toI (some j) = (j : Int) from rfl] at HA
                  clear hax
                  obtain ⟨ad2, y, Y4, g4, Y8, g8, he, HEY, hy0, hy1, hy2, hy3, hy4, hy5, hy6, hy7, hy8, HMY⟩ := Note.at_ HR.out j hjl
                  injection he with he
                  subst he
                  have HYK : Aside0 (xs.getD j Note.z = y) := ⟨by rw [List.getD_eq_getElem?_getD, HEY.out]; rfl⟩
                  have t6 : ∀ o o2, ((wr.alloc o).alloc o2).cell? ⟨(ad.add (j * 9)).block, (ad.add (j * 9)).off + 5 + 1, none⟩ = _ := fun o o2 => pw_cell_below (below_alloc (below_alloc (Below.refl _ _) o) o2) (pw_cell_below HB.out hy6)
                  have t7 : ∀ o o2, ((wr.alloc o).alloc o2).cell? ⟨(ad.add (j * 9)).block, (ad.add (j * 9)).off + 5 + 2, none⟩ = _ := fun o o2 => pw_cell_below (below_alloc (below_alloc (Below.refl _ _) o) o2) (pw_cell_below HB.out hy7)
                  have t8 : ∀ o o2, ((wr.alloc o).alloc o2).cell? ⟨(ad.add (j * 9)).block, (ad.add (j * 9)).off + 5 + 2 + 1, none⟩ = _ := fun o o2 => pw_cell_below (below_alloc (below_alloc (Below.refl _ _) o) o2) (pw_cell_below HB.out hy8)
                  have HDY := Aside0.mk (note_dig HMY.out)
                  have hj0 : (0 : Int) ≤ (j : Int) := by omega
                  have hj1 : (j : Int) < (xs.length : Int) := by omega
                  clear hy0 hy1 hy2 hy3 hy4 hy5 hy6 hy7 hy8 HMY
                  obtain ⟨ya, yc, ⟨bi, be, bv⟩⟩ := y
                  simp only at *
                  have HDE : Aside0 (deedE xs k = be) := ⟨by unfold deedE; rw [HAX.out]; simp only; rw [HYK.out]⟩
                  by_cases e0 : be = 0
                  · by_cases q3 : ck = 1
                    · subst q3
                      have HDD : Aside0 (deedD xs k = ⟨1, cb, k, j, true, bv⟩) := ⟨by unfold deedD; rw [HAX.out]; simp only; rw [HYK.out, HXK.out, if_pos e0, full_get rfl]⟩
                      have HDI : Aside0 (dIs cy xs k = true) := ⟨by unfold dIs deedIs; rw [HDK.out, HXK.out, show kn 1 = true from kn_of' (by omega) (by omega), HDD.out, HDE.out]; simp⟩
                      have HRD := Aside0.mk (rd_of (w := w) (k := 1) (b := cb) (f := k) (t := j) (dn := true) (v := bv) HDG.out.2.2.2.2.2.1 HDG.out.2.1 HDG.out.1 (by omega) (by omega) HDY.out.2.2.2.1 HDY.out.2.2.1)
                      go_wp2_with (first | (with_reducible refine (HA.out _ (below_alloc (below_alloc HB.out _) _)).mono ?_; rintro e w1 ⟨rfl, hw⟩; obtain rfl := hw.symm) | (at_builtin; refine own_append_rows (w0 := w) (R := RD w) w.heap.size rfl _ _ 22 30 _ 7 88 rfl Try.underlying22 infoD rfl (by omega) (by omega) u6 (dTo cy xs k) [⟨1, cb, k, j, true, bv⟩] (some ⟨wr.heap.size + 2, 0, none⟩) 1 1 rfl (by show Value.slice _ 1 1 = _; simp) (OwnRow.below HO.out (below_alloc (below_alloc (below_alloc (Below.refl _ _) _) _) _)) (reads1d HRD.out (Blk.new_ _ _ _ (by simp) rfl)) (fun _ _ h => h.2.1) (below_alloc (below_alloc (below_alloc HB.out _) _) _) (below_alloc (below_alloc (below_alloc HB.out _) _) _).size (by omega) ?_; intro v1 w3 hown hB3 hg3 hat3; have HOW := Aside0.mk hown; have HB3 := Aside0.mk hB3; clear hown hB3 hg3 hat3))
                      go_roundw
                      case rel => exact ⟨k + 1, by go_num, by omega, HB3, ⟨by rw [HSU.out, HDI.out, if_pos rfl, HDD.out]; exact HOW.out⟩⟩
                      case measure => simp [intOf]; omega
                    · have HDD : Aside0 (deedD xs k = ⟨ck, cb, k, j, true, Val.z⟩) := ⟨by unfold deedD; rw [HAX.out]; simp only; rw [HYK.out, HXK.out, if_pos e0, full_put q3]⟩
                      have HDI : Aside0 (dIs cy xs k = true) := ⟨by unfold dIs deedIs; rw [HDK.out, HXK.out, show kn ck = true from kn_of' (by omega) (by omega), HDD.out, HDE.out]; simp⟩
                      have HRD := Aside0.mk (rd_of (w := w) (k := ck) (b := cb) (f := k) (t := j) (dn := true) (v := Val.z) (A6 := none) (c6 := 0) HDG.out.2.2.2.2.2.1 HDG.out.2.1 HDG.out.1 (by omega) (by omega) (Nat.le_refl _) (nil8 _))
                      go_wp2_with (first | (with_reducible refine (HA.out _ (below_alloc (below_alloc HB.out _) _)).mono ?_; rintro e w1 ⟨rfl, hw⟩; obtain rfl := hw.symm) | (at_builtin; refine own_append_rows (w0 := w) (R := RD w) w.heap.size rfl _ _ 22 30 _ 7 88 rfl Try.underlying22 infoD rfl (by omega) (by omega) u6 (dTo cy xs k) [⟨ck, cb, k, j, true, Val.z⟩] (some ⟨wr.heap.size + 2, 0, none⟩) 1 1 rfl (by show Value.slice _ 1 1 = _; simp) (OwnRow.below HO.out (below_alloc (below_alloc (below_alloc (Below.refl _ _) _) _) _)) (reads1d HRD.out (Blk.new_ _ _ _ (by simp) rfl)) (fun _ _ h => h.2.1) (below_alloc (below_alloc (below_alloc HB.out _) _) _) (below_alloc (below_alloc (below_alloc HB.out _) _) _).size (by omega) ?_; intro v1 w3 hown hB3 hg3 hat3; have HOW := Aside0.mk hown; have HB3 := Aside0.mk hB3; clear hown hB3 hg3 hat3))
                      go_roundw
                      case rel => exact ⟨k + 1, by go_num, by omega, HB3, ⟨by rw [HSU.out, HDI.out, if_pos rfl, HDD.out]; exact HOW.out⟩⟩
                      case measure => simp [intOf]; omega
                  · have HDD : Aside0 (deedD xs k = ⟨ck, cb, k, xs.length, false, Val.z⟩) := ⟨by unfold deedD; rw [HAX.out]; simp only; rw [HYK.out, HXK.out, if_neg e0]; rfl⟩
                    have HRD := Aside0.mk (rd_of (w := w) (k := ck) (b := cb) (f := k) (t := xs.length) (dn := false) (v := Val.z) (A6 := none) (c6 := 0) HDG.out.2.2.2.2.2.1 HDG.out.2.1 HDG.out.1 (by omega) hn (Nat.le_refl _) (nil8 _))
                    by_cases q3 : ck = 1
                    · have HDI : Aside0 (dIs cy xs k = false) := ⟨by unfold dIs deedIs; rw [HDK.out, HXK.out, show kn ck = true from kn_of' (by omega) (by omega), HDD.out, HDE.out]; simp [q3]⟩
                      by_cases e4 : be = 40
                      · go_wp2_with (first | (with_reducible refine (HA.out _ (below_alloc (below_alloc HB.out _) _)).mono ?_; rintro e w1 ⟨rfl, hw⟩; obtain rfl := hw.symm))
                        go_roundw
                        case rel => exact ⟨k + 1, by go_num, by omega, ⟨below_alloc (below_alloc HB.out _) _⟩, ⟨HNO.out HDI.out _ (below_alloc (below_alloc (Below.refl _ _) _) _)⟩⟩
                        case measure => simp [intOf]; omega
                      · by_cases e3 : be = 30
                        · go_wp2_with (first | (with_reducible refine (HA.out _ (below_alloc (below_alloc HB.out _) _)).mono ?_; rintro e w1 ⟨rfl, hw⟩; obtain rfl := hw.symm))
                          go_roundw
                          case rel => exact ⟨k + 1, by go_num, by omega, ⟨below_alloc (below_alloc HB.out _) _⟩, ⟨HNO.out HDI.out _ (below_alloc (below_alloc (Below.refl _ _) _) _)⟩⟩
                          case measure => simp [intOf]; omega
                        · go_wp2_with (first | (with_reducible refine (HA.out _ (below_alloc (below_alloc HB.out _) _)).mono ?_; rintro e w1 ⟨rfl, hw⟩; obtain rfl := hw.symm))
                          go_roundw
                          case rel => exact ⟨k + 1, by go_num, by omega, ⟨below_alloc (below_alloc HB.out _) _⟩, ⟨HNO.out HDI.out _ (below_alloc (below_alloc (Below.refl _ _) _) _)⟩⟩
                          case measure => simp [intOf]; omega
                    · by_cases e4 : be = 40
                      · have HDI : Aside0 (dIs cy xs k = true) := ⟨by unfold dIs deedIs; rw [HDK.out, HXK.out, show kn ck = true from kn_of' (by omega) (by omega), HDD.out, HDE.out]; simp [q3, e4]⟩
                        go_wp2_with (first | (with_reducible refine (HA.out _ (below_alloc (below_alloc HB.out _) _)).mono ?_; rintro e w1 ⟨rfl, hw⟩; obtain rfl := hw.symm) | (at_builtin; refine own_append_rows (w0 := w) (R := RD w) w.heap.size rfl _ _ 22 30 _ 7 88 rfl Try.underlying22 infoD rfl (by omega) (by omega) u6 (dTo cy xs k) [⟨ck, cb, k, xs.length, false, Val.z⟩] (some ⟨wr.heap.size + 2, 0, none⟩) 1 1 rfl (by show Value.slice _ 1 1 = _; simp) (OwnRow.below HO.out (below_alloc (below_alloc (below_alloc (Below.refl _ _) _) _) _)) (reads1d HRD.out (Blk.new_ _ _ _ (by simp) rfl)) (fun _ _ h => h.2.1) (below_alloc (below_alloc (below_alloc HB.out _) _) _) (below_alloc (below_alloc (below_alloc HB.out _) _) _).size (by omega) ?_; intro v1 w3 hown hB3 hg3 hat3; have HOW := Aside0.mk hown; have HB3 := Aside0.mk hB3; clear hown hB3 hg3 hat3))
                        go_roundw
                        case rel => exact ⟨k + 1, by go_num, by omega, HB3, ⟨by rw [HSU.out, HDI.out, if_pos rfl, HDD.out]; exact HOW.out⟩⟩
                        case measure => simp [intOf]; omega
                      · by_cases e3 : be = 30
                        · have HDI : Aside0 (dIs cy xs k = true) := ⟨by unfold dIs deedIs; rw [HDK.out, HXK.out, show kn ck = true from kn_of' (by omega) (by omega), HDD.out, HDE.out]; simp [q3, e3]⟩
                          go_wp2_with (first | (with_reducible refine (HA.out _ (below_alloc (below_alloc HB.out _) _)).mono ?_; rintro e w1 ⟨rfl, hw⟩; obtain rfl := hw.symm) | (at_builtin; refine own_append_rows (w0 := w) (R := RD w) w.heap.size rfl _ _ 22 30 _ 7 88 rfl Try.underlying22 infoD rfl (by omega) (by omega) u6 (dTo cy xs k) [⟨ck, cb, k, xs.length, false, Val.z⟩] (some ⟨wr.heap.size + 2, 0, none⟩) 1 1 rfl (by show Value.slice _ 1 1 = _; simp) (OwnRow.below HO.out (below_alloc (below_alloc (below_alloc (Below.refl _ _) _) _) _)) (reads1d HRD.out (Blk.new_ _ _ _ (by simp) rfl)) (fun _ _ h => h.2.1) (below_alloc (below_alloc (below_alloc HB.out _) _) _) (below_alloc (below_alloc (below_alloc HB.out _) _) _).size (by omega) ?_; intro v1 w3 hown hB3 hg3 hat3; have HOW := Aside0.mk hown; have HB3 := Aside0.mk hB3; clear hown hB3 hg3 hat3))
                          go_roundw
                          case rel => exact ⟨k + 1, by go_num, by omega, HB3, ⟨by rw [HSU.out, HDI.out, if_pos rfl, HDD.out]; exact HOW.out⟩⟩
                          case measure => simp [intOf]; omega
                        · have HDI : Aside0 (dIs cy xs k = false) := ⟨by unfold dIs deedIs; rw [HDK.out, HXK.out, show kn ck = true from kn_of' (by omega) (by omega), HDD.out, HDE.out]; simp [e3, e4]⟩
                          go_wp2_with (first | (with_reducible refine (HA.out _ (below_alloc (below_alloc HB.out _) _)).mono ?_; rintro e w1 ⟨rfl, hw⟩; obtain rfl := hw.symm))
                          go_roundw
                          case rel => exact ⟨k + 1, by go_num, by omega, ⟨below_alloc (below_alloc HB.out _) _⟩, ⟨HNO.out HDI.out _ (below_alloc (below_alloc (Below.refl _ _) _) _)⟩⟩
                          case measure => simp [intOf]; omega
          · have hky2 : (cy.toList == key.toList) = false := str_ne hky
            go_wp2_with fail
            go_roundw
            case rel => exact ⟨k + 1, by go_num, by omega, ⟨below_alloc HB.out _⟩, ⟨HNO.out (by unfold dIs; rw [HXK.out]; simp [hky]) _ (below_alloc (Below.refl _ _) _)⟩⟩
            case measure => simp [intOf]; omega
      · obtain rfl : k = xs.length := by omega
        go_wp2
        go_ret2
        obtain ⟨A', c', rfl, h1, h2⟩ := OwnRow.reads (OwnRow.imp_ HO.out (fun _ _ h => h.2.2 wr HB.out))
        exact ⟨A', c', by rw [HRC.out, HDL.out]; rfl, by rw [HDL.out]; exact h1, by rw [HDL.out]; exact h2, HB.out⟩
end RefG
end Go.Proofs.Ytgconogjnjhmgaa
