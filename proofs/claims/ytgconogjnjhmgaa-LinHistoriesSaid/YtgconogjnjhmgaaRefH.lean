/- The reference of layer 18: SameDeeds, of two that read the same. -/
import Derived.Test.YtgconogjnjhmgaaRefF
namespace Go.Proofs.Ytgconogjnjhmgaa
open Go.RowKit Go.Proofs.YtgconogjnjhmgaaW.PrintWords
namespace RefH
open LinA LinB LinC LinD LinE LinF LinG LinH LinJ RightA DeedA DeedsB RefA RefB RefC RefD RefF SameA SameB
attribute [local go_sem ↓] Go.wp_at_zero Go.wp_at_succ
theorem same_self (v : Val) : same v v = true := by unfold same; cases v.has <;> simp
set_option maxRecDepth 100000 in
set_option maxHeartbeats 4000000 in
theorem sameDeeds_refl (A B : Option Addr) (c d : Nat) (xs : List Deed) (w : World) (hx : Deed.k.C w A xs.length xs) (hy : Deed.k.C w B xs.length xs) (hn : xs.length ≤ 1300000000000) :
    Calls Try.prog 25 #[.slice A xs.length c, .slice B xs.length d] w fun e w' => e = .returned (.bool true) ∧ Below w.heap.size w w' := by
  have HX := Aside0.mk hx
  have HY := Aside0.mk hy
  clear hx hy
  go_enter Try.func25, Try.ntmps25
  go_wp2_with fail
  go_loopw [5] (fun v5 wr => ∃ k : Nat, v5 = .int .i64 k ∧ k ≤ xs.length ∧ Aside0 (Below w.heap.size w wr)) (fun v5 _ => xs.length - (intOf v5).toNat)
  case atStart => exact ⟨0, rfl, Nat.zero_le _, ⟨Below.refl _ _⟩⟩
  case round =>
    obtain ⟨k, rfl, hk, HB⟩ := hrel
    by_cases hlt : k < xs.length
    · obtain ⟨ad, x, A1, c1, A6, c6, rfl, HE, hx0, hx1, hx2, hx3, hx4, hx5, hx6, HM⟩ := Deed.at_ (Kd.C_below HX.out HB.out) k hlt
      obtain ⟨bd, y, B1, d1, B6, d6, rfl, HF, hy0, hy1, hy2, hy3, hy4, hy5, hy6, HN⟩ := Deed.at_ (Kd.C_below HY.out HB.out) k hlt
      obtain rfl : y = x := by
        have := HF.out
        rw [HE.out] at this
        injection this with this
        exact this.symm
      have y0 := cell_alloc hy0
      have y1 := cell_alloc hy1
      have y2 := cell_alloc hy2
      have y3 := cell_alloc hy3
      have y4 := cell_alloc hy4
      have y5 := cell_alloc hy5
      have y6 := cell_alloc hy6
      have HDX := Aside0.mk (deed_dig HM.out)
      have HDY := Aside0.mk (deed_dig HN.out)
      have h0 : (0 : Int) ≤ (k : Int) := by omega
      have h1 : (k : Int) < (xs.length : Int) := by omega
      clear hy0 hy1 hy2 hy3 hy4 hy5 hy6 HM HN
      obtain ⟨dk, db, df, dt, dd, ⟨dh, dv⟩⟩ := y
      simp only at *
      have HSB : Aside0 (∀ W, Below wr.heap.size wr W → Calls Try.prog 39 #[.slice A1 db.length c1, .slice B1 db.length d1] W fun e w' => e = .returned (.bool true) ∧ w' = W) := ⟨fun W hW => by
        have := sameBytes_calls A1 B1 c1 d1 db db W (Kd.C_below HDX.out.2.1 hW) (Kd.C_below HDY.out.2.1 hW)
        rw [show (db == db) = true by simp] at this
        exact this⟩
      have HSV : Aside0 (∀ W, Below wr.heap.size wr W → Calls Try.prog 40 #[.agg #[.bool dh, .slice A6 dv.length c6], .agg #[.bool dh, .slice B6 dv.length d6]] W fun e w' => e = .returned (.bool true) ∧ Below W.heap.size W w') := ⟨fun W hW => by
        have := sameVal3_calls ⟨dh, dv⟩ ⟨dh, dv⟩ _ _ W (Val.mk_ W ⟨dh, dv⟩ HDX.out.2.2.1 (Kd.C_below HDX.out.2.2.2 hW)) (Val.mk_ W ⟨dh, dv⟩ HDY.out.2.2.1 (Kd.C_below HDY.out.2.2.2 hW))
        rw [same_self] at this
        exact this⟩
      go_wp2_with (first | (with_reducible refine (HSB.out _ (below_alloc (below_alloc (Below.refl _ _) _) _)).mono ?_; rintro e w1 ⟨rfl, hw⟩; obtain rfl := hw.symm) | (with_reducible refine (HSV.out _ (below_alloc (below_alloc (Below.refl _ _) _) _)).mono ?_; rintro e w1 ⟨rfl, hb1⟩; have HB1 := Aside0.mk (below_step (below_alloc (below_alloc HB.out _) _) hb1); clear hb1))
      go_roundw
      case rel => exact ⟨k + 1, by go_num, by omega, HB1⟩
      case measure => simp [intOf]; omega
    · obtain rfl : k = xs.length := by omega
      go_wp2_with fail
      go_ret
      exact ⟨rfl, HB.out⟩
end RefH
end Go.Proofs.Ytgconogjnjhmgaa
