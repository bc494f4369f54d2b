/- The document's SameNotes; LinSame walked. -/
import Derived.Test.YtgconogjnjhmgaaSameB
import Derived.Test.YtgconogjnjhmgaaKindsR
namespace Go.Proofs.Ytgconogjnjhmgaa
open Go.RowKit Go.Proofs.YtgconogjnjhmgaaW.PrintWords
namespace SameC
open LinA LinB LinI LinK SameA SameB
theorem cell_alloc2 {w : World} {a : Addr} {v : Value} (h : w.cell? a = some v) : ∀ o1 o2, ((w.alloc o1).alloc o2).cell? a = some v := fun o1 o2 => cell_alloc (cell_alloc h o1) o2
theorem cell_alloc3 {w : World} {a : Addr} {v : Value} (h : w.cell? a = some v) : ∀ o1 o2 o3, (((w.alloc o1).alloc o2).alloc o3).cell? a = some v := fun o1 o2 o3 => cell_alloc (cell_alloc2 h o1 o2) o3
theorem cell_alloc4 {w : World} {a : Addr} {v : Value} (h : w.cell? a = some v) : ∀ o1 o2 o3 o4, ((((w.alloc o1).alloc o2).alloc o3).alloc o4).cell? a = some v := fun o1 o2 o3 o4 => cell_alloc (cell_alloc3 h o1 o2 o3) o4
theorem noteSame_eq (x y : Note) : noteSame x y = true ↔ ((x.isAnswer == y.isAnswer) = true ∧ (x.call.id_ == y.call.id_) = true ∧ (x.call.kind == y.call.kind) = true ∧ (x.call.key.toList == y.call.key.toList) = true ∧ (x.call.b == y.call.b) = true) ∧ (x.answer.id_ == y.answer.id_) = true ∧ (x.answer.e == y.answer.e) = true ∧ same x.answer.val y.answer.val = true := by
  unfold noteSame
  simp only [Bool.and_eq_true]
  exact ⟨fun ⟨a, b, c, d, e, f, g, h⟩ => ⟨⟨a, b, c, d, e⟩, f, g, h⟩, fun ⟨⟨a, b, c, d, e⟩, f, g, h⟩ => ⟨a, b, c, d, e, f, g, h⟩⟩
set_option maxRecDepth 100000 in
set_option maxHeartbeats 2000000 in
theorem sameNotes_calls (A B : Option Addr) (c d : Nat) (xs ys : List Note) (w : World) (hx : Note.k.C w A xs.length xs) (hy : Note.k.C w B ys.length ys) (hn : xs.length ≤ 70368744177664) :
    Calls Try.prog 15 #[.slice A xs.length c, .slice B ys.length d] w fun e w' => e = .returned (.bool (allSame noteSame xs ys)) ∧ Below w.heap.size w w' := by
  have HX := Aside0.mk hx
  have HY := Aside0.mk hy
  clear hx hy
  by_cases hl : xs.length = ys.length
  · have hl1 : ((xs.length : Int) == (ys.length : Int)) = true := by rw [hl]; simp
    have hl2 : ((xs.length : Int) != (ys.length : Int)) = false := by rw [hl]; simp
    have HL := Aside0.mk hl
    clear hl
    go_enter Try.func15, Try.ntmps15
    go_wp2_with fail
    clear hl1 hl2
    go_loopw [5] (fun v wr => ∃ k : Nat, v = .int .i64 k ∧ k ≤ xs.length ∧ Below w.heap.size w wr ∧ Aside0 (allSame noteSame xs ys = allSame noteSame (xs.drop k) (ys.drop k))) (fun v _ => xs.length - (intOf v).toNat)
    case atStart => exact ⟨0, rfl, Nat.zero_le _, Below.refl _ _, ⟨by simp⟩⟩
    case round =>
      obtain ⟨k, rfl, hk, hb, HE⟩ := hrel
      by_cases hlt : k < xs.length
      · have hlt2 : k < ys.length := by have := HL.out; omega
        obtain ⟨ad, x, A4, c4, A8, c8, rfl, HA, x0, x1, x2, x3, x4, x5, x6, x7, x8, HKX⟩ := Note.at_ (Kd.C_below HX.out hb) k hlt
        obtain ⟨bd, y, B4, d4, B8, d8, rfl, HB, y0, y1, y2, y3, y4, y5, y6, y7, y8, HKY⟩ := Note.at_ (Kd.C_below HY.out hb) k hlt2
        have HBB := Aside0.mk hb
        have h0 : (0 : Int) ≤ (k : Int) := by omega
        have h1 : (k : Int) < (xs.length : Int) := by omega
        have h2 : (k : Int) < (ys.length : Int) := by omega
        obtain ⟨E4, f4, E8, f8, ex, _, _, _, l4, g4, _, _, l8, g8⟩ := Note.open_ HKX.out
        obtain ⟨G4, i4, G8, i8, ey, _, _, _, m4, n4, _, _, m8, n8⟩ := Note.open_ HKY.out
        simp at ex ey
        obtain ⟨⟨rfl, rfl⟩, rfl, rfl⟩ := ex
        obtain ⟨⟨rfl, rfl⟩, rfl, rfl⟩ := ey
        have H4 := Aside0.mk (And.intro g4 n4)
        have H8 := Aside0.mk (And.intro (Val.mk_ wr x.answer.val l8 g8) (Val.mk_ wr y.answer.val m8 n8))
        replace x0 := cell_alloc4 x0
        replace y0 := cell_alloc4 y0
        replace y1 := cell_alloc y1
        replace y2 := cell_alloc y2
        replace y3 := cell_alloc y3
        replace y4 := cell_alloc y4
        replace x5 := cell_alloc2 x5
        replace x6 := cell_alloc2 x6
        replace x7 := cell_alloc2 x7
        replace x8 := cell_alloc2 x8
        replace y5 := cell_alloc3 y5
        replace y6 := cell_alloc3 y6
        replace y7 := cell_alloc3 y7
        replace y8 := cell_alloc3 y8
        clear hb HKX HKY l4 g4 l8 g8 m4 n4 m8 n8
        cases t0 : (x.isAnswer == y.isAnswer) with
        | false =>
          have u0 : (x.isAnswer != y.isAnswer) = true := by rw [bne, t0]; rfl
          have HNS : Aside0 (noteSame x y = false) := ⟨by unfold noteSame; rw [t0]; simp⟩
          go_wp2_with fail
          go_quiet (fail)
          go_wp2
          go_ret
          exact ⟨by rw [HE.out, allSame_drop HA.out HB.out, HNS.out]; rfl, (by repeat (first | exact HBB.out | refine pw_below_drewN ?_ _ | refine below_alloc ?_ _))⟩
        | true =>
          have u0 : (x.isAnswer != y.isAnswer) = false := by rw [bne, t0]; rfl
          cases t1 : (x.call.id_ == y.call.id_) with
          | false =>
            have u1 : (x.call.id_ != y.call.id_) = true := by rw [bne, t1]; rfl
            have HNS : Aside0 (noteSame x y = false) := ⟨by unfold noteSame; rw [t0, t1]; simp⟩
            go_wp2_with fail
            go_quiet (fail)
            go_wp2
            go_ret
            exact ⟨by rw [HE.out, allSame_drop HA.out HB.out, HNS.out]; rfl, (by repeat (first | exact HBB.out | refine pw_below_drewN ?_ _ | refine below_alloc ?_ _))⟩
          | true =>
            have u1 : (x.call.id_ != y.call.id_) = false := by rw [bne, t1]; rfl
            cases t2 : (x.call.kind == y.call.kind) with
            | false =>
              have u2 : (x.call.kind != y.call.kind) = true := by rw [bne, t2]; rfl
              have HNS : Aside0 (noteSame x y = false) := ⟨by unfold noteSame; rw [t0, t1, t2]; simp⟩
              go_wp2_with fail
              go_quiet (fail)
              go_wp2
              go_ret
              exact ⟨by rw [HE.out, allSame_drop HA.out HB.out, HNS.out]; rfl, (by repeat (first | exact HBB.out | refine pw_below_drewN ?_ _ | refine below_alloc ?_ _))⟩
            | true =>
              have u2 : (x.call.kind != y.call.kind) = false := by rw [bne, t2]; rfl
              cases t3 : (x.call.key.toList == y.call.key.toList) with
              | false =>
                have u3 : (x.call.key.toList != y.call.key.toList) = true := by rw [bne, t3]; rfl
                have HNS : Aside0 (noteSame x y = false) := ⟨by unfold noteSame; rw [t0, t1, t2, t3]; simp⟩
                go_wp2_with fail
                go_quiet (fail)
                go_wp2
                go_ret
                exact ⟨by rw [HE.out, allSame_drop HA.out HB.out, HNS.out]; rfl, (by repeat (first | exact HBB.out | refine pw_below_drewN ?_ _ | refine below_alloc ?_ _))⟩
              | true =>
                have u3 : (x.call.key.toList != y.call.key.toList) = false := by rw [bne, t3]; rfl
                cases t4 : (x.call.b == y.call.b) with
                | false =>
                  have u4 : (x.call.b != y.call.b) = true := by rw [bne, t4]; rfl
                  have HNS : Aside0 (noteSame x y = false) := ⟨by unfold noteSame; rw [t0, t1, t2, t3, t4]; simp⟩
                  go_wp2_with fail
                  go_quiet ((go_at_call 39; exact Calls.quiet_of_same (sameBytes_calls _ _ _ _ _ _ _ (Kd.C_below H4.out.1 (by repeat (first | exact Below.refl _ _ | refine pw_below_drewN ?_ _ | refine below_drew ?_ | refine below_alloc ?_ _))) (Kd.C_below H4.out.2 (by repeat (first | exact Below.refl _ _ | refine pw_below_drewN ?_ _ | refine below_drew ?_ | refine below_alloc ?_ _))))))
                  go_wp2
                  go_ret
                  exact ⟨by rw [HE.out, allSame_drop HA.out HB.out, HNS.out]; rfl, (by repeat (first | exact HBB.out | refine pw_below_drewN ?_ _ | refine below_alloc ?_ _))⟩
                | true =>
                  have u4 : (x.call.b != y.call.b) = false := by rw [bne, t4]; rfl
                  cases t5 : (x.answer.id_ == y.answer.id_) with
                  | false =>
                    have u5 : (x.answer.id_ != y.answer.id_) = true := by rw [bne, t5]; rfl
                    have HNS : Aside0 (noteSame x y = false) := ⟨by unfold noteSame; rw [t0, t1, t2, t3, t4, t5]; simp⟩
                    go_wp2_with fail
                    go_quiet ((go_at_call 39; exact Calls.quiet_of_same (sameBytes_calls _ _ _ _ _ _ _ (Kd.C_below H4.out.1 (by repeat (first | exact Below.refl _ _ | refine pw_below_drewN ?_ _ | refine below_drew ?_ | refine below_alloc ?_ _))) (Kd.C_below H4.out.2 (by repeat (first | exact Below.refl _ _ | refine pw_below_drewN ?_ _ | refine below_drew ?_ | refine below_alloc ?_ _))))))
                    go_wp2
                    go_ret
                    exact ⟨by rw [HE.out, allSame_drop HA.out HB.out, HNS.out]; rfl, (by repeat (first | exact HBB.out | refine pw_below_drewN ?_ _ | refine below_alloc ?_ _))⟩
                  | true =>
                    have u5 : (x.answer.id_ != y.answer.id_) = false := by rw [bne, t5]; rfl
                    cases t6 : (x.answer.e == y.answer.e) with
                    | false =>
                      have u6 : (x.answer.e != y.answer.e) = true := by rw [bne, t6]; rfl
                      have HNS : Aside0 (noteSame x y = false) := ⟨by unfold noteSame; rw [t0, t1, t2, t3, t4, t5, t6]; simp⟩
                      go_wp2_with fail
                      go_quiet ((go_at_call 39; exact Calls.quiet_of_same (sameBytes_calls _ _ _ _ _ _ _ (Kd.C_below H4.out.1 (by repeat (first | exact Below.refl _ _ | refine pw_below_drewN ?_ _ | refine below_drew ?_ | refine below_alloc ?_ _))) (Kd.C_below H4.out.2 (by repeat (first | exact Below.refl _ _ | refine pw_below_drewN ?_ _ | refine below_drew ?_ | refine below_alloc ?_ _))))))
                      go_wp2
                      go_ret
                      exact ⟨by rw [HE.out, allSame_drop HA.out HB.out, HNS.out]; rfl, (by repeat (first | exact HBB.out | refine pw_below_drewN ?_ _ | refine below_alloc ?_ _))⟩
                    | true =>
                      have u6 : (x.answer.e != y.answer.e) = false := by rw [bne, t6]; rfl
                      cases hsv : same x.answer.val y.answer.val with
                      | false =>
                        have HSV := Aside0.mk hsv
                        have HNS : Aside0 (noteSame x y = false) := ⟨by unfold noteSame; rw [t0, t1, t2, t3, t4, t5, t6, hsv]; rfl⟩
                        clear hsv
                        go_wp2_with fail
                        go_quiet ((go_at_call 39; exact Calls.quiet_of_same (sameBytes_calls _ _ _ _ _ _ _ (Kd.C_below H4.out.1 (by repeat (first | exact Below.refl _ _ | refine pw_below_drewN ?_ _ | refine below_drew ?_ | refine below_alloc ?_ _))) (Kd.C_below H4.out.2 (by repeat (first | exact Below.refl _ _ | refine pw_below_drewN ?_ _ | refine below_drew ?_ | refine below_alloc ?_ _))))))
                        go_wp2_with (first | ((with_reducible refine (sameVal3_calls _ _ _ _ _ (Val.k.K_below (by repeat (first | exact Below.refl _ _ | refine pw_below_drewN ?_ _ | refine below_drew ?_ | refine below_alloc ?_ _)) H8.out.1) (Val.k.K_below (by repeat (first | exact Below.refl _ _ | refine pw_below_drewN ?_ _ | refine below_drew ?_ | refine below_alloc ?_ _)) H8.out.2)).mono ?_); rintro e w1 ⟨he, hb1⟩; rw [HSV.out] at he; subst he))
                        go_ret
                        exact ⟨by rw [HE.out, allSame_drop HA.out HB.out, HNS.out]; rfl, below_step (by repeat (first | exact HBB.out | refine pw_below_drewN ?_ _ | refine below_alloc ?_ _)) hb1⟩
                      | true =>
                        have HSV := Aside0.mk hsv
                        have HNS : Aside0 (noteSame x y = true) := ⟨by unfold noteSame; rw [t0, t1, t2, t3, t4, t5, t6, hsv]; rfl⟩
                        clear hsv
                        go_wp2_with fail
                        go_quiet ((go_at_call 39; exact Calls.quiet_of_same (sameBytes_calls _ _ _ _ _ _ _ (Kd.C_below H4.out.1 (by repeat (first | exact Below.refl _ _ | refine pw_below_drewN ?_ _ | refine below_drew ?_ | refine below_alloc ?_ _))) (Kd.C_below H4.out.2 (by repeat (first | exact Below.refl _ _ | refine pw_below_drewN ?_ _ | refine below_drew ?_ | refine below_alloc ?_ _))))))
                        go_wp2_with (first | ((with_reducible refine (sameVal3_calls _ _ _ _ _ (Val.k.K_below (by repeat (first | exact Below.refl _ _ | refine pw_below_drewN ?_ _ | refine below_drew ?_ | refine below_alloc ?_ _)) H8.out.1) (Val.k.K_below (by repeat (first | exact Below.refl _ _ | refine pw_below_drewN ?_ _ | refine below_drew ?_ | refine below_alloc ?_ _)) H8.out.2)).mono ?_); rintro e w1 ⟨he, hb1⟩; rw [HSV.out] at he; subst he))
                        go_roundw
                        case rel => exact ⟨k + 1, by go_num, by omega, below_step (by repeat (first | exact HBB.out | refine pw_below_drewN ?_ _ | refine below_alloc ?_ _)) hb1, ⟨by rw [HE.out, allSame_drop HA.out HB.out, HNS.out]; rfl⟩⟩
                        case measure => simp [intOf]; omega
      · go_wp2_with fail
        go_ret
        exact ⟨by rw [HE.out, allSame_end (by omega) (by have := HL.out; omega)]; rfl, hb⟩
  · have hl1 : ((xs.length : Int) == (ys.length : Int)) = false := by simp; omega
    have hl2 : ((xs.length : Int) != (ys.length : Int)) = true := by simp; omega
    have HL := Aside0.mk hl
    clear hl
    go_enter Try.func15, Try.ntmps15
    go_wp2_with fail
    go_ret
    exact ⟨by rw [allSame_len HL.out]; rfl, Below.refl _ _⟩
set_option maxRecDepth 100000 in
theorem linSame_calls (A B : Option Addr) (c d : Nat) (xs ys : List Note) (w : World) (hx : Note.k.C w A xs.length xs) (hy : Note.k.C w B ys.length ys) (hn : xs.length ≤ 70368744177664) (hm : ys.length ≤ 70368744177664) :
    Calls Try.prog 5 #[.slice A xs.length c, .slice B ys.length d] w (TrueB w) := by
  have HX := Aside0.mk hx
  have HY := Aside0.mk hy
  clear hx hy
  go_enter Try.func5, Try.ntmps5
  go_wp2_with fail
  refine (longH_calls A c xs w HX.out hn).mono ?_
  rintro e w1 ⟨z1, rfl, hb1⟩
  have B1 := Aside0.mk hb1
  clear hb1
  by_cases hz1 : 60 < z1
  · go_wp2_with (first | ((with_reducible refine (known_true _).mono ?_); rintro e w2 ⟨rfl, hb2⟩; have HB2 := Aside0.mk hb2; clear hb2))
    go_ret
    exact ⟨rfl, below_step B1.out HB2.out⟩
  · go_wp2_with fail
    refine (longH_calls B d ys w1 (Kd.C_below HY.out B1.out) hm).mono ?_
    rintro e w2 ⟨z2, rfl, hb2⟩
    have B2 := Aside0.mk (below_step B1.out hb2)
    clear hb2
    by_cases hz2 : 60 < z2
    · go_wp2_with (first | ((with_reducible refine (known_true _).mono ?_); rintro e w3 ⟨rfl, hb3⟩; have HB3 := Aside0.mk hb3; clear hb3))
      go_ret
      exact ⟨rfl, below_step B2.out HB3.out⟩
    · go_wp2_with fail
      refine (same_calls A B c d xs ys w2 (Kd.C_below HX.out B2.out) (Kd.C_below HY.out B2.out) hn).mono ?_
      rintro e w3 ⟨rfl, hb3⟩
      have B3 := Aside0.mk (below_step B2.out hb3)
      clear hb3
      go_wp2_with fail
      refine (sameNotes_calls A B c d xs ys w3 (Kd.C_below HX.out B3.out) (Kd.C_below HY.out B3.out) hn).mono ?_
      rintro e w4 ⟨rfl, hb4⟩
      have B4 := Aside0.mk (below_step B3.out hb4)
      clear hb4
      generalize allSame noteSame xs ys = b
      cases b
      all_goals
        go_wp2_with (first | ((with_reducible refine (known_true _).mono ?_); rintro e w5 ⟨rfl, hb5⟩; have HB5 := Aside0.mk hb5; clear hb5))
        go_ret
        exact ⟨rfl, below_step B4.out HB5.out⟩
theorem bd_notes {xs : List Note} (h : BdS 112 Note.Bd xs) : xs.length ≤ 70368744177664 := by have := h.1; omega
end SameC
end Go.Proofs.Ytgconogjnjhmgaa
