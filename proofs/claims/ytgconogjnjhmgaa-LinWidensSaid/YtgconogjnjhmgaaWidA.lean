/- LinWidens, walked. -/
import Derived.Test.YtgconogjnjhmgaaLinK
import Derived.Test.YtgconogjnjhmgaaApp
import Derived.Test.YtgconogjnjhmgaaWidB
import Derived.Test.YtgconogjnjhmgaaKindsR
namespace Go.Proofs.Ytgconogjnjhmgaa
open Go.RowKit Go.Proofs.YtgconogjnjhmgaaW.PrintWords
namespace WidA
open LinA LinB LinC LinD LinE LinF LinG LinH LinI LinJ LinK
def Fine (x : Deed) : Prop := 0 ≤ x.from_ ∧ x.from_ ≤ x.to_ ∧ x.to_ ≤ 1000000 ∧ x.done = true
def wide (x : Deed) (less more : Int) : Deed := { x with from_ := x.from_ - less, to_ := x.to_ + more }
theorem infoD : (Try.prog.info? 30).map (fun i => (i.zero, i.size, i.bytes)) = some (some (.agg #[.int .i64 0, .slice none 0 0, .int .i64 0, .int .i64 0, .bool false, .bool false, .slice none 0 0]), 7, 88) := by kernel_rfl
theorem deed_ft {w W : World} {base g n cap : Nat} {xs : List Deed} {k : Nat} {x : Deed} (h : OwnRow (fun x cs => Deed.k.K w x cs) 30 7 W base (.slice (some ⟨g, 0, none⟩) n cap) xs) (hx : xs[k]? = some x) :
    W.cell? ⟨g, k * 7 + 2, none⟩ = some (.int .i64 x.from_) ∧ W.frozen? ⟨g, k * 7 + 2, none⟩ = false ∧ W.cell? ⟨g, k * 7 + 3, none⟩ = some (.int .i64 x.to_) ∧ W.frozen? ⟨g, k * 7 + 3, none⟩ = false := by
  obtain ⟨cs, h1, _, h2, h3⟩ := own_get h hx (show 2 < 7 by omega)
  obtain ⟨ds, k1, _, k2, k3⟩ := own_get h hx (show 3 < 7 by omega)
  obtain ⟨_, _, _, _, rfl, _⟩ := Deed.open_ h1
  obtain ⟨_, _, _, _, rfl, _⟩ := Deed.open_ k1
  exact ⟨h2, h3, k2, k3⟩
theorem deed_put {w W : World} {base g n cap : Nat} {xs : List Deed} {k : Nat} {x : Deed} (h : OwnRow (fun x cs => Deed.k.K w x cs) 30 7 W base (.slice (some ⟨g, 0, none⟩) n cap) xs) (hx : xs[k]? = some x) {f t : Int} (hf : InR .i64 f) (ht : InR .i64 t) :
    OwnRow (fun x cs => Deed.k.K w x cs) 30 7 ((W.setCell ⟨g, k * 7 + 2, none⟩ (.int .i64 f)).setCell ⟨g, k * 7 + 3, none⟩ (.int .i64 t)) base (.slice (some ⟨g, 0, none⟩) n cap) (xs.set k { x with from_ := f, to_ := t }) := by
  have hk := (List.getElem?_eq_some_iff.1 hx).1
  have h1 := (own_put (i := 2) (y := { x with from_ := f }) (u := .int .i64 f) h hx (by omega) (fun cs hc => by
    obtain ⟨A1, c1, A6, c6, rfl, r0, l1, g1, r2, r3, l6, g6⟩ := Deed.open_ hc
    exact Deed.mk_ w { x with from_ := f } r0 l1 g1 hf r3 l6 g6)).1
  have h2 := (own_put (i := 3) (y := { x with from_ := f, to_ := t }) (u := .int .i64 t) h1 (k := k) (List.getElem?_set_self hk) (by omega) (fun cs hc => by
    obtain ⟨A1, c1, A6, c6, rfl, r0, l1, g1, r2, r3, l6, g6⟩ := Deed.open_ hc
    exact Deed.mk_ w { x with from_ := f, to_ := t } r0 l1 g1 hf ht l6 g6)).1
  rw [List.set_set] at h2
  exact h2
set_option maxRecDepth 100000 in
set_option maxHeartbeats 1000000 in
theorem linWidens_calls (A : Option Addr) (c : Nat) (xs : List Deed) (at_ less more : Int) (w : World) (hr : Deed.k.C w A xs.length xs) (hn : xs.length ≤ 70368744177664) (hs : ∀ x ∈ xs, Short x) (ha0 : 0 ≤ at_) (ha1 : at_ ≤ 255) (hl0 : 0 ≤ less) (hl1 : less ≤ 255) (hm0 : 0 ≤ more) (hm1 : more ≤ 255) :
    Calls Try.prog 4 #[.slice A xs.length c, .int .u8 at_, .int .u8 less, .int .u8 more] w (TrueB w) := by
  have HR := Aside0.mk hr
  have HLG := Aside0.mk (long_calls A c xs w hr hn hs)
  clear hr hs
  by_cases hlong : longB xs = true
  · rw [hlong] at HLG
    clear hlong
    go_enter Try.func4, Try.ntmps4
    go_wp2_with (first | ((with_reducible refine HLG.out.mono ?_); rintro e w1 ⟨rfl, hb1⟩; have HB1 := Aside0.mk hb1; clear hb1) | ((with_reducible refine (known_true _).mono ?_); rintro e w2 ⟨rfl, hb2⟩; have HB2 := Aside0.mk hb2; clear hb2))
    go_ret
    exact ⟨rfl, below_step HB1.out HB2.out⟩
  · have hlong' : longB xs = false := by simpa using hlong
    have h7 : xs.length ≤ 7 := by
      unfold longB at hlong'
      simp at hlong'
      exact hlong'.1
    rw [hlong'] at HLG
    clear hlong hlong'
    by_cases hz : xs.length = 0
    · have hz1 : ((xs.length : Int) == 0) = true := by rw [hz]; rfl
      clear hz
      go_enter Try.func4, Try.ntmps4
      go_wp2_with (first | ((with_reducible refine HLG.out.mono ?_); rintro e w1 ⟨rfl, hb1⟩; have HB1 := Aside0.mk hb1; clear hb1) | ((with_reducible refine (known_true _).mono ?_); rintro e w2 ⟨rfl, hb2⟩; have HB2 := Aside0.mk hb2; clear hb2))
      go_ret
      exact ⟨rfl, below_step HB1.out HB2.out⟩
    · have hz1 : ((xs.length : Int) == 0) = false := beq_eq_false_iff_ne.2 (by omega)
      have hpos : 0 < xs.length := by omega
      clear hz
      go_enter Try.func4, Try.ntmps4
      go_wp2_with (first | ((with_reducible refine HLG.out.mono ?_); rintro e w1 ⟨rfl, hb1⟩; have HB1 := Aside0.mk hb1; clear hb1))
      clear hz1
      go_loopw [9] (fun v wr => ∃ k : Nat, v = .int .i64 k ∧ k ≤ xs.length ∧ Below w.heap.size w wr ∧ Aside0 (∀ j x, j < k → xs[j]? = some x → Fine x)) (fun v _ => xs.length - (intOf v).toNat)
      case atStart => exact ⟨0, rfl, Nat.zero_le _, HB1.out, ⟨fun j x hj => absurd hj (Nat.not_lt_zero _)⟩⟩
      case round =>
        obtain ⟨k, rfl, hk, hb, HFN⟩ := hrel
        by_cases hlt : k < xs.length
        · obtain ⟨ad, x, A1, c1, A6, c6, rfl, HE, hx0, hx1, hx2, hx3, hx4, hx5, hx6, HMM⟩ := Deed.at_ (Kd.C_below HR.out hb) k hlt
          have HB := Aside0.mk hb
          have g0 : (0 : Int) ≤ (k : Int) := by omega
          have g1 : (k : Int) < (xs.length : Int) := by omega
          clear hb hx0 hx1 hx5 hx6 HMM
          by_cases hc1 : x.to_ < x.from_
          · have hd1 : decide (x.to_ < x.from_) = true := decide_eq_true hc1
            go_wp2
            go_quiet (fail)
            go_wp2_with (first | ((with_reducible refine (known_true _).mono ?_); rintro e w2 ⟨rfl, hb2⟩; have HB2 := Aside0.mk hb2; clear hb2))
            go_ret
            exact ⟨rfl, below_step (pw_below_drewN HB.out _) HB2.out⟩
          · have hd1 : decide (x.to_ < x.from_) = false := decide_eq_false hc1
            by_cases hc2 : x.from_ < 0
            · have hd2 : decide (x.from_ < 0) = true := decide_eq_true hc2
              go_wp2
              go_quiet (fail)
              go_wp2_with (first | ((with_reducible refine (known_true _).mono ?_); rintro e w2 ⟨rfl, hb2⟩; have HB2 := Aside0.mk hb2; clear hb2))
              go_ret
              exact ⟨rfl, below_step (pw_below_drewN HB.out _) HB2.out⟩
            · have hd2 : decide (x.from_ < 0) = false := decide_eq_false hc2
              by_cases hc3 : 1000000 < x.to_
              · have hd3 : decide (1000000 < x.to_) = true := decide_eq_true hc3
                go_wp2
                go_quiet (fail)
                go_wp2_with (first | ((with_reducible refine (known_true _).mono ?_); rintro e w2 ⟨rfl, hb2⟩; have HB2 := Aside0.mk hb2; clear hb2))
                go_ret
                exact ⟨rfl, below_step (pw_below_drewN HB.out _) HB2.out⟩
              · have hd3 : decide (1000000 < x.to_) = false := decide_eq_false hc3
                obtain ⟨xk, xb, xf, xt, xd, xv⟩ := x
                simp only at *
                cases xd with
                | true =>
                  go_wp2
                  go_quiet (fail)
                  go_wp2
                  go_roundw
                  case rel => exact ⟨k + 1, by go_num, by omega, pw_below_drewN HB.out _, ⟨fun j y hj hy => by
                    rcases Nat.lt_succ_iff_lt_or_eq.1 hj with h | rfl
                    · exact HFN.out j y h hy
                    · rw [HE.out] at hy; injection hy with hy; subst hy; exact ⟨by simp only; omega, by simp only; omega, by simp only; omega, rfl⟩⟩⟩
                  case measure => simp [intOf]; omega
                | false =>
                  go_wp2
                  go_quiet (fail)
                  go_wp2_with (first | ((with_reducible refine (known_true _).mono ?_); rintro e w2 ⟨rfl, hb2⟩; have HB2 := Aside0.mk hb2; clear hb2))
                  go_ret
                  exact ⟨rfl, below_step (pw_below_drewN HB.out _) HB2.out⟩
        · obtain rfl : k = xs.length := by omega
          have HB := Aside0.mk hb
          clear hb hk hlt
          have HFX : Aside0 (∀ x ∈ xs, Fine x) := ⟨fun x hx => by
            obtain ⟨j, hj, rfl⟩ := List.getElem_of_mem hx
            exact HFN.out j _ hj (List.getElem?_eq_getElem hj)⟩
          clear HFN
          go_wp2_with fail
          refine (order_calls A c xs _ (Kd.C_below HR.out HB.out) (by omega)).mono ?_
          rintro e w3 ⟨p, cc, A3, c3, rfl, hl3, hC3, hb3, hord⟩
          have HORD := Aside0.mk hord
          have HB3 := Aside0.mk (below_step HB.out hb3)
          clear hl3 hC3 hb3 hord
          obtain ⟨k, hmod, hkl⟩ : ∃ k : Nat, at_ % (xs.length : Int) = (k : Int) ∧ k < xs.length := by
            have h1 := Int.emod_nonneg at_ (show (xs.length : Int) ≠ 0 by omega)
            have h2 := Int.emod_lt_of_pos at_ (show (0 : Int) < (xs.length : Int) by omega)
            exact ⟨(at_ % (xs.length : Int)).toNat, by omega, by omega⟩
          obtain ⟨x, HXK⟩ : ∃ x, Aside0 (xs[k]? = some x) := ⟨xs[k], ⟨List.getElem?_eq_getElem hkl⟩⟩
          have HFK := Aside0.mk (HFX.out x (List.mem_of_getElem? HXK.out))
          have hfk1 : 0 ≤ x.from_ := HFK.out.1
          have hfk2 : x.from_ ≤ x.to_ := HFK.out.2.1
          have hfk3 : x.to_ ≤ 1000000 := HFK.out.2.2.1
          go_wp2_with (first | (at_builtin; refine own_append_rows (R := fun x cs => Deed.k.K w x cs) (w0 := w3) w3.heap.size rfl _ _ 22 30 _ 7 88 rfl Try.underlying22 infoD rfl (by omega) (by omega) _ [] xs _ _ _ rfl rfl (OwnRow.none_ _ _ _ _ _) (ReadsRow.imp_ HR.out HB3.out (fun _ _ h => h)) (fun x cs h => Deed.k.K_one h) (Below.refl _ _) (Nat.le_refl _) (by simp; omega) ?_; intro v1 w4 hown hbw _ _; rw [List.nil_append] at hown; obtain ⟨g, cap, rfl, hgb, hcap, hcapm, hgl⟩ := own_shape hown hpos; have HOWN := Aside0.mk hown; have HBW := Aside0.mk hbw; have hadd := add_plain g; obtain ⟨q2, q2f, q3, q3f⟩ := deed_ft hown HXK.out; have HG := Aside0.mk hgb; clear hown hbw hgb))
          have hws : OwnRow (fun x cs => Deed.k.K w x cs) 30 7 ((w4.setCell ⟨g, k * 7 + 2, none⟩ (.int .i64 (x.from_ - less))).setCell ⟨g, k * 7 + 3, none⟩ (.int .i64 (x.to_ + more))) w3.heap.size (.slice (some ⟨g, 0, none⟩) xs.length cap) (xs.set k { x with from_ := x.from_ - less, to_ := x.to_ + more }) :=
            deed_put HOWN.out HXK.out (InR.mk64 (by omega) (by omega)) (InR.mk64 (by omega) (by omega))
          have hbW : Below w.heap.size w ((w4.setCell ⟨g, k * 7 + 2, none⟩ (.int .i64 (x.from_ - less))).setCell ⟨g, k * 7 + 3, none⟩ (.int .i64 (x.to_ + more))) :=
            ((below_step HB3.out HBW.out).setCell (show w.heap.size ≤ g by have := HG.out; have := HB3.out.size; omega) _).setCell (show w.heap.size ≤ g by have := HG.out; have := HB3.out.size; omega) _
          generalize (w4.setCell ⟨g, k * 7 + 2, none⟩ (.int .i64 (x.from_ - less))).setCell ⟨g, k * 7 + 3, none⟩ (.int .i64 (x.to_ + more)) = W6 at *
          have hwd := WidB.wider_set HXK.out (f := x.from_ - less) (t := x.to_ + more) (by omega) (by omega)
          have hdn : ∀ j, j < xs.length → (xs.getD j Deed.z).done = true := fun j hj => by
            rw [List.getD_eq_getElem?_getD, List.getElem?_eq_getElem hj]
            exact (HFX.out xs[j] (List.getElem_mem hj)).2.2.2
          generalize hwse : xs.set k { x with from_ := x.from_ - less, to_ := x.to_ + more } = ws at *
          have hlen := hwd.len
          obtain ⟨A6, c6, he6, _, hr6⟩ := OwnRow.reads hws
          rw [hlen] at he6
          injection he6 with hA6 _ _
          subst hA6
          have hC6 : Deed.k.C W6 (some ⟨g, 0, none⟩) ws.length ws := ReadsRow.imp_ hr6 (Below.refl _ _) (fun _ _ h => Deed.k.K_below hbW h)
          have HOC := order_calls (some ⟨g, 0, none⟩) cap ws W6 hC6 (by omega)
          rw [hlen] at HOC
          have HW6 := Aside0.mk hbW
          have HWD := Aside0.mk (And.intro hwd hdn)
          clear hws hbW hwd hdn hwse hr6 hC6 hlen
          refine HOC.mono ?_
          rintro e w7 ⟨q, f, A7, c7, rfl, _, _, hb7, hord2⟩
          have HB7 := Aside0.mk (below_step HW6.out hb7)
          have HORD2 := Aside0.mk hord2
          clear hb7 hord2 HOC
          by_cases hcc : cc = 0
          · subst hcc
            obtain ⟨rfl, hql⟩ := WidB.ord_wider HWD.out.1 (by omega) HWD.out.2 HORD.out HORD2.out
            have hqe : ((q.length : Int) == (xs.length : Int)) = true := by rw [hql, HWD.out.1.len]; simp
            clear hql
            go_wp2_with (first | ((with_reducible refine (known_true _).mono ?_); rintro e w8 ⟨rfl, hb8⟩; have HB8 := Aside0.mk hb8; clear hb8))
            go_ret
            exact ⟨rfl, below_step HB7.out HB8.out⟩
          · have hc0 : (cc == 0) = false := beq_eq_false_iff_ne.2 hcc
            have hc1 : (cc != 0) = true := by rw [bne, hc0]; rfl
            clear hcc
            go_wp2_with (first | ((with_reducible refine (known_true _).mono ?_); rintro e w8 ⟨rfl, hb8⟩; have HB8 := Aside0.mk hb8; clear hb8))
            go_ret
            exact ⟨rfl, below_step HB7.out HB8.out⟩
end WidA
end Go.Proofs.Ytgconogjnjhmgaa
