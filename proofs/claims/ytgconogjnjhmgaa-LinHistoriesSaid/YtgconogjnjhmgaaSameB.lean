/- The document's SameVal and Same (of bytes); EqualFunc over notes. -/
import Derived.Test.YtgconogjnjhmgaaSameA
namespace Go.Proofs.Ytgconogjnjhmgaa
open Go.RowKit Go.Proofs.YtgconogjnjhmgaaW.PrintWords
namespace SameB
open LinA LinB SameA
theorem kU8_at {w : World} {A : Option Addr} {n : Nat} {xs : List UInt8} (h : kU8.C w A n xs) (k : Nat) (h1 : k < n) : ∃ ad x, A = some ad ∧ Aside0 (xs[k]? = some x) ∧ w.cell? (ad.add k) = some (.int .u8 (x.toNat : Int)) := by
  have hl : xs.length = n := h.1
  obtain ⟨ad, c, e, _, hK, hc0⟩ := Kd.C_get h (0 : UInt8) (k : Int) (by omega) (by omega)
  have hx : xs[k]? = some (xs.getD k 0) := by simp [List.getD_eq_getElem?_getD, show k < xs.length by omega]
  have hK' : kU8.K w (xs.getD k 0) c := hK
  have hK2 : c = [.int .u8 ((xs.getD k 0).toNat : Int)] := hK'
  subst hK2
  have hc := hc0 0 _ rfl
  have e1 : (k : Int).toNat * kU8.sz + 0 = k := by show k * 1 + 0 = k; omega
  rw [e1] at hc
  exact ⟨ad, _, e, ⟨hx⟩, hc⟩
theorem sameBytes_calls (A B : Option Addr) (c d : Nat) (xs ys : List UInt8) (w : World) (hx : kU8.C w A xs.length xs) (hy : kU8.C w B ys.length ys) :
    Calls Try.prog 39 #[.slice A xs.length c, .slice B ys.length d] w fun e w' => e = .returned (.bool (xs == ys)) ∧ w' = w := by
  have e1 := conv_bytes (src := 26) (dst := 9) (c := c) Try.underlying26 Try.underlying5 Try.underlying9 hx
  have e2 := conv_bytes (src := 26) (dst := 9) (c := d) Try.underlying26 Try.underlying5 Try.underlying9 hy
  clear hx hy
  go_enter Try.func39, Try.ntmps39
  go_wp2_with fail
  go_ret
  exact ⟨by simp, rfl⟩
set_option maxHeartbeats 1000000 in
theorem sameVal3_calls (x y : Val) (cs ds : List Value) (w : World) (hx : Val.k.K w x cs) (hy : Val.k.K w y ds) :
    Calls Try.prog 40 #[.agg cs.toArray, .agg ds.toArray] w fun e w' => e = .returned (.bool (same x y)) ∧ Below w.heap.size w w' := by
  obtain ⟨A1, c1, rfl, l1, g1⟩ := Val.open_ hx
  obtain ⟨A2, c2, rfl, l2, g2⟩ := Val.open_ hy
  have hq1 : x.b.length ≤ 9223372036854775807 := g1.2.1
  have HQ1 := Aside0.mk hq1
  have H1 := Aside0.mk g1
  have H2 := Aside0.mk g2
  clear hx hy l1 l2 g1 g2
  obtain ⟨xh, xb⟩ := x
  obtain ⟨yh, yb⟩ := y
  simp only at *
  have hb : Below w.heap.size w ((w.alloc (.cells #[.bool xh, .slice A1 xb.length c1] 28)).alloc (.cells #[.bool yh, .slice A2 yb.length c2] 28)) := below_alloc (below_alloc (Below.refl _ _) _) _
  have HB := Aside0.mk hb
  clear hb hq1
  cases xh with
  | false =>
    cases yh
    all_goals
      go_enter Try.func40, Try.ntmps40
      go_wp2_with fail
      go_ret
      exact ⟨rfl, HB.out⟩
  | true =>
    cases yh with
    | false =>
      go_enter Try.func40, Try.ntmps40
      go_wp2_with fail
      go_ret
      exact ⟨rfl, HB.out⟩
    | true =>
      by_cases hl : xb.length = yb.length
      · have hl1 : ((xb.length : Int) == (yb.length : Int)) = true := by rw [hl]; simp
        have hl2 : ((xb.length : Int) != (yb.length : Int)) = false := by rw [hl]; simp
        have HL := Aside0.mk hl
        clear hl
        go_enter Try.func40, Try.ntmps40
        go_wp2_with fail
        clear hl1 hl2
        have b1 := cell_alloc (cell_new w #[.bool true, .slice A1 xb.length c1] 28 (0, 0) 1 _ rfl) (.cells #[.bool true, .slice A2 yb.length c2] 28)
        have b2 := cell_new2 w (.cells #[.bool true, .slice A1 xb.length c1] 28) #[.bool true, .slice A2 yb.length c2] 28 (0, 0) 1 _ rfl
        generalize (w.alloc (.cells #[.bool true, .slice A1 xb.length c1] 28)).alloc (.cells #[.bool true, .slice A2 yb.length c2] 28) = W at *
        have hq1 : xb.length ≤ 9223372036854775807 := HQ1.out
        go_loopw [5] (fun v wr => ∃ k : Nat, v = .int .i64 k ∧ k ≤ xb.length ∧ Below W.heap.size W wr ∧ Aside0 (∀ j, j < k → xb[j]? = yb[j]?)) (fun v _ => xb.length - (intOf v).toNat)
        case atStart => exact ⟨0, rfl, Nat.zero_le _, Below.refl _ _, ⟨fun j hj => absurd hj (Nat.not_lt_zero _)⟩⟩
        case round =>
          obtain ⟨k, rfl, hk, hb, HE⟩ := hrel
          have r1 := pw_cell_below hb b1
          have r2 := pw_cell_below hb b2
          by_cases hlt : k < xb.length
          · have hlt2 : k < yb.length := by have := HL.out; omega
            obtain ⟨ad, x, rfl, HA, hx0⟩ := kU8_at (Kd.C_below H1.out (below_step HB.out hb)) k hlt
            obtain ⟨bd, y, rfl, HB2, hy0⟩ := kU8_at (Kd.C_below H2.out (below_step HB.out hb)) k hlt2
            have HBB := Aside0.mk hb
            have h0 : (0 : Int) ≤ (k : Int) := by omega
            have h1 : (k : Int) < (xb.length : Int) := by omega
            have h2 : (k : Int) < (yb.length : Int) := by omega
            clear hb b1 b2
            by_cases hxy : x = y
            · subst hxy
              go_wp2_with fail
              go_quiet (fail)
              go_wp2
              go_roundw
              case rel => exact ⟨k + 1, by go_num, by omega, pw_below_drewN HBB.out _, ⟨fun j hj => by rcases Nat.lt_succ_iff_lt_or_eq.1 hj with h | rfl; exact HE.out j h; rw [HA.out, HB2.out]⟩⟩
              case measure => simp [intOf]; omega
            · have hne : ¬ (x.toNat : Int) = (y.toNat : Int) := fun e => hxy (UInt8.toNat_inj.1 (by omega))
              have hb1 : ((x.toNat : Int) == (y.toNat : Int)) = false := by simpa using hne
              have hb2 : ((x.toNat : Int) != (y.toNat : Int)) = true := by simpa using hne
              have HXY := Aside0.mk hxy
              clear hxy hne
              go_wp2_with fail
              go_quiet (fail)
              go_wp2
              go_ret
              exact ⟨by unfold same; rw [decide_eq_false (fun e => HXY.out (by
                have e' : xb = yb := e
                have h3 := HA.out; rw [e', HB2.out] at h3; injection h3 with h3; exact h3.symm))]; rfl, below_step HB.out (pw_below_drewN HBB.out _)⟩
          · go_wp2_with fail
            go_ret
            exact ⟨by unfold same; rw [decide_eq_true (show (⟨true, xb⟩ : Val).b = (⟨true, yb⟩ : Val).b from List.ext_getElem? (fun j => by
              by_cases hj : j < xb.length
              · exact HE.out j (by omega)
              · rw [List.getElem?_eq_none (by simpa using hj), List.getElem?_eq_none (by have := HL.out; simp at this ⊢; omega)]))]; rfl, below_step HB.out hb⟩
      · have hl1 : ((xb.length : Int) == (yb.length : Int)) = false := by simp; omega
        have hl2 : ((xb.length : Int) != (yb.length : Int)) = true := by simp; omega
        have HL := Aside0.mk hl
        clear hl
        go_enter Try.func40, Try.ntmps40
        go_wp2_with fail
        go_ret
        exact ⟨by unfold same; rw [decide_eq_false (fun e => HL.out (by have e' : xb = yb := e; rw [e']))]; rfl, HB.out⟩
def allSame (p : Note → Note → Bool) : List Note → List Note → Bool
  | [], [] => true
  | x :: r, y :: s => p x y && allSame p r s
  | _, _ => false
theorem allSame_len {p : Note → Note → Bool} : ∀ {xs ys : List Note}, xs.length ≠ ys.length → allSame p xs ys = false
  | [], [], h => absurd rfl h
  | x :: r, y :: s, h => by
    simp only [allSame]
    rw [allSame_len (fun e => h (by simp [e])), Bool.and_false]
  | [], _ :: _, _ => rfl
  | _ :: _, [], _ => rfl
theorem allSame_drop {p : Note → Note → Bool} {xs ys : List Note} {k : Nat} {x y : Note} (hx : xs[k]? = some x) (hy : ys[k]? = some y) : allSame p (xs.drop k) (ys.drop k) = (p x y && allSame p (xs.drop (k + 1)) (ys.drop (k + 1))) := by
  obtain ⟨h1, rfl⟩ := List.getElem?_eq_some_iff.1 hx
  obtain ⟨h2, rfl⟩ := List.getElem?_eq_some_iff.1 hy
  rw [List.drop_eq_getElem_cons h1, List.drop_eq_getElem_cons h2]
  rfl
theorem allSame_end {p : Note → Note → Bool} {xs ys : List Note} {k : Nat} (h1 : xs.length ≤ k) (h2 : ys.length ≤ k) : allSame p (xs.drop k) (ys.drop k) = true := by
  rw [List.drop_eq_nil_of_le h1, List.drop_eq_nil_of_le h2]
  rfl
set_option maxRecDepth 100000 in
set_option maxHeartbeats 1000000 in
theorem equalFunc_calls (A B : Option Addr) (c d : Nat) (xs ys : List Note) (f : FuncId) (p : Note → Note → Bool) (w : World) (hx : Note.k.C w A xs.length xs) (hy : Note.k.C w B ys.length ys) (hn : xs.length ≤ 70368744177664)
    (hcf : ∀ args w, (callFunc f args).run Try.prog w = .ok (.enter f args) w)
    (hf : ∀ x y w1 cs ds, Note.k.K w1 x cs → Note.k.K w1 y ds → Calls Try.prog f #[.agg cs.toArray, .agg ds.toArray] w1 (fun e w2 => e = .returned (.bool (p x y)) ∧ Below w1.heap.size w1 w2)) :
    Calls Try.prog 36 #[.slice A xs.length c, .slice B ys.length d, .func (.func f) #[] #[]] w fun e w' => e = .returned (.bool (allSame p xs ys)) ∧ Below w.heap.size w w' := by
  have HX := Aside0.mk hx
  have HY := Aside0.mk hy
  have HF := Aside0.mk hf
  clear hx hy hf
  by_cases hl : xs.length = ys.length
  · have hl1 : ((xs.length : Int) == (ys.length : Int)) = true := by rw [hl]; simp
    have hl2 : ((xs.length : Int) != (ys.length : Int)) = false := by rw [hl]; simp
    have HL := Aside0.mk hl
    clear hl
    go_enter Try.func36, Try.ntmps36
    go_wp2_with fail
    clear hl1 hl2
    go_loopw [17] (fun v wr => ∃ k : Nat, v = .int .i64 k ∧ k ≤ xs.length ∧ Below w.heap.size w wr ∧ Aside0 (allSame p xs ys = allSame p (xs.drop k) (ys.drop k))) (fun v _ => xs.length - (intOf v).toNat)
    case atStart => exact ⟨0, rfl, Nat.zero_le _, Below.refl _ _, ⟨by simp⟩⟩
    case round =>
      obtain ⟨k, rfl, hk, hb, HE⟩ := hrel
      by_cases hlt : k < xs.length
      · have hlt2 : k < ys.length := by have := HL.out; omega
        obtain ⟨ad, x, A4, c4, A8, c8, rfl, HA, x0, x1, x2, x3, x4, x5, x6, x7, x8, HKX⟩ := Note.at_ (Kd.C_below HX.out hb) k hlt
        obtain ⟨bd, y, B4, d4, B8, d8, rfl, HB, y0, y1, y2, y3, y4, y5, y6, y7, y8, HKY⟩ := Note.at_ (Kd.C_below HY.out hb) k hlt2
        have HBB := Aside0.mk hb
        have hy0' := cell_alloc y0
        have hy1' := cell_alloc y1
        have hy2' := cell_alloc y2
        have hy3' := cell_alloc y3
        have hy4' := cell_alloc y4
        have hy5' := cell_alloc y5
        have hy6' := cell_alloc y6
        have hy7' := cell_alloc y7
        have hy8' := cell_alloc y8
        clear hb y0 y1 y2 y3 y4 y5 y6 y7 y8
        cases hp : p x y with
        | true =>
          have HP := Aside0.mk hp
          clear hp
          go_wp2_with (first | ((with_reducible refine (HF.out x y _ _ _ (Note.k.K_below (below_alloc (below_alloc (Below.refl _ _) _) _) HKX.out) (Note.k.K_below (below_alloc (below_alloc (Below.refl _ _) _) _) HKY.out)).mono ?_); rintro e w1 ⟨he, hb1⟩; rw [HP.out] at he; subst he))
          go_roundw
          case rel => exact ⟨k + 1, by go_num, by omega, below_step (below_alloc (below_alloc HBB.out _) _) hb1, ⟨by rw [HE.out, allSame_drop HA.out HB.out, HP.out]; rfl⟩⟩
          case measure => simp [intOf]; omega
        | false =>
          have HP := Aside0.mk hp
          clear hp
          go_wp2_with (first | ((with_reducible refine (HF.out x y _ _ _ (Note.k.K_below (below_alloc (below_alloc (Below.refl _ _) _) _) HKX.out) (Note.k.K_below (below_alloc (below_alloc (Below.refl _ _) _) _) HKY.out)).mono ?_); rintro e w1 ⟨he, hb1⟩; rw [HP.out] at he; subst he))
          go_ret
          exact ⟨by rw [HE.out, allSame_drop HA.out HB.out, HP.out]; rfl, below_step (below_alloc (below_alloc HBB.out _) _) hb1⟩
      · go_wp2_with fail
        go_ret
        exact ⟨by rw [HE.out, allSame_end (by omega) (by have := HL.out; omega)]; rfl, hb⟩
  · have hl1 : ((xs.length : Int) == (ys.length : Int)) = false := by simp; omega
    have hl2 : ((xs.length : Int) != (ys.length : Int)) = true := by simp; omega
    have HL := Aside0.mk hl
    clear hl
    go_enter Try.func36, Try.ntmps36
    go_wp2_with fail
    go_ret
    exact ⟨by rw [allSame_len HL.out]; rfl, Below.refl _ _⟩
theorem callFunc37 : ∀ args w, (callFunc 37 args).run Try.prog w = .ok (.enter 37 args) w := fun args w => by rfl
theorem same_calls (A B : Option Addr) (c d : Nat) (xs ys : List Note) (w : World) (hx : Note.k.C w A xs.length xs) (hy : Note.k.C w B ys.length ys) (hn : xs.length ≤ 70368744177664) :
    Calls Try.prog 14 #[.slice A xs.length c, .slice B ys.length d] w fun e w' => e = .returned (.bool (allSame noteSame xs ys)) ∧ Below w.heap.size w w' := by
  have H := Aside0.mk (equalFunc_calls A B c d xs ys 37 noteSame w hx hy hn callFunc37 (fun x y w1 cs ds => same1_calls x y cs ds w1))
  clear hx hy hn
  go_enter Try.func14, Try.ntmps14
  go_wp2_with (first | ((with_reducible refine H.out.mono ?_); rintro e w1 ⟨rfl, hb1⟩))
  go_ret
  exact ⟨rfl, hb1⟩
def SomeInt (w : World) (e : Ending) (w' : World) : Prop := ∃ z : Int, e = .returned (.int .i64 z) ∧ Below w.heap.size w w'
set_option maxRecDepth 100000 in
set_option maxHeartbeats 1000000 in
theorem longH_calls (A : Option Addr) (c : Nat) (xs : List Note) (w : World) (hr : Note.k.C w A xs.length xs) (hn : xs.length ≤ 70368744177664) :
    Calls Try.prog 13 #[.slice A xs.length c] w (SomeInt w) := by
  have HR := Aside0.mk hr
  clear hr
  go_enter Try.func13, Try.ntmps13
  go_wp2_with fail
  go_loopw [3, 4] (fun v3 v4 wr => ∃ (k : Nat) (z : Int), v4 = .int .i64 k ∧ v3 = .int .i64 z ∧ k ≤ xs.length ∧ Below w.heap.size w wr) (fun _ v _ => xs.length - (intOf v).toNat)
  case atStart => exact ⟨0, 0, rfl, rfl, Nat.zero_le _, Below.refl _ _⟩
  case round =>
    obtain ⟨k, z, rfl, rfl, hk, hb⟩ := hrel
    by_cases hlt : k < xs.length
    · obtain ⟨ad, x, A4, c4, A8, c8, rfl, HA, x0, x1, x2, x3, x4, x5, x6, x7, x8, HKX⟩ := Note.at_ (Kd.C_below HR.out hb) k hlt
      have HB := Aside0.mk hb
      have h0 : (0 : Int) ≤ (k : Int) := by omega
      have h1 : (k : Int) < (xs.length : Int) := by omega
      clear hb x0 x1 x2 x5 x6 x7 HKX
      go_wp2_with fail
      go_quiet (fail)
      go_wp2
      go_roundw
      case rel => exact ⟨k + 1, _, by go_num, rfl, by omega, pw_below_drewN HB.out _⟩
      case measure => simp [intOf]; omega
    · go_wp2_with fail
      go_ret
      exact ⟨z, rfl, hb⟩
end SameB
end Go.Proofs.Ytgconogjnjhmgaa
