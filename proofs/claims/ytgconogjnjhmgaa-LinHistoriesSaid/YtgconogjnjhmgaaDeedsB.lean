/- Layer lin: Deeds. -/
import Derived.Test.YtgconogjnjhmgaaDeedA
namespace Go.Proofs.Ytgconogjnjhmgaa
open Go.RowKit Go.Proofs.YtgconogjnjhmgaaW.PrintWords
namespace DeedsB
open LinA LinH RightA DeedA
attribute [local go_sem ↓] Go.wp_at_zero Go.wp_at_succ
theorem str_ne {a b : ByteArray} (h : ¬ a = b) : (a.toList == b.toList) = false := beq_eq_false_iff_ne.2 fun e => h (by
  rw [ByteArray.toList_eq, ByteArray.toList_eq] at e
  obtain ⟨⟨x⟩⟩ := a
  obtain ⟨⟨y⟩⟩ := b
  have : x = y := e
  rw [this])
/-- Is note i a call of this key that is a deed? -/
def dIs (key : ByteArray) (xs : List Note) (i : Nat) : Bool := !(xs.getD i Note.z).isAnswer && decide ((xs.getD i Note.z).call.key = key) && deedIs xs i
def dTo (key : ByteArray) (xs : List Note) (k : Nat) : List Deed := ((List.range k).filter (dIs key xs)).map (deedD xs)
def deedsL (key : ByteArray) (xs : List Note) : List Deed := if rightB xs then dTo key xs xs.length else []
theorem dTo_succ (key : ByteArray) (xs : List Note) (k : Nat) : dTo key xs (k + 1) = dTo key xs k ++ (if dIs key xs k then [deedD xs k] else []) := by
  unfold dTo
  rw [List.range_succ, List.filter_append, List.map_append]
  cases h : dIs key xs k <;> simp [h]
theorem dTo_length (key : ByteArray) (xs : List Note) (k : Nat) : (dTo key xs k).length ≤ k := by
  unfold dTo
  rw [List.length_map]
  exact Nat.le_trans (List.length_filter_le _ _) (by simp)
theorem infoD : (Try.prog.info? 30).map (fun i => (i.zero, i.size, i.bytes)) = some (some (.agg #[.int .i64 0, .slice none 0 0, .int .i64 0, .int .i64 0, .bool false, .bool false, .slice none 0 0]), 7, 88) := by kernel_rfl
/-- A deed whose things lie elsewhere than in this row. -/
def RF (W : World) (row : Option Nat) (d : Deed) (cs : List Value) : Prop := Kd.FK Deed.k W (fun k => some k ≠ row) d cs
theorem RF.one {W : World} {row : Option Nat} {d : Deed} {cs : List Value} (h : RF W row d cs) : ∀ u ∈ cs, u.oneCell' = true := Deed.k.K_one (Kd.FK_now h)
theorem RF.below {W W1 : World} {row : Option Nat} {d : Deed} {cs : List Value} (h : RF W row d cs) (hb : Below W.heap.size W W1) : RF W1 row d cs := Foot.step h (fun k _ hlt => hb.block k hlt)
theorem RF.grown {W W1 : World} {v v1 : Value} {d : Deed} {cs : List Value} (h : RF W v.ownBlock d cs) (hg : W.grownBy W1 v.ownBlock) (hat : v1.ownBlock = v.ownBlock ∨ ∃ b, v1.ownBlock = some b ∧ W.heap.size ≤ b) : RF W1 v1.ownBlock d cs := by
  refine Foot.mono ((Foot.bound h).step (fun k hk hlt => hg.block k hlt hk.1)) (fun k hk => ?_)
  rcases hat with hat | ⟨b, hat, hlt⟩
  · rw [hat]; exact hk.1
  · rw [hat]
    intro e
    injection e with e
    have := hk.2
    omega
theorem rowRF {W W1 : World} {base : Nat} {v : Value} {ds : List Deed} (h : OwnRow (RF W v.ownBlock) 30 7 W base v ds) (hb : Below W.heap.size W W1) : OwnRow (RF W1 v.ownBlock) 30 7 W1 base v ds :=
  (h.imp_ (fun _ _ h => h.below hb)).below hb
theorem rf_new {W : World} {N : Nat} {v : Value} {d : Deed} {cs : List Value} (h : Kd.FK Deed.k W (fun k => N ≤ k) d cs) (hv : ∀ b, v.ownBlock = some b → b < N) : RF W v.ownBlock d cs :=
  Foot.mono h (fun k hk e => absurd (hv k e.symm) (Nat.not_lt_of_le hk))
theorem row_lt {W : World} {R : Deed → List Value → Prop} {base : Nat} {v : Value} {ds : List Deed} (h : OwnRow R 30 7 W base v ds) : ∀ b, v.ownBlock = some b → b < W.heap.size := by
  obtain ⟨inner, ho, _⟩ := h
  exact own_lt ho
theorem reads_one {W : World} {row : Option Nat} {d : Deed} {cs : List Value} {g : Nat} (h : RF W row d cs) (hl : cs.length = 7) (hB : Blk W g cs) : ReadsRow (RF W row) 7 W (some ⟨g, 0, none⟩) 1 [d] := by
  refine ⟨rfl, by omega, fun _ => ⟨_, rfl, fun j p hj => ?_⟩⟩
  rcases j with _ | j
  · simp at hj
    subst hj
    exact ⟨cs, hl, h, fun i u hu => by rw [add_plain]; simpa using hB.cell i hu⟩
  · simp at hj
def DeedsTold (key : ByteArray) (xs : List Note) (w : World) (e : Ending) (w' : World) : Prop :=
  ∃ A cap, e = .returned (.tuple #[.slice A (deedsL key xs).length cap, .int .i64 (rightC xs)]) ∧ (deedsL key xs).length ≤ cap ∧ Deed.k.C w' A (deedsL key xs).length (deedsL key xs) ∧ Below w.heap.size w w'
set_option maxRecDepth 100000 in
set_option maxHeartbeats 4000000 in
theorem deeds_calls (key : ByteArray) (A : Option Addr) (c : Nat) (xs : List Note) (w : World) (hr : Note.k.C w A xs.length xs) (hn : xs.length ≤ 1300000000000) (hc : xs.length ≤ c) (hb : ∀ x ∈ xs, NBd x) :
    Calls Try.prog 19 #[.string key, .slice A xs.length c] w (DeedsTold key xs w) := by
  have HR := Aside0.mk hr
  have HBD := Aside0.mk hb
  clear hr hb
  go_enter Try.func19, Try.ntmps19
  have HRI := Aside0.mk (right_calls A c xs w HR.out hn)
  cases hrt : rightB xs with
  | false =>
    have hrc : rightC xs = 2 := by unfold rightC; rw [hrt]; rfl
    have HRC := Aside0.mk hrc
    have HRT := Aside0.mk hrt
    rw [hrc] at HRI
    clear hrc hrt
    go_wp2_with (first | (refine HRI.out.mono ?_; rintro e w1 ⟨rfl, hb1⟩; have HB1 := Aside0.mk hb1; clear hb1))
    go_ret2
    exact ⟨none, 0, by rw [HRC.out, show deedsL key xs = [] by unfold deedsL; rw [HRT.out]; rfl]; rfl, by rw [show deedsL key xs = [] by unfold deedsL; rw [HRT.out]; rfl]; exact Nat.le_refl _, by rw [show deedsL key xs = [] by unfold deedsL; rw [HRT.out]; rfl]; exact Kd.C_nil _ _, HB1.out⟩
  | true =>
    have hrc : rightC xs = 0 := by unfold rightC; rw [hrt]; rfl
    have HRC := Aside0.mk hrc
    have HRT := Aside0.mk hrt
    rw [hrc] at HRI
    clear hrc hrt
    go_wp2_with (first | (refine HRI.out.mono ?_; rintro e w1 ⟨rfl, hb1⟩; have HB1 := Aside0.mk hb1; clear hb1))
    go_loopw [7, 19] (fun v7 v19 wr => ∃ k : Nat, v19 = .int .i64 k ∧ k ≤ xs.length ∧ Aside0 (Below w.heap.size w wr) ∧ Aside0 (OwnRow (RF wr v7.ownBlock) 30 7 wr w.heap.size v7 (dTo key xs k))) (fun _ v19 _ => xs.length - (intOf v19).toNat)
    case atStart => exact ⟨0, rfl, Nat.zero_le _, HB1, ⟨OwnRow.none_ _ _ _ _ _⟩⟩
    case round =>
      obtain ⟨k, rfl, hk, HB, HO⟩ := hrel
      by_cases hlt : k < xs.length
      · obtain ⟨ad, x, A4, c4, A8, c8, rfl, HE, hx0, hx1, hx2, hx3, hx4, hx5, hx6, hx7, hx8, HMM⟩ := Note.at_ (Kd.C_below HR.out HB.out) k hlt
        have HXK : Aside0 (xs.getD k Note.z = x) := ⟨by rw [List.getD_eq_getElem?_getD, HE.out]; rfl⟩
        have HSU := Aside0.mk (dTo_succ key xs k)
        have HLE := Aside0.mk (dTo_length key xs k)
        have HOB : ∀ o, Aside0 (OwnRow (RF (wr.alloc o) u7.ownBlock) 30 7 (wr.alloc o) w.heap.size u7 (dTo key xs k)) := fun o => ⟨(HO.out.imp_ (fun _ _ h => h.below (below_alloc (Below.refl _ _) o))).below (below_alloc (Below.refl _ _) o)⟩
        obtain ⟨xa, ⟨ci, ck, cy, cb⟩, ⟨ai, ae, av⟩⟩ := x
        cases xa with
        | true =>
          go_wp2
          go_roundw
          case rel => exact ⟨k + 1, by go_num, by omega, ⟨below_alloc HB.out _⟩, ⟨by rw [HSU.out, if_neg (by unfold dIs; rw [HXK.out]; simp), List.append_nil]; exact (HOB _).out⟩⟩
          case measure => simp [intOf]; omega
        | false =>
          by_cases hky : cy = key
          · subst hky
            have HDC : Aside0 (∀ W, Below w.heap.size w W → Calls Try.prog 43 #[.slice (some ad) xs.length c, .int .i64 k] W (DeedTold xs k W)) := ⟨fun W hb => deed_calls (some ad) c xs k W (Kd.C_below HR.out hb) hlt hn hc HBD.out⟩
            cases hdi : deedIs xs k with
            | false =>
              go_wp2_with (first | (refine (HDC.out _ (below_alloc HB.out _)).mono ?_; rintro e w2 ⟨cs, rfl, hfk, hb2⟩; obtain ⟨A1, c1, A6, c6, he, hoo⟩ := Deed.open_ (Kd.FK_now hfk); clear hoo; rw [he] at hfk; obtain rfl : cs = _ := (Array.toArray_toList).symm.trans (congrArg List.toArray he); clear he; have HFK := Aside0.mk hfk; have HB2 := Aside0.mk hb2; clear hfk hb2; rw [hdi]))
              go_roundw
              case rel => exact ⟨k + 1, by go_num, by omega, ⟨below_alloc (below_step (below_alloc HB.out _) HB2.out) _⟩, ⟨by rw [HSU.out, if_neg (by unfold dIs; rw [HXK.out, hdi]; simp), List.append_nil]; exact rowRF HO.out (below_alloc (below_step (below_alloc (Below.refl _ _) _) HB2.out) _)⟩⟩
              case measure => simp [intOf]; omega
            | true =>
              go_wp2_with (first | (refine (HDC.out _ (below_alloc HB.out _)).mono ?_; rintro e w2 ⟨cs, rfl, hfk, hb2⟩; obtain ⟨A1, c1, A6, c6, he, hoo⟩ := Deed.open_ (Kd.FK_now hfk); clear hoo; rw [he] at hfk; obtain rfl : cs = _ := (Array.toArray_toList).symm.trans (congrArg List.toArray he); clear he; have HFK := Aside0.mk hfk; have HB2 := Aside0.mk hb2; clear hfk hb2; rw [hdi]) | (at_builtin; refine own_append_rows (w0 := w) (R := RF _ u7.ownBlock) w.heap.size rfl _ _ 22 30 _ 7 88 rfl Try.underlying22 infoD rfl (by omega) (by omega) u7 (dTo cy xs k) [deedD xs k] (some ⟨w2.heap.size + 1, 0, none⟩) 1 1 rfl (by show Value.slice _ 1 1 = _; simp) (rowRF HO.out (below_alloc (below_alloc (below_step (below_alloc (Below.refl _ _) _) HB2.out) _) _)) (reads_one (RF.below (rf_new HFK.out (fun b hb => by have := row_lt HO.out b hb; simp; omega)) (below_alloc (below_alloc (Below.refl _ _) _) _)) rfl (Blk.new_ _ _ _ (by simp) rfl)) (fun _ _ h => h.one) (below_alloc (below_alloc (below_step (below_alloc HB.out _) HB2.out) _) _) (below_alloc (below_alloc (below_step (below_alloc HB.out _) HB2.out) _) _).size (by have := HLE.out; omega) ?_; intro v1 w3 hown hB3 hg3 hat3; have HOW := Aside0.mk (OwnRow.imp_ hown (fun _ _ h => RF.grown h hg3 hat3)); have HB3 := Aside0.mk hB3; clear hown hB3 hg3 hat3))
              go_roundw
              case rel => exact ⟨k + 1, by go_num, by omega, HB3, ⟨by rw [HSU.out, if_pos (by unfold dIs; rw [HXK.out, hdi]; simp)]; exact HOW.out⟩⟩
              case measure => simp [intOf]; omega
          · have hky2 : (cy.toList == key.toList) = false := str_ne hky
            go_wp2
            go_roundw
            case rel => exact ⟨k + 1, by go_num, by omega, ⟨below_alloc HB.out _⟩, ⟨by rw [HSU.out, if_neg (by unfold dIs; rw [HXK.out]; simp [hky]), List.append_nil]; exact (HOB _).out⟩⟩
            case measure => simp [intOf]; omega
      · obtain rfl : k = xs.length := by omega
        go_wp2
        go_ret2
        obtain ⟨A', c', rfl, h1, h2⟩ := OwnRow.reads (HO.out.imp_ (fun _ _ h => Kd.FK_now h))
        have e : deedsL key xs = dTo key xs xs.length := by unfold deedsL; rw [HRT.out]; rfl
        exact ⟨A', c', by rw [HRC.out, e]; rfl, by rw [e]; exact h1, by rw [e]; exact h2, HB.out⟩
end DeedsB
end Go.Proofs.Ytgconogjnjhmgaa
