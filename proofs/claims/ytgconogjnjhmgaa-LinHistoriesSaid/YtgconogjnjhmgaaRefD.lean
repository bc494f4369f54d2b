/- The reference of layer 18: Value. -/
import Derived.Test.YtgconogjnjhmgaaRefC
import Derived.Test.YtgconogjnjhmgaaBlk
import Derived.Test.YtgconogjnjhmgaaSameB
namespace Go.Proofs.Ytgconogjnjhmgaa
open Go.RowKit Go.Proofs.YtgconogjnjhmgaaW.PrintWords
namespace RefD
open LinA LinB LinC LinD LinE LinF LinG LinH LinJ RightA DeedA RefA RefB RefC SameB
attribute [local go_sem ↓] Go.wp_at_zero Go.wp_at_succ
def stp (d : Deed) (s : Val × Bool) : Val × Bool := if d.kind = 1 then (s.1, s.2 && same d.val s.1) else if d.kind = 2 then (⟨true, d.b⟩, s.2) else (Val.z, s.2)
/-- What the key holds behind an order, and whether its reads are told right. -/
def valR (l : List Deed) (q : List Nat) : Val × Bool := q.foldl (fun s k => stp (l.getD k Deed.z) s) (Val.z, true)
theorem valR_snoc (l : List Deed) (q : List Nat) (k : Nat) : valR l (q ++ [k]) = stp (l.getD k Deed.z) (valR l q) := by unfold valR; rw [List.foldl_append]; rfl
def ValueTold (b : Bool) (w : World) (e : Ending) (w' : World) : Prop := ∃ (x : Bool) (A : Option Addr) (n c : Nat), e = .returned (.tuple #[.agg #[.bool x, .slice A n c], .bool b]) ∧ Below w.heap.size w w'
/-- The value at hand, as a variable of the call's own. -/
def VS (w W : World) (v : Val) : Prop := Below w.heap.size w W ∧ Blk W w.heap.size [.bool false, .slice none 0 0] ∧ ∃ A c, Blk W (w.heap.size + 1) [.bool v.has, .slice A v.b.length c] ∧ v.b.length ≤ c ∧ kU8.C w A v.b.length v.b
theorem deed_dig {w : World} {x : Deed} {A1 A6 : Option Addr} {c1 c6 : Nat} (h : Deed.k.K w x [.int .i64 x.kind, .slice A1 x.b.length c1, .int .i64 x.from_, .int .i64 x.to_, .bool x.done, .bool x.val.has, .slice A6 x.val.b.length c6]) :
    x.b.length ≤ c1 ∧ kU8.C w A1 x.b.length x.b ∧ x.val.b.length ≤ c6 ∧ kU8.C w A6 x.val.b.length x.val.b := by
  obtain ⟨_, _, _, _, he, r0, l1, g1, r2, r3, l6, g6⟩ := Deed.open_ h
  simp only [List.cons.injEq, Value.slice.injEq, true_and, and_true] at he
  obtain ⟨⟨rfl, rfl⟩, rfl, rfl⟩ := he
  exact ⟨l1, g1, l6, g6⟩
set_option maxRecDepth 100000 in
set_option maxHeartbeats 4000000 in
theorem value_calls (A B : Option Addr) (c d : Nat) (xs : List Deed) (q : List Nat) (w : World) (hr : Deed.k.C w A xs.length xs) (hq : (kInt .i64).C w B q.length (LinF.nums q)) (hqn : q.length ≤ 1300000000000) (hql : ∀ k ∈ q, k < xs.length) :
    Calls Try.prog 67 #[.slice A xs.length c, .slice B q.length d] w (ValueTold (valR xs q).2 w) := by
  have HR := Aside0.mk hr
  have HQ := Aside0.mk hq
  have HQL := Aside0.mk hql
  clear hr hq hql
  go_enter Try.func67, Try.ntmps67
  go_wp2_with fail
  have HV0 : Aside0 (VS w ((w.alloc (.cells #[.bool false, .slice none 0 0] 28)).alloc (.cells #[.bool false, .slice none 0 0] 28)) Val.z) := ⟨below_alloc (below_alloc (Below.refl _ _) _) _, Blk.alloc (Blk.new_ _ _ _ rfl rfl) _, none, 0, Blk.new_ _ _ _ (by simp) rfl, Nat.le_refl _, nil8 _⟩
  generalize (w.alloc (.cells #[.bool false, .slice none 0 0] 28)).alloc (.cells #[.bool false, .slice none 0 0] 28) = wh at *
  go_loopw [7, 8] (fun v7 v8 wr => ∃ k : Nat, v8 = .int .i64 k ∧ v7 = .bool (valR xs (q.take k)).2 ∧ k ≤ q.length ∧ Aside0 (VS w wr (valR xs (q.take k)).1)) (fun _ v _ => q.length - (intOf v).toNat)
  case atStart => exact ⟨0, rfl, rfl, Nat.zero_le _, HV0⟩
  case round =>
    obtain ⟨k, rfl, rfl, hk, HV⟩ := hrel
    by_cases hlt : k < q.length
    · obtain ⟨n, hnk⟩ : ∃ n, q[k]? = some n := ⟨q[k], List.getElem?_eq_getElem hlt⟩
      have hnl := HQL.out n (List.mem_of_getElem? hnk)
      have HTK : Aside0 (valR xs (q.take (k + 1)) = stp (xs.getD n Deed.z) (valR xs (q.take k))) := ⟨by rw [List.take_add_one, hnk]; exact valR_snoc _ _ _⟩
      obtain ⟨bd, z, rfl, HZ, hz0, hri⟩ := kInt_at HQ.out k hlt
      obtain rfl : z = (n : Int) := by
        have := LinJ.nums_get hnk
        rw [this] at HZ
        have := HZ.out
        injection this with this
        exact this.symm
      obtain ⟨ad, x, A1, c1, A6, c6, rfl, HE, hx0, hx1, hx2, hx3, hx4, hx5, hx6, HM⟩ := Deed.at_ HR.out n hnl
      have hxg : xs.getD n Deed.z = x := by rw [List.getD_eq_getElem?_getD, HE.out]; rfl
      rw [hxg] at HTK
      obtain ⟨hbw, hBr, Av, cv, hBv, hlv, hkv⟩ := HV.out
      have z0 := pw_cell_below hbw hz0
      have y0 := pw_cell_below hbw hx0
      have y1 := pw_cell_below hbw hx1
      have y2 := pw_cell_below hbw hx2
      have y3 := pw_cell_below hbw hx3
      have y4 := pw_cell_below hbw hx4
      have y5 := pw_cell_below hbw hx5
      have y6 := pw_cell_below hbw hx6
      have v0 := hBv.cell 0 rfl
      have v1 := hBv.cell 1 rfl
      have f0 := hBv.frozen 0 rfl
      have f1 := hBv.frozen 1 rfl
      have hgl := hBv.lt
      have h0 : (0 : Int) ≤ (k : Int) := by omega
      have h1 : (k : Int) < ((q.length : Nat) : Int) := by omega
      have h2 : (0 : Int) ≤ (n : Int) := by omega
      have h3 : (n : Int) < ((xs.length : Nat) : Int) := by omega
      have HBW := Aside0.mk hbw
      have HBR := Aside0.mk hBr
      have HBV := Aside0.mk hBv
      have HKV := Aside0.mk (And.intro hlv hkv)
      have HMX := Aside0.mk (deed_dig HM.out)
      clear hz0 hx0 hx1 hx2 hx3 hx4 hx5 hx6 HM hri hnk hxg hbw hBr hBv hlv hkv
      generalize valR xs (q.take k) = s at *
      obtain ⟨v, ok⟩ := s
      obtain ⟨dk, db, df, dt, dd, ⟨dh, dv⟩⟩ := x
      simp only at *
      by_cases q1 : dk = 1
      · subst q1
        cases ok with
        | false =>
          go_wp2_with fail
          go_roundw
          case rel => exact ⟨k + 1, by go_num, by rw [HTK.out]; rfl, by omega, ⟨by rw [HTK.out]; exact ⟨below_alloc HBW.out _, HBR.out.alloc _, Av, cv, HBV.out.alloc _, HKV.out.1, HKV.out.2⟩⟩⟩
          case measure => simp [intOf]; omega
        | true =>
          have HSV : Aside0 (∀ W, Below w.heap.size w W → Calls Try.prog 40 #[.agg #[.bool dh, .slice A6 dv.length c6], .agg #[.bool v.has, .slice Av v.b.length cv]] W fun e w' => e = .returned (.bool (same ⟨dh, dv⟩ v)) ∧ Below W.heap.size W w') := ⟨fun W hW => sameVal3_calls ⟨dh, dv⟩ v _ _ W (Val.mk_ W ⟨dh, dv⟩ HMX.out.2.2.1 (Kd.C_below HMX.out.2.2.2 hW)) (Val.mk_ W v HKV.out.1 (Kd.C_below HKV.out.2 hW))⟩
          go_wp2_with (first | (with_reducible refine (HSV.out _ (below_alloc HBW.out _)).mono ?_; rintro e w2 ⟨rfl, hb2⟩; have HB2 := Aside0.mk hb2; clear hb2))
          go_roundw
          case rel => exact ⟨k + 1, by go_num, by rw [HTK.out]; rfl, by omega, ⟨by rw [HTK.out]; exact ⟨below_step (below_alloc HBW.out _) HB2.out, (HBR.out.alloc _).on HB2.out, Av, cv, (HBV.out.alloc _).on HB2.out, HKV.out.1, HKV.out.2⟩⟩⟩
          case measure => simp [intOf]; omega
      · by_cases q2 : dk = 2
        · have HST : Aside0 (stp ⟨dk, db, df, dt, dd, ⟨dh, dv⟩⟩ (v, ok) = (⟨true, db⟩, ok)) := ⟨by unfold stp; rw [if_neg q1, if_pos q2]⟩
          go_wp2_with fail
          go_roundw
          case rel => exact ⟨k + 1, by go_num, by rw [HTK.out, HST.out], by omega, ⟨by rw [HTK.out, HST.out]; exact ⟨below_alloc (below_set (below_set HBW.out (by omega)) (by omega)) _, ((HBR.out.set_far (by omega) _ _).set_far (by omega) _ _).alloc _, A1, c1, ((HBV.out.set 0 (.bool true)).set 1 (.slice A1 db.length c1)).alloc _, HMX.out.1, HMX.out.2.1⟩⟩⟩
          case measure => simp [intOf]; omega
        · have HST : Aside0 (stp ⟨dk, db, df, dt, dd, ⟨dh, dv⟩⟩ (v, ok) = (Val.z, ok)) := ⟨by unfold stp; rw [if_neg q1, if_neg q2]⟩
          go_wp2_with fail
          go_roundw
          case rel => exact ⟨k + 1, by go_num, by rw [HTK.out, HST.out], by omega, ⟨by rw [HTK.out, HST.out]; exact ⟨below_alloc (below_set (below_set HBW.out (by omega)) (by omega)) _, ((HBR.out.set_far (by omega) _ _).set_far (by omega) _ _).alloc _, none, 0, ((HBV.out.set 0 (.bool false)).set 1 (.slice none 0 0)).alloc _, Nat.le_refl _, nil8 _⟩⟩⟩
          case measure => simp [intOf]; omega
    · obtain rfl : k = q.length := by omega
      rw [List.take_length] at *
      obtain ⟨hbw, hBr, Av, cv, hBv, hlv, hkv⟩ := HV.out
      have v0 := hBv.cell 0 rfl
      have v1 := hBv.cell 1 rfl
      have r0 := hBr.cell 0 rfl
      have r1 := hBr.cell 1 rfl
      have f0 := hBr.frozen 0 rfl
      have f1 := hBr.frozen 1 rfl
      have HBW := Aside0.mk hbw
      clear hbw hBr hBv hlv hkv HV
      generalize valR xs q = s at *
      go_wp2_with fail
      (try simp only [Exit.inBlock, Exit.then])
      refine bodyPost_ret (by simp [results, Try.results67, go_sem, r0, r1]; try rfl) rfl ?_
      exact ⟨_, _, _, _, rfl, below_set (below_set HBW.out (Nat.le_refl _)) (Nat.le_refl _)⟩
end RefD
end Go.Proofs.Ytgconogjnjhmgaa
