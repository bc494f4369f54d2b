/- Lemmas for the row (words on memory, contracts of the program's functions): LawS, Bridge, KindsCR, TabY0, LawSR. -/
import Derived.Deep.Slices
import Derived.ChangeArms
import Derived.SizedLaws
import Derived.Test.YtgfjkpnaabiecaaZT7
set_option linter.unusedVariables false
set_option linter.unusedSimpArgs false
namespace Go.Proofs.Ytgfjkpnaabiecaa
open Go.RowKit Go.Proofs.YtgfjkpnaabiecaaW.PrintWords
namespace Tab
open Tags Cmp RTab
set_option maxRecDepth 100000 in
set_option maxHeartbeats 1000000 in
theorem steps_bad (r : Room) (A : Option Addr) (c : Nat) (xs : List Do) (w : World) (hr : Do.k.C w A xs.length xs) (hn : xs.length ≤ 1600000000000) (hb : ¬ RoomOk r) :
    Calls Try.prog 8 #[.agg #[.int .i64 r.cells, .int .i64 r.bytes, .int .i64 r.buckets, .bool r.fresh], .slice A xs.length c] w (TrueTold w) := by
  have HR := Aside0.mk hr
  have HN : Aside0 (∀ w', Calls Try.prog 10 #[.agg #[.int .i64 r.cells, .int .i64 r.bytes, .int .i64 r.buckets, .bool r.fresh]] w' fun e w'' => e = .returned (.tuple #[.pointer none, .int .i64 2]) ∧ Below w'.heap.size w' w'') := ⟨new_no hb⟩
  have HNR : Aside0 (∀ w', Calls Try.prog 29 #[.agg #[.int .i64 r.cells, .int .i64 r.bytes, .int .i64 r.buckets, .bool r.fresh]] w' fun e w'' => e = .returned (.tuple #[.agg (rtc zT none 0 none 0).toArray, .int .i64 2]) ∧ Below w'.heap.size w' w'') := ⟨fun w' => newR_bad r w' hb⟩
  have HL : Aside0 (∀ w', Below w.heap.size w w' → Calls Try.prog 11 #[.slice A xs.length c] w' fun e w'' => ∃ n : Int, e = .returned (.int .i64 n) ∧ Below w'.heap.size w' w'') := ⟨fun w' h => long_calls A c xs w' (Kd.C_below HR.out h) hn⟩
  obtain ⟨ra, rb, rc, rd⟩ := r
  dsimp only at *
  clear hr hb
  go_enter Try.func8, Try.ntmps8
  go_upto_region 1 with (fail)
  generalize hX : World.alloc _ _ = W0
  have HB : Aside0 (Below w.heap.size w W0) := ⟨by rw [← hX]; exact below_alloc (Below.refl _ _) _⟩
  have hx : Blk W0 w.heap.size [.int .i64 ra, .int .i64 rb, .int .i64 rc, .bool rd] := by rw [← hX]; exact Blk.new_ _ _ _ rfl rfl
  have x0 := hx.cell 0 rfl
  have x1 := hx.cell 1 rfl
  have x2 := hx.cell 2 rfl
  have x3 := hx.cell 3 rfl
  clear hX hx
  go_upto_region 8 with (first
    | ((with_reducible refine (HL.out _ HB.out).mono ?_); rintro e w2 ⟨n, rfl, h⟩; have HB := Aside0.mk (Below.then_ HB.out h (Nat.le_refl _)); have x0 := pw_cell_below h x0; have x1 := pw_cell_below h x1; have x2 := pw_cell_below h x2; have x3 := pw_cell_below h x3; clear h)
    | ((with_reducible refine (HN.out _).mono ?_); rintro e w1 ⟨rfl, h⟩; have HB := Aside0.mk (Below.then_ HB.out h (Nat.le_refl _)); have x0 := pw_cell_below h x0; have x1 := pw_cell_below h x1; have x2 := pw_cell_below h x2; have x3 := pw_cell_below h x3; clear h)
    | ((with_reducible refine (HNR.out _).mono ?_); rintro e w3 ⟨rfl, h⟩; have HB := Aside0.mk (Below.then_ HB.out h (Nat.le_refl _)); clear h x0 x1 x2 x3)
    | ((with_reducible refine (known_true _).mono ?_); rintro e w3 ⟨rfl, h⟩; have HB := Aside0.mk (Below.then_ HB.out h (Nat.le_refl _)); clear h))
  · go_wp2
    go_ret
    exact ⟨rfl, HB.out⟩
  · generalize hX : World.alloc _ _ = W4
    have HB4 : Aside0 (Below w.heap.size w W4) := ⟨by rw [← hX]; exact below_alloc HB.out _⟩
    clear hX
    go_loopg [9] xs.length (fun gk v wr => v = .int .i64 0 ∧ Aside0 (gk = xs.length) ∧ Aside0 (Below w.heap.size w wr))
    case atStart => exact ⟨rfl, ⟨rfl⟩, HB4⟩
    case round =>
      obtain ⟨rfl, HG, HS⟩ := hrel
      by_cases hlt : 0 < xs.length
      · have hltI : (0 : Int) < (xs.length : Int) := by omega
        go_wp2_with (first | ((with_reducible refine (known_true _).mono ?_); rintro e w3 ⟨rfl, h⟩; have HB := Aside0.mk (Below.then_ HS.out h (Nat.le_refl _)); clear h))
        go_ret
        exact ⟨rfl, HB.out⟩
      · have hltI : ¬ (0 : Int) < (xs.length : Int) := by omega
        go_wp2_with (first | ((with_reducible refine (known_true _).mono ?_); rintro e w3 ⟨rfl, h⟩; have HB := Aside0.mk (Below.then_ HS.out h (Nat.le_refl _)); clear h))
        go_ret
        exact ⟨rfl, HB.out⟩

def okU (p mb tb ub : Nat) (i : Nat) : Prop := i ∉ [p, mb, tb] ∧ i ≠ ub
/-- A table beside the reference's. -/
structure US (w : World) (p mb tb ub : Nat) (T : Tb) (wr : World) : Prop where
  ls : LS w p mb tb T wr
  g : w.heap.size ≤ ub ∧ ub ∉ [p, mb, tb] ∧ ub < wr.heap.size
  ty : Ty wr 69 ub
  tab : ∃ A c B d, Blk wr ub (rtc T A c B d) ∧ RT wr (okU p mb tb ub) T A c B d
theorem doneR_calls (p mb tb : Nat) (T : Tb) (d : Do) (A : Option Addr) (c : Nat) (n : Int) (w : World) (h : TbR w p mb tb T) (hN : Num T n) (hn : n ≤ 2000000000000000000)
    (hF : Kd.FK Entry.k w (fun i => i ∉ [p, mb, tb]) d.e (ecs d.e A c)) (hbl : d.e.val.b.length ≤ 140737488351232) :
    Calls Try.prog 22 #[.pointer (some ⟨p, 0, none⟩), .agg (dcs d A c).toArray] w fun e w' => ∃ A' c', e = .returned (.tuple #[.agg (rcs (Tab.stepR T d) A' c').toArray, .bool (Tab.stepB T d), .int .i64 (Tab.stepE T d)]) ∧ BK Reply.k w' (Tab.stepR T d) (rcs (Tab.stepR T d) A' c') ∧ TbR w' p mb tb (Tab.stepT T d) ∧ Only [p, mb, tb] w w' := by
  refine (done_calls p mb tb T d A c n w h hN hn hF hbl).mono ?_
  rintro e w' ⟨cs, rfl, hbk, ht, ho⟩
  obtain ⟨A', c', he, _⟩ := Reply.open_ hbk.now
  have hcs : cs = cs.toList.toArray := by simp
  rw [he] at hbk
  rw [hcs, he]
  exact ⟨A', c', rfl, hbk, ht, ho⟩
/-- What the reference's step has left, laid in two boxes. -/
structure MS (W10 : World) (p mb tb ub b13 b14 : Nat) (T1 : Tb) (R : Reply) (A : Option Addr) (c : Nat) (B : Option Addr) (d : Nat) (A5 : Option Addr) (c5 : Nat) (wx : World) : Prop where
  bl : Below W10.heap.size W10 wx
  x13 : Blk wx b13 (rtc T1 A c B d)
  x14 : Blk wx b14 (rcs R A5 c5)
  rt : RT wx (okU p mb tb ub) T1 A c B d
  rr : Kd.FK Reply.k wx (okU p mb tb ub) R (rcs R A5 c5)
  h13 : W10.heap.size ≤ b13
  h14 : W10.heap.size ≤ b14
theorem ms_end {W10 wF W9 : World} {p mb tb ub b13 b14 : Nat} {T1 : Tb} {R : Reply} {A : Option Addr} {c : Nat} {B : Option Addr} {d : Nat} {A5 : Option Addr} {c5 : Nat} {u0 u1 u2 u3 u4 u5 u6 v0 v1 v2 v3 v4 v5 v6 v7 : Value} (hb : Below W10.heap.size W10 wF) (h1 : Blk wF b13 [u0, u1, u2, u3, u4, u5, u6]) (h2 : Blk wF b14 [v0, v1, v2, v3, v4, v5, v6, v7]) (hne : b13 ≠ b14) (h13 : W10.heap.size ≤ b13) (h14 : W10.heap.size ≤ b14) {okF : Nat → Prop} (hT : RT wF okF T1 A c B d) (hR : Kd.FK Reply.k wF okF R (rcs R A5 c5)) (hk : ∀ i, okF i → i ≠ b13 ∧ i ≠ b14 ∧ okU p mb tb ub i)
    (hW : set8 (set7 wF b13 (.int .i64 T1.room.cells) (.int .i64 T1.room.bytes) (.int .i64 T1.room.buckets) (.bool T1.room.fresh) (.slice A T1.l.length c) (.slice B T1.tok.length d) (.int .i64 T1.uses)) b14 (.string R.e.key) (.int .i64 R.e.tag.seq) (.int .i64 R.e.tag.who) (.int .i64 R.e.tag.op) (.bool R.e.val.has) (.slice A5 R.e.val.b.length c5) (.bool R.whole) (.int .i64 R.token) = W9) :
    MS W10 p mb tb ub b13 b14 T1 R A c B d A5 c5 W9 := by
  subst hW
  obtain ⟨k1, k2, hO⟩ := two_set h1 h2 hne (.int .i64 T1.room.cells) (.int .i64 T1.room.bytes) (.int .i64 T1.room.buckets) (.bool T1.room.fresh) (.slice A T1.l.length c) (.slice B T1.tok.length d) (.int .i64 T1.uses) (.string R.e.key) (.int .i64 R.e.tag.seq) (.int .i64 R.e.tag.who) (.int .i64 R.e.tag.op) (.bool R.e.val.has) (.slice A5 R.e.val.b.length c5) (.bool R.whole) (.int .i64 R.token)
  have hn : ∀ i, okF i → i ∉ [b13, b14] := fun i hi hm => by
    obtain ⟨k1, k2, _⟩ := hk i hi
    simp at hm
    omega
  exact ⟨((Only.of_below [b13, b14] hb).trans hO).below (by intro i hi; simp at hi; omega) (Nat.le_refl _), k1, k2, (hT.only hO hn).mono (fun i hi => (hk i hi).2.2), Foot.mono (Foot.only hR hO hn) (fun i hi => (hk i hi).2.2), h13, h14⟩
structure VS (w : World) (p mb tb ub ab b14 : Nat) (T1 : Tb) (R : Reply) (Aa : Option Addr) (ca : Nat) (A : Option Addr) (c : Nat) (B : Option Addr) (d : Nat) (A5 : Option Addr) (c5 : Nat) (wr : World) : Prop where
  ls : LS w p mb tb T1 wr
  ublk : Blk wr ub (rtc T1 A c B d)
  uty : Ty wr 69 ub
  rt : RT wr (okU p mb tb ub) T1 A c B d
  rb : RB wr ab R Aa ca
  x14 : Blk wr b14 (rcs R A5 c5)
  rr : Kd.FK Reply.k wr (okU p mb tb ub) R (rcs R A5 c5)
theorem VS.below {w : World} {p mb tb ub ab b14 : Nat} {T1 : Tb} {R : Reply} {Aa : Option Addr} {ca : Nat} {A : Option Addr} {c : Nat} {B : Option Addr} {d : Nat} {A5 : Option Addr} {c5 : Nat} {wr w1 : World} (h : VS w p mb tb ub ab b14 T1 R Aa ca A c B d A5 c5 wr) (hb : Below wr.heap.size wr w1) : VS w p mb tb ub ab b14 T1 R Aa ca A c B d A5 c5 w1 :=
  ⟨h.ls.below hb, h.ublk.on hb, h.uty.below hb, h.rt.below hb, h.rb.below hb, h.x14.on hb, Foot.step h.rr (fun i _ hlt => hb.block i hlt)⟩
theorem rr_bytes {w : World} {ok : Nat → Prop} {R : Reply} {A : Option Addr} {c : Nat} (h : Kd.FK Reply.k w ok R (rcs R A c)) : kU8.C w A R.e.val.b.length R.e.val.b := by
  obtain ⟨A6, c6, he, _, _, _, _, _, g5, _⟩ := Reply.open_ (Kd.FK_now h)
  simp only [List.cons.injEq, Value.slice.injEq, true_and, and_true] at he
  obtain ⟨rfl, rfl⟩ := he
  exact g5
theorem vs_mk {w W10 wx W12 : World} {p mb tb ub ab b13 b14 : Nat} {T1 : Tb} {R : Reply} {Aa : Option Addr} {ca : Nat} {A : Option Addr} {c : Nat} {B : Option Addr} {d : Nat} {A5 : Option Addr} {c5 : Nat} {u0 u1 u2 u3 u4 u5 u6 : Value} (hls : LS w p mb tb T1 wx) (hw : w.heap.size ≤ ub) (hu : ub ∉ [p, mb, tb]) (hub : Blk wx ub [u0, u1, u2, u3, u4, u5, u6]) (hty : Ty wx 69 ub) (hrb : RB wx ab R Aa ca) (hm : MS W10 p mb tb ub b13 b14 T1 R A c B d A5 c5 wx) (h14 : b14 ≠ ub)
    (hW : set7 wx ub (.int .i64 T1.room.cells) (.int .i64 T1.room.bytes) (.int .i64 T1.room.buckets) (.bool T1.room.fresh) (.slice A T1.l.length c) (.slice B T1.tok.length d) (.int .i64 T1.uses) = W12) :
    VS w p mb tb ub ab b14 T1 R Aa ca A c B d A5 c5 W12 := by
  subst hW
  have hO := set7_only wx ub (.int .i64 T1.room.cells) (.int .i64 T1.room.bytes) (.int .i64 T1.room.buckets) (.bool T1.room.fresh) (.slice A T1.l.length c) (.slice B T1.tok.length d) (.int .i64 T1.uses)
  have hno : ∀ i ∈ [ub], ¬ Ty wx 5 i := fun i hi => by
    have : i = ub := by simpa using hi
    subst this
    exact hty.ne (by decide)
  have hab : ab ∉ [ub] := fun hm => by
    have : ab = ub := by simpa using hm
    subst this
    exact hrb.ty.ne (by decide) hty
  have hn : ∀ i, okU p mb tb ub i → i ∉ [ub] := fun i hi hm => hi.2 (by simpa using hm)
  refine ⟨hls.only hO (fun e => hu (by simp at e; simp [e])) (fun e => hu (by simp at e; simp [e])) (fun e => hu (by simp at e; simp [e])) hno (fun i hi => by simp at hi; omega), set7_blk hub _ _ _ _ _ _ _, ?_, hm.rt.only hO hn, hrb.only hO hab hno, hm.x14.only hO (by simpa using h14), Foot.only hm.rr hO hn⟩
  exact ((((((hty.set _ _).set _ _).set _ _).set _ _).set _ _).set _ _).set _ _
set_option maxRecDepth 100000 in
set_option maxHeartbeats 4000000 in
theorem steps_good (r : Room) (A : Option Addr) (c : Nat) (xs : List Do) (w : World) (hr : Do.k.C w A xs.length xs) (hn : xs.length ≤ 1600000000000) (hb : RoomOk r) (hxl : ∀ x ∈ xs, x.e.val.b.length ≤ 140737488351232) :
    Calls Try.prog 8 #[.agg #[.int .i64 r.cells, .int .i64 r.bytes, .int .i64 r.buckets, .bool r.fresh], .slice A xs.length c] w (TrueTold w) := by
  have HNR : Aside0 (∀ w', Calls Try.prog 29 #[.agg #[.int .i64 r.cells, .int .i64 r.bytes, .int .i64 r.buckets, .bool r.fresh]] w' (MadeV w' (fun _ => False) (newT r) [.int .i64 0])) := ⟨fun w' => newR_good r w' hb⟩
  have HR := Aside0.mk hr
  have HXL := Aside0.mk hxl
  obtain ⟨ra, rz, rc, rd⟩ := r
  have HRM : Aside0 (RoomOk ⟨ra, rz, rc, rd⟩) := ⟨hb⟩
  have HWF : Aside0 (∀ k, k ≤ xs.length → Wf (runT (newT ⟨ra, rz, rc, rd⟩) xs k) (1 + 5000 * (k : Int))) := ⟨fun k _ => (Wf.new_ hb).run xs k⟩
  have HN : Aside0 (∀ w', Calls Try.prog 10 #[.agg #[.int .i64 ra, .int .i64 rz, .int .i64 rc, .bool rd]] w' fun e w'' => ∃ p mb tb, e = .returned (.tuple #[.pointer (some ⟨p, 0, none⟩), .int .i64 0]) ∧ LS w' p mb tb (newT ⟨ra, rz, rc, rd⟩) w'') := ⟨new_ok (r := ⟨ra, rz, rc, rd⟩) hb⟩
  dsimp only at *
  have HL : Aside0 (∀ w', Below w.heap.size w w' → Calls Try.prog 11 #[.slice A xs.length c] w' fun e w'' => ∃ n : Int, e = .returned (.int .i64 n) ∧ Below w'.heap.size w' w'') := ⟨fun w' h => long_calls A c xs w' (Kd.C_below HR.out h) hn⟩
  clear hr hb hxl
  go_enter Try.func8, Try.ntmps8
  go_upto_region 1 with (fail)
  generalize hX : World.alloc _ _ = W0
  have HB : Aside0 (Below w.heap.size w W0) := ⟨by rw [← hX]; exact below_alloc (Below.refl _ _) _⟩
  have hx : Blk W0 w.heap.size [.int .i64 ra, .int .i64 rz, .int .i64 rc, .bool rd] := by rw [← hX]; exact Blk.new_ _ _ _ rfl rfl
  have x0 := hx.cell 0 rfl
  have x1 := hx.cell 1 rfl
  have x2 := hx.cell 2 rfl
  have x3 := hx.cell 3 rfl
  clear hX hx
  obtain ⟨T0, hT0⟩ : ∃ T0, T0 = newT ⟨ra, rz, rc, rd⟩ := ⟨_, rfl⟩
  rw [← hT0] at HNR HN HWF
  clear hT0
  go_upto_region 8 with (first
    | ((with_reducible refine (HL.out _ HB.out).mono ?_); rintro e w2 ⟨n, rfl, h⟩; have HB := Aside0.mk (Below.then_ HB.out h (Nat.le_refl _)); have x0 := pw_cell_below h x0; have x1 := pw_cell_below h x1; have x2 := pw_cell_below h x2; have x3 := pw_cell_below h x3; clear h)
    | ((with_reducible refine (HN.out _).mono ?_); rintro e w1 ⟨p, mb, tb, rfl, h⟩; have HT := Aside0.mk (h.elder HB.out); have x0 := pw_cell_below h.bl x0; have x1 := pw_cell_below h.bl x1; have x2 := pw_cell_below h.bl x2; have x3 := pw_cell_below h.bl x3; clear h)
    | ((with_reducible refine (HNR.out _).mono ?_); rintro e w3 ⟨A0, c0, B0, d0, rfl, hR, h⟩; have HRT := Aside0.mk hR; have HLT := Aside0.mk HT.out.lt; have HT := Aside0.mk (HT.out.below h); have HBN := Aside0.mk h; clear h hR x0 x1 x2 x3)
    | ((with_reducible refine (known_true _).mono ?_); rintro e w3 ⟨rfl, h⟩; have HB := Aside0.mk (Below.then_ HB.out h (Nat.le_refl _)); clear h))
  · go_wp2
    go_ret
    exact ⟨rfl, HB.out⟩
  · generalize hX : World.alloc _ _ = W4
    have HB4 : Aside0 (Below w3.heap.size w3 W4) := ⟨by rw [← hX]; exact below_alloc (Below.refl _ _) _⟩
    have HU4 : Aside0 (US w p mb tb w3.heap.size T0 W4) := ⟨by
      have hb := HBN.out.size
      have hl := HLT.out
      have l1 := hl p (by simp)
      have l2 := hl mb (by simp)
      have l3 := hl tb (by simp)
      have hg := HT.out.bl.size
      have hlt : w3.heap.size < W4.heap.size := by rw [← hX]; simp
      refine ⟨HT.out.below HB4.out, ⟨hg, by simp; omega, hlt⟩, by rw [← hX]; exact Ty.new _ _ _ _, A0, c0, B0, d0, by rw [← hX]; exact Blk.new_ _ _ _ rfl rfl, (HRT.out.bound.below HB4.out).mono (fun i hi => ?_)⟩
      obtain ⟨hi, hlt⟩ := hi
      rcases hi with hi | hi
      · exact hi.elim
      · refine ⟨by simp; omega, by omega⟩⟩
    obtain ⟨ub, hub⟩ : ∃ ub, ub = w3.heap.size := ⟨_, rfl⟩
    rw [← hub] at HU4 ⊢
    clear hX hub HB4 HLT HT HBN HRT HNR HN HL HB
    go_loopg [9] xs.length (fun gk v wr => ∃ k : Nat, v = .int .i64 (k : Int) ∧ k ≤ xs.length ∧ Aside0 (gk + k = xs.length) ∧ Aside0 (US w p mb tb ub (runT T0 xs k) wr))
    case atStart => exact ⟨0, rfl, Nat.zero_le _, ⟨rfl⟩, HU4⟩
    case round =>
      obtain ⟨k, rfl, hk, HG, HU⟩ := hrel
      by_cases hlt : k < xs.length
      · have hltI : (k : Int) < (xs.length : Int) := by omega
        obtain ⟨ad, x, A6, c6, rfl, HX, y0, y1, y2, y3, y4, y5, y6, y7, y8⟩ := Do.at_ HR.out k hlt
        have HWT := Aside0.mk (HWF.out k hk)
        obtain ⟨T, hT⟩ : ∃ T, T = runT T0 xs k := ⟨_, rfl⟩
        rw [← hT] at HU HWT
        have HTS : Aside0 (runT T0 xs (k + 1) = Tab.stepT T x) := ⟨by rw [runT_succ HX.out, hT]⟩
        clear hT
        have hn5 : 1 + 5000 * (k : Int) ≤ 1000000000000000000 := by omega
        have HXB := Aside0.mk (HXL.out x (List.mem_of_getElem? HX.out))
        have HY8 := Aside0.mk (do_ent y8.out)
        have HYO := Aside0.mk (And.intro y0 (And.intro y1 (And.intro y2 (And.intro y3 (And.intro y4 (And.intro y5 (And.intro y6 y7)))))))
        have HBW := Aside0.mk HU.out.ls.bl
        have y0 := pw_cell_below HBW.out y0
        have y1 := pw_cell_below HBW.out y1
        have y2 := pw_cell_below HBW.out y2
        have y3 := pw_cell_below HBW.out y3
        have y4 := pw_cell_below HBW.out y4
        have y5 := pw_cell_below HBW.out y5
        have y6 := pw_cell_below HBW.out y6
        have y7 := pw_cell_below HBW.out y7
        have HD := Aside0.mk (doneR_calls p mb tb T x A6 c6 _ wr HU.out.ls.t (HWT.out.num (by omega)) (by omega) (HU.out.ls.storeF HY8.out) HXB.out)
        obtain ⟨T1, hT1⟩ : ∃ T1, T1 = Tab.stepT T x := ⟨_, rfl⟩
        obtain ⟨R, hR⟩ : ∃ R, R = Tab.stepR T x := ⟨_, rfl⟩
        obtain ⟨sb, hsb⟩ : ∃ sb, sb = Tab.stepB T x := ⟨_, rfl⟩
        obtain ⟨se, hse⟩ : ∃ se, se = Tab.stepE T x := ⟨_, rfl⟩
        have HST : Aside0 (∀ A c B d w' okx, RT w' okx T A c B d → Kd.FK Entry.k w' okx x.e (ecs x.e A6 c6) → Calls Try.prog 30 #[.agg (rtc T A c B d).toArray, .agg (dcs x A6 c6).toArray] w' fun e w'' => ∃ A c B d A5 c5, e = .returned (.tuple #[.agg (rtc T1 A c B d).toArray, .agg (rcs R A5 c5).toArray, .bool sb, .int .i64 se]) ∧ RT w'' (fun i => okx i ∨ w'.heap.size ≤ i) T1 A c B d ∧ Kd.FK Reply.k w'' (fun i => okx i ∨ w'.heap.size ≤ i) R (rcs R A5 c5) ∧ Below w'.heap.size w' w'') := ⟨fun A c B d w' okx h1 h2 => by rw [hT1, hR, hsb, hse]; exact stepR_calls T A c B d x A6 c6 _ okx w' h1 HWT.out (by omega) h2 HXB.out⟩
        have HW1 : Aside0 (Wf T1 (1 + 5000 * (k : Int) + 5000)) := ⟨by rw [hT1]; exact HWT.out.step x⟩
        rw [← hT1] at HTS
        rw [← hT1, ← hR, ← hsb, ← hse] at HD
        clear hT1 hR hsb hse HX y8
        dsimp only [dcs] at HD HST
        go_upto_region 11 with (first | ((with_reducible refine HD.out.mono ?_); rintro e w1 ⟨Aa, ca, rfl, hbk, h1, o1⟩; have HBK := Aside0.mk hbk; have HH1 := Aside0.mk h1; have HO1 := Aside0.mk o1; clear hbk h1 o1))
        generalize hX : World.alloc _ _ = W10
        have HB10 : Aside0 (Below w1.heap.size w1 W10) := ⟨by rw [← hX]; exact below_alloc (Below.refl _ _) _⟩
        have HRB : Aside0 (RB W10 w1.heap.size R Aa ca) := ⟨by rw [← hX]; exact RB.new HBK.out⟩
        have HLS := Aside0.mk ((HU.out.ls.told HH1.out HO1.out).below HB10.out)
        obtain ⟨A0, c0, B0, d0, hub, hrt⟩ := HU.out.tab
        have HUB : Aside0 (Blk W10 ub (rtc T A0 c0 B0 d0) ∧ Ty W10 69 ub ∧ RT W10 (okU p mb tb ub) T A0 c0 B0 d0) := ⟨(hub.only HO1.out HU.out.g.2.1).on HB10.out, (HU.out.ty.only HO1.out HU.out.g.2.1).below HB10.out, (hrt.only HO1.out (fun i hi => hi.1)).below HB10.out⟩
        have hg := HU.out.g
        have s1 := HO1.out.size
        have s10 := HB10.out.size
        have HGG : Aside0 (w.heap.size ≤ ub ∧ ub ∉ [p, mb, tb] ∧ ub < W10.heap.size ∧ p < W10.heap.size ∧ mb < W10.heap.size ∧ tb < W10.heap.size) := ⟨by
          have l1 := HLS.out.lt p (by simp)
          have l2 := HLS.out.lt mb (by simp)
          have l3 := HLS.out.lt tb (by simp)
          exact ⟨hg.1, hg.2.1, by omega, l1, l2, l3⟩⟩
        have HNB : Aside0 (∀ i, W10.heap.size ≤ i → okU p mb tb ub i) := ⟨fun i hi => by obtain ⟨_, _, q1, q2, q3, q4⟩ := HGG.out; exact ⟨by simp; omega, by omega⟩⟩
        have HEN : Aside0 (Kd.FK Entry.k W10 (okU p mb tb ub) x.e (ecs x.e A6 c6)) := ⟨by
          refine Foot.mono (Foot.step (ent_old HY8.out) (fun i _ hlt => HLS.out.bl.block i hlt)) (fun i hi => ?_)
          obtain ⟨g1, g2, g3⟩ := HLS.out.g
          have g4 := HGG.out.1
          exact ⟨by simp; omega, by omega⟩⟩
        have HSW : Aside0 (∀ w', Below W10.heap.size W10 w' → _) := ⟨fun w' hb => HST.out A0 c0 B0 d0 w' (fun i => okU p mb tb ub i ∧ i < W10.heap.size) (HUB.out.2.2.bound.below hb) (Foot.step (Foot.bound HEN.out) (fun i _ hlt => hb.block i hlt))⟩
        obtain ⟨ab, hab⟩ : ∃ ab, ab = w1.heap.size := ⟨_, rfl⟩
        rw [← hab] at HRB ⊢
        have HLB := Aside0.mk HLS.out.bl
        clear hX hub hrt hg s1 s10 HO1 HB10 HU HBK HH1 HD HST HBW hab y0 y1 y2 y3 y4 y5 y6 y7
        obtain ⟨y0, y1, y2, y3, y4, y5, y6, y7⟩ := HYO.out
        have y0 := pw_cell_below HLB.out y0
        have y1 := pw_cell_below HLB.out y1
        have y2 := pw_cell_below HLB.out y2
        have y3 := pw_cell_below HLB.out y3
        have y4 := pw_cell_below HLB.out y4
        have y5 := pw_cell_below HLB.out y5
        have y6 := pw_cell_below HLB.out y6
        have y7 := pw_cell_below HLB.out y7
        obtain ⟨⟨x0, x1, x2, x3, x4, x5, x6⟩, _⟩ := seven HUB.out.1
        go_cut [13, 14, 15, 16] (fun v13 v14 v15 v16 wx => ∃ b13 b14 A8 c8 B8 d8 A5 c5, v13 = .pointer (some ⟨b13, 0, none⟩) ∧ v14 = .pointer (some ⟨b14, 0, none⟩) ∧ v15 = .bool sb ∧ v16 = .int .i64 se ∧ Aside0 (MS W10 p mb tb ub b13 b14 T1 R A8 c8 B8 d8 A5 c5 wx))
        case first =>
          have x0 := fun w' (h : Below W10.heap.size W10 w') => pw_cell_below h x0
          have x1 := fun w' (h : Below W10.heap.size W10 w') => pw_cell_below h x1
          have x2 := fun w' (h : Below W10.heap.size W10 w') => pw_cell_below h x2
          have x3 := fun w' (h : Below W10.heap.size W10 w') => pw_cell_below h x3
          have x4 := fun w' (h : Below W10.heap.size W10 w') => pw_cell_below h x4
          have x5 := fun w' (h : Below W10.heap.size W10 w') => pw_cell_below h x5
          have x6 := fun w' (h : Below W10.heap.size W10 w') => pw_cell_below h x6
          have y0 := fun w' (h : Below W10.heap.size W10 w') => pw_cell_below h y0
          have y1 := fun w' (h : Below W10.heap.size W10 w') => pw_cell_below h y1
          have y2 := fun w' (h : Below W10.heap.size W10 w') => pw_cell_below h y2
          have y3 := fun w' (h : Below W10.heap.size W10 w') => pw_cell_below h y3
          have y4 := fun w' (h : Below W10.heap.size W10 w') => pw_cell_below h y4
          have y5 := fun w' (h : Below W10.heap.size W10 w') => pw_cell_below h y5
          have y6 := fun w' (h : Below W10.heap.size W10 w') => pw_cell_below h y6
          have y7 := fun w' (h : Below W10.heap.size W10 w') => pw_cell_below h y7
          obtain ⟨vd, hD⟩ : ∃ vd, vd = World.drew W10 := ⟨_, rfl⟩
          have HBd : Aside0 (Below W10.heap.size W10 vd) := ⟨by rw [hD]; exact below_drew (Below.refl _ _)⟩
          refine wp_region_noPanic ?_
          refine wp_region_held_drew (S := Below W10.heap.size W10) (by kernel_rfl) (below_drew (Below.refl _ _)) (fun hHeld => ?_)
          rw [← hD]
          clear hD hHeld
          have hHeld := HBd.out
          (refine takeH 0 64 (v := ?_) rfl rfl (by kernel_rfl) (by kernel_rfl) (by kernel_rfl) (fun _ _ _ h => h) hHeld rfl ?_ ?_; rotate_left; (focus (intro w' hSw; go_simp; try with_reducible rfl)))
          (try simp only [Act.put, List.setIfInBounds_toArray, List.set_cons_zero, List.set_cons_succ])
          (refine takeH 1 65 (v := ?_) rfl rfl (by kernel_rfl) (by kernel_rfl) (by kernel_rfl) (fun _ _ _ h => h) hHeld rfl ?_ ?_; rotate_left; (focus (intro w' hSw; go_simp; try with_reducible rfl)))
          (try simp only [Act.put, List.setIfInBounds_toArray, List.set_cons_zero, List.set_cons_succ])
          (refine takeH 2 66 (v := ?_) rfl rfl (by kernel_rfl) (by kernel_rfl) (by kernel_rfl) (fun _ _ _ h => h) hHeld rfl ?_ ?_; rotate_left; (focus (intro w' hSw; go_simp; try with_reducible rfl)))
          (try simp only [Act.put, List.setIfInBounds_toArray, List.set_cons_zero, List.set_cons_succ])
          (refine takeH 3 67 (v := ?_) rfl rfl (by kernel_rfl) (by kernel_rfl) (by kernel_rfl) (fun _ _ _ h => h) hHeld rfl ?_ ?_; rotate_left; (focus (intro w' hSw; go_simp; try with_reducible rfl)))
          (try simp only [Act.put, List.setIfInBounds_toArray, List.set_cons_zero, List.set_cons_succ])
          (refine takeH 4 68 (v := ?_) rfl rfl (by kernel_rfl) (by kernel_rfl) (by kernel_rfl) (fun _ _ _ h => h) hHeld rfl ?_ ?_; rotate_left; (focus (intro w' hSw; go_simp; try with_reducible rfl)))
          (try simp only [Act.put, List.setIfInBounds_toArray, List.set_cons_zero, List.set_cons_succ])
          refine wpAnyH_ready (rs := [5, 11, 12]) (by kernel_rfl) (by simp) ?_
          refine AllReadyH.cons rfl (fun K hK => ?_) (AllReadyH.cons rfl (fun K hK => ?_) (AllReadyH.cons rfl (fun K hK => ?_) AllReadyH.nil))
          · go_simp
            refine (HSW.out vd HBd.out).mono ?_
            rintro e vC ⟨A8, c8, B8, d8, A5, c5, rfl, hR, hR2, hb⟩
            have HBC := Aside0.mk (Below.then_ HBd.out hb (Nat.le_refl _))
            have HRT := Aside0.mk (And.intro hR.bound (Foot.bound hR2))
            have sC : vd.heap.size ≤ vC.heap.size := hb.size
            clear hR hR2 hb
            refine hK.out _ _ HBC.out (fun hHeld => ?_)
            clear hK K
            (try simp only [Act.put, List.setIfInBounds_toArray, List.set_cons_zero, List.set_cons_succ])
            (refine takeH 6 63 (v := ?_) rfl rfl (by kernel_rfl) (by kernel_rfl) (by kernel_rfl) (fun _ _ _ h => h) hHeld rfl ?_ ?_; rotate_left; (focus (intro w' hSw; go_simp; try with_reducible rfl)))
            (try simp only [Act.put, List.setIfInBounds_toArray, List.set_cons_zero, List.set_cons_succ])
            (refine takeH 7 70 (v := ?_) rfl rfl (by kernel_rfl) (by kernel_rfl) (by kernel_rfl) (fun _ _ _ h => h) hHeld rfl ?_ ?_; rotate_left; (focus (intro w' hSw; go_simp; try with_reducible rfl)))
            (try simp only [Act.put, List.setIfInBounds_toArray, List.set_cons_zero, List.set_cons_succ])
            (refine takeH 8 71 (v := ?_) rfl rfl (by kernel_rfl) (by kernel_rfl) (by kernel_rfl) (fun _ _ _ h => h) hHeld rfl ?_ ?_; rotate_left; (focus (intro w' hSw; go_simp; try with_reducible rfl)))
            (try simp only [Act.put, List.setIfInBounds_toArray, List.set_cons_zero, List.set_cons_succ])
            (refine takeH 9 72 (v := ?_) rfl rfl (by kernel_rfl) (by kernel_rfl) (by kernel_rfl) (fun _ _ _ h => h) hHeld rfl ?_ ?_; rotate_left; (focus (intro w' hSw; go_simp; try with_reducible rfl)))
            (try simp only [Act.put, List.setIfInBounds_toArray, List.set_cons_zero, List.set_cons_succ])
            (refine takeH 10 73 (v := ?_) rfl rfl (by kernel_rfl) (by kernel_rfl) (by kernel_rfl) (fun _ _ _ h => h) hHeld rfl ?_ ?_; rotate_left; (focus (intro w' hSw; go_simp; try with_reducible rfl)))
            (try simp only [Act.put, List.setIfInBounds_toArray, List.set_cons_zero, List.set_cons_succ])
            refine wpAnyH_ready (rs := [11, 12]) (by kernel_rfl) (by simp) ?_
            refine AllReadyH.cons rfl (fun K hK => ?_) (AllReadyH.cons rfl (fun K hK => ?_) AllReadyH.nil)
            · go_simp
              generalize hA : World.alloc _ _ = vP
              have hbA : Below vC.heap.size vC vP := by rw [← hA]; exact below_alloc (Below.refl _ _) _
              have HBP := Aside0.mk (Below.then_ HBC.out hbA (Nat.le_refl _))
              have E13 : Aside0 (Blk vP vC.heap.size [.int .i64 0, .int .i64 0, .int .i64 0, .bool false, .slice none 0 0, .slice none 0 0, .int .i64 0]) := ⟨by rw [← hA]; exact Blk.new_ _ _ _ (by simp) rfl⟩
              have l13 : vC.heap.size < vP.heap.size := E13.out.lt
              have HRT := Aside0.mk (And.intro (HRT.out.1.below hbA) (Foot.step HRT.out.2 (fun i _ hlt => hbA.block i hlt)))
              clear hA hbA
              refine hK.out _ _ HBP.out (fun hHeld => ?_)
              clear hK K
              (try simp only [Act.put, List.setIfInBounds_toArray, List.set_cons_zero, List.set_cons_succ])
              refine wpAnyH_ready (rs := [12]) (by kernel_rfl) (by simp) ?_
              refine AllReadyH.cons rfl (fun K hK => ?_) AllReadyH.nil
              · go_simp
                generalize hA : World.alloc _ _ = vQ
                have hbA : Below vP.heap.size vP vQ := by rw [← hA]; exact below_alloc (Below.refl _ _) _
                have HBQ := Aside0.mk (Below.then_ HBP.out hbA (Nat.le_refl _))
                have E14 : Aside0 (Blk vQ vP.heap.size [.string ByteArray.empty, .int .i64 0, .int .i64 0, .int .i64 0, .bool false, .slice none 0 0, .bool false, .int .i64 0]) := ⟨by rw [← hA]; exact Blk.new_ _ _ _ (by simp) rfl⟩
                have l14 : vP.heap.size < vQ.heap.size := E14.out.lt
                have E13 := Aside0.mk (E13.out.on hbA)
                have HRT := Aside0.mk (And.intro (HRT.out.1.below hbA) (Foot.step HRT.out.2 (fun i _ hlt => hbA.block i hlt)))
                clear hA hbA
                refine hK.out _ _ HBQ.out (fun hHeld => ?_)
                clear hK K
                (try simp only [Act.put, List.setIfInBounds_toArray, List.set_cons_zero, List.set_cons_succ])
                obtain ⟨⟨r0, r1, r2, r3, r4, r5, r6⟩, g0, g1, g2, g3, g4, g5, g6⟩ := seven E13.out
                obtain ⟨⟨q0, q1, q2, q3, q4, q5, q6, q7⟩, p0, p1, p2, p3, p4, p5, p6, p7⟩ := E14.out.eight
                have sd : W10.heap.size ≤ vd.heap.size := HBd.out.size
                have h13 : W10.heap.size ≤ vC.heap.size := by omega
                have h14 : W10.heap.size ≤ vP.heap.size := by omega
                have hne : vC.heap.size ≠ vP.heap.size := by omega
                refine wpAnyH_ready (rs := [13]) (by kernel_rfl) (by simp) ?_
                refine AllReadyH.cons rfl (fun K hK => ?_) AllReadyH.nil
                go_simp
                refine hK.out _ _ ((((((((HBQ.out.setCell (p := ⟨vC.heap.size, 0, none⟩) h13 _).setCell (p := ⟨vC.heap.size, 1, none⟩) h13 _).setCell (p := ⟨vC.heap.size, 2, none⟩) h13 _).setCell (p := ⟨vC.heap.size, 3, none⟩) h13 _).setCell (p := ⟨vC.heap.size, 4, none⟩) h13 _).setCell (p := ⟨vC.heap.size, 5, none⟩) h13 _).setCell (p := ⟨vC.heap.size, 6, none⟩) h13 _)) (fun hHeld => ?_)
                clear hK K
                (try simp only [Act.put, List.setIfInBounds_toArray, List.set_cons_zero, List.set_cons_succ])
                refine wpAnyH_ready (rs := [14]) (by kernel_rfl) (by simp) ?_
                refine AllReadyH.cons rfl (fun K hK => ?_) AllReadyH.nil
                go_simp
                refine hK.out _ _ ((((((((((((((((HBQ.out.setCell (p := ⟨vC.heap.size, 0, none⟩) h13 _).setCell (p := ⟨vC.heap.size, 1, none⟩) h13 _).setCell (p := ⟨vC.heap.size, 2, none⟩) h13 _).setCell (p := ⟨vC.heap.size, 3, none⟩) h13 _).setCell (p := ⟨vC.heap.size, 4, none⟩) h13 _).setCell (p := ⟨vC.heap.size, 5, none⟩) h13 _).setCell (p := ⟨vC.heap.size, 6, none⟩) h13 _).setCell (p := ⟨vP.heap.size, 0, none⟩) h14 _).setCell (p := ⟨vP.heap.size, 1, none⟩) h14 _).setCell (p := ⟨vP.heap.size, 2, none⟩) h14 _).setCell (p := ⟨vP.heap.size, 3, none⟩) h14 _).setCell (p := ⟨vP.heap.size, 4, none⟩) h14 _).setCell (p := ⟨vP.heap.size, 5, none⟩) h14 _).setCell (p := ⟨vP.heap.size, 6, none⟩) h14 _).setCell (p := ⟨vP.heap.size, 7, none⟩) h14 _)) (fun hHeld => ?_)
                clear hK K
                (try simp only [Act.put, List.setIfInBounds_toArray, List.set_cons_zero, List.set_cons_succ])
                (refine takeH 15 15 (v := ?_) rfl rfl (by kernel_rfl) (by kernel_rfl) (by kernel_rfl) (fun _ _ _ h => h) hHeld rfl ?_ ?_; rotate_left; (focus (intro w' hSw; go_simp; try with_reducible rfl)))
                (try simp only [Act.put, List.setIfInBounds_toArray, List.set_cons_zero, List.set_cons_succ])
                (refine takeH 16 16 (v := ?_) rfl rfl (by kernel_rfl) (by kernel_rfl) (by kernel_rfl) (fun _ _ _ h => h) hHeld rfl ?_ ?_; rotate_left; (focus (intro w' hSw; go_simp; try with_reducible rfl)))
                (try simp only [Act.put, List.setIfInBounds_toArray, List.set_cons_zero, List.set_cons_succ])
                refine wpAnyH_done (by kernel_rfl) ?_ _
                refine NoPanic.normal ?_
                go_wp2
                go_meet
                generalize hW9 : World.setCell _ _ _ = W9
                have h9 := ms_end (W9 := W9) (p := p) (mb := mb) (tb := tb) (ub := ub) HBQ.out E13.out E14.out hne h13 h14 HRT.out.1 HRT.out.2 (fun i hi => by obtain ⟨hi, hl⟩ := hi; rcases hi with hi | hi; exact ⟨by have := hi.2; omega, by have := hi.2; omega, hi.1⟩; exact ⟨by omega, by omega, HNB.out i (by omega)⟩) hW9
                exact ⟨_, _, A8, c8, B8, d8, A5, c5, rfl, rfl, rfl, rfl, ⟨h9⟩⟩
            · go_simp
              generalize hA : World.alloc _ _ = vQ
              have hbA : Below vC.heap.size vC vQ := by rw [← hA]; exact below_alloc (Below.refl _ _) _
              have HBQ := Aside0.mk (Below.then_ HBC.out hbA (Nat.le_refl _))
              have E14 : Aside0 (Blk vQ vC.heap.size [.string ByteArray.empty, .int .i64 0, .int .i64 0, .int .i64 0, .bool false, .slice none 0 0, .bool false, .int .i64 0]) := ⟨by rw [← hA]; exact Blk.new_ _ _ _ (by simp) rfl⟩
              have l14 : vC.heap.size < vQ.heap.size := E14.out.lt
              have HRT := Aside0.mk (And.intro (HRT.out.1.below hbA) (Foot.step HRT.out.2 (fun i _ hlt => hbA.block i hlt)))
              clear hA hbA
              refine hK.out _ _ HBQ.out (fun hHeld => ?_)
              clear hK K
              (try simp only [Act.put, List.setIfInBounds_toArray, List.set_cons_zero, List.set_cons_succ])
              refine wpAnyH_ready (rs := [11]) (by kernel_rfl) (by simp) ?_
              refine AllReadyH.cons rfl (fun K hK => ?_) AllReadyH.nil
              · go_simp
                generalize hA : World.alloc _ _ = vP
                have hbA : Below vQ.heap.size vQ vP := by rw [← hA]; exact below_alloc (Below.refl _ _) _
                have HBP := Aside0.mk (Below.then_ HBQ.out hbA (Nat.le_refl _))
                have E13 : Aside0 (Blk vP vQ.heap.size [.int .i64 0, .int .i64 0, .int .i64 0, .bool false, .slice none 0 0, .slice none 0 0, .int .i64 0]) := ⟨by rw [← hA]; exact Blk.new_ _ _ _ (by simp) rfl⟩
                have l13 : vQ.heap.size < vP.heap.size := E13.out.lt
                have E14 := Aside0.mk (E14.out.on hbA)
                have HRT := Aside0.mk (And.intro (HRT.out.1.below hbA) (Foot.step HRT.out.2 (fun i _ hlt => hbA.block i hlt)))
                clear hA hbA
                refine hK.out _ _ HBP.out (fun hHeld => ?_)
                clear hK K
                (try simp only [Act.put, List.setIfInBounds_toArray, List.set_cons_zero, List.set_cons_succ])
                obtain ⟨⟨r0, r1, r2, r3, r4, r5, r6⟩, g0, g1, g2, g3, g4, g5, g6⟩ := seven E13.out
                obtain ⟨⟨q0, q1, q2, q3, q4, q5, q6, q7⟩, p0, p1, p2, p3, p4, p5, p6, p7⟩ := E14.out.eight
                have sd : W10.heap.size ≤ vd.heap.size := HBd.out.size
                have h13 : W10.heap.size ≤ vQ.heap.size := by omega
                have h14 : W10.heap.size ≤ vC.heap.size := by omega
                have hne : vQ.heap.size ≠ vC.heap.size := by omega
                refine wpAnyH_ready (rs := [13]) (by kernel_rfl) (by simp) ?_
                refine AllReadyH.cons rfl (fun K hK => ?_) AllReadyH.nil
                go_simp
                refine hK.out _ _ ((((((((HBP.out.setCell (p := ⟨vQ.heap.size, 0, none⟩) h13 _).setCell (p := ⟨vQ.heap.size, 1, none⟩) h13 _).setCell (p := ⟨vQ.heap.size, 2, none⟩) h13 _).setCell (p := ⟨vQ.heap.size, 3, none⟩) h13 _).setCell (p := ⟨vQ.heap.size, 4, none⟩) h13 _).setCell (p := ⟨vQ.heap.size, 5, none⟩) h13 _).setCell (p := ⟨vQ.heap.size, 6, none⟩) h13 _)) (fun hHeld => ?_)
                clear hK K
                (try simp only [Act.put, List.setIfInBounds_toArray, List.set_cons_zero, List.set_cons_succ])
                refine wpAnyH_ready (rs := [14]) (by kernel_rfl) (by simp) ?_
                refine AllReadyH.cons rfl (fun K hK => ?_) AllReadyH.nil
                go_simp
                refine hK.out _ _ ((((((((((((((((HBP.out.setCell (p := ⟨vQ.heap.size, 0, none⟩) h13 _).setCell (p := ⟨vQ.heap.size, 1, none⟩) h13 _).setCell (p := ⟨vQ.heap.size, 2, none⟩) h13 _).setCell (p := ⟨vQ.heap.size, 3, none⟩) h13 _).setCell (p := ⟨vQ.heap.size, 4, none⟩) h13 _).setCell (p := ⟨vQ.heap.size, 5, none⟩) h13 _).setCell (p := ⟨vQ.heap.size, 6, none⟩) h13 _).setCell (p := ⟨vC.heap.size, 0, none⟩) h14 _).setCell (p := ⟨vC.heap.size, 1, none⟩) h14 _).setCell (p := ⟨vC.heap.size, 2, none⟩) h14 _).setCell (p := ⟨vC.heap.size, 3, none⟩) h14 _).setCell (p := ⟨vC.heap.size, 4, none⟩) h14 _).setCell (p := ⟨vC.heap.size, 5, none⟩) h14 _).setCell (p := ⟨vC.heap.size, 6, none⟩) h14 _).setCell (p := ⟨vC.heap.size, 7, none⟩) h14 _)) (fun hHeld => ?_)
                clear hK K
                (try simp only [Act.put, List.setIfInBounds_toArray, List.set_cons_zero, List.set_cons_succ])
                (refine takeH 15 15 (v := ?_) rfl rfl (by kernel_rfl) (by kernel_rfl) (by kernel_rfl) (fun _ _ _ h => h) hHeld rfl ?_ ?_; rotate_left; (focus (intro w' hSw; go_simp; try with_reducible rfl)))
                (try simp only [Act.put, List.setIfInBounds_toArray, List.set_cons_zero, List.set_cons_succ])
                (refine takeH 16 16 (v := ?_) rfl rfl (by kernel_rfl) (by kernel_rfl) (by kernel_rfl) (fun _ _ _ h => h) hHeld rfl ?_ ?_; rotate_left; (focus (intro w' hSw; go_simp; try with_reducible rfl)))
                (try simp only [Act.put, List.setIfInBounds_toArray, List.set_cons_zero, List.set_cons_succ])
                refine wpAnyH_done (by kernel_rfl) ?_ _
                refine NoPanic.normal ?_
                go_wp2
                go_meet
                generalize hW9 : World.setCell _ _ _ = W9
                have h9 := ms_end (W9 := W9) (p := p) (mb := mb) (tb := tb) (ub := ub) HBP.out E13.out E14.out hne h13 h14 HRT.out.1 HRT.out.2 (fun i hi => by obtain ⟨hi, hl⟩ := hi; rcases hi with hi | hi; exact ⟨by have := hi.2; omega, by have := hi.2; omega, hi.1⟩; exact ⟨by omega, by omega, HNB.out i (by omega)⟩) hW9
                exact ⟨_, _, A8, c8, B8, d8, A5, c5, rfl, rfl, rfl, rfl, ⟨h9⟩⟩
          · go_simp
            generalize hA : World.alloc _ _ = vP
            have hbA : Below vd.heap.size vd vP := by rw [← hA]; exact below_alloc (Below.refl _ _) _
            have HBP := Aside0.mk (Below.then_ HBd.out hbA (Nat.le_refl _))
            have E13 : Aside0 (Blk vP vd.heap.size [.int .i64 0, .int .i64 0, .int .i64 0, .bool false, .slice none 0 0, .slice none 0 0, .int .i64 0]) := ⟨by rw [← hA]; exact Blk.new_ _ _ _ (by simp) rfl⟩
            have l13 : vd.heap.size < vP.heap.size := E13.out.lt
            clear hA hbA
            refine hK.out _ _ HBP.out (fun hHeld => ?_)
            clear hK K
            (try simp only [Act.put, List.setIfInBounds_toArray, List.set_cons_zero, List.set_cons_succ])
            refine wpAnyH_ready (rs := [5, 12]) (by kernel_rfl) (by simp) ?_
            refine AllReadyH.cons rfl (fun K hK => ?_) (AllReadyH.cons rfl (fun K hK => ?_) AllReadyH.nil)
            · go_simp
              refine (HSW.out vP HBP.out).mono ?_
              rintro e vC ⟨A8, c8, B8, d8, A5, c5, rfl, hR, hR2, hb⟩
              have HBC := Aside0.mk (Below.then_ HBP.out hb (Nat.le_refl _))
              have HRT := Aside0.mk (And.intro hR.bound (Foot.bound hR2))
              have sC : vP.heap.size ≤ vC.heap.size := hb.size
              have E13 := Aside0.mk (E13.out.on hb)
              clear hR hR2 hb
              refine hK.out _ _ HBC.out (fun hHeld => ?_)
              clear hK K
              (try simp only [Act.put, List.setIfInBounds_toArray, List.set_cons_zero, List.set_cons_succ])
              (refine takeH 6 63 (v := ?_) rfl rfl (by kernel_rfl) (by kernel_rfl) (by kernel_rfl) (fun _ _ _ h => h) hHeld rfl ?_ ?_; rotate_left; (focus (intro w' hSw; go_simp; try with_reducible rfl)))
              (try simp only [Act.put, List.setIfInBounds_toArray, List.set_cons_zero, List.set_cons_succ])
              (refine takeH 7 70 (v := ?_) rfl rfl (by kernel_rfl) (by kernel_rfl) (by kernel_rfl) (fun _ _ _ h => h) hHeld rfl ?_ ?_; rotate_left; (focus (intro w' hSw; go_simp; try with_reducible rfl)))
              (try simp only [Act.put, List.setIfInBounds_toArray, List.set_cons_zero, List.set_cons_succ])
              (refine takeH 8 71 (v := ?_) rfl rfl (by kernel_rfl) (by kernel_rfl) (by kernel_rfl) (fun _ _ _ h => h) hHeld rfl ?_ ?_; rotate_left; (focus (intro w' hSw; go_simp; try with_reducible rfl)))
              (try simp only [Act.put, List.setIfInBounds_toArray, List.set_cons_zero, List.set_cons_succ])
              (refine takeH 9 72 (v := ?_) rfl rfl (by kernel_rfl) (by kernel_rfl) (by kernel_rfl) (fun _ _ _ h => h) hHeld rfl ?_ ?_; rotate_left; (focus (intro w' hSw; go_simp; try with_reducible rfl)))
              (try simp only [Act.put, List.setIfInBounds_toArray, List.set_cons_zero, List.set_cons_succ])
              (refine takeH 10 73 (v := ?_) rfl rfl (by kernel_rfl) (by kernel_rfl) (by kernel_rfl) (fun _ _ _ h => h) hHeld rfl ?_ ?_; rotate_left; (focus (intro w' hSw; go_simp; try with_reducible rfl)))
              (try simp only [Act.put, List.setIfInBounds_toArray, List.set_cons_zero, List.set_cons_succ])
              refine wpAnyH_ready (rs := [12]) (by kernel_rfl) (by simp) ?_
              refine AllReadyH.cons rfl (fun K hK => ?_) AllReadyH.nil
              · go_simp
                generalize hA : World.alloc _ _ = vQ
                have hbA : Below vC.heap.size vC vQ := by rw [← hA]; exact below_alloc (Below.refl _ _) _
                have HBQ := Aside0.mk (Below.then_ HBC.out hbA (Nat.le_refl _))
                have E14 : Aside0 (Blk vQ vC.heap.size [.string ByteArray.empty, .int .i64 0, .int .i64 0, .int .i64 0, .bool false, .slice none 0 0, .bool false, .int .i64 0]) := ⟨by rw [← hA]; exact Blk.new_ _ _ _ (by simp) rfl⟩
                have l14 : vC.heap.size < vQ.heap.size := E14.out.lt
                have E13 := Aside0.mk (E13.out.on hbA)
                have HRT := Aside0.mk (And.intro (HRT.out.1.below hbA) (Foot.step HRT.out.2 (fun i _ hlt => hbA.block i hlt)))
                clear hA hbA
                refine hK.out _ _ HBQ.out (fun hHeld => ?_)
                clear hK K
                (try simp only [Act.put, List.setIfInBounds_toArray, List.set_cons_zero, List.set_cons_succ])
                obtain ⟨⟨r0, r1, r2, r3, r4, r5, r6⟩, g0, g1, g2, g3, g4, g5, g6⟩ := seven E13.out
                obtain ⟨⟨q0, q1, q2, q3, q4, q5, q6, q7⟩, p0, p1, p2, p3, p4, p5, p6, p7⟩ := E14.out.eight
                have sd : W10.heap.size ≤ vd.heap.size := HBd.out.size
                have h13 : W10.heap.size ≤ vd.heap.size := by omega
                have h14 : W10.heap.size ≤ vC.heap.size := by omega
                have hne : vd.heap.size ≠ vC.heap.size := by omega
                refine wpAnyH_ready (rs := [13]) (by kernel_rfl) (by simp) ?_
                refine AllReadyH.cons rfl (fun K hK => ?_) AllReadyH.nil
                go_simp
                refine hK.out _ _ ((((((((HBQ.out.setCell (p := ⟨vd.heap.size, 0, none⟩) h13 _).setCell (p := ⟨vd.heap.size, 1, none⟩) h13 _).setCell (p := ⟨vd.heap.size, 2, none⟩) h13 _).setCell (p := ⟨vd.heap.size, 3, none⟩) h13 _).setCell (p := ⟨vd.heap.size, 4, none⟩) h13 _).setCell (p := ⟨vd.heap.size, 5, none⟩) h13 _).setCell (p := ⟨vd.heap.size, 6, none⟩) h13 _)) (fun hHeld => ?_)
                clear hK K
                (try simp only [Act.put, List.setIfInBounds_toArray, List.set_cons_zero, List.set_cons_succ])
                refine wpAnyH_ready (rs := [14]) (by kernel_rfl) (by simp) ?_
                refine AllReadyH.cons rfl (fun K hK => ?_) AllReadyH.nil
                go_simp
                refine hK.out _ _ ((((((((((((((((HBQ.out.setCell (p := ⟨vd.heap.size, 0, none⟩) h13 _).setCell (p := ⟨vd.heap.size, 1, none⟩) h13 _).setCell (p := ⟨vd.heap.size, 2, none⟩) h13 _).setCell (p := ⟨vd.heap.size, 3, none⟩) h13 _).setCell (p := ⟨vd.heap.size, 4, none⟩) h13 _).setCell (p := ⟨vd.heap.size, 5, none⟩) h13 _).setCell (p := ⟨vd.heap.size, 6, none⟩) h13 _).setCell (p := ⟨vC.heap.size, 0, none⟩) h14 _).setCell (p := ⟨vC.heap.size, 1, none⟩) h14 _).setCell (p := ⟨vC.heap.size, 2, none⟩) h14 _).setCell (p := ⟨vC.heap.size, 3, none⟩) h14 _).setCell (p := ⟨vC.heap.size, 4, none⟩) h14 _).setCell (p := ⟨vC.heap.size, 5, none⟩) h14 _).setCell (p := ⟨vC.heap.size, 6, none⟩) h14 _).setCell (p := ⟨vC.heap.size, 7, none⟩) h14 _)) (fun hHeld => ?_)
                clear hK K
                (try simp only [Act.put, List.setIfInBounds_toArray, List.set_cons_zero, List.set_cons_succ])
                (refine takeH 15 15 (v := ?_) rfl rfl (by kernel_rfl) (by kernel_rfl) (by kernel_rfl) (fun _ _ _ h => h) hHeld rfl ?_ ?_; rotate_left; (focus (intro w' hSw; go_simp; try with_reducible rfl)))
                (try simp only [Act.put, List.setIfInBounds_toArray, List.set_cons_zero, List.set_cons_succ])
                (refine takeH 16 16 (v := ?_) rfl rfl (by kernel_rfl) (by kernel_rfl) (by kernel_rfl) (fun _ _ _ h => h) hHeld rfl ?_ ?_; rotate_left; (focus (intro w' hSw; go_simp; try with_reducible rfl)))
                (try simp only [Act.put, List.setIfInBounds_toArray, List.set_cons_zero, List.set_cons_succ])
                refine wpAnyH_done (by kernel_rfl) ?_ _
                refine NoPanic.normal ?_
                go_wp2
                go_meet
                generalize hW9 : World.setCell _ _ _ = W9
                have h9 := ms_end (W9 := W9) (p := p) (mb := mb) (tb := tb) (ub := ub) HBQ.out E13.out E14.out hne h13 h14 HRT.out.1 HRT.out.2 (fun i hi => by obtain ⟨hi, hl⟩ := hi; rcases hi with hi | hi; exact ⟨by have := hi.2; omega, by have := hi.2; omega, hi.1⟩; exact ⟨by omega, by omega, HNB.out i (by omega)⟩) hW9
                exact ⟨_, _, A8, c8, B8, d8, A5, c5, rfl, rfl, rfl, rfl, ⟨h9⟩⟩
            · go_simp
              generalize hA : World.alloc _ _ = vQ
              have hbA : Below vP.heap.size vP vQ := by rw [← hA]; exact below_alloc (Below.refl _ _) _
              have HBQ := Aside0.mk (Below.then_ HBP.out hbA (Nat.le_refl _))
              have E14 : Aside0 (Blk vQ vP.heap.size [.string ByteArray.empty, .int .i64 0, .int .i64 0, .int .i64 0, .bool false, .slice none 0 0, .bool false, .int .i64 0]) := ⟨by rw [← hA]; exact Blk.new_ _ _ _ (by simp) rfl⟩
              have l14 : vP.heap.size < vQ.heap.size := E14.out.lt
              have E13 := Aside0.mk (E13.out.on hbA)
              clear hA hbA
              refine hK.out _ _ HBQ.out (fun hHeld => ?_)
              clear hK K
              (try simp only [Act.put, List.setIfInBounds_toArray, List.set_cons_zero, List.set_cons_succ])
              refine wpAnyH_ready (rs := [5]) (by kernel_rfl) (by simp) ?_
              refine AllReadyH.cons rfl (fun K hK => ?_) AllReadyH.nil
              · go_simp
                refine (HSW.out vQ HBQ.out).mono ?_
                rintro e vC ⟨A8, c8, B8, d8, A5, c5, rfl, hR, hR2, hb⟩
                have HBC := Aside0.mk (Below.then_ HBQ.out hb (Nat.le_refl _))
                have HRT := Aside0.mk (And.intro hR.bound (Foot.bound hR2))
                have sC : vQ.heap.size ≤ vC.heap.size := hb.size
                have E13 := Aside0.mk (E13.out.on hb)
                have E14 := Aside0.mk (E14.out.on hb)
                clear hR hR2 hb
                refine hK.out _ _ HBC.out (fun hHeld => ?_)
                clear hK K
                (try simp only [Act.put, List.setIfInBounds_toArray, List.set_cons_zero, List.set_cons_succ])
                (refine takeH 6 63 (v := ?_) rfl rfl (by kernel_rfl) (by kernel_rfl) (by kernel_rfl) (fun _ _ _ h => h) hHeld rfl ?_ ?_; rotate_left; (focus (intro w' hSw; go_simp; try with_reducible rfl)))
                (try simp only [Act.put, List.setIfInBounds_toArray, List.set_cons_zero, List.set_cons_succ])
                (refine takeH 7 70 (v := ?_) rfl rfl (by kernel_rfl) (by kernel_rfl) (by kernel_rfl) (fun _ _ _ h => h) hHeld rfl ?_ ?_; rotate_left; (focus (intro w' hSw; go_simp; try with_reducible rfl)))
                (try simp only [Act.put, List.setIfInBounds_toArray, List.set_cons_zero, List.set_cons_succ])
                (refine takeH 8 71 (v := ?_) rfl rfl (by kernel_rfl) (by kernel_rfl) (by kernel_rfl) (fun _ _ _ h => h) hHeld rfl ?_ ?_; rotate_left; (focus (intro w' hSw; go_simp; try with_reducible rfl)))
                (try simp only [Act.put, List.setIfInBounds_toArray, List.set_cons_zero, List.set_cons_succ])
                (refine takeH 9 72 (v := ?_) rfl rfl (by kernel_rfl) (by kernel_rfl) (by kernel_rfl) (fun _ _ _ h => h) hHeld rfl ?_ ?_; rotate_left; (focus (intro w' hSw; go_simp; try with_reducible rfl)))
                (try simp only [Act.put, List.setIfInBounds_toArray, List.set_cons_zero, List.set_cons_succ])
                (refine takeH 10 73 (v := ?_) rfl rfl (by kernel_rfl) (by kernel_rfl) (by kernel_rfl) (fun _ _ _ h => h) hHeld rfl ?_ ?_; rotate_left; (focus (intro w' hSw; go_simp; try with_reducible rfl)))
                (try simp only [Act.put, List.setIfInBounds_toArray, List.set_cons_zero, List.set_cons_succ])
                obtain ⟨⟨r0, r1, r2, r3, r4, r5, r6⟩, g0, g1, g2, g3, g4, g5, g6⟩ := seven E13.out
                obtain ⟨⟨q0, q1, q2, q3, q4, q5, q6, q7⟩, p0, p1, p2, p3, p4, p5, p6, p7⟩ := E14.out.eight
                have sd : W10.heap.size ≤ vd.heap.size := HBd.out.size
                have h13 : W10.heap.size ≤ vd.heap.size := by omega
                have h14 : W10.heap.size ≤ vP.heap.size := by omega
                have hne : vd.heap.size ≠ vP.heap.size := by omega
                refine wpAnyH_ready (rs := [13]) (by kernel_rfl) (by simp) ?_
                refine AllReadyH.cons rfl (fun K hK => ?_) AllReadyH.nil
                go_simp
                refine hK.out _ _ ((((((((HBC.out.setCell (p := ⟨vd.heap.size, 0, none⟩) h13 _).setCell (p := ⟨vd.heap.size, 1, none⟩) h13 _).setCell (p := ⟨vd.heap.size, 2, none⟩) h13 _).setCell (p := ⟨vd.heap.size, 3, none⟩) h13 _).setCell (p := ⟨vd.heap.size, 4, none⟩) h13 _).setCell (p := ⟨vd.heap.size, 5, none⟩) h13 _).setCell (p := ⟨vd.heap.size, 6, none⟩) h13 _)) (fun hHeld => ?_)
                clear hK K
                (try simp only [Act.put, List.setIfInBounds_toArray, List.set_cons_zero, List.set_cons_succ])
                refine wpAnyH_ready (rs := [14]) (by kernel_rfl) (by simp) ?_
                refine AllReadyH.cons rfl (fun K hK => ?_) AllReadyH.nil
                go_simp
                refine hK.out _ _ ((((((((((((((((HBC.out.setCell (p := ⟨vd.heap.size, 0, none⟩) h13 _).setCell (p := ⟨vd.heap.size, 1, none⟩) h13 _).setCell (p := ⟨vd.heap.size, 2, none⟩) h13 _).setCell (p := ⟨vd.heap.size, 3, none⟩) h13 _).setCell (p := ⟨vd.heap.size, 4, none⟩) h13 _).setCell (p := ⟨vd.heap.size, 5, none⟩) h13 _).setCell (p := ⟨vd.heap.size, 6, none⟩) h13 _).setCell (p := ⟨vP.heap.size, 0, none⟩) h14 _).setCell (p := ⟨vP.heap.size, 1, none⟩) h14 _).setCell (p := ⟨vP.heap.size, 2, none⟩) h14 _).setCell (p := ⟨vP.heap.size, 3, none⟩) h14 _).setCell (p := ⟨vP.heap.size, 4, none⟩) h14 _).setCell (p := ⟨vP.heap.size, 5, none⟩) h14 _).setCell (p := ⟨vP.heap.size, 6, none⟩) h14 _).setCell (p := ⟨vP.heap.size, 7, none⟩) h14 _)) (fun hHeld => ?_)
                clear hK K
                (try simp only [Act.put, List.setIfInBounds_toArray, List.set_cons_zero, List.set_cons_succ])
                (refine takeH 15 15 (v := ?_) rfl rfl (by kernel_rfl) (by kernel_rfl) (by kernel_rfl) (fun _ _ _ h => h) hHeld rfl ?_ ?_; rotate_left; (focus (intro w' hSw; go_simp; try with_reducible rfl)))
                (try simp only [Act.put, List.setIfInBounds_toArray, List.set_cons_zero, List.set_cons_succ])
                (refine takeH 16 16 (v := ?_) rfl rfl (by kernel_rfl) (by kernel_rfl) (by kernel_rfl) (fun _ _ _ h => h) hHeld rfl ?_ ?_; rotate_left; (focus (intro w' hSw; go_simp; try with_reducible rfl)))
                (try simp only [Act.put, List.setIfInBounds_toArray, List.set_cons_zero, List.set_cons_succ])
                refine wpAnyH_done (by kernel_rfl) ?_ _
                refine NoPanic.normal ?_
                go_wp2
                go_meet
                generalize hW9 : World.setCell _ _ _ = W9
                have h9 := ms_end (W9 := W9) (p := p) (mb := mb) (tb := tb) (ub := ub) HBC.out E13.out E14.out hne h13 h14 HRT.out.1 HRT.out.2 (fun i hi => by obtain ⟨hi, hl⟩ := hi; rcases hi with hi | hi; exact ⟨by have := hi.2; omega, by have := hi.2; omega, hi.1⟩; exact ⟨by omega, by omega, HNB.out i (by omega)⟩) hW9
                exact ⟨_, _, A8, c8, B8, d8, A5, c5, rfl, rfl, rfl, rfl, ⟨h9⟩⟩
          · go_simp
            generalize hA : World.alloc _ _ = vQ
            have hbA : Below vd.heap.size vd vQ := by rw [← hA]; exact below_alloc (Below.refl _ _) _
            have HBQ := Aside0.mk (Below.then_ HBd.out hbA (Nat.le_refl _))
            have E14 : Aside0 (Blk vQ vd.heap.size [.string ByteArray.empty, .int .i64 0, .int .i64 0, .int .i64 0, .bool false, .slice none 0 0, .bool false, .int .i64 0]) := ⟨by rw [← hA]; exact Blk.new_ _ _ _ (by simp) rfl⟩
            have l14 : vd.heap.size < vQ.heap.size := E14.out.lt
            clear hA hbA
            refine hK.out _ _ HBQ.out (fun hHeld => ?_)
            clear hK K
            (try simp only [Act.put, List.setIfInBounds_toArray, List.set_cons_zero, List.set_cons_succ])
            refine wpAnyH_ready (rs := [5, 11]) (by kernel_rfl) (by simp) ?_
            refine AllReadyH.cons rfl (fun K hK => ?_) (AllReadyH.cons rfl (fun K hK => ?_) AllReadyH.nil)
            · go_simp
              refine (HSW.out vQ HBQ.out).mono ?_
              rintro e vC ⟨A8, c8, B8, d8, A5, c5, rfl, hR, hR2, hb⟩
              have HBC := Aside0.mk (Below.then_ HBQ.out hb (Nat.le_refl _))
              have HRT := Aside0.mk (And.intro hR.bound (Foot.bound hR2))
              have sC : vQ.heap.size ≤ vC.heap.size := hb.size
              have E14 := Aside0.mk (E14.out.on hb)
              clear hR hR2 hb
              refine hK.out _ _ HBC.out (fun hHeld => ?_)
              clear hK K
              (try simp only [Act.put, List.setIfInBounds_toArray, List.set_cons_zero, List.set_cons_succ])
              (refine takeH 6 63 (v := ?_) rfl rfl (by kernel_rfl) (by kernel_rfl) (by kernel_rfl) (fun _ _ _ h => h) hHeld rfl ?_ ?_; rotate_left; (focus (intro w' hSw; go_simp; try with_reducible rfl)))
              (try simp only [Act.put, List.setIfInBounds_toArray, List.set_cons_zero, List.set_cons_succ])
              (refine takeH 7 70 (v := ?_) rfl rfl (by kernel_rfl) (by kernel_rfl) (by kernel_rfl) (fun _ _ _ h => h) hHeld rfl ?_ ?_; rotate_left; (focus (intro w' hSw; go_simp; try with_reducible rfl)))
              (try simp only [Act.put, List.setIfInBounds_toArray, List.set_cons_zero, List.set_cons_succ])
              (refine takeH 8 71 (v := ?_) rfl rfl (by kernel_rfl) (by kernel_rfl) (by kernel_rfl) (fun _ _ _ h => h) hHeld rfl ?_ ?_; rotate_left; (focus (intro w' hSw; go_simp; try with_reducible rfl)))
              (try simp only [Act.put, List.setIfInBounds_toArray, List.set_cons_zero, List.set_cons_succ])
              (refine takeH 9 72 (v := ?_) rfl rfl (by kernel_rfl) (by kernel_rfl) (by kernel_rfl) (fun _ _ _ h => h) hHeld rfl ?_ ?_; rotate_left; (focus (intro w' hSw; go_simp; try with_reducible rfl)))
              (try simp only [Act.put, List.setIfInBounds_toArray, List.set_cons_zero, List.set_cons_succ])
              (refine takeH 10 73 (v := ?_) rfl rfl (by kernel_rfl) (by kernel_rfl) (by kernel_rfl) (fun _ _ _ h => h) hHeld rfl ?_ ?_; rotate_left; (focus (intro w' hSw; go_simp; try with_reducible rfl)))
              (try simp only [Act.put, List.setIfInBounds_toArray, List.set_cons_zero, List.set_cons_succ])
              refine wpAnyH_ready (rs := [11]) (by kernel_rfl) (by simp) ?_
              refine AllReadyH.cons rfl (fun K hK => ?_) AllReadyH.nil
              · go_simp
                generalize hA : World.alloc _ _ = vP
                have hbA : Below vC.heap.size vC vP := by rw [← hA]; exact below_alloc (Below.refl _ _) _
                have HBP := Aside0.mk (Below.then_ HBC.out hbA (Nat.le_refl _))
                have E13 : Aside0 (Blk vP vC.heap.size [.int .i64 0, .int .i64 0, .int .i64 0, .bool false, .slice none 0 0, .slice none 0 0, .int .i64 0]) := ⟨by rw [← hA]; exact Blk.new_ _ _ _ (by simp) rfl⟩
                have l13 : vC.heap.size < vP.heap.size := E13.out.lt
                have E14 := Aside0.mk (E14.out.on hbA)
                have HRT := Aside0.mk (And.intro (HRT.out.1.below hbA) (Foot.step HRT.out.2 (fun i _ hlt => hbA.block i hlt)))
                clear hA hbA
                refine hK.out _ _ HBP.out (fun hHeld => ?_)
                clear hK K
                (try simp only [Act.put, List.setIfInBounds_toArray, List.set_cons_zero, List.set_cons_succ])
                obtain ⟨⟨r0, r1, r2, r3, r4, r5, r6⟩, g0, g1, g2, g3, g4, g5, g6⟩ := seven E13.out
                obtain ⟨⟨q0, q1, q2, q3, q4, q5, q6, q7⟩, p0, p1, p2, p3, p4, p5, p6, p7⟩ := E14.out.eight
                have sd : W10.heap.size ≤ vd.heap.size := HBd.out.size
                have h13 : W10.heap.size ≤ vC.heap.size := by omega
                have h14 : W10.heap.size ≤ vd.heap.size := by omega
                have hne : vC.heap.size ≠ vd.heap.size := by omega
                refine wpAnyH_ready (rs := [13]) (by kernel_rfl) (by simp) ?_
                refine AllReadyH.cons rfl (fun K hK => ?_) AllReadyH.nil
                go_simp
                refine hK.out _ _ ((((((((HBP.out.setCell (p := ⟨vC.heap.size, 0, none⟩) h13 _).setCell (p := ⟨vC.heap.size, 1, none⟩) h13 _).setCell (p := ⟨vC.heap.size, 2, none⟩) h13 _).setCell (p := ⟨vC.heap.size, 3, none⟩) h13 _).setCell (p := ⟨vC.heap.size, 4, none⟩) h13 _).setCell (p := ⟨vC.heap.size, 5, none⟩) h13 _).setCell (p := ⟨vC.heap.size, 6, none⟩) h13 _)) (fun hHeld => ?_)
                clear hK K
                (try simp only [Act.put, List.setIfInBounds_toArray, List.set_cons_zero, List.set_cons_succ])
                refine wpAnyH_ready (rs := [14]) (by kernel_rfl) (by simp) ?_
                refine AllReadyH.cons rfl (fun K hK => ?_) AllReadyH.nil
                go_simp
                refine hK.out _ _ ((((((((((((((((HBP.out.setCell (p := ⟨vC.heap.size, 0, none⟩) h13 _).setCell (p := ⟨vC.heap.size, 1, none⟩) h13 _).setCell (p := ⟨vC.heap.size, 2, none⟩) h13 _).setCell (p := ⟨vC.heap.size, 3, none⟩) h13 _).setCell (p := ⟨vC.heap.size, 4, none⟩) h13 _).setCell (p := ⟨vC.heap.size, 5, none⟩) h13 _).setCell (p := ⟨vC.heap.size, 6, none⟩) h13 _).setCell (p := ⟨vd.heap.size, 0, none⟩) h14 _).setCell (p := ⟨vd.heap.size, 1, none⟩) h14 _).setCell (p := ⟨vd.heap.size, 2, none⟩) h14 _).setCell (p := ⟨vd.heap.size, 3, none⟩) h14 _).setCell (p := ⟨vd.heap.size, 4, none⟩) h14 _).setCell (p := ⟨vd.heap.size, 5, none⟩) h14 _).setCell (p := ⟨vd.heap.size, 6, none⟩) h14 _).setCell (p := ⟨vd.heap.size, 7, none⟩) h14 _)) (fun hHeld => ?_)
                clear hK K
                (try simp only [Act.put, List.setIfInBounds_toArray, List.set_cons_zero, List.set_cons_succ])
                (refine takeH 15 15 (v := ?_) rfl rfl (by kernel_rfl) (by kernel_rfl) (by kernel_rfl) (fun _ _ _ h => h) hHeld rfl ?_ ?_; rotate_left; (focus (intro w' hSw; go_simp; try with_reducible rfl)))
                (try simp only [Act.put, List.setIfInBounds_toArray, List.set_cons_zero, List.set_cons_succ])
                (refine takeH 16 16 (v := ?_) rfl rfl (by kernel_rfl) (by kernel_rfl) (by kernel_rfl) (fun _ _ _ h => h) hHeld rfl ?_ ?_; rotate_left; (focus (intro w' hSw; go_simp; try with_reducible rfl)))
                (try simp only [Act.put, List.setIfInBounds_toArray, List.set_cons_zero, List.set_cons_succ])
                refine wpAnyH_done (by kernel_rfl) ?_ _
                refine NoPanic.normal ?_
                go_wp2
                go_meet
                generalize hW9 : World.setCell _ _ _ = W9
                have h9 := ms_end (W9 := W9) (p := p) (mb := mb) (tb := tb) (ub := ub) HBP.out E13.out E14.out hne h13 h14 HRT.out.1 HRT.out.2 (fun i hi => by obtain ⟨hi, hl⟩ := hi; rcases hi with hi | hi; exact ⟨by have := hi.2; omega, by have := hi.2; omega, hi.1⟩; exact ⟨by omega, by omega, HNB.out i (by omega)⟩) hW9
                exact ⟨_, _, A8, c8, B8, d8, A5, c5, rfl, rfl, rfl, rfl, ⟨h9⟩⟩
            · go_simp
              generalize hA : World.alloc _ _ = vP
              have hbA : Below vQ.heap.size vQ vP := by rw [← hA]; exact below_alloc (Below.refl _ _) _
              have HBP := Aside0.mk (Below.then_ HBQ.out hbA (Nat.le_refl _))
              have E13 : Aside0 (Blk vP vQ.heap.size [.int .i64 0, .int .i64 0, .int .i64 0, .bool false, .slice none 0 0, .slice none 0 0, .int .i64 0]) := ⟨by rw [← hA]; exact Blk.new_ _ _ _ (by simp) rfl⟩
              have l13 : vQ.heap.size < vP.heap.size := E13.out.lt
              have E14 := Aside0.mk (E14.out.on hbA)
              clear hA hbA
              refine hK.out _ _ HBP.out (fun hHeld => ?_)
              clear hK K
              (try simp only [Act.put, List.setIfInBounds_toArray, List.set_cons_zero, List.set_cons_succ])
              refine wpAnyH_ready (rs := [5]) (by kernel_rfl) (by simp) ?_
              refine AllReadyH.cons rfl (fun K hK => ?_) AllReadyH.nil
              · go_simp
                refine (HSW.out vP HBP.out).mono ?_
                rintro e vC ⟨A8, c8, B8, d8, A5, c5, rfl, hR, hR2, hb⟩
                have HBC := Aside0.mk (Below.then_ HBP.out hb (Nat.le_refl _))
                have HRT := Aside0.mk (And.intro hR.bound (Foot.bound hR2))
                have sC : vP.heap.size ≤ vC.heap.size := hb.size
                have E13 := Aside0.mk (E13.out.on hb)
                have E14 := Aside0.mk (E14.out.on hb)
                clear hR hR2 hb
                refine hK.out _ _ HBC.out (fun hHeld => ?_)
                clear hK K
                (try simp only [Act.put, List.setIfInBounds_toArray, List.set_cons_zero, List.set_cons_succ])
                (refine takeH 6 63 (v := ?_) rfl rfl (by kernel_rfl) (by kernel_rfl) (by kernel_rfl) (fun _ _ _ h => h) hHeld rfl ?_ ?_; rotate_left; (focus (intro w' hSw; go_simp; try with_reducible rfl)))
                (try simp only [Act.put, List.setIfInBounds_toArray, List.set_cons_zero, List.set_cons_succ])
                (refine takeH 7 70 (v := ?_) rfl rfl (by kernel_rfl) (by kernel_rfl) (by kernel_rfl) (fun _ _ _ h => h) hHeld rfl ?_ ?_; rotate_left; (focus (intro w' hSw; go_simp; try with_reducible rfl)))
                (try simp only [Act.put, List.setIfInBounds_toArray, List.set_cons_zero, List.set_cons_succ])
                (refine takeH 8 71 (v := ?_) rfl rfl (by kernel_rfl) (by kernel_rfl) (by kernel_rfl) (fun _ _ _ h => h) hHeld rfl ?_ ?_; rotate_left; (focus (intro w' hSw; go_simp; try with_reducible rfl)))
                (try simp only [Act.put, List.setIfInBounds_toArray, List.set_cons_zero, List.set_cons_succ])
                (refine takeH 9 72 (v := ?_) rfl rfl (by kernel_rfl) (by kernel_rfl) (by kernel_rfl) (fun _ _ _ h => h) hHeld rfl ?_ ?_; rotate_left; (focus (intro w' hSw; go_simp; try with_reducible rfl)))
                (try simp only [Act.put, List.setIfInBounds_toArray, List.set_cons_zero, List.set_cons_succ])
                (refine takeH 10 73 (v := ?_) rfl rfl (by kernel_rfl) (by kernel_rfl) (by kernel_rfl) (fun _ _ _ h => h) hHeld rfl ?_ ?_; rotate_left; (focus (intro w' hSw; go_simp; try with_reducible rfl)))
                (try simp only [Act.put, List.setIfInBounds_toArray, List.set_cons_zero, List.set_cons_succ])
                obtain ⟨⟨r0, r1, r2, r3, r4, r5, r6⟩, g0, g1, g2, g3, g4, g5, g6⟩ := seven E13.out
                obtain ⟨⟨q0, q1, q2, q3, q4, q5, q6, q7⟩, p0, p1, p2, p3, p4, p5, p6, p7⟩ := E14.out.eight
                have sd : W10.heap.size ≤ vd.heap.size := HBd.out.size
                have h13 : W10.heap.size ≤ vQ.heap.size := by omega
                have h14 : W10.heap.size ≤ vd.heap.size := by omega
                have hne : vQ.heap.size ≠ vd.heap.size := by omega
                refine wpAnyH_ready (rs := [13]) (by kernel_rfl) (by simp) ?_
                refine AllReadyH.cons rfl (fun K hK => ?_) AllReadyH.nil
                go_simp
                refine hK.out _ _ ((((((((HBC.out.setCell (p := ⟨vQ.heap.size, 0, none⟩) h13 _).setCell (p := ⟨vQ.heap.size, 1, none⟩) h13 _).setCell (p := ⟨vQ.heap.size, 2, none⟩) h13 _).setCell (p := ⟨vQ.heap.size, 3, none⟩) h13 _).setCell (p := ⟨vQ.heap.size, 4, none⟩) h13 _).setCell (p := ⟨vQ.heap.size, 5, none⟩) h13 _).setCell (p := ⟨vQ.heap.size, 6, none⟩) h13 _)) (fun hHeld => ?_)
                clear hK K
                (try simp only [Act.put, List.setIfInBounds_toArray, List.set_cons_zero, List.set_cons_succ])
                refine wpAnyH_ready (rs := [14]) (by kernel_rfl) (by simp) ?_
                refine AllReadyH.cons rfl (fun K hK => ?_) AllReadyH.nil
                go_simp
                refine hK.out _ _ ((((((((((((((((HBC.out.setCell (p := ⟨vQ.heap.size, 0, none⟩) h13 _).setCell (p := ⟨vQ.heap.size, 1, none⟩) h13 _).setCell (p := ⟨vQ.heap.size, 2, none⟩) h13 _).setCell (p := ⟨vQ.heap.size, 3, none⟩) h13 _).setCell (p := ⟨vQ.heap.size, 4, none⟩) h13 _).setCell (p := ⟨vQ.heap.size, 5, none⟩) h13 _).setCell (p := ⟨vQ.heap.size, 6, none⟩) h13 _).setCell (p := ⟨vd.heap.size, 0, none⟩) h14 _).setCell (p := ⟨vd.heap.size, 1, none⟩) h14 _).setCell (p := ⟨vd.heap.size, 2, none⟩) h14 _).setCell (p := ⟨vd.heap.size, 3, none⟩) h14 _).setCell (p := ⟨vd.heap.size, 4, none⟩) h14 _).setCell (p := ⟨vd.heap.size, 5, none⟩) h14 _).setCell (p := ⟨vd.heap.size, 6, none⟩) h14 _).setCell (p := ⟨vd.heap.size, 7, none⟩) h14 _)) (fun hHeld => ?_)
                clear hK K
                (try simp only [Act.put, List.setIfInBounds_toArray, List.set_cons_zero, List.set_cons_succ])
                (refine takeH 15 15 (v := ?_) rfl rfl (by kernel_rfl) (by kernel_rfl) (by kernel_rfl) (fun _ _ _ h => h) hHeld rfl ?_ ?_; rotate_left; (focus (intro w' hSw; go_simp; try with_reducible rfl)))
                (try simp only [Act.put, List.setIfInBounds_toArray, List.set_cons_zero, List.set_cons_succ])
                (refine takeH 16 16 (v := ?_) rfl rfl (by kernel_rfl) (by kernel_rfl) (by kernel_rfl) (fun _ _ _ h => h) hHeld rfl ?_ ?_; rotate_left; (focus (intro w' hSw; go_simp; try with_reducible rfl)))
                (try simp only [Act.put, List.setIfInBounds_toArray, List.set_cons_zero, List.set_cons_succ])
                refine wpAnyH_done (by kernel_rfl) ?_ _
                refine NoPanic.normal ?_
                go_wp2
                go_meet
                generalize hW9 : World.setCell _ _ _ = W9
                have h9 := ms_end (W9 := W9) (p := p) (mb := mb) (tb := tb) (ub := ub) HBC.out E13.out E14.out hne h13 h14 HRT.out.1 HRT.out.2 (fun i hi => by obtain ⟨hi, hl⟩ := hi; rcases hi with hi | hi; exact ⟨by have := hi.2; omega, by have := hi.2; omega, hi.1⟩; exact ⟨by omega, by omega, HNB.out i (by omega)⟩) hW9
                exact ⟨_, _, A8, c8, B8, d8, A5, c5, rfl, rfl, rfl, rfl, ⟨h9⟩⟩
        case rest =>
          obtain ⟨b13, b14, A8, c8, B8, d8, A5, c5, rfl, rfl, rfl, rfl, HM⟩ := hcut
          have HUX := Aside0.mk (And.intro (HUB.out.1.on HM.out.bl) (HUB.out.2.1.below HM.out.bl))
          have hne : b13 ≠ ub := by have h1 := HM.out.h13; have h2 := HGG.out.2.2.1; omega
          have hne4 : b14 ≠ ub := by have h1 := HM.out.h14; have h2 := HGG.out.2.2.1; omega
          have HVX := Aside0.mk (fun (W12 : World) hW => vs_mk (W12 := W12) (HLS.out.below HM.out.bl) HGG.out.1 HGG.out.2.1 HUX.out.1 HUX.out.2 (HRB.out.below HM.out.bl) HM.out hne4 hW)
          clear x0 x1 x2 x3 x4 x5 x6 y0 y1 y2 y3 y4 y5 y6 y7
          obtain ⟨⟨x0, x1, x2, x3, x4, x5, x6⟩, _⟩ := seven HM.out.x13
          obtain ⟨⟨r0, r1, r2, r3, r4, r5, r6⟩, g0, g1, g2, g3, g4, g5, g6⟩ := seven HUX.out.1
          go_upto_region 13 with (fail)
          generalize hW : World.setCell _ _ _ = W12
          have HV := Aside0.mk (HVX.out W12 hW)
          clear hW x0 x1 x2 x3 x4 x5 x6 r0 r1 r2 r3 r4 r5 r6 g0 g1 g2 g3 g4 g5 g6 HVX HUX HM hne hne4
          have hl1 : T1.l.length ≤ 4096 := by have h1 := HW1.out.len; have h2 := HW1.out.rm.2.1; omega
          have hz1 : szs T1.l ≤ 1000000000000 := by have h1 := HW1.out.sz; have h2 := HW1.out.rm.2.2.2.1; omega
          have ht0 : 0 < T1.tok.length := HW1.out.tok_len.1
          have ht1 : T1.tok.length ≤ 256 := HW1.out.tok_len.2
          have HNM : Aside0 (Num T1 (1 + 5000 * (k : Int) + 5000)) := ⟨HW1.out.num (by omega)⟩
          have HZ := Aside0.mk (size_calls p mb tb T1 W12 HV.out.ls.t (by omega))
          go_upto_region 14 with (first | ((with_reducible refine HZ.out.mono ?_); rintro e w13 ⟨rfl, hb⟩; have HV := Aside0.mk (HV.out.below hb); clear hb))
          have HSR : Aside0 (∀ w', Below w13.heap.size w13 w' → Calls Try.prog 26 #[.agg (rcs R Aa ca).toArray, .agg (rcs R A5 c5).toArray] w' (Yes w')) := ⟨fun w' hb => sameReply_refl R Aa A5 ca c5 w' (HV.out.below hb).rb.bytes (rr_bytes (HV.out.below hb).rr)⟩
          have HCL : Aside0 (∀ w', Below w13.heap.size w13 w' → _) := ⟨fun w' hb => cells_calls p mb tb T1 _ w' (HV.out.below hb).ls.t HNM.out⟩
          have HSC : Aside0 (∀ w' A' c', Below w13.heap.size w13 w' → Cell.k.C w' A' T1.l.length T1.l → Calls Try.prog 23 #[.slice A' T1.l.length c', .slice A8 T1.l.length c8] w' (Yes w')) := ⟨fun w' A' c' hb h => sameCells_refl T1.l A' A8 c' c8 w' h (Kd.F_now (HV.out.below hb).rt.l)⟩
          have HTK : Aside0 (∀ w', Below w13.heap.size w13 w' → _) := ⟨fun w' hb => tokens_calls p mb tb T1 w' (HV.out.below hb).ls.t ht0 (by omega)⟩
          have HIV := Aside0.mk (HW1.out.tok_in (by omega))
          have HSI : Aside0 (∀ w' g cap, Below w13.heap.size w13 w' → (kInt .i64).C w' (some ⟨g, 0, none⟩) T1.tok.length T1.tok → Calls Try.prog 28 #[.slice (some ⟨g, 0, none⟩) T1.tok.length cap, .slice B8 T1.tok.length d8] w' (Cmp.Is true w')) := ⟨fun w' g cap hb h => by
            have := Cmp.sameInts_calls T1.tok T1.tok _ _ cap d8 w' h (Kd.F_now (HV.out.below hb).rt.k)
            rw [decide_eq_true rfl] at this
            exact this⟩
          have HBY : Aside0 (∀ w', Below w13.heap.size w13 w' → _) := ⟨fun w' hb => bytesR_calls T1 A8 c8 B8 d8 w' (Kd.F_now (HV.out.below hb).rt.l) hz1⟩
          have HDC : Aside0 (∀ w', Below w13.heap.size w13 w' → _) := ⟨fun w' hb => dirtyC_calls p mb tb T1 _ w' (HV.out.below hb).ls.t HNM.out (by omega)⟩
          have HDR : Aside0 (∀ w', Below w13.heap.size w13 w' → _) := ⟨fun w' hb => dirtyR_calls T1.l A8 c8 _ w' (HV.out.below hb).rt.l (by omega)⟩
          have HU1 : Aside0 (∀ w', Below w13.heap.size w13 w' → US w p mb tb ub T1 w') := ⟨fun w' hb => by
            have h := HV.out.below hb
            exact ⟨h.ls, ⟨HGG.out.1, HGG.out.2.1, h.ublk.lt⟩, h.uty, A8, c8, B8, d8, h.ublk, h.rt⟩⟩
          have HVB := Aside0.mk (And.intro HV.out.ublk (And.intro HV.out.rb.blk HV.out.x14))
          clear HW1
          obtain ⟨⟨x0, x1, x2, x3, x4, x5, x6⟩, _⟩ := seven HVB.out.1
          obtain ⟨⟨r0, r1, r2, r3, r4, r5, r6, r7⟩, _⟩ := HVB.out.2.1.eight
          obtain ⟨⟨q0, q1, q2, q3, q4, q5, q6, q7⟩, _⟩ := HVB.out.2.2.eight
          have x0 := fun w' (h : Below w13.heap.size w13 w') => pw_cell_below h x0
          have x1 := fun w' (h : Below w13.heap.size w13 w') => pw_cell_below h x1
          have x2 := fun w' (h : Below w13.heap.size w13 w') => pw_cell_below h x2
          have x3 := fun w' (h : Below w13.heap.size w13 w') => pw_cell_below h x3
          have x4 := fun w' (h : Below w13.heap.size w13 w') => pw_cell_below h x4
          have x5 := fun w' (h : Below w13.heap.size w13 w') => pw_cell_below h x5
          have x6 := fun w' (h : Below w13.heap.size w13 w') => pw_cell_below h x6
          have r0 := fun w' (h : Below w13.heap.size w13 w') => pw_cell_below h r0
          have r1 := fun w' (h : Below w13.heap.size w13 w') => pw_cell_below h r1
          have r2 := fun w' (h : Below w13.heap.size w13 w') => pw_cell_below h r2
          have r3 := fun w' (h : Below w13.heap.size w13 w') => pw_cell_below h r3
          have r4 := fun w' (h : Below w13.heap.size w13 w') => pw_cell_below h r4
          have r5 := fun w' (h : Below w13.heap.size w13 w') => pw_cell_below h r5
          have r6 := fun w' (h : Below w13.heap.size w13 w') => pw_cell_below h r6
          have r7 := fun w' (h : Below w13.heap.size w13 w') => pw_cell_below h r7
          have q0 := fun w' (h : Below w13.heap.size w13 w') => pw_cell_below h q0
          have q1 := fun w' (h : Below w13.heap.size w13 w') => pw_cell_below h q1
          have q2 := fun w' (h : Below w13.heap.size w13 w') => pw_cell_below h q2
          have q3 := fun w' (h : Below w13.heap.size w13 w') => pw_cell_below h q3
          have q4 := fun w' (h : Below w13.heap.size w13 w') => pw_cell_below h q4
          have q5 := fun w' (h : Below w13.heap.size w13 w') => pw_cell_below h q5
          have q6 := fun w' (h : Below w13.heap.size w13 w') => pw_cell_below h q6
          have q7 := fun w' (h : Below w13.heap.size w13 w') => pw_cell_below h q7
          obtain ⟨l1, hl1'⟩ : ∃ l1, l1 = T1.l := ⟨_, rfl⟩
          clear hl1' l1
          refine wp_region_noPanic ?_
          refine wp_region_held_drew (S := Below w13.heap.size w13) (by kernel_rfl) (below_drew (Below.refl _ _)) (fun hHeld => ?_)
          (refine takeH 0 80 (v := ?_) rfl rfl (by kernel_rfl) (by kernel_rfl) (by kernel_rfl) (fun _ _ _ h => h) hHeld rfl ?_ ?_; rotate_left; (focus (intro w' hSw; go_simp; try with_reducible rfl)))
          (try simp only [Act.put, List.setIfInBounds_toArray, List.set_cons_zero, List.set_cons_succ])
          (refine takeH 1 81 (v := ?_) rfl rfl (by kernel_rfl) (by kernel_rfl) (by kernel_rfl) (fun _ _ _ h => h) hHeld rfl ?_ ?_; rotate_left; (focus (intro w' hSw; go_simp; try with_reducible rfl)))
          (try simp only [Act.put, List.setIfInBounds_toArray, List.set_cons_zero, List.set_cons_succ])
          refine wpAnyH_ready (rs := [2]) (by kernel_rfl) (by simp) ?_
          refine AllReadyH.cons rfl (fun K hK => ?_) AllReadyH.nil
          go_simp
          refine (HSR.out _ (below_drew (Below.refl _ _))).mono ?_
          rintro e v1 ⟨rfl, h1⟩
          have H1 := Aside0.mk (Below.then_ (below_drew (Below.refl w13.heap.size w13)) h1 (Nat.le_refl _))
          clear h1
          refine hK.out _ _ (H1.out) (fun hHeld => ?_)
          clear hK K
          (try simp only [Act.put, List.setIfInBounds_toArray, List.set_cons_zero, List.set_cons_succ])
          (refine takeH 3 83 (v := ?_) rfl rfl (by kernel_rfl) (by kernel_rfl) (by kernel_rfl) (fun _ _ _ h => h) hHeld rfl ?_ ?_; rotate_left; (focus (intro w' hSw; go_simp; try with_reducible rfl)))
          (try simp only [Act.put, List.setIfInBounds_toArray, List.set_cons_zero, List.set_cons_succ])
          (refine takeH 4 84 (v := ?_) rfl rfl (by kernel_rfl) (by kernel_rfl) (by kernel_rfl) (fun _ _ _ h => h) hHeld rfl ?_ ?_; rotate_left; (focus (intro w' hSw; go_simp; try with_reducible rfl)))
          (try simp only [Act.put, List.setIfInBounds_toArray, List.set_cons_zero, List.set_cons_succ])
          (first | (refine skipH 5 85 rfl rfl (by kernel_rfl) (by kernel_rfl) (by kernel_rfl) (fun _ _ _ h => h) hHeld rfl ?_) | (refine takeH 5 85 (v := ?_) rfl rfl (by kernel_rfl) (by kernel_rfl) (by kernel_rfl) (fun _ _ _ h => h) hHeld rfl ?_ ?_; rotate_left; (focus (intro w' hSw; go_simp; try with_reducible rfl))))
          (try simp only [Act.put, List.setIfInBounds_toArray, List.set_cons_zero, List.set_cons_succ])
          (first | (refine skipH 6 86 rfl rfl (by kernel_rfl) (by kernel_rfl) (by kernel_rfl) (fun _ _ _ h => h) hHeld rfl ?_) | (refine takeH 6 86 (v := ?_) rfl rfl (by kernel_rfl) (by kernel_rfl) (by kernel_rfl) (fun _ _ _ h => h) hHeld rfl ?_ ?_; rotate_left; (focus (intro w' hSw; go_simp; try with_reducible rfl))))
          (try simp only [Act.put, List.setIfInBounds_toArray, List.set_cons_zero, List.set_cons_succ])
          (first | (refine skipH 7 87 rfl rfl (by kernel_rfl) (by kernel_rfl) (by kernel_rfl) (fun _ _ _ h => h) hHeld rfl ?_) | (refine takeH 7 87 (v := ?_) rfl rfl (by kernel_rfl) (by kernel_rfl) (by kernel_rfl) (fun _ _ _ h => h) hHeld rfl ?_ ?_; rotate_left; (focus (intro w' hSw; go_simp; try with_reducible rfl))))
          (try simp only [Act.put, List.setIfInBounds_toArray, List.set_cons_zero, List.set_cons_succ])
          (refine takeH 8 88 (v := ?_) rfl rfl (by kernel_rfl) (by kernel_rfl) (by kernel_rfl) (fun _ _ _ h => h) hHeld rfl ?_ ?_; rotate_left; (focus (intro w' hSw; go_simp; try with_reducible rfl)))
          (try simp only [Act.put, List.setIfInBounds_toArray, List.set_cons_zero, List.set_cons_succ])
          (refine takeH 9 89 (v := ?_) rfl rfl (by kernel_rfl) (by kernel_rfl) (by kernel_rfl) (fun _ _ _ h => h) hHeld rfl ?_ ?_; rotate_left; (focus (intro w' hSw; go_simp; try with_reducible rfl)))
          (try simp only [Act.put, List.setIfInBounds_toArray, List.set_cons_zero, List.set_cons_succ])
          (first | (refine skipH 10 90 rfl rfl (by kernel_rfl) (by kernel_rfl) (by kernel_rfl) (fun _ _ _ h => h) hHeld rfl ?_) | (refine takeH 10 90 (v := ?_) rfl rfl (by kernel_rfl) (by kernel_rfl) (by kernel_rfl) (fun _ _ _ h => h) hHeld rfl ?_ ?_; rotate_left; (focus (intro w' hSw; go_simp; try with_reducible rfl))))
          (try simp only [Act.put, List.setIfInBounds_toArray, List.set_cons_zero, List.set_cons_succ])
          (first | (refine skipH 11 91 rfl rfl (by kernel_rfl) (by kernel_rfl) (by kernel_rfl) (fun _ _ _ h => h) hHeld rfl ?_) | (refine takeH 11 91 (v := ?_) rfl rfl (by kernel_rfl) (by kernel_rfl) (by kernel_rfl) (fun _ _ _ h => h) hHeld rfl ?_ ?_; rotate_left; (focus (intro w' hSw; go_simp; try with_reducible rfl))))
          (try simp only [Act.put, List.setIfInBounds_toArray, List.set_cons_zero, List.set_cons_succ])
          (first | (refine skipH 12 92 rfl rfl (by kernel_rfl) (by kernel_rfl) (by kernel_rfl) (fun _ _ _ h => h) hHeld rfl ?_) | (refine takeH 12 92 (v := ?_) rfl rfl (by kernel_rfl) (by kernel_rfl) (by kernel_rfl) (fun _ _ _ h => h) hHeld rfl ?_ ?_; rotate_left; (focus (intro w' hSw; go_simp; try with_reducible rfl))))
          (try simp only [Act.put, List.setIfInBounds_toArray, List.set_cons_zero, List.set_cons_succ])
          (refine takeH 13 93 (v := ?_) rfl rfl (by kernel_rfl) (by kernel_rfl) (by kernel_rfl) (fun _ _ _ h => h) hHeld rfl ?_ ?_; rotate_left; (focus (intro w' hSw; go_simp; try with_reducible rfl)))
          (try simp only [Act.put, List.setIfInBounds_toArray, List.set_cons_zero, List.set_cons_succ])
          (refine takeH 14 94 (v := ?_) rfl rfl (by kernel_rfl) (by kernel_rfl) (by kernel_rfl) (fun _ _ _ h => h) hHeld rfl ?_ ?_; rotate_left; (focus (intro w' hSw; go_simp; try with_reducible rfl)))
          (try simp only [Act.put, List.setIfInBounds_toArray, List.set_cons_zero, List.set_cons_succ])
          (first | (refine skipH 15 95 rfl rfl (by kernel_rfl) (by kernel_rfl) (by kernel_rfl) (fun _ _ _ h => h) hHeld rfl ?_) | (refine takeH 15 95 (v := ?_) rfl rfl (by kernel_rfl) (by kernel_rfl) (by kernel_rfl) (fun _ _ _ h => h) hHeld rfl ?_ ?_; rotate_left; (focus (intro w' hSw; go_simp; try with_reducible rfl))))
          (try simp only [Act.put, List.setIfInBounds_toArray, List.set_cons_zero, List.set_cons_succ])
          (first | (refine skipH 17 97 rfl rfl (by kernel_rfl) (by kernel_rfl) (by kernel_rfl) (fun _ _ _ h => h) hHeld rfl ?_) | (refine takeH 17 97 (v := ?_) rfl rfl (by kernel_rfl) (by kernel_rfl) (by kernel_rfl) (fun _ _ _ h => h) hHeld rfl ?_ ?_; rotate_left; (focus (intro w' hSw; go_simp; try with_reducible rfl))))
          (try simp only [Act.put, List.setIfInBounds_toArray, List.set_cons_zero, List.set_cons_succ])
          (first | (refine skipH 18 98 rfl rfl (by kernel_rfl) (by kernel_rfl) (by kernel_rfl) (fun _ _ _ h => h) hHeld rfl ?_) | (refine takeH 18 98 (v := ?_) rfl rfl (by kernel_rfl) (by kernel_rfl) (by kernel_rfl) (fun _ _ _ h => h) hHeld rfl ?_ ?_; rotate_left; (focus (intro w' hSw; go_simp; try with_reducible rfl))))
          (try simp only [Act.put, List.setIfInBounds_toArray, List.set_cons_zero, List.set_cons_succ])
          refine wpAnyH_ready (rs := [16]) (by kernel_rfl) (by simp) ?_
          refine AllReadyH.cons rfl (fun K hK => ?_) AllReadyH.nil
          go_simp
          refine (HCL.out _ H1.out).mono ?_
          rintro e v2 ⟨A9, c9, rfl, _, hF, hb⟩
          have H2 := Aside0.mk (Below.then_ H1.out hb (Nat.le_refl _))
          have HF9 := Aside0.mk (Kd.F_now hF)
          clear hF hb
          refine hK.out _ _ (H2.out) (fun hHeld => ?_)
          clear hK K
          (try simp only [Act.put, List.setIfInBounds_toArray, List.set_cons_zero, List.set_cons_succ])
          refine wpAnyH_ready (rs := [19]) (by kernel_rfl) (by simp) ?_
          refine AllReadyH.cons rfl (fun K hK => ?_) AllReadyH.nil
          go_simp
          refine (HSC.out _ A9 c9 H2.out HF9.out).mono ?_
          rintro e v3 ⟨rfl, h1⟩
          have H3 := Aside0.mk (Below.then_ H2.out h1 (Nat.le_refl _))
          clear h1
          refine hK.out _ _ (H3.out) (fun hHeld => ?_)
          clear hK K
          (try simp only [Act.put, List.setIfInBounds_toArray, List.set_cons_zero, List.set_cons_succ])
          (first | (refine skipH 20 100 rfl rfl (by kernel_rfl) (by kernel_rfl) (by kernel_rfl) (fun _ _ _ h => h) hHeld rfl ?_) | (refine takeH 20 100 (v := ?_) rfl rfl (by kernel_rfl) (by kernel_rfl) (by kernel_rfl) (fun _ _ _ h => h) hHeld rfl ?_ ?_; rotate_left; (focus (intro w' hSw; go_simp; try with_reducible rfl))))
          (try simp only [Act.put, List.setIfInBounds_toArray, List.set_cons_zero, List.set_cons_succ])
          (refine takeH 21 101 (v := ?_) rfl rfl (by kernel_rfl) (by kernel_rfl) (by kernel_rfl) (fun _ _ _ h => h) hHeld rfl ?_ ?_; rotate_left; (focus (intro w' hSw; go_simp; try with_reducible rfl)))
          (try simp only [Act.put, List.setIfInBounds_toArray, List.set_cons_zero, List.set_cons_succ])
          (refine takeH 22 102 (v := ?_) rfl rfl (by kernel_rfl) (by kernel_rfl) (by kernel_rfl) (fun _ _ _ h => h) hHeld rfl ?_ ?_; rotate_left; (focus (intro w' hSw; go_simp; try with_reducible rfl)))
          (try simp only [Act.put, List.setIfInBounds_toArray, List.set_cons_zero, List.set_cons_succ])
          (first | (refine skipH 23 103 rfl rfl (by kernel_rfl) (by kernel_rfl) (by kernel_rfl) (fun _ _ _ h => h) hHeld rfl ?_) | (refine takeH 23 103 (v := ?_) rfl rfl (by kernel_rfl) (by kernel_rfl) (by kernel_rfl) (fun _ _ _ h => h) hHeld rfl ?_ ?_; rotate_left; (focus (intro w' hSw; go_simp; try with_reducible rfl))))
          (try simp only [Act.put, List.setIfInBounds_toArray, List.set_cons_zero, List.set_cons_succ])
          (first | (refine skipH 25 105 rfl rfl (by kernel_rfl) (by kernel_rfl) (by kernel_rfl) (fun _ _ _ h => h) hHeld rfl ?_) | (refine takeH 25 105 (v := ?_) rfl rfl (by kernel_rfl) (by kernel_rfl) (by kernel_rfl) (fun _ _ _ h => h) hHeld rfl ?_ ?_; rotate_left; (focus (intro w' hSw; go_simp; try with_reducible rfl))))
          (try simp only [Act.put, List.setIfInBounds_toArray, List.set_cons_zero, List.set_cons_succ])
          (first | (refine skipH 26 106 rfl rfl (by kernel_rfl) (by kernel_rfl) (by kernel_rfl) (fun _ _ _ h => h) hHeld rfl ?_) | (refine takeH 26 106 (v := ?_) rfl rfl (by kernel_rfl) (by kernel_rfl) (by kernel_rfl) (fun _ _ _ h => h) hHeld rfl ?_ ?_; rotate_left; (focus (intro w' hSw; go_simp; try with_reducible rfl))))
          (try simp only [Act.put, List.setIfInBounds_toArray, List.set_cons_zero, List.set_cons_succ])
          refine wpAnyH_ready (rs := [24]) (by kernel_rfl) (by simp) ?_
          refine AllReadyH.cons rfl (fun K hK => ?_) AllReadyH.nil
          go_simp
          refine (HTK.out _ H3.out).mono ?_
          rintro e v4 ⟨g9, cg9, rfl, _, _, hB, _, hb⟩
          have H4 := Aside0.mk (Below.then_ H3.out hb (Nat.le_refl _))
          have HT9 := Aside0.mk (blk_ints hB HIV.out (by omega))
          clear hB hb
          refine hK.out _ _ (H4.out) (fun hHeld => ?_)
          clear hK K
          (try simp only [Act.put, List.setIfInBounds_toArray, List.set_cons_zero, List.set_cons_succ])
          refine wpAnyH_ready (rs := [27]) (by kernel_rfl) (by simp) ?_
          refine AllReadyH.cons rfl (fun K hK => ?_) AllReadyH.nil
          go_simp
          refine (HSI.out _ _ _ H4.out HT9.out).mono ?_
          rintro e v5 ⟨rfl, h1⟩
          have H5 := Aside0.mk (Below.then_ H4.out h1 (Nat.le_refl _))
          clear h1
          refine hK.out _ _ (H5.out) (fun hHeld => ?_)
          clear hK K
          (try simp only [Act.put, List.setIfInBounds_toArray, List.set_cons_zero, List.set_cons_succ])
          (first | (refine skipH 28 108 rfl rfl (by kernel_rfl) (by kernel_rfl) (by kernel_rfl) (fun _ _ _ h => h) hHeld rfl ?_) | (refine takeH 28 108 (v := ?_) rfl rfl (by kernel_rfl) (by kernel_rfl) (by kernel_rfl) (fun _ _ _ h => h) hHeld rfl ?_ ?_; rotate_left; (focus (intro w' hSw; go_simp; try with_reducible rfl))))
          (try simp only [Act.put, List.setIfInBounds_toArray, List.set_cons_zero, List.set_cons_succ])
          (refine takeH 29 109 (v := ?_) rfl rfl (by kernel_rfl) (by kernel_rfl) (by kernel_rfl) (fun _ _ _ h => h) hHeld rfl ?_ ?_; rotate_left; (focus (intro w' hSw; go_simp; try with_reducible rfl)))
          (try simp only [Act.put, List.setIfInBounds_toArray, List.set_cons_zero, List.set_cons_succ])
          refine wpAnyH_done (by kernel_rfl) ?_ _
          refine NoPanic.normal ?_
          go_upto_region 16 with (fail)
          refine wp_region_noPanic ?_
          refine wp_region_held_drew (S := Below w13.heap.size w13) (by kernel_rfl) (Below.then_ H5.out (below_drew (Below.refl _ _)) (Nat.le_refl _)) (fun hHeld => ?_)
          (refine takeH 0 110 (v := ?_) rfl rfl (by kernel_rfl) (by kernel_rfl) (by kernel_rfl) (fun _ _ _ h => h) hHeld rfl ?_ ?_; rotate_left; (focus (intro w' hSw; go_simp; try with_reducible rfl)))
          (try simp only [Act.put, List.setIfInBounds_toArray, List.set_cons_zero, List.set_cons_succ])
          (refine takeH 1 111 (v := ?_) rfl rfl (by kernel_rfl) (by kernel_rfl) (by kernel_rfl) (fun _ _ _ h => h) hHeld rfl ?_ ?_; rotate_left; (focus (intro w' hSw; go_simp; try with_reducible rfl)))
          (try simp only [Act.put, List.setIfInBounds_toArray, List.set_cons_zero, List.set_cons_succ])
          (refine takeH 2 112 (v := ?_) rfl rfl (by kernel_rfl) (by kernel_rfl) (by kernel_rfl) (fun _ _ _ h => h) hHeld rfl ?_ ?_; rotate_left; (focus (intro w' hSw; go_simp; try with_reducible rfl)))
          (try simp only [Act.put, List.setIfInBounds_toArray, List.set_cons_zero, List.set_cons_succ])
          (refine takeH 3 113 (v := ?_) rfl rfl (by kernel_rfl) (by kernel_rfl) (by kernel_rfl) (fun _ _ _ h => h) hHeld rfl ?_ ?_; rotate_left; (focus (intro w' hSw; go_simp; try with_reducible rfl)))
          (try simp only [Act.put, List.setIfInBounds_toArray, List.set_cons_zero, List.set_cons_succ])
          (refine takeH 4 114 (v := ?_) rfl rfl (by kernel_rfl) (by kernel_rfl) (by kernel_rfl) (fun _ _ _ h => h) hHeld rfl ?_ ?_; rotate_left; (focus (intro w' hSw; go_simp; try with_reducible rfl)))
          (try simp only [Act.put, List.setIfInBounds_toArray, List.set_cons_zero, List.set_cons_succ])
          (refine takeH 5 115 (v := ?_) rfl rfl (by kernel_rfl) (by kernel_rfl) (by kernel_rfl) (fun _ _ _ h => h) hHeld rfl ?_ ?_; rotate_left; (focus (intro w' hSw; go_simp; try with_reducible rfl)))
          (try simp only [Act.put, List.setIfInBounds_toArray, List.set_cons_zero, List.set_cons_succ])
          (first | (refine skipH 6 116 rfl rfl (by kernel_rfl) (by kernel_rfl) (by kernel_rfl) (fun _ _ _ h => h) hHeld rfl ?_) | (refine takeH 6 116 (v := ?_) rfl rfl (by kernel_rfl) (by kernel_rfl) (by kernel_rfl) (fun _ _ _ h => h) hHeld rfl ?_ ?_; rotate_left; (focus (intro w' hSw; go_simp; try with_reducible rfl))))
          (try simp only [Act.put, List.setIfInBounds_toArray, List.set_cons_zero, List.set_cons_succ])
          (first | (refine skipH 7 117 rfl rfl (by kernel_rfl) (by kernel_rfl) (by kernel_rfl) (fun _ _ _ h => h) hHeld rfl ?_) | (refine takeH 7 117 (v := ?_) rfl rfl (by kernel_rfl) (by kernel_rfl) (by kernel_rfl) (fun _ _ _ h => h) hHeld rfl ?_ ?_; rotate_left; (focus (intro w' hSw; go_simp; try with_reducible rfl))))
          (try simp only [Act.put, List.setIfInBounds_toArray, List.set_cons_zero, List.set_cons_succ])
          refine wpAnyH_ready (rs := [8]) (by kernel_rfl) (by simp) ?_
          refine AllReadyH.cons rfl (fun K hK => ?_) AllReadyH.nil
          go_simp
          refine (HBY.out _ (Below.then_ H5.out (below_drew (Below.refl _ _)) (Nat.le_refl _))).mono ?_
          rintro e v6 ⟨rfl, h1⟩
          have H6 := Aside0.mk (Below.then_ (Below.then_ H5.out (below_drew (Below.refl _ _)) (Nat.le_refl _)) h1 (Nat.le_refl _))
          clear h1
          refine hK.out _ _ (H6.out) (fun hHeld => ?_)
          clear hK K
          (try simp only [Act.put, List.setIfInBounds_toArray, List.set_cons_zero, List.set_cons_succ])
          (first | (refine skipH 9 119 rfl rfl (by kernel_rfl) (by kernel_rfl) (by kernel_rfl) (fun _ _ _ h => h) hHeld rfl ?_) | (refine takeH 9 119 (v := ?_) rfl rfl (by kernel_rfl) (by kernel_rfl) (by kernel_rfl) (fun _ _ _ h => h) hHeld rfl ?_ ?_; rotate_left; (focus (intro w' hSw; go_simp; try with_reducible rfl))))
          (try simp only [Act.put, List.setIfInBounds_toArray, List.set_cons_zero, List.set_cons_succ])
          (refine takeH 10 120 (v := ?_) rfl rfl (by kernel_rfl) (by kernel_rfl) (by kernel_rfl) (fun _ _ _ h => h) hHeld rfl ?_ ?_; rotate_left; (focus (intro w' hSw; go_simp; try with_reducible rfl)))
          (try simp only [Act.put, List.setIfInBounds_toArray, List.set_cons_zero, List.set_cons_succ])
          (refine takeH 11 121 (v := ?_) rfl rfl (by kernel_rfl) (by kernel_rfl) (by kernel_rfl) (fun _ _ _ h => h) hHeld rfl ?_ ?_; rotate_left; (focus (intro w' hSw; go_simp; try with_reducible rfl)))
          (try simp only [Act.put, List.setIfInBounds_toArray, List.set_cons_zero, List.set_cons_succ])
          (first | (refine skipH 12 122 rfl rfl (by kernel_rfl) (by kernel_rfl) (by kernel_rfl) (fun _ _ _ h => h) hHeld rfl ?_) | (refine takeH 12 122 (v := ?_) rfl rfl (by kernel_rfl) (by kernel_rfl) (by kernel_rfl) (fun _ _ _ h => h) hHeld rfl ?_ ?_; rotate_left; (focus (intro w' hSw; go_simp; try with_reducible rfl))))
          (try simp only [Act.put, List.setIfInBounds_toArray, List.set_cons_zero, List.set_cons_succ])
          (first | (refine skipH 14 124 rfl rfl (by kernel_rfl) (by kernel_rfl) (by kernel_rfl) (fun _ _ _ h => h) hHeld rfl ?_) | (refine takeH 14 124 (v := ?_) rfl rfl (by kernel_rfl) (by kernel_rfl) (by kernel_rfl) (fun _ _ _ h => h) hHeld rfl ?_ ?_; rotate_left; (focus (intro w' hSw; go_simp; try with_reducible rfl))))
          (try simp only [Act.put, List.setIfInBounds_toArray, List.set_cons_zero, List.set_cons_succ])
          (first | (refine skipH 15 125 rfl rfl (by kernel_rfl) (by kernel_rfl) (by kernel_rfl) (fun _ _ _ h => h) hHeld rfl ?_) | (refine takeH 15 125 (v := ?_) rfl rfl (by kernel_rfl) (by kernel_rfl) (by kernel_rfl) (fun _ _ _ h => h) hHeld rfl ?_ ?_; rotate_left; (focus (intro w' hSw; go_simp; try with_reducible rfl))))
          (try simp only [Act.put, List.setIfInBounds_toArray, List.set_cons_zero, List.set_cons_succ])
          refine wpAnyH_ready (rs := [13]) (by kernel_rfl) (by simp) ?_
          refine AllReadyH.cons rfl (fun K hK => ?_) AllReadyH.nil
          go_simp
          refine (HDC.out _ H6.out).mono ?_
          rintro e v7 ⟨A7, c7, rfl, hF, hb⟩
          have H7 := Aside0.mk (Below.then_ H6.out hb (Nat.le_refl _))
          have HF7 := Aside0.mk hF
          clear hF hb
          refine hK.out _ _ (H7.out) (fun hHeld => ?_)
          clear hK K
          (try simp only [Act.put, List.setIfInBounds_toArray, List.set_cons_zero, List.set_cons_succ])
          refine wpAnyH_ready (rs := [16]) (by kernel_rfl) (by simp) ?_
          refine AllReadyH.cons rfl (fun K hK => ?_) AllReadyH.nil
          go_simp
          refine (HDR.out _ H7.out).mono ?_
          rintro e v8 ⟨A10, c10, rfl, hF, hb⟩
          have H8 := Aside0.mk (Below.then_ H7.out hb (Nat.le_refl _))
          have HF8 := Aside0.mk (Kd.F_now hF)
          have HF7 := Aside0.mk (Kd.F_now (Kd.F_below HF7.out hb))
          clear hF hb
          refine hK.out _ _ (H8.out) (fun hHeld => ?_)
          clear hK K
          (try simp only [Act.put, List.setIfInBounds_toArray, List.set_cons_zero, List.set_cons_succ])
          refine wpAnyH_ready (rs := [17]) (by kernel_rfl) (by simp) ?_
          refine AllReadyH.cons rfl (fun K hK => ?_) AllReadyH.nil
          go_simp
          refine (sameAll_refl (dirtyL T1.l) A7 A10 c7 c10 _ HF7.out HF8.out).mono ?_
          rintro e v9 ⟨rfl, h1⟩
          have H9 := Aside0.mk (Below.then_ H8.out h1 (Nat.le_refl _))
          clear h1
          refine hK.out _ _ (H9.out) (fun hHeld => ?_)
          clear hK K
          (try simp only [Act.put, List.setIfInBounds_toArray, List.set_cons_zero, List.set_cons_succ])
          (first | (refine skipH 18 128 rfl rfl (by kernel_rfl) (by kernel_rfl) (by kernel_rfl) (fun _ _ _ h => h) hHeld rfl ?_) | (refine takeH 18 128 (v := ?_) rfl rfl (by kernel_rfl) (by kernel_rfl) (by kernel_rfl) (fun _ _ _ h => h) hHeld rfl ?_ ?_; rotate_left; (focus (intro w' hSw; go_simp; try with_reducible rfl))))
          (try simp only [Act.put, List.setIfInBounds_toArray, List.set_cons_zero, List.set_cons_succ])
          (refine takeH 19 129 (v := ?_) rfl rfl (by kernel_rfl) (by kernel_rfl) (by kernel_rfl) (fun _ _ _ h => h) hHeld rfl ?_ ?_; rotate_left; (focus (intro w' hSw; go_simp; try with_reducible rfl)))
          (try simp only [Act.put, List.setIfInBounds_toArray, List.set_cons_zero, List.set_cons_succ])
          refine wpAnyH_done (by kernel_rfl) ?_ _
          refine NoPanic.normal ?_
          go_wp2
          go_roundg (xs.length - (k + 1))
          case measure => have := HG.out; omega
          case rel => exact ⟨k + 1, by go_num, by omega, ⟨by omega⟩, ⟨by rw [HTS.out]; exact HU1.out _ H9.out⟩⟩
      · obtain rfl : k = xs.length := by omega
        have hltI : ¬ (xs.length : Int) < (xs.length : Int) := by omega
        have HS := Aside0.mk HU.out.ls.bl
        go_wp2_with (first | ((with_reducible refine (known_true _).mono ?_); rintro e w3 ⟨rfl, h⟩; have HB := Aside0.mk (Below.then_ HS.out h (Nat.le_refl _)); clear h))
        go_ret
        exact ⟨rfl, HB.out⟩
end Tab
end Go.Proofs.Ytgfjkpnaabiecaa
namespace Go.Proofs.Ytgfjkpnaabiecaa
open Go.RowKit Go.Proofs.YtgfjkpnaabiecaaW.PrintWords
def BdT {α : Type} : α → Prop := fun _ => True
def BdS {α : Type} (B : Nat) (Bd : α → Prop) (l : List α) : Prop := l.length * B ≤ 140737488351232 ∧ ∀ x ∈ l, Bd x
def WOk {H : Type} (t : TypeId) (d : DataW H) : Prop := ∀ n ∈ DataW.weights Try.prog t d, n ≤ reachBytes
/-- What reads at type t is of kind k, within bounds. -/
structure Reads {α : Type} (t : TypeId) (k : Kd α) (Bd : α → Prop) : Prop where
  sz : Try.prog.cellsOf t = k.sz
  get : ∀ {H : Type} {enc : TypeId × Value → H} {w : World} {base : Nat} {spare : Nat → Bool} {held : Bool} {fuel : Nat} {cs : List Value} {x : DataW H × List MemPlace},
    DataW.trod enc Try.prog w base spare held fuel t cs = some x → WOk t x.1 → ∃ a, k.K w a cs ∧ Bd a
theorem Reads.int {t : TypeId} {q : IntKind} (ht : Try.prog.underlying t = some (.int q)) (hs : Try.prog.cellsOf t = 1) : Reads t (kInt q) BdT where
  sz := hs
  get := by
    intro H enc w base spare held fuel cs x h _
    obtain ⟨n, rfl, _, hw⟩ := DataW.trod_int ht h
    exact ⟨n, ⟨rfl, hw⟩, trivial⟩
theorem Reads.u8 {t : TypeId} (ht : Try.prog.underlying t = some (.int .u8)) (hs : Try.prog.cellsOf t = 1) : Reads t kU8 BdT where
  sz := hs
  get := by
    intro H enc w base spare held fuel cs x h _
    obtain ⟨n, rfl, _, hw⟩ := DataW.trod_int ht h
    obtain ⟨h0, h1⟩ := _root_.Go.bounds_u8 hw
    refine ⟨UInt8.ofNat n.toNat, ?_, trivial⟩
    show [Value.int .u8 n] = [Value.int .u8 ((UInt8.ofNat n.toNat).toNat : Int)]
    have : ((UInt8.ofNat n.toNat).toNat : Int) = n := by
      rw [UInt8.toNat_ofNat']
      omega
    rw [this]
theorem Reads.bool {t : TypeId} (ht : Try.prog.underlying t = some .bool) (hs : Try.prog.cellsOf t = 1) : Reads t Kd.bool BdT where
  sz := hs
  get := by
    intro H enc w base spare held fuel cs x h _
    obtain ⟨b, rfl, _⟩ := DataW.trod_bool ht h
    exact ⟨b, rfl, trivial⟩
theorem Reads.str {t : TypeId} (ht : Try.prog.underlying t = some .string) (hs : Try.prog.cellsOf t = 1) : Reads t kStr BdT where
  sz := hs
  get := by
    intro H enc w base spare held fuel cs x h hw
    obtain ⟨s, rfl, hx, _⟩ := DataW.trod_string ht h
    subst hx
    refine ⟨s, ⟨rfl, ?_⟩, trivial⟩
    have h2 : s.data.toList.length ≤ reachBytes := hw s.data.toList.length (List.mem_singleton.2 rfl)
    have e : s.data.toList.length = s.size := Array.length_toList
    rw [e] at h2
    exact h2
theorem cells_get {w : World} {base : Nat} {a : Addr} {n : Nat} {cs : List Value} (h : w.cells? base a n = some cs) : cs.length = n ∧ ∀ i u, cs[i]? = some u → w.cell? (a.add i) = some u := by
  unfold World.cells? at h
  split at h
  · refine ⟨by simpa using mapM_some_length h, fun i u hu => ?_⟩
    have hi : i < n := by
      have h1 := mapM_some_length h
      have h2 := (List.getElem?_eq_some_iff.1 hu).1
      simp at h1
      omega
    have h3 := mapM_some_get h i i (by simp [hi])
    rw [h3]
    exact hu
  · cases h
theorem weightsAll_mem {H : Type} {e : TypeId} : ∀ {l : List (DataW H)} {d : DataW H} {n : Nat}, d ∈ l → n ∈ d.weights Try.prog e → n ∈ DataW.weightsAll Try.prog e l
  | a :: r, d, n, hd, hn => by
    unfold DataW.weightsAll
    rcases List.mem_cons.1 hd with rfl | hd
    · exact List.mem_append_left _ hn
    · exact List.mem_append_right _ (weightsAll_mem hd hn)
theorem choose_list {α : Type} {n : Nat} {p : Nat → α → Prop} (h : ∀ i, i < n → ∃ x, p i x) : ∃ l : List α, l.length = n ∧ ∀ i x, l[i]? = some x → p i x := by
  induction n with
  | zero => exact ⟨[], rfl, fun i x hx => by simp at hx⟩
  | succ n ih =>
    obtain ⟨l, hl, hp⟩ := ih (fun i hi => h i (by omega))
    obtain ⟨x, hx⟩ := h n (by omega)
    refine ⟨l ++ [x], by simp [hl], fun i y hy => ?_⟩
    rcases Nat.lt_or_ge i n with hi | hi
    · rw [List.getElem?_append_left (by omega)] at hy
      exact hp i y hy
    · rw [List.getElem?_append_right (by omega)] at hy
      have : i = n := by
        have := (List.getElem?_eq_some_iff.1 hy).1
        simp at this
        omega
      subst this
      simp [hl] at hy
      subst hy
      exact hx
theorem Reads.slice {α : Type} {t e : TypeId} {k : Kd α} {Bd : α → Prop} {B : Nat} (ht : Try.prog.underlying t = some (.slice e)) (hs : Try.prog.cellsOf t = 1) (hB : Try.prog.bytesOf e = B) (R : Reads e k Bd) : Reads t (Kd.slice e k) (BdS B Bd) where
  sz := hs
  get := by
    intro H enc w base spare held fuel cs x h hw
    rcases Deep.open_slice ht h with ⟨rfl, rfl⟩ | ⟨a, len, cap, m, n, D, Pl, rfl, hb, hl, hm, hmm, rfl, hel⟩
    · exact ⟨[], ⟨none, 0, rfl, Nat.le_refl _, Kd.C_nil _ _⟩, by rw [List.length_nil, Nat.zero_mul]; exact Nat.zero_le _, fun _ h => by cases h⟩
    · have hlm : len ≤ m := by rw [hmm]; split <;> omega
      have hwe : ∀ i, i < len → WOk e (D i) := fun i hi n hn => hw n (by
        simp only [DataW.weights, ht]
        exact List.mem_cons_of_mem _ (List.mem_append_left _ (weightsAll_mem (List.mem_map.2 ⟨i, List.mem_range.2 hi, rfl⟩) hn)))
      have hk : ∀ i, i < len → ∃ z, Bd z ∧ ∃ c, w.cells? base (a.add (i * Try.prog.cellsOf e)) (Try.prog.cellsOf e) = some c ∧ k.K w z c := fun i hi => by
        obtain ⟨c, h1, h2⟩ := hel i (by omega)
        obtain ⟨z, h3, h4⟩ := R.get h2 (hwe i hi)
        exact ⟨z, h4, c, h1, h3⟩
      obtain ⟨zs, hzl, hz⟩ := choose_list hk
      have hm' : cap ≤ 9223372036854775807 := by simpa [maxLen] using hm
      subst hzl
      refine ⟨zs, ⟨_, cap, rfl, hl, rfl, by omega, fun _ => ⟨a, rfl, fun j p hj => ?_⟩⟩, ?_, fun z hzm => ?_⟩
      · obtain ⟨_, c, h1, h2⟩ := hz j p hj
        obtain ⟨h3, h4⟩ := cells_get h1
        refine ⟨c, by rw [h3, R.sz], h2, fun i u hu => ?_⟩
        have := h4 i u hu
        rwa [Go.Proofs.YtgfjkpnaabiecaaW.PrintWords.add_add, R.sz] at this
      · have hh := hw ((zs.length + (m - zs.length)) * B) (by
          simp only [DataW.weights, ht, hB]
          refine List.mem_cons.2 (.inl ?_)
          simp)
        refine Nat.le_trans (Nat.mul_le_mul_right _ ?_) hh
        omega
      · obtain ⟨j, hj, rfl⟩ := List.getElem_of_mem hzm
        exact (hz j _ (List.getElem?_eq_getElem hj)).1
end Go.Proofs.Ytgfjkpnaabiecaa
namespace Go.Proofs.Ytgfjkpnaabiecaa
open Go.RowKit Go.Proofs.YtgfjkpnaabiecaaW.PrintWords
theorem len2 {α : Type} {l : List α} (h : l.length = 2) : ∃ a0 a1, l = [a0, a1] := by
  match l, h with
  | [a0, a1], _ => exact ⟨a0, a1, rfl⟩
theorem len3 {α : Type} {l : List α} (h : l.length = 3) : ∃ a0 a1 a2, l = [a0, a1, a2] := by
  match l, h with
  | [a0, a1, a2], _ => exact ⟨a0, a1, a2, rfl⟩
theorem len4 {α : Type} {l : List α} (h : l.length = 4) : ∃ a0 a1 a2 a3, l = [a0, a1, a2, a3] := by
  match l, h with
  | [a0, a1, a2, a3], _ => exact ⟨a0, a1, a2, a3, rfl⟩
theorem len6 {α : Type} {l : List α} (h : l.length = 6) : ∃ a0 a1 a2 a3 a4 a5, l = [a0, a1, a2, a3, a4, a5] := by
  match l, h with
  | [a0, a1, a2, a3, a4, a5], _ => exact ⟨a0, a1, a2, a3, a4, a5, rfl⟩
theorem len8 {α : Type} {l : List α} (h : l.length = 8) : ∃ a0 a1 a2 a3 a4 a5 a6 a7, l = [a0, a1, a2, a3, a4, a5, a6, a7] := by
  match l, h with
  | [a0, a1, a2, a3, a4, a5, a6, a7], _ => exact ⟨a0, a1, a2, a3, a4, a5, a6, a7, rfl⟩
def Tag.Bd (x : Tag) : Prop := BdT x.seq ∧ BdT x.who ∧ BdT x.op
theorem Tag.reads : Reads 32 Tag.k Tag.Bd where
  sz := by kernel_rfl
  get := by
    intro H enc w base spare held fuel cs x h hw
    obtain ⟨xs, n, rfl, hx, hl, hxl, hf⟩ := DataW.trod_struct Try.underlying32 h
    have hz : Try.prog.cellsOf 32 = 3 := by kernel_rfl
    rw [hz] at hl
    obtain ⟨c0, c1, c2, rfl⟩ := len3 hl
    have hxl' : xs.length = 3 := hxl
    obtain ⟨x0, x1, x2, rfl⟩ := len3 hxl'
    subst hx
    have f0 : DataW.trod enc Try.prog w base spare held n 3 (([c0, c1, c2].drop 0).take (Try.prog.cellsOf 3)) = some x0 := hf 0 _ rfl
    have g0 : DataW.trod enc Try.prog w base spare held n 3 [c0] = some x0 := by
      have hc : Try.prog.cellsOf 3 = 1 := by kernel_rfl
      rw [hc] at f0
      exact f0
    obtain ⟨a0, k0, b0⟩ := (Reads.int Try.underlying3 (by kernel_rfl)).get g0 (fun z hz => hw z (by simp only [DataW.weights, Try.underlying32]; simp only [DataW.weightsEach, List.map_cons, List.map_nil, List.mem_append]; exact .inl hz))
    have f1 : DataW.trod enc Try.prog w base spare held n 3 (([c0, c1, c2].drop 1).take (Try.prog.cellsOf 3)) = some x1 := hf 1 _ rfl
    have g1 : DataW.trod enc Try.prog w base spare held n 3 [c1] = some x1 := by
      have hc : Try.prog.cellsOf 3 = 1 := by kernel_rfl
      rw [hc] at f1
      exact f1
    obtain ⟨a1, k1, b1⟩ := (Reads.int Try.underlying3 (by kernel_rfl)).get g1 (fun z hz => hw z (by simp only [DataW.weights, Try.underlying32]; simp only [DataW.weightsEach, List.map_cons, List.map_nil, List.mem_append]; exact .inr (.inl hz)))
    have f2 : DataW.trod enc Try.prog w base spare held n 3 (([c0, c1, c2].drop 2).take (Try.prog.cellsOf 3)) = some x2 := hf 2 _ rfl
    have g2 : DataW.trod enc Try.prog w base spare held n 3 [c2] = some x2 := by
      have hc : Try.prog.cellsOf 3 = 1 := by kernel_rfl
      rw [hc] at f2
      exact f2
    obtain ⟨a2, k2, b2⟩ := (Reads.int Try.underlying3 (by kernel_rfl)).get g2 (fun z hz => hw z (by simp only [DataW.weights, Try.underlying32]; simp only [DataW.weightsEach, List.map_cons, List.map_nil, List.mem_append]; exact .inr (.inr (.inl hz))))
    exact ⟨⟨a0, a1, a2⟩, ⟨_, _, rfl, k0, ⟨_, _, rfl, k1, k2⟩⟩, ⟨b0, b1, b2⟩⟩

def Val.Bd (x : Val) : Prop := BdT x.has ∧ (BdS 1 BdT) x.b
theorem Val.reads : Reads 35 Val.k Val.Bd where
  sz := by kernel_rfl
  get := by
    intro H enc w base spare held fuel cs x h hw
    obtain ⟨xs, n, rfl, hx, hl, hxl, hf⟩ := DataW.trod_struct Try.underlying35 h
    have hz : Try.prog.cellsOf 35 = 2 := by kernel_rfl
    rw [hz] at hl
    obtain ⟨c0, c1, rfl⟩ := len2 hl
    have hxl' : xs.length = 2 := hxl
    obtain ⟨x0, x1, rfl⟩ := len2 hxl'
    subst hx
    have f0 : DataW.trod enc Try.prog w base spare held n 4 (([c0, c1].drop 0).take (Try.prog.cellsOf 4)) = some x0 := hf 0 _ rfl
    have g0 : DataW.trod enc Try.prog w base spare held n 4 [c0] = some x0 := by
      have hc : Try.prog.cellsOf 4 = 1 := by kernel_rfl
      rw [hc] at f0
      exact f0
    obtain ⟨a0, k0, b0⟩ := (Reads.bool Try.underlying4 (by kernel_rfl)).get g0 (fun z hz => hw z (by simp only [DataW.weights, Try.underlying35]; simp only [DataW.weightsEach, List.map_cons, List.map_nil, List.mem_append]; exact .inl hz))
    have f1 : DataW.trod enc Try.prog w base spare held n 33 (([c0, c1].drop 1).take (Try.prog.cellsOf 33)) = some x1 := hf 1 _ rfl
    have g1 : DataW.trod enc Try.prog w base spare held n 33 [c1] = some x1 := by
      have hc : Try.prog.cellsOf 33 = 1 := by kernel_rfl
      rw [hc] at f1
      exact f1
    obtain ⟨a1, k1, b1⟩ := (Reads.slice (B := 1) Try.underlying33 (by kernel_rfl) (by kernel_rfl) (Reads.u8 Try.underlying5 (by kernel_rfl))).get g1 (fun z hz => hw z (by simp only [DataW.weights, Try.underlying35]; simp only [DataW.weightsEach, List.map_cons, List.map_nil, List.mem_append]; exact .inr (.inl hz)))
    exact ⟨⟨a0, a1⟩, ⟨_, _, rfl, k0, k1⟩, ⟨b0, b1⟩⟩

def Entry.Bd (x : Entry) : Prop := BdT x.key ∧ Tag.Bd x.tag ∧ Val.Bd x.val
theorem Entry.reads : Reads 37 Entry.k Entry.Bd where
  sz := by kernel_rfl
  get := by
    intro H enc w base spare held fuel cs x h hw
    obtain ⟨xs, n, rfl, hx, hl, hxl, hf⟩ := DataW.trod_struct Try.underlying37 h
    have hz : Try.prog.cellsOf 37 = 6 := by kernel_rfl
    rw [hz] at hl
    obtain ⟨c0, c1, c2, c3, c4, c5, rfl⟩ := len6 hl
    have hxl' : xs.length = 3 := hxl
    obtain ⟨x0, x1, x2, rfl⟩ := len3 hxl'
    subst hx
    have f0 : DataW.trod enc Try.prog w base spare held n 9 (([c0, c1, c2, c3, c4, c5].drop 0).take (Try.prog.cellsOf 9)) = some x0 := hf 0 _ rfl
    have g0 : DataW.trod enc Try.prog w base spare held n 9 [c0] = some x0 := by
      have hc : Try.prog.cellsOf 9 = 1 := by kernel_rfl
      rw [hc] at f0
      exact f0
    obtain ⟨a0, k0, b0⟩ := (Reads.str Try.underlying9 (by kernel_rfl)).get g0 (fun z hz => hw z (by simp only [DataW.weights, Try.underlying37]; simp only [DataW.weightsEach, List.map_cons, List.map_nil, List.mem_append]; exact .inl hz))
    have f1 : DataW.trod enc Try.prog w base spare held n 32 (([c0, c1, c2, c3, c4, c5].drop 1).take (Try.prog.cellsOf 32)) = some x1 := hf 1 _ rfl
    have g1 : DataW.trod enc Try.prog w base spare held n 32 [c1, c2, c3] = some x1 := by
      have hc : Try.prog.cellsOf 32 = 3 := by kernel_rfl
      rw [hc] at f1
      exact f1
    obtain ⟨a1, k1, b1⟩ := Tag.reads.get g1 (fun z hz => hw z (by simp only [DataW.weights, Try.underlying37]; simp only [DataW.weightsEach, List.map_cons, List.map_nil, List.mem_append]; exact .inr (.inl hz)))
    have f2 : DataW.trod enc Try.prog w base spare held n 35 (([c0, c1, c2, c3, c4, c5].drop 4).take (Try.prog.cellsOf 35)) = some x2 := hf 2 _ rfl
    have g2 : DataW.trod enc Try.prog w base spare held n 35 [c4, c5] = some x2 := by
      have hc : Try.prog.cellsOf 35 = 2 := by kernel_rfl
      rw [hc] at f2
      exact f2
    obtain ⟨a2, k2, b2⟩ := Val.reads.get g2 (fun z hz => hw z (by simp only [DataW.weights, Try.underlying37]; simp only [DataW.weightsEach, List.map_cons, List.map_nil, List.mem_append]; exact .inr (.inr (.inl hz))))
    exact ⟨⟨a0, a1, a2⟩, ⟨_, _, rfl, k0, ⟨_, _, rfl, k1, k2⟩⟩, ⟨b0, b1, b2⟩⟩

def Room.Bd (x : Room) : Prop := BdT x.cells ∧ BdT x.bytes ∧ BdT x.buckets ∧ BdT x.fresh
theorem Room.reads : Reads 23 Room.k Room.Bd where
  sz := by kernel_rfl
  get := by
    intro H enc w base spare held fuel cs x h hw
    obtain ⟨xs, n, rfl, hx, hl, hxl, hf⟩ := DataW.trod_struct Try.underlying23 h
    have hz : Try.prog.cellsOf 23 = 4 := by kernel_rfl
    rw [hz] at hl
    obtain ⟨c0, c1, c2, c3, rfl⟩ := len4 hl
    have hxl' : xs.length = 4 := hxl
    obtain ⟨x0, x1, x2, x3, rfl⟩ := len4 hxl'
    subst hx
    have f0 : DataW.trod enc Try.prog w base spare held n 3 (([c0, c1, c2, c3].drop 0).take (Try.prog.cellsOf 3)) = some x0 := hf 0 _ rfl
    have g0 : DataW.trod enc Try.prog w base spare held n 3 [c0] = some x0 := by
      have hc : Try.prog.cellsOf 3 = 1 := by kernel_rfl
      rw [hc] at f0
      exact f0
    obtain ⟨a0, k0, b0⟩ := (Reads.int Try.underlying3 (by kernel_rfl)).get g0 (fun z hz => hw z (by simp only [DataW.weights, Try.underlying23]; simp only [DataW.weightsEach, List.map_cons, List.map_nil, List.mem_append]; exact .inl hz))
    have f1 : DataW.trod enc Try.prog w base spare held n 3 (([c0, c1, c2, c3].drop 1).take (Try.prog.cellsOf 3)) = some x1 := hf 1 _ rfl
    have g1 : DataW.trod enc Try.prog w base spare held n 3 [c1] = some x1 := by
      have hc : Try.prog.cellsOf 3 = 1 := by kernel_rfl
      rw [hc] at f1
      exact f1
    obtain ⟨a1, k1, b1⟩ := (Reads.int Try.underlying3 (by kernel_rfl)).get g1 (fun z hz => hw z (by simp only [DataW.weights, Try.underlying23]; simp only [DataW.weightsEach, List.map_cons, List.map_nil, List.mem_append]; exact .inr (.inl hz)))
    have f2 : DataW.trod enc Try.prog w base spare held n 3 (([c0, c1, c2, c3].drop 2).take (Try.prog.cellsOf 3)) = some x2 := hf 2 _ rfl
    have g2 : DataW.trod enc Try.prog w base spare held n 3 [c2] = some x2 := by
      have hc : Try.prog.cellsOf 3 = 1 := by kernel_rfl
      rw [hc] at f2
      exact f2
    obtain ⟨a2, k2, b2⟩ := (Reads.int Try.underlying3 (by kernel_rfl)).get g2 (fun z hz => hw z (by simp only [DataW.weights, Try.underlying23]; simp only [DataW.weightsEach, List.map_cons, List.map_nil, List.mem_append]; exact .inr (.inr (.inl hz))))
    have f3 : DataW.trod enc Try.prog w base spare held n 4 (([c0, c1, c2, c3].drop 3).take (Try.prog.cellsOf 4)) = some x3 := hf 3 _ rfl
    have g3 : DataW.trod enc Try.prog w base spare held n 4 [c3] = some x3 := by
      have hc : Try.prog.cellsOf 4 = 1 := by kernel_rfl
      rw [hc] at f3
      exact f3
    obtain ⟨a3, k3, b3⟩ := (Reads.bool Try.underlying4 (by kernel_rfl)).get g3 (fun z hz => hw z (by simp only [DataW.weights, Try.underlying23]; simp only [DataW.weightsEach, List.map_cons, List.map_nil, List.mem_append]; exact .inr (.inr (.inr (.inl hz)))))
    exact ⟨⟨a0, a1, a2, a3⟩, ⟨_, _, rfl, k0, ⟨_, _, rfl, k1, ⟨_, _, rfl, k2, k3⟩⟩⟩, ⟨b0, b1, b2, b3⟩⟩

def Do.Bd (x : Do) : Prop := BdT x.kind ∧ Entry.Bd x.e ∧ BdT x.token
theorem Do.reads : Reads 39 Do.k Do.Bd where
  sz := by kernel_rfl
  get := by
    intro H enc w base spare held fuel cs x h hw
    obtain ⟨xs, n, rfl, hx, hl, hxl, hf⟩ := DataW.trod_struct Try.underlying39 h
    have hz : Try.prog.cellsOf 39 = 8 := by kernel_rfl
    rw [hz] at hl
    obtain ⟨c0, c1, c2, c3, c4, c5, c6, c7, rfl⟩ := len8 hl
    have hxl' : xs.length = 3 := hxl
    obtain ⟨x0, x1, x2, rfl⟩ := len3 hxl'
    subst hx
    have f0 : DataW.trod enc Try.prog w base spare held n 3 (([c0, c1, c2, c3, c4, c5, c6, c7].drop 0).take (Try.prog.cellsOf 3)) = some x0 := hf 0 _ rfl
    have g0 : DataW.trod enc Try.prog w base spare held n 3 [c0] = some x0 := by
      have hc : Try.prog.cellsOf 3 = 1 := by kernel_rfl
      rw [hc] at f0
      exact f0
    obtain ⟨a0, k0, b0⟩ := (Reads.int Try.underlying3 (by kernel_rfl)).get g0 (fun z hz => hw z (by simp only [DataW.weights, Try.underlying39]; simp only [DataW.weightsEach, List.map_cons, List.map_nil, List.mem_append]; exact .inl hz))
    have f1 : DataW.trod enc Try.prog w base spare held n 37 (([c0, c1, c2, c3, c4, c5, c6, c7].drop 1).take (Try.prog.cellsOf 37)) = some x1 := hf 1 _ rfl
    have g1 : DataW.trod enc Try.prog w base spare held n 37 [c1, c2, c3, c4, c5, c6] = some x1 := by
      have hc : Try.prog.cellsOf 37 = 6 := by kernel_rfl
      rw [hc] at f1
      exact f1
    obtain ⟨a1, k1, b1⟩ := Entry.reads.get g1 (fun z hz => hw z (by simp only [DataW.weights, Try.underlying39]; simp only [DataW.weightsEach, List.map_cons, List.map_nil, List.mem_append]; exact .inr (.inl hz)))
    have f2 : DataW.trod enc Try.prog w base spare held n 3 (([c0, c1, c2, c3, c4, c5, c6, c7].drop 7).take (Try.prog.cellsOf 3)) = some x2 := hf 2 _ rfl
    have g2 : DataW.trod enc Try.prog w base spare held n 3 [c7] = some x2 := by
      have hc : Try.prog.cellsOf 3 = 1 := by kernel_rfl
      rw [hc] at f2
      exact f2
    obtain ⟨a2, k2, b2⟩ := (Reads.int Try.underlying3 (by kernel_rfl)).get g2 (fun z hz => hw z (by simp only [DataW.weights, Try.underlying39]; simp only [DataW.weightsEach, List.map_cons, List.map_nil, List.mem_append]; exact .inr (.inr (.inl hz))))
    exact ⟨⟨a0, a1, a2⟩, ⟨_, _, rfl, k0, ⟨_, _, rfl, k1, k2⟩⟩, ⟨b0, b1, b2⟩⟩

end Go.Proofs.Ytgfjkpnaabiecaa
set_option linter.unusedVariables false
set_option linter.unusedSimpArgs false
namespace Go.Proofs.Ytgfjkpnaabiecaa
open Go.RowKit Go.Proofs.YtgfjkpnaabiecaaW.PrintWords
namespace Tab
theorem dos_bd {B : Nat} {xs : List Do} (h : BdS B Do.Bd xs) (hB : B = 88) : xs.length ≤ 1600000000000 ∧ ∀ x ∈ xs, x.e.val.b.length ≤ 140737488351232 := by
  subst hB
  obtain ⟨h1, h2⟩ := h
  refine ⟨by omega, fun x hx => ?_⟩
  obtain ⟨_, ⟨_, _, _, h3, _⟩, _⟩ := h2 x hx
  omega
theorem room_cs {w : World} {cs : Array Value} {r : Room} (h : Room.k.K w r cs.toList) : cs = #[.int .i64 r.cells, .int .i64 r.bytes, .int .i64 r.buckets, .bool r.fresh] := by
  obtain ⟨he, _⟩ := Room.open_ h
  have : cs = cs.toList.toArray := by simp
  rw [this, he]
end Tab
end Go.Proofs.Ytgfjkpnaabiecaa
set_option linter.unusedVariables false
set_option linter.unusedSimpArgs false
namespace Go.Proofs.Ytgfjkpnaabiecaa
open Go.RowKit Go.Proofs.YtgfjkpnaabiecaaW.PrintWords
namespace Tab
theorem steps_row {B : Nat} (cs : Array Value) (r : Room) (A : Option Addr) (c : Nat) (xs : List Do) (w : World) (h0 : Room.k.K w r cs.toList) (hr : Do.k.C w A xs.length xs) (hb : BdS B Do.Bd xs) (hB : B = 88) :
    Calls Try.prog 8 #[.agg cs, .slice A xs.length c] w (TrueTold w) := by
  rw [room_cs h0]
  obtain ⟨b1, b2⟩ := dos_bd hb hB
  by_cases hR : RoomOk r
  · exact steps_good r A c xs w hr b1 hR b2
  · exact steps_bad r A c xs w hr b1 hR
end Tab
end Go.Proofs.Ytgfjkpnaabiecaa
