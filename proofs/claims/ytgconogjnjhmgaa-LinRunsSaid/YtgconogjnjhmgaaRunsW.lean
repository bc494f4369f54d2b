/- LinRuns, walked: the statement's own function returns true. -/
import Derived.Test.YtgconogjnjhmgaaRunsB
import Derived.Test.YtgconogjnjhmgaaLinI
import Derived.Lib.SlBytesConst
namespace Go.Proofs.Ytgconogjnjhmgaa
open Go.RowKit Go.Proofs.YtgconogjnjhmgaaW.PrintWords
namespace RunsW
open LinA LinB LinC LinD LinE LinF LinG LinH LinI RightA DeedA DeedsB KeysA LinearA CallsP CallsW RunsP RunsA RunsB SameA SameB
attribute [local go_sem ↓] Go.wp_at_zero Go.wp_at_succ
def cL (xs : List Call) (k : Nat) : List Note := (List.range k).map (cN xs)
def aL (xs : List Call) (k : Nat) : List Note := (List.range k).map (aN xs)
theorem cL_succ (xs : List Call) (k : Nat) : cL xs (k + 1) = cL xs k ++ [cN xs k] := by unfold cL; rw [List.range_succ, List.map_append]; rfl
theorem aL_succ (xs : List Call) (k : Nat) : aL xs (k + 1) = aL xs k ++ [aN xs k] := by unfold aL; rw [List.range_succ, List.map_append]; rfl
theorem cL_length (xs : List Call) (k : Nat) : (cL xs k).length = k := by unfold cL; simp
theorem aL_length (xs : List Call) (k : Nat) : (aL xs k).length = k := by unfold aL; simp
theorem cL_get (xs : List Call) {k n : Nat} (h : k < n) : (cL xs n).getD k Note.z = cN xs k := by unfold cL; simp [List.getD_eq_getElem?_getD, h]
theorem aL_get (xs : List Call) {k n : Nat} (h : k < n) : (aL xs n).getD k Note.z = aN xs k := by unfold aL; simp [List.getD_eq_getElem?_getD, h]
/-- What the register holds, as a variable of the call's own. -/
def Held (w W : World) (G : Nat) (v : Val) : Prop := ∃ A c, Blk W G [.bool v.has, .slice A v.b.length c] ∧ v.b.length ≤ c ∧ kU8.C w A v.b.length v.b
/-- The rows of calls and of answers, as they grow. -/
def RB (w W : World) (G : Nat) (xs : List Call) (k : Nat) (v10 v11 : Value) : Prop :=
  Below w.heap.size w W ∧ Held w W G (hv xs k) ∧ Row w W (G + 1) v10 (cL xs k) ∧ Row w W (G + 1) v11 (aL xs k) ∧ Ne2 v10 v11
/-- Behind the switch: block g is the call, the next one its answer. -/
def SW (w W : World) (G g : Nat) (xs : List Call) (k : Nat) (v10 v11 : Value) : Prop :=
  Below w.heap.size w W ∧ Held w W G (hv xs (k + 1)) ∧ Row w W (G + 1) v10 (cL xs k) ∧ Row w W (G + 1) v11 (aL xs k) ∧ Ne2 v10 v11 ∧ (∀ b, v10.ownBlock = some b → b < g) ∧ (∀ b, v11.ownBlock = some b → b < g) ∧
  (∃ A c, Blk W g [.int .i64 k, .int .i64 (xs.getD k Call.z).kind, .string kk, .slice A (xs.getD k Call.z).b.length c] ∧ (xs.getD k Call.z).b.length ≤ c ∧ kU8.C w A (xs.getD k Call.z).b.length (xs.getD k Call.z).b) ∧
  (∃ A c, Blk W (g + 1) [.int .i64 k, .int .i64 0, .bool (aV xs k).has, .slice A (aV xs k).b.length c] ∧ (aV xs k).b.length ≤ c ∧ kU8.C w A (aV xs k).b.length (aV xs k).b)
theorem Held.alloc {w W : World} {G : Nat} {v : Val} (h : Held w W G v) (o : Obj) : Held w (W.alloc o) G v := by
  obtain ⟨A, c, h1, h2, h3⟩ := h
  exact ⟨A, c, h1.alloc o, h2, h3⟩
theorem sw_of {w W0 : World} {G g : Nat} {xs : List Call} {k : Nat} {v10 v11 : Value} {ci ck : Int} {cy : ByteArray} {cb : List UInt8} {A3 Aa : Option Addr} {c3 ca : Nat} {av : Val} (hg : g = W0.heap.size) (hx : xs.getD k Call.z = ⟨ci, ck, cy, cb⟩) (hav : aV xs k = av) (hb : Below w.heap.size w W0)
    (hH : Held w W0 G (hv xs (k + 1))) (h10 : Row w W0 (G + 1) v10 (cL xs k)) (h11 : Row w W0 (G + 1) v11 (aL xs k)) (hN : Ne2 v10 v11) (l3 : cb.length ≤ c3) (g3 : kU8.C w A3 cb.length cb) (la : av.b.length ≤ ca) (ga : kU8.C w Aa av.b.length av.b) :
    SW w ((W0.alloc (.cells #[.int .i64 k, .int .i64 ck, .string kk, .slice A3 cb.length c3] 55)).alloc (.cells #[.int .i64 k, .int .i64 0, .bool av.has, .slice Aa av.b.length ca] 57)).drew G g xs k v10 v11 := by
  subst hg
  refine ⟨below_drew (below_alloc (below_alloc hb _) _), (hH.alloc _).alloc _, OwnRow.below (OwnRow.below h10 (below_alloc (Below.refl _ _) _)) (below_drew (below_alloc (Below.refl _ _) _)), OwnRow.below (OwnRow.below h11 (below_alloc (Below.refl _ _) _)) (below_drew (below_alloc (Below.refl _ _) _)), hN, h10.lt, h11.lt, ⟨A3, c3, ?_, ?_, ?_⟩, ⟨Aa, ca, ?_, ?_, ?_⟩⟩
  · rw [hx]; exact ((Blk.new_ _ _ _ rfl rfl).alloc _).drew
  · rw [hx]; exact l3
  · rw [hx]; exact g3
  · rw [hav]; exact (Blk.new_ _ _ _ (by simp) rfl).drew
  · rw [hav]; exact la
  · rw [hav]; exact ga
theorem call_dig {w : World} {x : Call} {A3 : Option Addr} {c3 : Nat} (h : Call.k.K w x [.int .i64 x.id_, .int .i64 x.kind, .string x.key, .slice A3 x.b.length c3]) : x.b.length ≤ c3 ∧ kU8.C w A3 x.b.length x.b ∧ InR .i64 x.kind := by
  obtain ⟨_, _, he, r0, r1, s2, l3, g3⟩ := Call.open_ h
  simp only [List.cons.injEq, Value.slice.injEq, true_and, and_true] at he
  obtain ⟨rfl, rfl⟩ := he
  exact ⟨l3, g3, r1⟩
theorem rn_c {w : World} {i : Nat} {kind : Int} {b : List UInt8} {A : Option Addr} {c : Nat} (hi : i ≤ 1300000000000) (hk : InR .i64 kind) (hl : b.length ≤ c) (hb : kU8.C w A b.length b) : RN w ⟨false, ⟨i, kind, kk, b⟩, Answer.z⟩ (cells_ i kind kk A b.length c) := by
  refine ⟨rfl, by intro u hu; simp [cells_] at hu; rcases hu with rfl | rfl | rfl | rfl | rfl | rfl | rfl | rfl | rfl <;> rfl, fun W' hW => ?_⟩
  exact Note.mk_ W' ⟨false, ⟨i, kind, kk, b⟩, Answer.z⟩ (inr_nat hi) hk (show kk.size ≤ 140737488351232 by decide) hl (Kd.C_below hb hW) inr0 inr0 (Nat.le_refl _) (nil8 _)
theorem rn_a {w : World} {i : Nat} {v : Val} {A : Option Addr} {c : Nat} (hi : i ≤ 1300000000000) (hl : v.b.length ≤ c) (hb : kU8.C w A v.b.length v.b) : RN w ⟨true, Call.z, ⟨i, 0, v⟩⟩ (acs i v.has A v.b.length c) := by
  refine ⟨rfl, by intro u hu; simp [acs] at hu; rcases hu with rfl | rfl | rfl | rfl | rfl | rfl | rfl | rfl | rfl <;> rfl, fun W' hW => ?_⟩
  exact Note.mk_ W' ⟨true, Call.z, ⟨i, 0, v⟩⟩ inr0 inr0 (show ByteArray.empty.size ≤ 140737488351232 by decide) (Nat.le_refl _) (nil8 _) (inr_nat hi) inr0 hl (Kd.C_below hb hW)
theorem Held.grown {w W W1 : World} {G : Nat} {v : Val} {row : Option Nat} (h : Held w W G v) (hg : W.grownBy W1 row) (hne : some G ≠ row) : Held w W1 G v := by
  obtain ⟨A, c, h1, h2, h3⟩ := h
  exact ⟨A, c, blk_grown h1 hg hne, h2, h3⟩
theorem row_ne {w W : World} {G : Nat} {v : Value} {l : List Note} (h : Row w W (G + 1) v l) : some G ≠ v.ownBlock := fun e => by
  have := OwnRow.base_ h G e.symm
  omega
theorem row_base {w W : World} {G : Nat} {v : Value} {l : List Note} (h : Row w W (G + 1) v l) (hG : w.heap.size ≤ G) : ∀ k, v.ownBlock = some k → w.heap.size ≤ k := fun k e => by
  have := OwnRow.base_ h k e
  omega
/-- The history, as it grows out of the two rows. -/
def RH (w W : World) (G : Nat) (xs : List Call) (v7 v10 v11 : Value) (b e : Nat) (hl : List Note) : Prop :=
  Below w.heap.size w W ∧ Row w W (G + 1) v7 hl ∧ Row w W (G + 1) v10 (cL xs xs.length) ∧ Row w W (G + 1) v11 (aL xs xs.length) ∧ Ne2 v7 v10 ∧ Ne2 v7 v11 ∧ Inter xs b e hl
theorem kU8_at {w : World} {A : Option Addr} {n : Nat} {xs : List UInt8} (h : kU8.C w A n xs) (k : Nat) (h1 : k < n) : ∃ ad, ∃ x : UInt8, A = some ad ∧ w.cell? (ad.add k) = some (.int .u8 (x.toNat : Int)) := by
  have hl : xs.length = n := h.1
  obtain ⟨ad, c, e, _, hK, hc0⟩ := Kd.C_get h (0 : UInt8) (k : Int) (by omega) (by omega)
  have hK' : kU8.K w (xs.getD k 0) c := hK
  have hcs : c = [.int .u8 ((xs.getD k 0).toNat : Int)] := hK'
  subst hcs
  have hc := hc0 0 _ rfl
  have e1 : (k : Int).toNat * kU8.sz + 0 = k := by show k * 1 + 0 = k; omega
  rw [e1] at hc
  exact ⟨ad, _, e, hc⟩
theorem mod_nat {i n : Nat} (h : 0 < n) : ∃ m : Nat, (i : Int) % (n : Int) = (m : Int) ∧ m < n := ⟨i % n, by simp, Nat.mod_lt _ h⟩
theorem rh_app {w W W1 w3 : World} {G : Nat} {xs : List Call} {v7 v10 v11 v1 : Value} {b e b' e' : Nat} {hl : List Note} {x : Note} (h : RH w W G xs v7 v10 v11 b e hl) (hb : Below W.heap.size W W1) (hown : Row w w3 (G + 1) v1 (hl ++ [x])) (hg : W1.grownBy w3 v7.ownBlock)
    (hat : v1.ownBlock = v7.ownBlock ∨ ∃ b, v1.ownBlock = some b ∧ W1.heap.size ≤ b) (hi : Inter xs b' e' (hl ++ [x])) (hG : w.heap.size ≤ G) : RH w w3 G xs v1 v10 v11 b' e' (hl ++ [x]) := by
  obtain ⟨h0, h7, h10, h11, n10, n11, _⟩ := h
  have k10 : Row w W1 (G + 1) v10 (cL xs xs.length) := OwnRow.below h10 hb
  have k11 : Row w W1 (G + 1) v11 (aL xs xs.length) := OwnRow.below h11 hb
  exact ⟨Below.grown (below_step h0 hb) hg (below_step h0 hb).size (row_base h7 hG), hown, OwnRow.other k10 hg n10.symm.other, OwnRow.other k11 hg n11.symm.other, Ne2.after n10 k10.lt hat, Ne2.after n11 k11.lt hat, hi⟩
theorem rh_small {w W : World} {G : Nat} {xs : List Call} {v7 v10 v11 : Value} {b e : Nat} {hl : List Note} (h : RH w W G xs v7 v10 v11 b e hl) (hx : xs.length ≤ 6) : e ≤ b ∧ b ≤ xs.length ∧ hl.length = b + e ∧ hl.length ≤ 12 := by
  have := h.2.2.2.2.2.2.le
  omega
def TrueTold (w : World) (e : Ending) (w' : World) : Prop := e = .returned (.bool true) ∧ Below w.heap.size w w'
set_option maxRecDepth 100000 in
set_option maxHeartbeats 16000000 in
theorem linRuns_calls (A E L : Option Addr) (c ce cl : Nat) (xs : List Call) (es ls : List UInt8) (w : World) (hr : Call.k.C w A xs.length xs) (he : kU8.C w E es.length es) (hl : kU8.C w L ls.length ls) (hn : xs.length ≤ 140737488355328) (hne : es.length ≤ 140737488355328) (hnl : ls.length ≤ 140737488355328) :
    Calls Try.prog 8 #[.slice A xs.length c, .slice E es.length ce, .slice L ls.length cl] w (TrueTold w) := by
  have HR := Aside0.mk hr
  have HE := Aside0.mk he
  have HL := Aside0.mk hl
  clear hr he hl
  go_enter Try.func8, Try.ntmps8
  by_cases h6 : 6 < xs.length ∨ 20 < es.length ∨ 20 < ls.length
  · have h6' : (6 : Int) < ((xs.length : Nat) : Int) ∨ (20 : Int) < ((es.length : Nat) : Int) ∨ (20 : Int) < ((ls.length : Nat) : Int) := by omega
    rcases h6' with h | h | h
    · go_wp2_with (first | ((with_reducible refine (known_true _).mono ?_); rintro e w2 ⟨rfl, hb2⟩; have HB2 := Aside0.mk hb2; clear hb2))
      go_ret
      exact ⟨rfl, HB2.out⟩
    · by_cases h2 : (6 : Int) < ((xs.length : Nat) : Int)
      · go_wp2_with (first | ((with_reducible refine (known_true _).mono ?_); rintro e w2 ⟨rfl, hb2⟩; have HB2 := Aside0.mk hb2; clear hb2))
        go_ret
        exact ⟨rfl, HB2.out⟩
      · go_wp2_with (first | ((with_reducible refine (known_true _).mono ?_); rintro e w2 ⟨rfl, hb2⟩; have HB2 := Aside0.mk hb2; clear hb2))
        go_ret
        exact ⟨rfl, HB2.out⟩
    · by_cases h2 : (6 : Int) < ((xs.length : Nat) : Int) <;> by_cases h3 : (20 : Int) < ((es.length : Nat) : Int)
      all_goals
        go_wp2_with (first | ((with_reducible refine (known_true _).mono ?_); rintro e w2 ⟨rfl, hb2⟩; have HB2 := Aside0.mk hb2; clear hb2))
        go_ret
        exact ⟨rfl, HB2.out⟩
  · have g1 : ¬ (6 : Int) < ((xs.length : Nat) : Int) := by omega
    have g2 : ¬ (20 : Int) < ((es.length : Nat) : Int) := by omega
    have g3 : ¬ (20 : Int) < ((ls.length : Nat) : Int) := by omega
    have hlen : xs.length ≤ 6 := by omega
    clear h6
    go_wp2_with fail
    have HHE : Aside0 (Held w (w.alloc (.cells #[.bool false, .slice none 0 0] 28)) w.heap.size Val.z) := ⟨⟨none, 0, Blk.new_ _ _ _ rfl rfl, Nat.le_refl _, nil8 _⟩⟩
    have HB1 : Aside0 (Below w.heap.size w (w.alloc (.cells #[.bool false, .slice none 0 0] 28))) := ⟨below_alloc (Below.refl _ _) _⟩
    generalize w.alloc (.cells #[.bool false, .slice none 0 0] 28) = wh at *
    go_loopw [9] (fun v9 wr => ∃ k : Nat, v9 = .int .i64 k ∧ k ≤ xs.length ∧ wr = wh ∧ Aside0 (∀ j, j < k → (1 ≤ (xs.getD j Call.z).kind ∧ (xs.getD j Call.z).kind ≤ 3) ∧ (xs.getD j Call.z).b.length ≤ 20)) (fun v9 _ => xs.length - (intOf v9).toNat)
    case atStart => exact ⟨0, rfl, Nat.zero_le _, rfl, ⟨fun j h => absurd h (Nat.not_lt_zero _)⟩⟩
    case round =>
      obtain ⟨k, rfl, hk, rfl, HV⟩ := hrel
      by_cases hlt : k < xs.length
      · obtain ⟨ad, x, A3, c3, rfl, HXE, hx0, hx1, hx2, hx3, HMM⟩ := Call.at_ (Kd.C_below HR.out HB1.out) k hlt
        have HXK : Aside0 (xs.getD k Call.z = x) := ⟨by rw [List.getD_eq_getElem?_getD, HXE.out]; rfl⟩
        have h0 : (0 : Int) ≤ (k : Int) := by omega
        have h1 : (k : Int) < (xs.length : Int) := by omega
        clear hx0 hx2 HMM
        obtain ⟨ci, ck, cy, cb⟩ := x
        simp only at hx1 hx3
        by_cases q1 : (20 : Int) < ((cb.length : Nat) : Int)
        · go_wp2_with (first | ((with_reducible refine (known_true _).mono ?_); rintro e w2 ⟨rfl, hb2⟩; have HB2 := Aside0.mk hb2; clear hb2))
          go_ret
          exact ⟨rfl, below_step HB1.out HB2.out⟩
        · by_cases q2 : ck < 1
          · go_wp2_with (first | ((with_reducible refine (known_true _).mono ?_); rintro e w2 ⟨rfl, hb2⟩; have HB2 := Aside0.mk hb2; clear hb2))
            go_ret
            exact ⟨rfl, below_step HB1.out HB2.out⟩
          · by_cases q3 : 3 < ck
            · go_wp2_with (first | ((with_reducible refine (known_true _).mono ?_); rintro e w2 ⟨rfl, hb2⟩; have HB2 := Aside0.mk hb2; clear hb2))
              go_ret
              exact ⟨rfl, below_step HB1.out HB2.out⟩
            · go_wp2_with fail
              go_roundw
              case rel => exact ⟨k + 1, by go_num, by omega, trivial, ⟨fun j hj => by
                rcases Nat.lt_or_ge j k with h | h
                · exact HV.out j h
                · obtain rfl : j = k := by omega
                  rw [HXK.out]
                  exact ⟨⟨by show 1 ≤ ck; omega, by show ck ≤ 3; omega⟩, by show cb.length ≤ 20; omega⟩⟩⟩
              case measure => simp [intOf]; omega
      · obtain rfl : k = xs.length := by omega
        have HV2 : Aside0 ((∀ x ∈ xs, 1 ≤ x.kind ∧ x.kind ≤ 3) ∧ ∀ x ∈ xs, x.b.length ≤ 20) := ⟨by
          have : ∀ x ∈ xs, (1 ≤ x.kind ∧ x.kind ≤ 3) ∧ x.b.length ≤ 20 := fun x hx => by
            obtain ⟨j, hj, rfl⟩ := List.mem_iff_getElem.1 hx
            have := HV.out j hj
            rwa [List.getD_eq_getElem?_getD, List.getElem?_eq_getElem hj] at this
          exact ⟨fun x hx => (this x hx).1, fun x hx => (this x hx).2⟩⟩
        go_wp2_with fail
        go_loopw [10, 11, 12] (fun v10 v11 v12 wr => ∃ k : Nat, v12 = .int .i64 k ∧ k ≤ xs.length ∧ Aside0 (RB w wr w.heap.size xs k v10 v11)) (fun _ _ v12 _ => xs.length - (intOf v12).toNat)
        case atStart => exact ⟨0, rfl, Nat.zero_le _, ⟨HB1.out, HHE.out, OwnRow.none_ _ _ _ _ _, OwnRow.none_ _ _ _ _ _, Ne2.nil _⟩⟩
        case round =>
          obtain ⟨k, rfl, hk, HRB⟩ := hrel
          by_cases hlt : k < xs.length
          · obtain ⟨ad, x, A3, c3, rfl, HXE, hx0, hx1, hx2, hx3, HMM⟩ := Call.at_ HR.out k hlt
            have HXK : Aside0 (xs.getD k Call.z = x) := ⟨by rw [List.getD_eq_getElem?_getD, HXE.out]; rfl⟩
            have hbw := HRB.out.1
            have z1 := pw_cell_below hbw hx1
            have z3 := pw_cell_below hbw hx3
            have e1 := World.new_ne wr _ z1
            have e3 := World.new_ne wr _ z3
            have h0 : (0 : Int) ≤ (k : Int) := by omega
            have h1 : (k : Int) < (xs.length : Int) := by omega
            have HCO := Aside0.mk (call_dig HMM.out)
            clear hx0 hx1 hx2 hx3 HMM hbw
            obtain ⟨ci, ck, cy, cb⟩ := x
            simp only at z1 z3
            go_wp2_with fail
            go_region_held3 (fun w' => w'.cell? ⟨(ad.add (k * 4)).block, (ad.add (k * 4)).off + 1, none⟩ = some (.int .i64 ck) ∧ w'.cell? ⟨(ad.add (k * 4)).block, (ad.add (k * 4)).off + 3, none⟩ = some (.slice A3 cb.length c3)) (go_keep) (fail)
            go_upto_block 4 with fail
            go_cut [] (fun wx => Aside0 (SW w wx w.heap.size wr.heap.size xs k u10 u11))
            case first =>
              obtain ⟨hbw, ⟨Ah, ch, hBh, hlh, hkh⟩, hR10, hR11, hN2⟩ := HRB.out
              have d0 := hBh.cell 0 rfl
              have d1 := hBh.cell 1 rfl
              have f0 := hBh.frozen 0 rfl
              have f1 := hBh.frozen 1 rfl
              have hglt := hBh.lt
              have HBW := Aside0.mk hbw
              have HBH := Aside0.mk hBh
              have HKH := Aside0.mk hkh
              have H10 := Aside0.mk hR10
              have H11 := Aside0.mk hR11
              have HN2 := Aside0.mk hN2
              have HSV := Aside0.mk (hv_succ xs k)
              clear hbw hBh hkh hR10 hR11 hN2
              by_cases q1 : ck = 1
              · go_wp2_with fail
                go_meet
                case rel =>
                  have hp : (xs.getD k Call.z).kind = 1 := by rw [HXK.out]; exact q1
                  exact ⟨sw_of (ck := 1) rfl (by rw [HXK.out, q1]) (by unfold aV; rw [if_pos hp]) HBW.out (by rw [HSV.out, if_pos hp]; exact ⟨Ah, ch, HBH.out, hlh, HKH.out⟩) H10.out H11.out HN2.out HCO.out.1 HCO.out.2.1 hlh HKH.out⟩
              · by_cases q2 : ck = 2
                · go_wp2_with fail
                  go_meet
                  case rel =>
                    have hp : ¬ (xs.getD k Call.z).kind = 1 := by rw [HXK.out]; exact q1
                    have hp2 : (xs.getD k Call.z).kind = 2 := by rw [HXK.out]; exact q2
                    refine ⟨sw_of (ck := 2) ?_ (by rw [HXK.out, q2]) (av := Val.z) (by unfold aV; rw [if_neg hp]) (below_set (below_set HBW.out (Nat.le_refl _)) (Nat.le_refl _)) (by rw [HSV.out, if_neg hp, if_pos hp2, HXK.out]; exact ⟨A3, c3, ((HBH.out.set 0 (.bool true)).set 1 (.slice A3 cb.length c3)).cast rfl, HCO.out.1, HCO.out.2.1⟩) ((H10.out.set (by omega)).set (by omega)) ((H11.out.set (by omega)).set (by omega)) HN2.out HCO.out.1 HCO.out.2.1 (Nat.le_refl _) (nil8 _)⟩
                    simp [World.setCell]
                · go_wp2_with fail
                  go_meet
                  case rel =>
                    have hp : ¬ (xs.getD k Call.z).kind = 1 := by rw [HXK.out]; exact q1
                    have hp2 : ¬ (xs.getD k Call.z).kind = 2 := by rw [HXK.out]; exact q2
                    refine ⟨sw_of (ck := ck) ?_ HXK.out (av := Val.z) (by unfold aV; rw [if_neg hp]) (below_set (below_set HBW.out (Nat.le_refl _)) (Nat.le_refl _)) (by rw [HSV.out, if_neg hp, if_neg hp2]; exact ⟨none, 0, ((HBH.out.set 0 (.bool false)).set 1 (.slice none 0 0)).cast rfl, Nat.le_refl _, nil8 _⟩) ((H10.out.set (by omega)).set (by omega)) ((H11.out.set (by omega)).set (by omega)) HN2.out HCO.out.1 HCO.out.2.1 (Nat.le_refl _) (nil8 _)⟩
                    simp [World.setCell]
            case rest =>
              have hs := hcut.out
              unfold SW at hs
              rw [HXK.out] at hs
              obtain ⟨hbw, hH, h10, h11, hN, hl10, hl11, ⟨A3', c3', hBC, hlc, hkc⟩, ⟨Aa, ca, hBA, hla, hka⟩⟩ := hs
              simp only at hBC hlc hkc
              have HCN : Aside0 (cN xs k = ⟨false, ⟨k, ck, kk, cb⟩, Answer.z⟩) := ⟨by unfold cN; rw [HXK.out]⟩
              have y0 := hBC.cell 0 rfl
              have y1 := hBC.cell 1 rfl
              have y2 := hBC.cell 2 rfl
              have y3 := hBC.cell 3 rfl
              obtain ⟨_, _, hBG, _⟩ := hH
              have hglt := hBG.lt
              have hww : w.heap.size ≤ wr.heap.size := HRB.out.1.size
              have hclt := hBC.lt
              have hilt := hBA.lt
              have hIK : InR .i64 ck := HCO.out.2.2
              have HRC := Aside0.mk (rn_c (i := k) (by omega) hIK hlc hkc)
              have HRA := Aside0.mk (rn_a (i := k) (by omega) hla hka)
              have HBW := Aside0.mk hbw
              have HHW := Aside0.mk hcut.out.2.1
              have H10 := Aside0.mk h10
              have H11 := Aside0.mk h11
              have HN := Aside0.mk hN
              have HL1 := Aside0.mk (And.intro hl10 hl11)
              have HBA := Aside0.mk hBA
              clear hbw h10 h11 hN hl10 hl11 hBC hlc hkc hBA hla hka hBG hcut hIK
              go_wp2_with (first | (at_builtin; refine own_append_rows (R := RN w) (w.heap.size + 1) rfl _ _ 37 59 _ 9 112 rfl Try.underlying37 infoN rfl (by omega) (by omega) u10 (cL xs k) [⟨false, ⟨k, ck, kk, cb⟩, Answer.z⟩] (some ⟨wc.heap.size, 0, none⟩) 1 1 rfl (by show Value.slice _ 1 1 = _; simp) (OwnRow.below H10.out (below_alloc (Below.refl _ _) _)) (reads1 HRC.out (Blk.new_ _ _ _ rfl rfl)) (fun _ _ h => h.2.1) (Below.refl _ _) (by simp; omega) (by rw [cL_length]; omega) ?_; intro v1 w3 hown hB3 hg3 hat3; have HBA3 := blk_grown (HBA.out.alloc _) hg3 (fun e => by have := HL1.out.1 _ e.symm; omega); have x0 := HBA3.cell 0 rfl; have x1 := HBA3.cell 1 rfl; have x2 := HBA3.cell 2 rfl; have x3 := HBA3.cell 3 rfl; have hil3 := HBA3.lt; have HB3 := Aside0.mk (Below.grown (below_alloc HBW.out _) hg3 (below_alloc HBW.out _).size (row_base H10.out (Nat.le_refl _))); have HH3 := Aside0.mk (Held.grown (Held.alloc HHW.out _) hg3 (row_ne H10.out)); have H103 := Aside0.mk hown; have H113 := Aside0.mk (OwnRow.other (OwnRow.below H11.out (below_alloc (Below.refl _ _) _)) hg3 (Ne2.symm HN.out).other); have HN3 := Aside0.mk (Ne2.after HN.out (Row.lt (OwnRow.below H11.out (below_alloc (Below.refl _ _) _))) hat3); clear hown hB3 hg3 hat3 HBA3) | (at_builtin; refine own_append_rows (R := RN w) (w.heap.size + 1) rfl _ _ 37 59 _ 9 112 rfl Try.underlying37 infoN rfl (by omega) (by omega) u11 (aL xs k) [⟨true, Call.z, ⟨k, 0, aV xs k⟩⟩] (some ⟨w3.heap.size, 0, none⟩) 1 1 rfl (by show Value.slice _ 1 1 = _; simp) (OwnRow.below H113.out (below_alloc (Below.refl _ _) _)) (reads1 HRA.out (Blk.new_ _ _ _ rfl rfl)) (fun _ _ h => h.2.1) (Below.refl _ _) (by simp; omega) (by rw [aL_length]; omega) ?_; intro v2 w4 hown4 hB4 hg4 hat4; have HB4 := Aside0.mk (Below.grown (below_alloc HB3.out _) hg4 (below_alloc HB3.out _).size (row_base H113.out (Nat.le_refl _))); have HH4 := Aside0.mk (Held.grown (Held.alloc HH3.out _) hg4 (row_ne H113.out)); have H104 := Aside0.mk (OwnRow.other (OwnRow.below H103.out (below_alloc (Below.refl _ _) _)) hg4 HN3.out.other); have H114 := Aside0.mk hown4; have HN4 := Aside0.mk (Ne2.symm (Ne2.after (Ne2.symm HN3.out) (Row.lt (OwnRow.below H103.out (below_alloc (Below.refl _ _) _))) hat4)); clear hown4 hB4 hg4 hat4))
              go_roundw
              case rel => exact ⟨k + 1, by go_num, by omega, ⟨HB4.out, HH4.out, by rw [cL_succ, HCN.out]; exact H104.out, by rw [aL_succ]; exact H114.out, HN4.out⟩⟩
              case measure => simp [intOf]; omega
          · obtain rfl : k = xs.length := by omega
            obtain ⟨hbw, hHeld, h10, h11, hN⟩ := HRB.out
            have hglt : w.heap.size < wr.heap.size := by obtain ⟨_, _, hBG, _⟩ := hHeld; exact hBG.lt
            have HB2 := Aside0.mk hbw
            have H10 := Aside0.mk h10
            have H11 := Aside0.mk h11
            clear hbw hHeld h10 h11 hN
            obtain ⟨A10, c10, rfl, hl10⟩ := OwnRow.slice_ H10.out
            obtain ⟨A11, c11, rfl, hl11⟩ := OwnRow.slice_ H11.out
            rw [cL_length] at H10 hl10
            rw [aL_length] at H11 hl11
            rw [cL_length, aL_length] at *
            go_wp2_with fail
            go_loopw [7, 15, 16, 17] (fun v7 v15 v16 v17 wr3 => ∃ (b e i : Nat) (hl : List Note), v15 = .int .i64 b ∧ v16 = .int .i64 e ∧ v17 = .int .i64 i ∧ i ≤ xs.length ∧ i ≤ b ∧ e ≤ i ∧ w.heap.size < wr3.heap.size ∧ Aside0 (RH w wr3 w.heap.size xs v7 (.slice A10 xs.length c10) (.slice A11 xs.length c11) b e hl)) (fun _ _ _ v17 _ => xs.length - (intOf v17).toNat)
            case atStart => exact ⟨0, 0, 0, [], rfl, rfl, rfl, Nat.zero_le _, Nat.le_refl _, Nat.le_refl _, hglt, ⟨HB2.out, OwnRow.none_ _ _ _ _ _, H10.out, H11.out, Ne2.nil _, Ne2.nil _, .nil⟩⟩
            case round =>
              obtain ⟨b, e, i, hl, rfl, rfl, rfl, hi, hib, hei, hg3, HRH⟩ := hrel
              by_cases hlt : i < xs.length
              · have h1 : (i : Int) < (xs.length : Int) := by omega
                have hi0 : (0 : Int) ≤ (i : Int) := by omega
                go_upto_if 120 with fail
                go_cut [18] (fun s18 wx => ∃ a : Nat, s18 = .int .i64 a ∧ i + 1 ≤ a ∧ a ≤ 100 ∧ wx = wr)
                case first =>
                  by_cases hes : es.length = 0
                  · have hes' : ((es.length : Nat) : Int) = 0 := by omega
                    go_wp2_with fail
                    go_meet
                    case rel => exact ⟨i + 1, by go_num, by omega, by omega, rfl⟩
                  · have hes' : (0 : Int) < ((es.length : Nat) : Int) := by omega
                    obtain ⟨m, hmm, hml⟩ := mod_nat (i := i) (n := es.length) (by omega)
                    obtain ⟨eb, ev, rfl, hcell⟩ := kU8_at HE.out m hml
                    have hcw := pw_cell_below HRH.out.1 hcell
                    have hm0 : (0 : Int) ≤ (m : Int) := by omega
                    have hm1 : (m : Int) < ((es.length : Nat) : Int) := by omega
                    have hnz : ¬ ((es.length : Nat) : Int) = 0 := by omega
                    have hev := ev.toNat_lt
                    clear hcell
                    go_wp2_with fail
                    go_meet
                    case rel => exact ⟨i + 1 + ev.toNat % 3, by simp, by omega, by omega, rfl⟩
                case rest =>
                  obtain ⟨a, rfl, ha1, ha2, rfl⟩ := hcut
                  go_upto_block 7 with fail
                  go_cut [7, 15] (fun s7 s15 wx => ∃ (b2 : Nat) (hl2 : List Note), s15 = .int .i64 b2 ∧ i + 1 ≤ b2 ∧ w.heap.size < wx.heap.size ∧ Aside0 (RH w wx w.heap.size xs s7 (.slice A10 xs.length c10) (.slice A11 xs.length c11) b2 e hl2))
                  case first =>
                    go_wp2_with fail
                    go_loopw [7, 15] (fun v7 v15 wr4 => ∃ (b2 : Nat) (hl2 : List Note), v15 = .int .i64 b2 ∧ i ≤ b2 ∧ w.heap.size < wr4.heap.size ∧ Aside0 (RH w wr4 w.heap.size xs v7 (.slice A10 xs.length c10) (.slice A11 xs.length c11) b2 e hl2)) (fun _ v15 _ => 200 - (intOf v15).toNat)
                    case atStart => exact ⟨b, hl, rfl, hib, hg3, HRH⟩
                    case round =>
                      obtain ⟨b2, hl2, rfl, hib2, hg4, HRH2⟩ := hrel
                      have hsm := rh_small HRH2.out hlen
                      by_cases q1 : b2 < xs.length ∧ b2 < a
                      · obtain ⟨q1, q2⟩ := q1
                        have q1' : (b2 : Int) < ((xs.length : Nat) : Int) := by omega
                        have q2' : (b2 : Int) < (a : Int) := by omega
                        have hb20 : (0 : Int) ≤ (b2 : Int) := by omega
                        obtain ⟨x, hx⟩ : ∃ x, x = cN xs b2 := ⟨_, rfl⟩
                        obtain ⟨cd, C4, d4, C8, d8, rfl, z0, z1, z2, z3, z4, z5, z6, z7, z8, HRX⟩ := row_at (x := x) HRH2.out.2.2.1 HRH2.out.1 b2 (by rw [cL_length]; exact q1) (by rw [hx]; exact cL_get xs q1)
                        have HX := Aside0.mk hx
                        clear hx
                        go_wp2_with (first | (at_builtin; refine own_append_rows (R := RN w) (w.heap.size + 1) rfl _ _ 37 59 _ 9 112 rfl Try.underlying37 infoN rfl (by omega) (by omega) u7 hl2 [x] (some ⟨wr.heap.size, 0, none⟩) 1 1 rfl (by show Value.slice _ 1 1 = _; simp) (OwnRow.below HRH2.out.2.1 (below_alloc (Below.refl _ _) _)) (reads1 HRX.out (Blk.new_ _ _ _ rfl rfl)) (fun _ _ h => h.2.1) (Below.refl _ _) (by simp; omega) (by omega) ?_; intro v1 w3 hown hB3 hg3 hat3; have HRH3 := Aside0.mk (rh_app HRH2.out (below_alloc (Below.refl _ _) _) hown hg3 hat3 (b' := b2 + 1) (e' := e) (by rw [HX.out]; exact .call HRH2.out.2.2.2.2.2.2 q1) (Nat.le_refl _)); have hsz3 : w.heap.size < w3.heap.size := Nat.lt_of_lt_of_le (Nat.lt_trans hg4 (by simp)) hg3.size; clear hown hB3 hg3 hat3))
                        go_roundw
                        case rel => exact ⟨b2 + 1, hl2 ++ [x], by go_num, by omega, hsz3, HRH3⟩
                        case measure => simp [intOf]; omega
                      · have q2' : i + 1 ≤ b2 := by omega
                        by_cases q3 : (b2 : Int) < ((xs.length : Nat) : Int)
                        · have q4 : ¬ (b2 : Int) < (a : Int) := by omega
                          go_wp2_with fail
                          go_meet
                          case rel => exact ⟨b2, hl2, rfl, q2', hg4, HRH2⟩
                        · go_wp2_with fail
                          go_meet
                          case rel => exact ⟨b2, hl2, rfl, q2', hg4, HRH2⟩
                  case rest =>
                    obtain ⟨b2, hl2, rfl, hib2, hg4, HRH2⟩ := hcut
                    go_upto_region 36 with fail
                    go_cut [164] (fun s164 wx => ∃ bb : Bool, s164 = .bool bb ∧ wx = wc)
                    case first =>
                      by_cases hes : ls.length = 0
                      · have hes' : ((ls.length : Nat) : Int) = 0 := by omega
                        go_wp2_with fail
                        go_meet
                        case rel => exact ⟨false, rfl, rfl⟩
                      · have hes' : (0 : Int) < ((ls.length : Nat) : Int) := by omega
                        obtain ⟨m, hmm, hml⟩ := mod_nat (i := i) (n := ls.length) (by omega)
                        obtain ⟨eb, ev, rfl, hcell⟩ := kU8_at HL.out m hml
                        have hcw := pw_cell_below HRH2.out.1 hcell
                        have hm0 : (0 : Int) ≤ (m : Int) := by omega
                        have hm1 : (m : Int) < ((ls.length : Nat) : Int) := by omega
                        have hnz : ¬ ((ls.length : Nat) : Int) = 0 := by omega
                        have hev := ev.toNat_lt
                        clear hcell
                        go_wp2_with fail
                        go_meet
                        case rel => exact ⟨_, rfl, rfl⟩
                    case rest =>
                      obtain ⟨bb, rfl, rfl⟩ := hcut
                      cases bb with
                      | true =>
                        go_wp2_with fail
                        go_roundw
                        case rel => exact ⟨b2, e, i + 1, hl2, rfl, rfl, by go_num, by omega, by omega, by omega, hg4, HRH2⟩
                        case measure => simp [intOf]; omega
                      | false =>
                        go_wp2_with fail
                        go_loopw [7, 16] (fun v7 v16 wr4 => ∃ (e2 : Nat) (hl3 : List Note), v16 = .int .i64 e2 ∧ e2 ≤ i + 1 ∧ w.heap.size < wr4.heap.size ∧ Aside0 (RH w wr4 w.heap.size xs v7 (.slice A10 xs.length c10) (.slice A11 xs.length c11) b2 e2 hl3)) (fun _ v16 _ => 200 - (intOf v16).toNat)
                        case atStart => exact ⟨e, hl2, rfl, by omega, hg4, HRH2⟩
                        case round =>
                          obtain ⟨e2, hl3, rfl, hei2, hg5, HRH3⟩ := hrel
                          have hsm := rh_small HRH3.out hlen
                          by_cases q1 : e2 ≤ i
                          · have q1' : (e2 : Int) ≤ (i : Int) := by omega
                            have he20 : (0 : Int) ≤ (e2 : Int) := by omega
                            have he21 : (e2 : Int) < ((xs.length : Nat) : Int) := by omega
                            obtain ⟨x, hx⟩ : ∃ x, x = aN xs e2 := ⟨_, rfl⟩
                            obtain ⟨cd, C4, d4, C8, d8, rfl, z0, z1, z2, z3, z4, z5, z6, z7, z8, HRX⟩ := row_at (x := x) HRH3.out.2.2.2.1 HRH3.out.1 e2 (by rw [aL_length]; omega) (by rw [hx]; exact aL_get xs (by omega))
                            have HX := Aside0.mk hx
                            clear hx
                            go_wp2_with (first | (at_builtin; refine own_append_rows (R := RN w) (w.heap.size + 1) rfl _ _ 37 59 _ 9 112 rfl Try.underlying37 infoN rfl (by omega) (by omega) u7 hl3 [x] (some ⟨wr.heap.size, 0, none⟩) 1 1 rfl (by show Value.slice _ 1 1 = _; simp) (OwnRow.below HRH3.out.2.1 (below_alloc (Below.refl _ _) _)) (reads1 HRX.out (Blk.new_ _ _ _ rfl rfl)) (fun _ _ h => h.2.1) (Below.refl _ _) (by simp; omega) (by omega) ?_; intro v1 w3 hown hB3 hg3 hat3; have HRH4 := Aside0.mk (rh_app HRH3.out (below_alloc (Below.refl _ _) _) hown hg3 hat3 (b' := b2) (e' := e2 + 1) (by rw [HX.out]; exact .answer HRH3.out.2.2.2.2.2.2 (by omega)) (Nat.le_refl _)); have hsz3 : w.heap.size < w3.heap.size := Nat.lt_of_lt_of_le (Nat.lt_trans hg5 (by simp)) hg3.size; clear hown hB3 hg3 hat3))
                            go_roundw
                            case rel => exact ⟨e2 + 1, hl3 ++ [x], by go_num, by omega, hsz3, HRH4⟩
                            case measure => simp [intOf]; omega
                          · have q1' : ¬ (e2 : Int) ≤ (i : Int) := by omega
                            go_wp2_with fail
                            go_roundw
                            case rel => exact ⟨b2, e2, i + 1, hl3, rfl, rfl, by go_num, by omega, by omega, by omega, hg5, HRH3⟩
                            case measure => simp [intOf]; omega
              · have hib3 : b = xs.length := by have := rh_small HRH.out hlen; omega
                subst hib3
                have h1 : ¬ (i : Int) < ((xs.length : Nat) : Int) := by omega
                go_wp2_with fail
                go_loopw [7, 16] (fun v7 v16 wr4 => ∃ (e2 : Nat) (hl3 : List Note), v16 = .int .i64 e2 ∧ e2 ≤ xs.length ∧ w.heap.size < wr4.heap.size ∧ Aside0 (RH w wr4 w.heap.size xs v7 (.slice A10 xs.length c10) (.slice A11 xs.length c11) xs.length e2 hl3)) (fun _ v16 _ => 200 - (intOf v16).toNat)
                case atStart => exact ⟨e, hl, rfl, by omega, hg3, HRH⟩
                case round =>
                  obtain ⟨e2, hl3, rfl, hei2, hg5, HRH3⟩ := hrel
                  have hsm := rh_small HRH3.out hlen
                  by_cases q1 : e2 < xs.length
                  · have he20 : (0 : Int) ≤ (e2 : Int) := by omega
                    have he21 : (e2 : Int) < ((xs.length : Nat) : Int) := by omega
                    obtain ⟨x, hx⟩ : ∃ x, x = aN xs e2 := ⟨_, rfl⟩
                    obtain ⟨cd, C4, d4, C8, d8, rfl, z0, z1, z2, z3, z4, z5, z6, z7, z8, HRX⟩ := row_at (x := x) HRH3.out.2.2.2.1 HRH3.out.1 e2 (by rw [aL_length]; omega) (by rw [hx]; exact aL_get xs (by omega))
                    have HX := Aside0.mk hx
                    clear hx
                    go_wp2_with (first | (at_builtin; refine own_append_rows (R := RN w) (w.heap.size + 1) rfl _ _ 37 59 _ 9 112 rfl Try.underlying37 infoN rfl (by omega) (by omega) u7 hl3 [x] (some ⟨wr.heap.size, 0, none⟩) 1 1 rfl (by show Value.slice _ 1 1 = _; simp) (OwnRow.below HRH3.out.2.1 (below_alloc (Below.refl _ _) _)) (reads1 HRX.out (Blk.new_ _ _ _ rfl rfl)) (fun _ _ h => h.2.1) (Below.refl _ _) (by simp; omega) (by omega) ?_; intro v1 w3 hown hB3 hg3 hat3; have HRH4 := Aside0.mk (rh_app HRH3.out (below_alloc (Below.refl _ _) _) hown hg3 hat3 (b' := xs.length) (e' := e2 + 1) (by rw [HX.out]; exact .answer HRH3.out.2.2.2.2.2.2 (by omega)) (Nat.le_refl _)); have hsz3 : w.heap.size < w3.heap.size := Nat.lt_of_lt_of_le (Nat.lt_trans hg5 (by simp)) hg3.size; clear hown hB3 hg3 hat3))
                    go_roundw
                    case rel => exact ⟨e2 + 1, hl3 ++ [x], by go_num, by omega, hsz3, HRH4⟩
                    case measure => simp [intOf]; omega
                  · obtain rfl : e2 = xs.length := by omega
                    have q1' : ¬ ((xs.length : Nat) : Int) < ((xs.length : Nat) : Int) := by omega
                    go_wp2_with fail
                    have hl12 : hl3.length ≤ 12 := hsm.2.2.2
                    clear hsm
                    obtain ⟨hb7, h7, _, _, _, _, hint⟩ := HRH3.out
                    have hbase := row_base h7 (Nat.le_refl _)
                    obtain ⟨A7, c7, rfl, hl7, hC7⟩ := OwnRow.reads (OwnRow.imp_ h7 (fun _ _ h => h.2.2 wr hb7))
                    have HB7 := Aside0.mk hb7
                    have H7 := Aside0.mk h7
                    have HC7 := Aside0.mk hC7
                    have HIN := Aside0.mk hint
                    have HBD := Aside0.mk (inter_bd HV2.out.2 hint)
                    have HBS := Aside0.mk hbase
                    clear hb7 h7 hC7 hint hbase
                    have HLI := Aside0.mk (linear_calls A7 c7 hl3 wr HC7.out (by omega) hl7 HBD.out (fun key => Nat.le_trans (dTo_length key _ _) (by omega)))
                    refine HLI.out.mono ?_
                    rintro e' w4 ⟨b', cc, rfl, hsp, hb4⟩
                    obtain ⟨rfl, rfl⟩ := Inter.linear HIN.out hlen HV2.out.1 hsp
                    have HB4 := Aside0.mk hb4
                    clear hsp hb4 HLI
                    have HSA := Aside0.mk (same_calls A7 A7 c7 c7 hl3 hl3 w4 (Kd.C_below HC7.out HB4.out) (Kd.C_below HC7.out HB4.out) (by omega))
                    rw [allSame_refl] at HSA
                    go_wp2_with fail
                    refine HSA.out.mono ?_
                    rintro e' w5 ⟨rfl, hb5⟩
                    have HB5 := Aside0.mk (below_step HB4.out hb5)
                    clear hb5 HSA
                    have hcv := Go.Lib.run_convert_bytes_const (P := Try.prog) w5 26 5 #[.int .u8 119, .int .u8 104, .int .u8 97, .int .u8 116, .int .u8 32, .int .u8 119, .int .u8 97, .int .u8 115, .int .u8 32, .int .u8 110, .int .u8 101, .int .u8 118, .int .u8 101, .int .u8 114, .int .u8 32, .int .u8 119, .int .u8 114, .int .u8 105, .int .u8 116, .int .u8 116, .int .u8 101, .int .u8 110, .int .u8 32, .int .u8 104, .int .u8 101, .int .u8 114, .int .u8 101] 27 27 Try.underlying26 Try.underlying5
                    have hs5 : w.heap.size < w5.heap.size := Nat.lt_of_lt_of_le hg5 HB5.out.size
                    have HRL := Aside0.mk (Row.lt H7.out)
                    have HO2 : Aside0 (∀ o o2, OwnRow (RFN ((w5.alloc o).alloc o2) (Value.slice A7 hl3.length c7).ownBlock) 59 9 ((w5.alloc o).alloc o2) (w.heap.size + 1) (.slice A7 hl3.length c7) hl3) := ⟨fun o o2 => OwnRow.imp_ (OwnRow.below H7.out (below_alloc (below_alloc HB5.out _) _)) (fun _ _ h => rn_rfn h (below_step HB7.out (below_alloc (below_alloc HB5.out _) _)) HBS.out)⟩
                    have HR2 : Aside0 (∀ fr, ReadsRow (RFN ((w5.alloc (.cells neverV.toArray 5 fr)).alloc (.cells (cells_ 50 1 kk none 0 0 ++ RunsB.acs 50 true (some ⟨w5.heap.size, 0, none⟩) 27 27).toArray 59)) (Value.slice A7 hl3.length c7).ownBlock) 9 ((w5.alloc (.cells neverV.toArray 5 fr)).alloc (.cells (cells_ 50 1 kk none 0 0 ++ RunsB.acs 50 true (some ⟨w5.heap.size, 0, none⟩) 27 27).toArray 59)) (some ⟨w5.heap.size + 1, 0, none⟩) 2 [c50, a50]) := ⟨fun fr => reads2' (rfn_c50 _ _) rfl (rfn_a50 (g := w5.heap.size) never_C (fun e => by have := HRL.out _ e.symm; have := HB5.out.size; omega)) rfl (Blk.new_ _ _ _ (by simp) rfl)⟩
                    have HBB : Aside0 (∀ o o2, Below w.heap.size w ((w5.alloc o).alloc o2)) := ⟨fun o o2 => below_step HB7.out (below_alloc (below_alloc HB5.out _) _)⟩
                    go_wp2_with (first | (at_builtin; refine own_append_rows (R := RFN _ (Value.slice A7 hl3.length c7).ownBlock) (w.heap.size + 1) rfl _ _ 37 59 _ 9 112 rfl Try.underlying37 infoN rfl (by omega) (by omega) (.slice A7 hl3.length c7) hl3 [c50, a50] (some ⟨w5.heap.size + 1, 0, none⟩) 2 2 rfl (by show Value.slice _ 2 2 = _; simp) (HO2.out _ _) (HR2.out (27, 28)) (fun _ _ h => h.one) (Below.refl _ _) (by simp; omega) (by omega) ?_; intro v1 w6 hown hB6 hg6 hat6; have HOW := Aside0.mk (OwnRow.imp_ hown (fun _ _ h => RFN.grown h hg6 hat6)); have HB6 := Aside0.mk (Below.grown (HBB.out _ _) hg6 (HBB.out _ _).size HBS.out); clear hown hB6 hg6 hat6))
                    obtain ⟨A8, c8, rfl, hl8, hC8⟩ := OwnRow.reads (OwnRow.imp_ HOW.out (fun _ _ h => Kd.FK_now h.2))
                    have HC8 := Aside0.mk hC8
                    have HL8 := Aside0.mk hl8
                    have hle8 : (hl3 ++ [c50, a50]).length ≤ 14 := by rw [List.length_append]; simp; omega
                    have HLI := Aside0.mk (linear_calls A8 c8 (hl3 ++ [c50, a50]) w6 HC8.out (by omega) HL8.out (bd2 HBD.out) (fun key => Nat.le_trans (dTo_length key _ _) (by omega)))
                    clear hC8 hl8 hle8
                    refine HLI.out.mono ?_
                    rintro e' w7 ⟨b', cc, rfl, hsp, hb7⟩
                    obtain ⟨rfl, rfl⟩ := Inter.linear2 HIN.out hlen HV2.out.2 hsp
                    have HB7' := Aside0.mk (below_step HB6.out hb7)
                    clear hsp hb7 HLI
                    go_wp2_with (first | ((with_reducible refine (known_true _).mono ?_); rintro e w8 ⟨rfl, hb8⟩; have HB8 := Aside0.mk hb8; clear hb8))
                    go_ret
                    exact ⟨rfl, below_step HB7'.out HB8.out⟩
theorem bd_any {α : Type} {B : Nat} {Bd : α → Prop} {l : List α} (h : BdS B Bd l) (hB : 0 < B) : l.length ≤ 140737488355328 := by
  have h1 := h.1
  have := Nat.le_mul_of_pos_right l.length hB
  omega
end RunsW
end Go.Proofs.Ytgconogjnjhmgaa
