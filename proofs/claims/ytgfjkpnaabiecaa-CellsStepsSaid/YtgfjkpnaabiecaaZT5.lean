/- Lemmas for the row (words on memory, contracts of the program's functions): RefTB, RefTC, RefTD, RefTE, RefTF. -/
import Derived.Deep.QuietTactic
import Derived.BigQuiet
import Derived.Test.YtgfjkpnaabiecaaZT4
set_option linter.unusedVariables false
set_option linter.unusedSimpArgs false
namespace Go.Proofs.Ytgfjkpnaabiecaa
open Go.RowKit Go.Proofs.YtgfjkpnaabiecaaW.PrintWords
namespace RTab
open Tags Tab
theorem erase_at {l : List Cell} {i : Nat} {u : Cell} (h : l[i]? = some u) : (l.take (i + 1)).eraseIdx i = (l.take i).eraseIdx i := by
  have hl := (List.getElem?_eq_some_iff.1 h).1
  have hlen : (l.take i).length = i := by rw [List.length_take]; omega
  rw [List.take_add_one, h, List.eraseIdx_append_of_length_le (by omega), hlen]
  simp
  rw [List.eraseIdx_of_length_le (by omega)]
theorem erase_far {l : List Cell} {i k : Nat} {u : Cell} (h : l[i]? = some u) (hk : i ≠ k) : (l.take (i + 1)).eraseIdx k = (l.take i).eraseIdx k ++ [u] := by
  have hl := (List.getElem?_eq_some_iff.1 h).1
  have hlen : (l.take i).length = i := by rw [List.length_take]; omega
  rw [List.take_add_one, h]
  rcases Nat.lt_or_ge k i with hki | hki
  · rw [List.eraseIdx_append_of_lt_length (by omega)]; rfl
  · rw [List.eraseIdx_append_of_length_le (by omega), hlen, List.eraseIdx_of_length_le (l := l.take i) (by omega)]
    rw [show (Option.some u).toList = [u] from rfl, List.eraseIdx_of_length_le (by simp; omega)]
/-- Element k of a row that was there at first. -/
theorem cell_at {w w1 : World} {ok : Nat → Prop} {A : Option Addr} {n : Nat} {xs : List Cell} (h : Kd.F Cell.k w ok A n xs) (hb : Below w.heap.size w w1) (k : Nat) (h1 : k < n) : ∃ ad x A5 c5, A = some ad ∧ Aside0 (xs[k]? = some x) ∧ w1.cell? (ad.add (k * 9)) = some (.string x.e.key) ∧ w1.cell? ⟨(ad.add (k * 9)).block, (ad.add (k * 9)).off + 1, none⟩ = some (.int .i64 x.e.tag.seq) ∧ w1.cell? ⟨(ad.add (k * 9)).block, (ad.add (k * 9)).off + 2, none⟩ = some (.int .i64 x.e.tag.who) ∧ w1.cell? ⟨(ad.add (k * 9)).block, (ad.add (k * 9)).off + 3, none⟩ = some (.int .i64 x.e.tag.op) ∧ w1.cell? ⟨(ad.add (k * 9)).block, (ad.add (k * 9)).off + 4, none⟩ = some (.bool x.e.val.has) ∧ w1.cell? ⟨(ad.add (k * 9)).block, (ad.add (k * 9)).off + 5, none⟩ = some (.slice A5 x.e.val.b.length c5) ∧ w1.cell? ⟨(ad.add (k * 9)).block, (ad.add (k * 9)).off + 6, none⟩ = some (.bool x.whole) ∧ w1.cell? ⟨(ad.add (k * 9)).block, (ad.add (k * 9)).off + 7, none⟩ = some (.bool x.clean) ∧ w1.cell? ⟨(ad.add (k * 9)).block, (ad.add (k * 9)).off + 8, none⟩ = some (.int .i64 x.used) ∧ Aside0 (Kd.FK Cell.k w ok x (ccs x A5 c5)) := by
  have hl : xs.length = n := Kd.F_len h
  obtain ⟨ad, c, e, _, hK, hc0, _⟩ := Kd.F_get h Cell.z (k : Int) (by omega) (by omega)
  have hc : ∀ j u, c[j]? = some u → w1.cell? (ad.add (k * 9 + j)) = some u := fun j u hu => pw_cell_below hb (hc0 j u hu)
  have hx : xs[k]? = some (xs.getD k Cell.z) := by simp [List.getD_eq_getElem?_getD, show k < xs.length by omega]
  have hK' : Kd.FK Cell.k w ok (xs.getD k Cell.z) c := hK
  generalize xs.getD k Cell.z = x at hK' hx
  obtain ⟨A5, c5, rfl, _⟩ := Cell.open_ (Kd.FK_now hK')
  exact ⟨ad, x, A5, c5, e, ⟨hx⟩, hc 0 _ rfl, by rw [← add_field _ _ 1 (by omega)]; exact hc 1 _ rfl, by rw [← add_field _ _ 2 (by omega)]; exact hc 2 _ rfl, by rw [← add_field _ _ 3 (by omega)]; exact hc 3 _ rfl, by rw [← add_field _ _ 4 (by omega)]; exact hc 4 _ rfl, by rw [← add_field _ _ 5 (by omega)]; exact hc 5 _ rfl, by rw [← add_field _ _ 6 (by omega)]; exact hc 6 _ rfl, by rw [← add_field _ _ 7 (by omega)]; exact hc 7 _ rfl, by rw [← add_field _ _ 8 (by omega)]; exact hc 8 _ rfl, ⟨hK'⟩⟩
/-- Seven cells of a block are written. -/
def set7 (w : World) (b : Nat) (v0 v1 v2 v3 v4 v5 v6 : Value) : World :=
  ((((((w.setCell ⟨b, 0, none⟩ v0).setCell ⟨b, 1, none⟩ v1).setCell ⟨b, 2, none⟩ v2).setCell ⟨b, 3, none⟩ v3).setCell ⟨b, 4, none⟩ v4).setCell ⟨b, 5, none⟩ v5).setCell ⟨b, 6, none⟩ v6
theorem set7_only (w : World) (b : Nat) (v0 v1 v2 v3 v4 v5 v6 : Value) : Only [b] w (set7 w b v0 v1 v2 v3 v4 v5 v6) :=
  ((((((((Only.refl [b] w).set (p := ⟨b, 0, none⟩) _ (.inl (by simp))).set (p := ⟨b, 1, none⟩) _ (.inl (by simp))).set (p := ⟨b, 2, none⟩) _ (.inl (by simp))).set (p := ⟨b, 3, none⟩) _ (.inl (by simp))).set (p := ⟨b, 4, none⟩) _ (.inl (by simp))).set (p := ⟨b, 5, none⟩) _ (.inl (by simp))).set (p := ⟨b, 6, none⟩) _ (.inl (by simp)))
theorem set7_blk {w : World} {b : Nat} {u0 u1 u2 u3 u4 u5 u6 : Value} (h : Blk w b [u0, u1, u2, u3, u4, u5, u6]) (v0 v1 v2 v3 v4 v5 v6 : Value) : Blk (set7 w b v0 v1 v2 v3 v4 v5 v6) b [v0, v1, v2, v3, v4, v5, v6] :=
  ((((((h.set 0 v0).set 1 v1).set 2 v2).set 3 v3).set 4 v4).set 5 v5).set 6 v6
/-- What a function leaves that makes a table out of one. -/
def MadeT (w : World) (ok : Nat → Prop) (T : Tb) (e : Ending) (w' : World) : Prop :=
  ∃ A c B d, e = .returned (.agg (rtc T A c B d).toArray) ∧ RT w' (fun i => ok i ∨ w.heap.size ≤ i) T A c B d ∧ Below w.heap.size w w'
set_option maxRecDepth 100000 in
set_option maxHeartbeats 1000000 in
theorem without_calls (T : Tb) (A : Option Addr) (c : Nat) (B : Option Addr) (d : Nat) (at_ : Nat) (ok : Nat → Prop) (w : World) (h : RT w ok T A c B d) (hl : T.l.length ≤ 1000000) :
    Calls Try.prog 82 #[.agg (rtc T A c B d).toArray, .int .i64 (at_ : Int)] w (MadeT w ok { T with l := T.l.eraseIdx at_ }) := by
  obtain ⟨okb, hok⟩ : ∃ k : Nat → Prop, k = fun i => ok i ∧ i < w.heap.size := ⟨_, rfl⟩
  have HT : Aside0 (RT w okb T A c B d) := ⟨by rw [hok]; exact h.bound⟩
  have HOK : Aside0 (∀ i, okb i → ok i ∧ i < w.heap.size) := ⟨fun i hi => by rw [hok] at hi; exact hi⟩
  obtain ⟨⟨ra, rz, rc, rd⟩, l, tok, us⟩ := T
  dsimp only [rtc] at *
  clear h hok
  go_enter Try.func82, Try.ntmps82
  go_upto_region 3 with (fail)
  generalize hX : World.alloc _ _ = W0
  have HB0 : Aside0 (Below w.heap.size w W0) := ⟨by rw [← hX]; exact below_alloc (below_alloc (Below.refl _ _) _) _⟩
  have HX : Aside0 (Blk W0 w.heap.size [.int .i64 ra, .int .i64 rz, .int .i64 rc, .bool rd, .slice A l.length c, .slice B tok.length d, .int .i64 us] ∧ Blk W0 (w.heap.size + 1) [.int .i64 0, .int .i64 0, .int .i64 0, .bool false, .slice none 0 0, .slice none 0 0, .int .i64 0]) := ⟨by rw [← hX]; exact ⟨(Blk.new_ _ _ _ rfl rfl).alloc _, Blk.new_ _ _ _ (by simp) rfl⟩⟩
  obtain ⟨x0, x1, x2, x3, x4, x5, x6⟩ := (seven HX.out.1).1
  have HT0 := Aside0.mk (HT.out.below HB0.out)
  have hs2 : w.heap.size + 2 ≤ W0.heap.size := by have := HX.out.2.lt; omega
  clear hX
  go_loopg [5, 6] l.length (fun gk v5 v wr => ∃ i : Nat, v = .int .i64 (i : Int) ∧ i ≤ l.length ∧ Aside0 (gk + i = l.length) ∧ Aside0 (Grow Cell.k 47 okb W0.heap.size W0 wr v5 ((l.take i).eraseIdx at_)))
  case atStart => exact ⟨0, rfl, Nat.zero_le _, ⟨rfl⟩, ⟨by simpa using Grow.start 47 Cell.k okb W0⟩⟩
  case round =>
    obtain ⟨i, rfl, hi, HG, HR⟩ := hrel
    have hbw : Below W0.heap.size W0 wr := HR.out.bl
    have x4 := pw_cell_below hbw x4
    have HBW := Aside0.mk hbw
    clear hbw
    by_cases hlt : i < l.length
    · have hltI : (i : Int) < (l.length : Int) := by omega
      by_cases hat : i = at_
      · have hb1 : ((i : Int) != (at_ : Int)) = false := by rw [hat]; simp
        have hb2 : ((i : Int) == (at_ : Int)) = true := by rw [hat]; simp
        have HE : Aside0 ((l.take (i + 1)).eraseIdx at_ = (l.take i).eraseIdx at_) := ⟨by subst hat; exact erase_at (List.getElem?_eq_getElem hlt)⟩
        clear hat
        go_wp2
        go_roundg (l.length - (i + 1))
        case measure => have := HG.out; omega
        case rel => exact ⟨i + 1, by go_num, by omega, ⟨by omega⟩, ⟨by rw [HE.out]; exact HR.out⟩⟩
      · have hb1 : ((i : Int) != (at_ : Int)) = true := by simpa using (show ¬ (i : Int) = (at_ : Int) by omega)
        have hb2 : ((i : Int) == (at_ : Int)) = false := by simpa using (show ¬ (i : Int) = (at_ : Int) by omega)
        obtain ⟨a1, u, A5, c5, rfl, HU, y0, y1, y2, y3, y4, y5, y6, y7, y8, HFK⟩ := RTab.cell_at HT0.out.l HBW.out i hlt
        have HE : Aside0 ((l.take (i + 1)).eraseIdx at_ = (l.take i).eraseIdx at_ ++ [u]) := ⟨erase_far HU.out hat⟩
        have hll : ((l.take i).eraseIdx at_).length ≤ 1000000 := by
          have h1 := List.length_eraseIdx_le (l.take i) at_
          rw [List.length_take] at h1
          omega
        have HLL := Aside0.mk hll
        clear hat hll
        go_wp2_with (first | (at_builtin; refine Grow.push (cells := (ccs u A5 c5).toArray) rfl _ _ 44 _ 88 rfl Try.underlying44 infoCell rfl (by decide) (by omega) HR.out (HR.out.elem rfl HFK.out) rfl rfl (by have := HLL.out; omega) ?_; intro v1 w9 hG9; have HG9 := Aside0.mk hG9; clear hG9))
        go_roundg (l.length - (i + 1))
        case measure => have := HG.out; omega
        case rel => exact ⟨i + 1, by go_num, by omega, ⟨by omega⟩, ⟨by rw [HE.out]; exact HG9.out⟩⟩
    · obtain rfl : i = l.length := by omega
      rw [List.take_length] at HR
      obtain ⟨A', c', rfl, hc', hF⟩ := HR.out.foot
      have HFF := Aside0.mk (And.intro hc' hF)
      clear hc' hF
      have HXW := Aside0.mk (And.intro (HX.out.1.on HBW.out) (HX.out.2.on HBW.out))
      clear x0 x1 x2 x3 x4 x5 x6
      obtain ⟨⟨x0, x1, x2, x3, x4, x5, x6⟩, f0, f1, f2, f3, f4, f5, f6⟩ := seven HXW.out.1
      obtain ⟨⟨r0, r1, r2, r3, r4, r5, r6⟩, g0, g1, g2, g3, g4, g5, g6⟩ := seven HXW.out.2
      have hne : w.heap.size + 1 ≠ w.heap.size := by omega
      go_wp2
      generalize hW9 : World.setCell _ _ _ = W9
      have h9 := set7_blk (HXW.out.2.set_far (g := w.heap.size) (by omega) 4 (.slice A' (l.eraseIdx at_).length c')) (.int .i64 ra) (.int .i64 rz) (.int .i64 rc) (.bool rd) (.slice A' (l.eraseIdx at_).length c') (.slice B tok.length d) (.int .i64 us)
      have hO9 := set7_only (wr.setCell ⟨w.heap.size, 4, none⟩ (.slice A' (l.eraseIdx at_).length c')) (w.heap.size + 1) (.int .i64 ra) (.int .i64 rz) (.int .i64 rc) (.bool rd) (.slice A' (l.eraseIdx at_).length c') (.slice B tok.length d) (.int .i64 us)
      rw [show set7 (wr.setCell ⟨w.heap.size, 4, none⟩ (.slice A' (l.eraseIdx at_).length c')) (w.heap.size + 1) (.int .i64 ra) (.int .i64 rz) (.int .i64 rc) (.bool rd) (.slice A' (l.eraseIdx at_).length c') (.slice B tok.length d) (.int .i64 us) = W9 from hW9] at h9 hO9
      clear hW9
      have HO9 := Aside0.mk hO9
      obtain ⟨z0, z1, z2, z3, z4, z5, z6⟩ := (seven h9).1
      clear h9 hO9
      refine bodyPost_ret (v := .agg #[.int .i64 ra, .int .i64 rz, .int .i64 rc, .bool rd, .slice A' (l.eraseIdx at_).length c', .slice B tok.length d, .int .i64 us]) (by simp [results, Try.results82, go_sem, z0, z1, z2, z3, z4, z5, z6]; try rfl) rfl ?_
      have hO := (((Only.refl [w.heap.size, w.heap.size + 1] wr).set (p := ⟨w.heap.size, 4, none⟩) (.slice A' (l.eraseIdx at_).length c') (.inl (by simp))).trans (HO9.out.mono (fun i hi => .inl (by simp at hi ⊢; omega))))
      have hTw := (HT.out.below HB0.out).below (HBW.out)
      have hnn : ∀ i, okb i → i ∉ [w.heap.size, w.heap.size + 1] := fun i hi hm => by have := HOK.out i hi; simp at hm; omega
      refine ⟨A', c', B, d, rfl, ⟨?_, ?_, HFF.out.1, hTw.kc⟩, ?_⟩
      · exact Kd.F_mono (Foot.only HFF.out.2 hO (fun i hi => by rcases hi with hi | hi; exact hnn i hi; intro hm; simp at hm; omega)) (fun i hi => by rcases hi with hi | hi; exact .inl (HOK.out i hi).1; right; omega)
      · exact Kd.F_mono (Foot.only hTw.k hO hnn) (fun i hi => .inl (HOK.out i hi).1)
      · exact ((Only.of_below [w.heap.size, w.heap.size + 1] (Below.then_ HB0.out HBW.out (Nat.le_refl _))).trans hO).below (by intro i hi; simp at hi; omega) (Nat.le_refl _)
theorem put_at {l : List Cell} {c : Cell} {i : Nat} (h : ∀ x ∈ l.take i, kl x < kl c) (hi : i ≤ l.length) :
    (i = l.length → put l c = l.take i ++ [c] ++ l.drop i) ∧ (∀ u, l[i]? = some u → u.e.key = c.e.key → put l c = l.take i ++ [c] ++ l.drop (i + 1)) ∧ (∀ u, l[i]? = some u → ¬ kl u < kl c → u.e.key ≠ c.e.key → put l c = l.take i ++ [c] ++ l.drop i) := by
  induction l generalizing i with
  | nil =>
    have : i = 0 := by simpa using hi
    subst this
    exact ⟨fun _ => rfl, fun u hu => by simp at hu, fun u hu => by simp at hu⟩
  | cons x r ih =>
    cases i with
    | zero =>
      refine ⟨fun e => by simp at e, fun u hu he => ?_, fun u hu hn he => ?_⟩
      · simp at hu; subst hu; unfold put; rw [if_pos he]; rfl
      · simp at hu; subst hu; unfold put; rw [if_neg he, if_pos (lt_of hn (fun e => he (key_ext e)))]; rfl
    | succ i =>
      have hx : kl x < kl c := h x (by simp)
      have hne : x.e.key ≠ c.e.key := ne_of hx
      have hnl : ¬ kl c < kl x := fun e => lt_irr _ (lt_tr hx e)
      have hp : put (x :: r) c = x :: put r c := by conv => lhs; unfold put
                                                    rw [if_neg hne, if_neg hnl]
      obtain ⟨a1, a2, a3⟩ := ih (i := i) (fun y hy => h y (by simp; exact .inr hy)) (by simpa using hi)
      refine ⟨fun e => ?_, fun u hu he => ?_, fun u hu hn he => ?_⟩
      · rw [hp, a1 (by simpa using e)]; simp
      · rw [hp, a2 u (by simpa using hu) he]; simp
      · rw [hp, a3 u (by simpa using hu) hn he]; simp
theorem less_eq (a b : ByteArray) : Op.bytesLess a.toList b.toList = decide (a.data.toList < b.data.toList) := by
  rw [bytesLess_eq, ByteArray.toList_eq, ByteArray.toList_eq]
set_option maxRecDepth 100000 in
set_option maxHeartbeats 2000000 in
theorem with_calls (T : Tb) (A : Option Addr) (c : Nat) (B : Option Addr) (d : Nat) (cl : Cell) (A5 : Option Addr) (c5 : Nat) (ok : Nat → Prop) (w : World) (h : RT w ok T A c B d) (hc : Kd.FK Cell.k w ok cl (ccs cl A5 c5)) (hl : T.l.length ≤ 1000000) :
    Calls Try.prog 71 #[.agg (rtc T A c B d).toArray, .agg (ccs cl A5 c5).toArray] w (MadeT w ok { T with l := put T.l cl }) := by
  obtain ⟨okb, hok⟩ : ∃ k : Nat → Prop, k = fun i => ok i ∧ i < w.heap.size := ⟨_, rfl⟩
  have HT : Aside0 (RT w okb T A c B d) := ⟨by rw [hok]; exact h.bound⟩
  have HCL : Aside0 (Kd.FK Cell.k w okb cl (ccs cl A5 c5)) := ⟨by rw [hok]; exact Foot.bound hc⟩
  have HOK : Aside0 (∀ i, okb i → ok i ∧ i < w.heap.size) := ⟨fun i hi => by rw [hok] at hi; exact hi⟩
  obtain ⟨⟨ra, rz, rc, rd⟩, l, tok, us⟩ := T
  dsimp only [rtc, ccs] at *
  clear h hc hok
  go_enter Try.func71, Try.ntmps71
  go_upto_block 0 with (fail)
  generalize hX : World.alloc _ _ = W0
  have HB0 : Aside0 (Below w.heap.size w W0) := ⟨by rw [← hX]; exact below_alloc (below_alloc (below_alloc (Below.refl _ _) _) _) _⟩
  have HX : Aside0 (Blk W0 w.heap.size [.int .i64 ra, .int .i64 rz, .int .i64 rc, .bool rd, .slice A l.length c, .slice B tok.length d, .int .i64 us] ∧ Blk W0 (w.heap.size + 2) [.int .i64 0, .int .i64 0, .int .i64 0, .bool false, .slice none 0 0, .slice none 0 0, .int .i64 0] ∧ Blk W0 (w.heap.size + 1) (ccs cl A5 c5)) := ⟨by rw [← hX]; exact ⟨((Blk.new_ _ _ _ rfl rfl).alloc _).alloc _, Blk.new_ _ _ _ (by simp) rfl, (Blk.new_ _ _ _ (by simp) rfl).alloc _⟩⟩
  obtain ⟨x0, x1, x2, x3, x4, x5, x6⟩ := (seven HX.out.1).1
  obtain ⟨⟨k0, k1, k2, k3, k4, k5, k6, k7, k8⟩, _⟩ := HX.out.2.2.nine
  have HT0 := Aside0.mk (HT.out.below HB0.out)
  have HCL0 : Aside0 (Kd.FK Cell.k W0 okb cl (ccs cl A5 c5)) := ⟨Foot.step HCL.out (fun i _ hlt => HB0.out.block i hlt)⟩
  have hs2 : w.heap.size + 3 ≤ W0.heap.size := by have := HX.out.2.1.lt; omega
  clear hX
  go_cut [5, 6] (fun v5 v6 wx => ∃ i : Nat, v6 = .int .i64 (i : Int) ∧ i ≤ l.length ∧ Aside0 (Grow Cell.k 47 okb W0.heap.size W0 wx v5 (l.take i)) ∧ Aside0 (∀ x ∈ l.take i, kl x < kl cl) ∧ Aside0 (∀ u, l[i]? = some u → ¬ kl u < kl cl))
  case first =>
    go_wp2
    go_loopg [5, 6] l.length (fun gk v5 v wr => ∃ i : Nat, v = .int .i64 (i : Int) ∧ i ≤ l.length ∧ Aside0 (gk + i = l.length) ∧ Aside0 (Grow Cell.k 47 okb W0.heap.size W0 wr v5 (l.take i)) ∧ Aside0 (∀ x ∈ l.take i, kl x < kl cl))
    case atStart => exact ⟨0, rfl, Nat.zero_le _, ⟨rfl⟩, ⟨by simpa using Grow.start 47 Cell.k okb W0⟩, ⟨by simp⟩⟩
    case round =>
      obtain ⟨i, rfl, hi, HG, HR, HLT⟩ := hrel
      have HBW := Aside0.mk HR.out.bl
      have x4 := pw_cell_below HBW.out x4
      have k0 := pw_cell_below HBW.out k0
      by_cases hlt : i < l.length
      · have hltI : (i : Int) < (l.length : Int) := by omega
        obtain ⟨a1, u, A6, c6, rfl, HU, y0, y1, y2, y3, y4, y5, y6, y7, y8, HFK⟩ := RTab.cell_at HT0.out.l HBW.out i hlt
        by_cases hk : kl u < kl cl
        · have hb : Op.bytesLess u.e.key.toList cl.e.key.toList = true := by rw [less_eq]; exact decide_eq_true hk
          have HTK : Aside0 (l.take (i + 1) = l.take i ++ [u]) := ⟨by rw [List.take_add_one, HU.out]; rfl⟩
          have HLT1 : Aside0 (∀ x ∈ l.take (i + 1), kl x < kl cl) := ⟨fun x hx => by
            rw [HTK.out, List.mem_append] at hx
            rcases hx with hx | hx
            · exact HLT.out x hx
            · simp at hx; subst hx; exact hk⟩
          clear hk
          have HLL : Aside0 ((l.take i).length ≤ 1000000) := ⟨by rw [List.length_take]; omega⟩
          go_upto_region 3 with (fail)
          go_quiet (fail)
          have HR2 : Aside0 (Grow Cell.k 47 okb W0.heap.size W0 (wr.drewN nq) u5 (l.take i)) := ⟨HR.out.below (pw_below_drewN (Below.refl _ _) _)⟩
          go_wp2_with (first | (at_builtin; refine Grow.push (cells := (ccs u A6 c6).toArray) rfl _ _ 44 _ 88 rfl Try.underlying44 infoCell rfl (by decide) (by omega) HR2.out (HR2.out.elem rfl HFK.out) rfl rfl (by have := HLL.out; omega) ?_; intro v1 w9 hG9; have HG9 := Aside0.mk hG9; clear hG9))
          go_roundg (l.length - (i + 1))
          case measure => have := HG.out; omega
          case rel => exact ⟨i + 1, by go_num, by omega, ⟨by omega⟩, ⟨by rw [HTK.out]; exact HG9.out⟩, HLT1⟩
        · have hb : Op.bytesLess u.e.key.toList cl.e.key.toList = false := by rw [less_eq]; exact decide_eq_false hk
          have HGE : Aside0 (∀ u', l[i]? = some u' → ¬ kl u' < kl cl) := ⟨fun u' hu' => by rw [HU.out] at hu'; injection hu' with hu'; rw [← hu']; exact hk⟩
          clear hk
          go_upto_region 3 with (fail)
          go_quiet (fail)
          go_wp2
          go_meet
          exact ⟨i, rfl, hi, ⟨HR.out.below (pw_below_drewN (Below.refl _ _) _)⟩, HLT, HGE⟩
      · obtain rfl : i = l.length := by omega
        go_upto_region 3 with (fail)
        go_quiet (fail)
        go_wp2
        go_meet
        exact ⟨l.length, rfl, hi, ⟨HR.out.below (pw_below_drewN (Below.refl _ _) _)⟩, HLT, ⟨fun u hu => by simp at hu⟩⟩
  case rest =>
    obtain ⟨i, rfl, hi, HR, HLT, HGE⟩ := hcut
    have HBW := Aside0.mk HR.out.bl
    have k0 := pw_cell_below HBW.out k0
    have k1 := pw_cell_below HBW.out k1
    have k2 := pw_cell_below HBW.out k2
    have k3 := pw_cell_below HBW.out k3
    have k4 := pw_cell_below HBW.out k4
    have k5 := pw_cell_below HBW.out k5
    have k6 := pw_cell_below HBW.out k6
    have k7 := pw_cell_below HBW.out k7
    have k8 := pw_cell_below HBW.out k8
    have HLL : Aside0 ((l.take i).length ≤ 1000000) := ⟨by rw [List.length_take]; omega⟩
    go_upto_region 7 with (first | (at_builtin; refine Grow.push (cells := (ccs cl A5 c5).toArray) rfl _ _ 44 _ 88 rfl Try.underlying44 infoCell rfl (by decide) (by omega) HR.out (HR.out.elem rfl HCL0.out) rfl rfl (by have := HLL.out; omega) ?_; intro v1 w7 hG7; have HG7 := Aside0.mk hG7; clear hG7))
    have HB7 := Aside0.mk HG7.out.bl
    clear x0 x1 x2 x3 x4 x5 x6 k0 k1 k2 k3 k4 k5 k6 k7 k8
    obtain ⟨⟨x0, x1, x2, x3, x4, x5, x6⟩, _⟩ := seven (HX.out.1.on HB7.out)
    obtain ⟨⟨k0, k1, k2, k3, k4, k5, k6, k7, k8⟩, _⟩ := (HX.out.2.2.on HB7.out).nine
    by_cases hlt : i < l.length
    · have hltI : (i : Int) < (l.length : Int) := by omega
      obtain ⟨a1, u, A6, c6, rfl, HU, y0, y1, y2, y3, y4, y5, y6, y7, y8, HFK⟩ := RTab.cell_at HT0.out.l HB7.out i hlt
      by_cases hk : u.e.key = cl.e.key
      · have hb : (u.e.key.toList == cl.e.key.toList) = true := by rw [hk]; simp
        have HPA := Aside0.mk ((put_at HLT.out hi).2.1 u HU.out hk)
        clear hk
        go_quiet (fail)
        obtain ⟨Ac, hsl, hcF⟩ := Grow.cut_dropF (α := Cell) (t := 44) (e := 47) (kl := .i64) Try.underlying44 infoCell (some a1) l.length c (i + 1) (by omega)
        have hF0 := hcF Cell.k W0 okb l rfl rfl HT0.out.lc HT0.out.l
        skip
        have HCF := Aside0.mk hF0
        have HG8 := Aside0.mk (HG7.out.below (pw_below_drewN (Below.refl _ _) nq))
        have HPL : Aside0 (put l cl = l.take i ++ [cl] ++ l.drop (i + 1) ∧ (l.take i).length ≤ 1000000) := ⟨HPA.out, by rw [List.length_take]; omega⟩
        clear hcF hF0
        push_cast at hsl
        have HBX := Aside0.mk HG8.out.bl
        clear x0 x1 x2 x3 x4 x5 x6
        obtain ⟨⟨x0, x1, x2, x3, x4, x5, x6⟩, _⟩ := seven (HX.out.1.on HBX.out)
        go_upto_region 10 with (first | (at_builtin; refine Grow.cat rfl _ _ 44 _ 88 rfl Try.underlying44 infoCell rfl (by decide) (by omega) HG8.out _ Ac (l.length - (i + 1)) _ rfl rfl (HG8.out.rowR rfl HCF.out) (by have := HPL.out.2; rw [List.length_append]; simp only [List.length_singleton]; omega) ?_; intro v1 w9 hG9; have HG9 := Aside0.mk hG9; clear hG9))
        obtain ⟨A', c', rfl, hc', hF⟩ := HG9.out.foot
        rw [← HPL.out.1] at hc' hF ⊢
        have HFF := Aside0.mk (And.intro hc' hF)
        have HB9 := Aside0.mk HG9.out.bl
        clear hc' hF x0 x1 x2 x3 x4 x5 x6 hsl
        have HXW := Aside0.mk (And.intro (HX.out.1.on HB9.out) (HX.out.2.1.on HB9.out))
        obtain ⟨⟨x0, x1, x2, x3, x4, x5, x6⟩, f0, f1, f2, f3, f4, f5, f6⟩ := seven HXW.out.1
        obtain ⟨⟨r0, r1, r2, r3, r4, r5, r6⟩, g0, g1, g2, g3, g4, g5, g6⟩ := seven HXW.out.2
        have hne : w.heap.size + 2 ≠ w.heap.size := by omega
        go_wp2
        generalize hW9 : World.setCell _ _ _ = W9
        have h9 := set7_blk (HXW.out.2.set_far (g := w.heap.size) (by omega) 4 (.slice A' (put l cl).length c')) (.int .i64 ra) (.int .i64 rz) (.int .i64 rc) (.bool rd) (.slice A' (put l cl).length c') (.slice B tok.length d) (.int .i64 us)
        have hO9 := set7_only (w9.setCell ⟨w.heap.size, 4, none⟩ (.slice A' (put l cl).length c')) (w.heap.size + 2) (.int .i64 ra) (.int .i64 rz) (.int .i64 rc) (.bool rd) (.slice A' (put l cl).length c') (.slice B tok.length d) (.int .i64 us)
        rw [show set7 (w9.setCell ⟨w.heap.size, 4, none⟩ (.slice A' (put l cl).length c')) (w.heap.size + 2) (.int .i64 ra) (.int .i64 rz) (.int .i64 rc) (.bool rd) (.slice A' (put l cl).length c') (.slice B tok.length d) (.int .i64 us) = W9 from hW9] at h9 hO9
        clear hW9
        have HO9 := Aside0.mk hO9
        obtain ⟨z0, z1, z2, z3, z4, z5, z6⟩ := (seven h9).1
        clear h9 hO9
        refine bodyPost_ret (v := .agg #[.int .i64 ra, .int .i64 rz, .int .i64 rc, .bool rd, .slice A' (put l cl).length c', .slice B tok.length d, .int .i64 us]) (by simp [results, Try.results71, go_sem, z0, z1, z2, z3, z4, z5, z6]; try rfl) rfl ?_
        have hO := (((Only.refl [w.heap.size, w.heap.size + 2] w9).set (p := ⟨w.heap.size, 4, none⟩) (.slice A' (put l cl).length c') (.inl (by simp))).trans (HO9.out.mono (fun i hi => .inl (by simp at hi ⊢; omega))))
        have hTw := (HT.out.below HB0.out).below (HB9.out)
        have hnn : ∀ i, okb i → i ∉ [w.heap.size, w.heap.size + 2] := fun i hi hm => by have := HOK.out i hi; simp at hm; omega
        refine ⟨A', c', B, d, rfl, ⟨?_, ?_, HFF.out.1, hTw.kc⟩, ?_⟩
        · exact Kd.F_mono (Foot.only HFF.out.2 hO (fun i hi => by rcases hi with hi | hi; exact hnn i hi; intro hm; simp at hm; omega)) (fun i hi => by rcases hi with hi | hi; exact .inl (HOK.out i hi).1; right; omega)
        · exact Kd.F_mono (Foot.only hTw.k hO hnn) (fun i hi => .inl (HOK.out i hi).1)
        · exact ((Only.of_below [w.heap.size, w.heap.size + 2] (Below.then_ HB0.out HB9.out (Nat.le_refl _))).trans hO).below (by intro i hi; simp at hi; omega) (Nat.le_refl _)
      · have hb : (u.e.key.toList == cl.e.key.toList) = false := by simpa using StrRow.txt_ne hk
        have HPA := Aside0.mk ((put_at HLT.out hi).2.2 u HU.out (HGE.out u HU.out) hk)
        clear hk
        go_quiet (fail)
        obtain ⟨Ac, hsl, hcF⟩ := Grow.cut_dropF (α := Cell) (t := 44) (e := 47) (kl := .i64) Try.underlying44 infoCell (some a1) l.length c (i) (by omega)
        have hF0 := hcF Cell.k W0 okb l rfl rfl HT0.out.lc HT0.out.l
        skip
        have HCF := Aside0.mk hF0
        have HG8 := Aside0.mk (HG7.out.below (pw_below_drewN (Below.refl _ _) nq))
        have HPL : Aside0 (put l cl = l.take i ++ [cl] ++ l.drop (i) ∧ (l.take i).length ≤ 1000000) := ⟨HPA.out, by rw [List.length_take]; omega⟩
        clear hcF hF0
        push_cast at hsl
        have HBX := Aside0.mk HG8.out.bl
        clear x0 x1 x2 x3 x4 x5 x6
        obtain ⟨⟨x0, x1, x2, x3, x4, x5, x6⟩, _⟩ := seven (HX.out.1.on HBX.out)
        go_upto_region 10 with (first | (at_builtin; refine Grow.cat rfl _ _ 44 _ 88 rfl Try.underlying44 infoCell rfl (by decide) (by omega) HG8.out _ Ac (l.length - i) _ rfl rfl (HG8.out.rowR rfl HCF.out) (by have := HPL.out.2; rw [List.length_append]; simp only [List.length_singleton]; omega) ?_; intro v1 w9 hG9; have HG9 := Aside0.mk hG9; clear hG9))
        obtain ⟨A', c', rfl, hc', hF⟩ := HG9.out.foot
        rw [← HPL.out.1] at hc' hF ⊢
        have HFF := Aside0.mk (And.intro hc' hF)
        have HB9 := Aside0.mk HG9.out.bl
        clear hc' hF x0 x1 x2 x3 x4 x5 x6 hsl
        have HXW := Aside0.mk (And.intro (HX.out.1.on HB9.out) (HX.out.2.1.on HB9.out))
        obtain ⟨⟨x0, x1, x2, x3, x4, x5, x6⟩, f0, f1, f2, f3, f4, f5, f6⟩ := seven HXW.out.1
        obtain ⟨⟨r0, r1, r2, r3, r4, r5, r6⟩, g0, g1, g2, g3, g4, g5, g6⟩ := seven HXW.out.2
        have hne : w.heap.size + 2 ≠ w.heap.size := by omega
        go_wp2
        generalize hW9 : World.setCell _ _ _ = W9
        have h9 := set7_blk (HXW.out.2.set_far (g := w.heap.size) (by omega) 4 (.slice A' (put l cl).length c')) (.int .i64 ra) (.int .i64 rz) (.int .i64 rc) (.bool rd) (.slice A' (put l cl).length c') (.slice B tok.length d) (.int .i64 us)
        have hO9 := set7_only (w9.setCell ⟨w.heap.size, 4, none⟩ (.slice A' (put l cl).length c')) (w.heap.size + 2) (.int .i64 ra) (.int .i64 rz) (.int .i64 rc) (.bool rd) (.slice A' (put l cl).length c') (.slice B tok.length d) (.int .i64 us)
        rw [show set7 (w9.setCell ⟨w.heap.size, 4, none⟩ (.slice A' (put l cl).length c')) (w.heap.size + 2) (.int .i64 ra) (.int .i64 rz) (.int .i64 rc) (.bool rd) (.slice A' (put l cl).length c') (.slice B tok.length d) (.int .i64 us) = W9 from hW9] at h9 hO9
        clear hW9
        have HO9 := Aside0.mk hO9
        obtain ⟨z0, z1, z2, z3, z4, z5, z6⟩ := (seven h9).1
        clear h9 hO9
        refine bodyPost_ret (v := .agg #[.int .i64 ra, .int .i64 rz, .int .i64 rc, .bool rd, .slice A' (put l cl).length c', .slice B tok.length d, .int .i64 us]) (by simp [results, Try.results71, go_sem, z0, z1, z2, z3, z4, z5, z6]; try rfl) rfl ?_
        have hO := (((Only.refl [w.heap.size, w.heap.size + 2] w9).set (p := ⟨w.heap.size, 4, none⟩) (.slice A' (put l cl).length c') (.inl (by simp))).trans (HO9.out.mono (fun i hi => .inl (by simp at hi ⊢; omega))))
        have hTw := (HT.out.below HB0.out).below (HB9.out)
        have hnn : ∀ i, okb i → i ∉ [w.heap.size, w.heap.size + 2] := fun i hi hm => by have := HOK.out i hi; simp at hm; omega
        refine ⟨A', c', B, d, rfl, ⟨?_, ?_, HFF.out.1, hTw.kc⟩, ?_⟩
        · exact Kd.F_mono (Foot.only HFF.out.2 hO (fun i hi => by rcases hi with hi | hi; exact hnn i hi; intro hm; simp at hm; omega)) (fun i hi => by rcases hi with hi | hi; exact .inl (HOK.out i hi).1; right; omega)
        · exact Kd.F_mono (Foot.only hTw.k hO hnn) (fun i hi => .inl (HOK.out i hi).1)
        · exact ((Only.of_below [w.heap.size, w.heap.size + 2] (Below.then_ HB0.out HB9.out (Nat.le_refl _))).trans hO).below (by intro i hi; simp at hi; omega) (Nat.le_refl _)
    · obtain rfl : i = l.length := by omega
      have HPA := Aside0.mk ((put_at HLT.out hi).1 rfl)
      go_quiet (fail)
      obtain ⟨Ac, hsl, hcF⟩ := Grow.cut_dropF (α := Cell) (t := 44) (e := 47) (kl := .i64) Try.underlying44 infoCell A l.length c (l.length) (by omega)
      have hF0 := hcF Cell.k W0 okb l rfl rfl HT0.out.lc HT0.out.l
      simp only [Nat.sub_self] at hsl hF0
      have HCF := Aside0.mk hF0
      have HG8 := Aside0.mk (HG7.out.below (pw_below_drewN (Below.refl _ _) nq))
      have HPL : Aside0 (put l cl = l.take l.length ++ [cl] ++ l.drop (l.length) ∧ (l.take l.length).length ≤ 1000000) := ⟨HPA.out, by rw [List.length_take]; omega⟩
      clear hcF hF0
      push_cast at hsl
      have HBX := Aside0.mk HG8.out.bl
      clear x0 x1 x2 x3 x4 x5 x6
      obtain ⟨⟨x0, x1, x2, x3, x4, x5, x6⟩, _⟩ := seven (HX.out.1.on HBX.out)
      go_upto_region 10 with (first | (at_builtin; refine Grow.cat rfl _ _ 44 _ 88 rfl Try.underlying44 infoCell rfl (by decide) (by omega) HG8.out _ Ac (0) _ rfl rfl (HG8.out.rowR rfl HCF.out) (by have := HPL.out.2; rw [List.length_append]; simp only [List.length_singleton]; omega) ?_; intro v1 w9 hG9; have HG9 := Aside0.mk hG9; clear hG9))
      obtain ⟨A', c', rfl, hc', hF⟩ := HG9.out.foot
      rw [← HPL.out.1] at hc' hF ⊢
      have HFF := Aside0.mk (And.intro hc' hF)
      have HB9 := Aside0.mk HG9.out.bl
      clear hc' hF x0 x1 x2 x3 x4 x5 x6 hsl
      have HXW := Aside0.mk (And.intro (HX.out.1.on HB9.out) (HX.out.2.1.on HB9.out))
      obtain ⟨⟨x0, x1, x2, x3, x4, x5, x6⟩, f0, f1, f2, f3, f4, f5, f6⟩ := seven HXW.out.1
      obtain ⟨⟨r0, r1, r2, r3, r4, r5, r6⟩, g0, g1, g2, g3, g4, g5, g6⟩ := seven HXW.out.2
      have hne : w.heap.size + 2 ≠ w.heap.size := by omega
      go_wp2
      generalize hW9 : World.setCell _ _ _ = W9
      have h9 := set7_blk (HXW.out.2.set_far (g := w.heap.size) (by omega) 4 (.slice A' (put l cl).length c')) (.int .i64 ra) (.int .i64 rz) (.int .i64 rc) (.bool rd) (.slice A' (put l cl).length c') (.slice B tok.length d) (.int .i64 us)
      have hO9 := set7_only (w9.setCell ⟨w.heap.size, 4, none⟩ (.slice A' (put l cl).length c')) (w.heap.size + 2) (.int .i64 ra) (.int .i64 rz) (.int .i64 rc) (.bool rd) (.slice A' (put l cl).length c') (.slice B tok.length d) (.int .i64 us)
      rw [show set7 (w9.setCell ⟨w.heap.size, 4, none⟩ (.slice A' (put l cl).length c')) (w.heap.size + 2) (.int .i64 ra) (.int .i64 rz) (.int .i64 rc) (.bool rd) (.slice A' (put l cl).length c') (.slice B tok.length d) (.int .i64 us) = W9 from hW9] at h9 hO9
      clear hW9
      have HO9 := Aside0.mk hO9
      obtain ⟨z0, z1, z2, z3, z4, z5, z6⟩ := (seven h9).1
      clear h9 hO9
      refine bodyPost_ret (v := .agg #[.int .i64 ra, .int .i64 rz, .int .i64 rc, .bool rd, .slice A' (put l cl).length c', .slice B tok.length d, .int .i64 us]) (by simp [results, Try.results71, go_sem, z0, z1, z2, z3, z4, z5, z6]; try rfl) rfl ?_
      have hO := (((Only.refl [w.heap.size, w.heap.size + 2] w9).set (p := ⟨w.heap.size, 4, none⟩) (.slice A' (put l cl).length c') (.inl (by simp))).trans (HO9.out.mono (fun i hi => .inl (by simp at hi ⊢; omega))))
      have hTw := (HT.out.below HB0.out).below (HB9.out)
      have hnn : ∀ i, okb i → i ∉ [w.heap.size, w.heap.size + 2] := fun i hi hm => by have := HOK.out i hi; simp at hm; omega
      refine ⟨A', c', B, d, rfl, ⟨?_, ?_, HFF.out.1, hTw.kc⟩, ?_⟩
      · exact Kd.F_mono (Foot.only HFF.out.2 hO (fun i hi => by rcases hi with hi | hi; exact hnn i hi; intro hm; simp at hm; omega)) (fun i hi => by rcases hi with hi | hi; exact .inl (HOK.out i hi).1; right; omega)
      · exact Kd.F_mono (Foot.only hTw.k hO hnn) (fun i hi => .inl (HOK.out i hi).1)
      · exact ((Only.of_below [w.heap.size, w.heap.size + 2] (Below.then_ HB0.out HB9.out (Nat.le_refl _))).trans hO).below (by intro i hi; simp at hi; omega) (Nat.le_refl _)
end RTab
end Go.Proofs.Ytgfjkpnaabiecaa
set_option linter.unusedVariables false
set_option linter.unusedSimpArgs false
namespace Go.Proofs.Ytgfjkpnaabiecaa
open Go.RowKit Go.Proofs.YtgfjkpnaabiecaaW.PrintWords
namespace RTab
open Tags Tab
theorem MadeT.elder {w w1 : World} {ok ok1 : Nat → Prop} {T : Tb} {e : Ending} {w' : World} (h : MadeT w1 ok1 T e w') (hb : Below w.heap.size w w1) (hk : ∀ i, ok1 i → ok i ∨ w.heap.size ≤ i) : MadeT w ok T e w' := by
  obtain ⟨A, c, B, d, rfl, h1, h2⟩ := h
  have hs := hb.size
  exact ⟨A, c, B, d, rfl, h1.mono (fun i hi => by rcases hi with hi | hi; exact hk i hi; right; omega), Below.then_ hb h2 (Nat.le_refl _)⟩
set_option maxRecDepth 100000 in
set_option maxHeartbeats 1000000 in
theorem use_calls (T : Tb) (A : Option Addr) (c : Nat) (B : Option Addr) (d : Nat) (cl : Cell) (A5 : Option Addr) (c5 : Nat) (ok : Nat → Prop) (w : World) (h : RT w ok T A c B d) (hc : Kd.FK Cell.k w ok cl (ccs cl A5 c5)) (hl : T.l.length ≤ 1000000) (hu : 0 ≤ T.uses ∧ T.uses ≤ 4000000000000000000) :
    Calls Try.prog 68 #[.agg (rtc T A c B d).toArray, .agg (ccs cl A5 c5).toArray] w (MadeT w ok (lay T cl)) := by
  have HT := Aside0.mk h.bound
  have HCL := Aside0.mk (Foot.bound hc)
  have HL := Aside0.mk hl
  obtain ⟨hu0, hu1⟩ := hu
  obtain ⟨⟨ra, rz, rc, rd⟩, l, tok, us⟩ := T
  obtain ⟨⟨ck, ⟨a1, a2, a3⟩, ⟨ch, cb⟩⟩, cw, cc, cu⟩ := cl
  dsimp only [rtc, ccs] at *
  clear h hc hl
  go_enter Try.func68, Try.ntmps68
  go_upto_region 1 with (fail)
  generalize hX : World.alloc _ _ = W0
  have HB0 : Aside0 (Below w.heap.size w W0) := ⟨by rw [← hX]; exact below_alloc (below_alloc (below_alloc (Below.refl _ _) _) _) _⟩
  have HX : Aside0 (Blk W0 w.heap.size [.int .i64 ra, .int .i64 rz, .int .i64 rc, .bool rd, .slice A l.length c, .slice B tok.length d, .int .i64 us] ∧ Blk W0 (w.heap.size + 1) [.string ck, .int .i64 a1, .int .i64 a2, .int .i64 a3, .bool ch, .slice A5 cb.length c5, .bool cw, .bool cc, .int .i64 cu] ∧ Blk W0 (w.heap.size + 2) [.int .i64 0, .int .i64 0, .int .i64 0, .bool false, .slice none 0 0, .slice none 0 0, .int .i64 0]) := ⟨by rw [← hX]; exact ⟨((Blk.new_ _ _ _ rfl rfl).alloc _).alloc _, (Blk.new_ _ _ _ (by simp) rfl).alloc _, Blk.new_ _ _ _ (by simp) rfl⟩⟩
  obtain ⟨⟨x0, x1, x2, x3, x4, x5, x6⟩, f0, f1, f2, f3, f4, f5, f6⟩ := seven HX.out.1
  obtain ⟨⟨k0, k1, k2, k3, k4, k5, k6, k7, k8⟩, g0, g1, g2, g3, g4, g5, g6, g7, g8⟩ := HX.out.2.1.nine
  clear hX
  have hne : w.heap.size + 1 ≠ w.heap.size := by omega
  have HW2 : Aside0 (Only [w.heap.size, w.heap.size + 1] W0 ((W0.setCell ⟨w.heap.size, 6, none⟩ (.int .i64 (us + 1))).setCell ⟨w.heap.size + 1, 8, none⟩ (.int .i64 (us + 1)))) := ⟨((Only.refl _ _).set (p := ⟨w.heap.size, 6, none⟩) _ (.inl (by simp))).set (p := ⟨w.heap.size + 1, 8, none⟩) _ (.inl (by simp))⟩
  have HR2 := Aside0.mk ((HX.out.2.2.set_far (g := w.heap.size) (by omega) 6 (.int .i64 (us + 1))).set_far (g := w.heap.size + 1) (by omega) 8 (.int .i64 (us + 1)))
  have HWC : Aside0 (Calls Try.prog 71 #[.agg #[.int .i64 ra, .int .i64 rz, .int .i64 rc, .bool rd, .slice A l.length c, .slice B tok.length d, .int .i64 (us + 1)], .agg #[.string ck, .int .i64 a1, .int .i64 a2, .int .i64 a3, .bool ch, .slice A5 cb.length c5, .bool cw, .bool cc, .int .i64 (us + 1)]] ((W0.setCell ⟨w.heap.size, 6, none⟩ (.int .i64 (us + 1))).setCell ⟨w.heap.size + 1, 8, none⟩ (.int .i64 (us + 1))) _) := ⟨with_calls ⟨⟨ra, rz, rc, rd⟩, l, tok, us + 1⟩ A c B d ⟨⟨ck, ⟨a1, a2, a3⟩, ⟨ch, cb⟩⟩, cw, cc, us + 1⟩ A5 c5 (fun i => ok i ∧ i < w.heap.size) _ (by
      have hT2 := (HT.out.below HB0.out).only HW2.out (fun i hi hm => by simp at hm; omega)
      exact ⟨hT2.l, hT2.k, hT2.lc, hT2.kc⟩) (by
      have hC2 := Foot.only (Foot.step HCL.out (fun i _ hlt => HB0.out.block i hlt)) HW2.out (fun i hi hm => by have := hi.2; simp at hm; omega)
      refine Foot.imp hC2 (fun W' hK => ?_)
      obtain ⟨A6, c6, he, s0, r1, r2, r3, l5, g5, r8⟩ := Cell.open_ hK
      simp only [List.cons.injEq, Value.slice.injEq, true_and, and_true] at he
      obtain ⟨rfl, rfl⟩ := he
      exact Cell.mk_ W' ⟨⟨ck, ⟨a1, a2, a3⟩, ⟨ch, cb⟩⟩, cw, cc, us + 1⟩ s0 r1 r2 r3 l5 g5 (InR.mk64 (x := us + 1) (by omega) (by omega))) HL.out⟩
  go_wp2_with (first | ((with_reducible refine HWC.out.mono ?_); rintro e w4 ⟨A', c', B', d', rfl, hR, hb⟩; have HR4 := Aside0.mk hR; have HB4 := Aside0.mk hb; have HZ4 := Aside0.mk (HR2.out.on hb); obtain ⟨⟨r0, r1, r2, r3, r4, r5, r6⟩, h0, h1, h2, h3, h4, h5, h6⟩ := seven HZ4.out; clear hR hb))
  obtain ⟨l2, hl2⟩ : ∃ l2, l2 = put l ⟨⟨ck, ⟨a1, a2, a3⟩, ⟨ch, cb⟩⟩, cw, cc, us + 1⟩ := ⟨_, rfl⟩
  have HL2 := Aside0.mk hl2
  rw [← hl2] at HR4
  rw [← hl2]
  clear hl2
  generalize hW9 : World.setCell _ _ _ = W9
  have h9 := set7_blk HZ4.out (.int .i64 ra) (.int .i64 rz) (.int .i64 rc) (.bool rd) (.slice A' l2.length c') (.slice B' tok.length d') (.int .i64 (us + 1))
  have hO9 := set7_only w4 (w.heap.size + 2) (.int .i64 ra) (.int .i64 rz) (.int .i64 rc) (.bool rd) (.slice A' l2.length c') (.slice B' tok.length d') (.int .i64 (us + 1))
  rw [show set7 w4 (w.heap.size + 2) (.int .i64 ra) (.int .i64 rz) (.int .i64 rc) (.bool rd) (.slice A' l2.length c') (.slice B' tok.length d') (.int .i64 (us + 1)) = W9 from hW9] at h9 hO9
  clear hW9
  have HO9 := Aside0.mk hO9
  obtain ⟨z0, z1, z2, z3, z4, z5, z6⟩ := (seven h9).1
  clear h9 hO9
  refine bodyPost_ret (v := .agg #[.int .i64 ra, .int .i64 rz, .int .i64 rc, .bool rd, .slice A' l2.length c', .slice B' tok.length d', .int .i64 (us + 1)]) (by simp [results, Try.results68, go_sem, z0, z1, z2, z3, z4, z5, z6]; try rfl) rfl ?_
  have hs0 := HX.out.2.2.lt
  have hsz : W0.heap.size ≤ ((W0.setCell ⟨w.heap.size, 6, none⟩ (.int .i64 (us + 1))).setCell ⟨w.heap.size + 1, 8, none⟩ (.int .i64 (us + 1))).heap.size := HW2.out.size
  have hT : lay ⟨⟨ra, rz, rc, rd⟩, l, tok, us⟩ ⟨⟨ck, ⟨a1, a2, a3⟩, ⟨ch, cb⟩⟩, cw, cc, cu⟩ = ⟨⟨ra, rz, rc, rd⟩, l2, tok, us + 1⟩ := by rw [HL2.out]; rfl
  rw [hT]
  refine ⟨A', c', B', d', rfl, ?_, ?_⟩
  · refine (HR4.out.only HO9.out (fun i hi hm => ?_)).mono (fun i hi => ?_)
    · simp at hm
      rcases hi with hi | hi
      · have := hi.2; omega
      · omega
    · rcases hi with hi | hi
      · exact .inl hi.1
      · right; omega
  · have o1 := ((Only.of_below [w.heap.size, w.heap.size + 1, w.heap.size + 2] HB0.out).trans (HW2.out.mono (fun i hi => .inl (by simp at hi ⊢; omega)))).on HB4.out
    exact (o1.trans (HO9.out.mono (fun i hi => .inl (by simp at hi ⊢; omega)))).below (by intro i hi; simp at hi; omega) (Nat.le_refl _)
theorem eraseIdx_del {l : List Cell} (hs : Srt l) {i : Nat} {u : Cell} (h : l[i]? = some u) : l.eraseIdx i = del l u.e.key := by
  induction l generalizing i with
  | nil => simp at h
  | cons x r ih =>
    have hs' := List.pairwise_cons.1 hs
    cases i with
    | zero =>
      simp at h
      subst h
      have hn : find r x.e.key = none := find_no (fun c hc e => ne_of (hs'.1 c hc) e.symm)
      have : del (x :: r) x.e.key = del r x.e.key := by unfold del; rw [List.filter_cons]; simp
      rw [this, del_none hn]
      rfl
    | succ i =>
      have h' : r[i]? = some u := by simpa using h
      have hne : x.e.key ≠ u.e.key := ne_of (hs'.1 u (List.mem_of_getElem? h'))
      have : del (x :: r) u.e.key = x :: del r u.e.key := by unfold del; rw [List.filter_cons]; simp [hne]
      rw [this, ← ih hs'.2 h']
      rfl
/-- A row of numbers of the function's own. -/
theorem grow_ints {ok : Nat → Prop} {N : Nat} {w0 W : World} {v : Value} {xs : List Int} (h : Grow (kInt .i64) 3 ok N w0 W v xs) (h0 : 0 < xs.length) :
    ∃ g cap, v = .slice (some ⟨g, 0, none⟩) xs.length cap ∧ N ≤ g ∧ xs.length ≤ cap ∧ Blk W g (xs.map (Value.int .i64)) ∧ Ty W 3 g := by
  obtain ⟨inner, ho, hr⟩ := h.row
  have hi : inner = xs.map (Value.int .i64) := by
    apply List.ext_getElem?
    intro j
    rw [List.getElem?_map]
    rcases Nat.lt_or_ge j xs.length with hj | hj
    · obtain ⟨h1, _⟩ := Kd.FK_now (hr.2 j xs[j] (List.getElem?_eq_getElem hj))
      have h1' : (inner.drop (j * 1)).take 1 = [Value.int .i64 xs[j]] := h1
      rw [List.getElem?_eq_getElem hj]
      have h2 : ((inner.drop (j * 1)).take 1)[0]? = some (Value.int .i64 xs[j]) := by rw [h1']; rfl
      rw [List.getElem?_take, if_pos (by omega), List.getElem?_drop] at h2
      simpa using h2
    · have hil : inner.length = xs.length := by have := hr.1; simpa [kInt, scalarP] using this
      rw [List.getElem?_eq_none (by omega), List.getElem?_eq_none hj]
      rfl
  subst hi
  obtain ⟨g, cap, h1, h2, h3, _, h5, h6⟩ := own_ints ho h0
  exact ⟨g, cap, h1, h2, h3, h5, h6⟩
/-- A block of numbers, as a row that is read. -/
theorem ints_F {w : World} {g : Nat} {xs : List Int} (h : Blk w g (xs.map (Value.int .i64))) (ok : Nat → Prop) (hg : ok g) (hr : ∀ x ∈ xs, InR .i64 x) (hl : xs.length ≤ 1000000) : Kd.F (kInt .i64) w ok (some ⟨g, 0, none⟩) xs.length xs :=
  Foot.imp (blk_keep h _ hg) (fun W' hB => blk_ints hB hr hl)
theorem infoInt : (Try.prog.info? 3).map (fun i => (i.zero, i.size, i.bytes)) = some (some (.int .i64 0), 1, 8) := by kernel_rfl
set_option maxRecDepth 100000 in
set_option maxHeartbeats 2000000 in
theorem gone_calls (T : Tb) (A : Option Addr) (c : Nat) (B : Option Addr) (d : Nat) (at_ : Nat) (u : Cell) (ok : Nat → Prop) (w : World) (h : RT w ok T A c B d) (hu : T.l[at_]? = some u) (hs : Srt T.l) (hl : T.l.length ≤ 1000000) (hk : u.e.key.size ≤ 140737488351232) (h1 : 1 ≤ T.room.buckets) (h2 : T.room.buckets ≤ 256) (htl : T.room.buckets = T.tok.length) (htk : ∀ x ∈ T.tok, 0 ≤ x ∧ x ≤ 4000000000000000000) :
    Calls Try.prog 72 #[.agg (rtc T A c B d).toArray, .int .i64 (at_ : Int)] w (MadeT w ok (drop T u.e.key)) := by
  have HT := Aside0.mk h.bound
  have HL := Aside0.mk (And.intro hl (eraseIdx_del hs hu))
  have HU := Aside0.mk hu
  have HTK := Aside0.mk htk
  have hat : at_ < T.l.length := (List.getElem?_eq_some_iff.1 hu).1
  obtain ⟨b0, b1⟩ := Hash.bkt_bd u.e.key h1
  obtain ⟨i, hi⟩ : ∃ i : Nat, Hash.bkt u.e.key T.room.buckets = (i : Int) := ⟨_, (Int.toNat_of_nonneg b0).symm⟩
  rw [hi] at b1
  have hil : i < T.tok.length := by omega
  have HBK : Aside0 (∀ A c B d w', Calls Try.prog 66 #[.agg (rtc T A c B d).toArray, .string u.e.key] w' fun e w'' => e = .returned (.int .i64 (i : Int)) ∧ Below w'.heap.size w' w'') := ⟨fun A c B d w' => by
    have := bucketR_calls T A c B d u.e.key w' hk h1 h2
    rw [hi] at this
    exact this⟩
  have HD : Aside0 (drop T u.e.key = { T with l := T.l.eraseIdx at_, tok := bump T.tok i }) := ⟨by unfold drop; rw [hi, HL.out.2, Int.toNat_natCast]⟩
  have ht256 : T.tok.length ≤ 256 := by omega
  clear b0 hi h1 h2 htl b1 h hu hs htk
  obtain ⟨⟨ra, rz, rc, rd⟩, l, tok, us⟩ := T
  dsimp only [rtc] at *
  go_enter Try.func72, Try.ntmps72
  go_upto_region 1 with (fail)
  generalize hX : World.alloc _ _ = W0
  have HB0 : Aside0 (Below w.heap.size w W0) := ⟨by rw [← hX]; exact below_alloc (below_alloc (Below.refl _ _) _) _⟩
  have HX : Aside0 (Blk W0 w.heap.size [.int .i64 ra, .int .i64 rz, .int .i64 rc, .bool rd, .slice A l.length c, .slice B tok.length d, .int .i64 us] ∧ Blk W0 (w.heap.size + 1) [.int .i64 0, .int .i64 0, .int .i64 0, .bool false, .slice none 0 0, .slice none 0 0, .int .i64 0]) := ⟨by rw [← hX]; exact ⟨(Blk.new_ _ _ _ rfl rfl).alloc _, Blk.new_ _ _ _ (by simp) rfl⟩⟩
  have hs2 : w.heap.size + 2 ≤ W0.heap.size := by have := HX.out.2.lt; omega
  obtain ⟨x0, x1, x2, x3, x4, x5, x6⟩ := (seven HX.out.1).1
  obtain ⟨a1, u', A6, c6, rfl, HU', y0, _, _, _, _, _, _, _, _, HFK⟩ := RTab.cell_at (HT.out.below HB0.out).l (Below.refl _ _) at_ hat
  obtain rfl : u' = u := Option.some.inj (HU'.out.symm.trans HU.out)
  have HT0 := Aside0.mk (HT.out.below HB0.out)
  have hatI : (at_ : Int) < (l.length : Int) := by omega
  clear hX
  have x0 := fun w' (h : Below W0.heap.size W0 w') => pw_cell_below h x0
  have x1 := fun w' (h : Below W0.heap.size W0 w') => pw_cell_below h x1
  have x2 := fun w' (h : Below W0.heap.size W0 w') => pw_cell_below h x2
  have x3 := fun w' (h : Below W0.heap.size W0 w') => pw_cell_below h x3
  have x4 := fun w' (h : Below W0.heap.size W0 w') => pw_cell_below h x4
  have x5 := fun w' (h : Below W0.heap.size W0 w') => pw_cell_below h x5
  have x6 := fun w' (h : Below W0.heap.size W0 w') => pw_cell_below h x6
  have y0 := fun w' (h : Below W0.heap.size W0 w') => pw_cell_below h y0
  refine wp_region_noPanic ?_
  refine wp_region_held_drew (S := Below W0.heap.size W0) (by kernel_rfl) (below_drew (Below.refl _ _)) (fun hHeld => ?_)
  (refine takeH 0 8 (v := ?_) rfl rfl (by kernel_rfl) (by kernel_rfl) (by kernel_rfl) (fun _ _ _ h => h) hHeld rfl ?_ ?_; rotate_left; (focus (intro w' hSw; go_simp; try with_reducible rfl)))
  (try simp only [Act.put, List.setIfInBounds_toArray, List.set_cons_zero, List.set_cons_succ])
  (refine takeH 1 9 (v := ?_) rfl rfl (by kernel_rfl) (by kernel_rfl) (by kernel_rfl) (fun _ _ _ h => h) hHeld rfl ?_ ?_; rotate_left; (focus (intro w' hSw; go_simp; try with_reducible rfl)))
  (try simp only [Act.put, List.setIfInBounds_toArray, List.set_cons_zero, List.set_cons_succ])
  (refine takeH 2 10 (v := ?_) rfl rfl (by kernel_rfl) (by kernel_rfl) (by kernel_rfl) (fun _ _ _ h => h) hHeld rfl ?_ ?_; rotate_left; (focus (intro w' hSw; go_simp; try with_reducible rfl)))
  (try simp only [Act.put, List.setIfInBounds_toArray, List.set_cons_zero, List.set_cons_succ])
  (refine takeH 3 11 (v := ?_) rfl rfl (by kernel_rfl) (by kernel_rfl) (by kernel_rfl) (fun _ _ _ h => h) hHeld rfl ?_ ?_; rotate_left; (focus (intro w' hSw; go_simp; try with_reducible rfl)))
  (try simp only [Act.put, List.setIfInBounds_toArray, List.set_cons_zero, List.set_cons_succ])
  (refine takeH 4 12 (v := ?_) rfl rfl (by kernel_rfl) (by kernel_rfl) (by kernel_rfl) (fun _ _ _ h => h) hHeld rfl ?_ ?_; rotate_left; (focus (intro w' hSw; go_simp; try with_reducible rfl)))
  (try simp only [Act.put, List.setIfInBounds_toArray, List.set_cons_zero, List.set_cons_succ])
  (refine takeH 5 13 (v := ?_) rfl rfl (by kernel_rfl) (by kernel_rfl) (by kernel_rfl) (fun _ _ _ h => h) hHeld rfl ?_ ?_; rotate_left; (focus (intro w' hSw; go_simp; try with_reducible rfl)))
  (try simp only [Act.put, List.setIfInBounds_toArray, List.set_cons_zero, List.set_cons_succ])
  (refine takeH 6 14 (v := ?_) rfl rfl (by kernel_rfl) (by kernel_rfl) (by kernel_rfl) (fun _ _ _ h => h) hHeld rfl ?_ ?_; rotate_left; (focus (intro w' hSw; go_simp; try with_reducible rfl)))
  (try simp only [Act.put, List.setIfInBounds_toArray, List.set_cons_zero, List.set_cons_succ])
  (refine takeH 7 15 (v := ?_) rfl rfl (by kernel_rfl) (by kernel_rfl) (by kernel_rfl) (fun _ _ _ h => h) hHeld rfl ?_ ?_; rotate_left; (focus (intro w' hSw; go_simp; try with_reducible rfl)))
  (try simp only [Act.put, List.setIfInBounds_toArray, List.set_cons_zero, List.set_cons_succ])
  refine wpAnyH_ready (rs := [8]) (by kernel_rfl) (by simp) ?_
  refine AllReadyH.cons rfl (fun K hK => ?_) AllReadyH.nil
  go_simp
  refine (HBK.out _ _ _ _ _).mono ?_
  rintro e w1 ⟨rfl, h1⟩
  have H1 := Aside0.mk (Below.then_ (below_drew (Below.refl W0.heap.size W0)) h1 (Nat.le_refl _))
  clear h1
  refine hK.out _ _ (H1.out) (fun hHeld => ?_)
  clear hK K
  (try simp only [Act.put, List.setIfInBounds_toArray, List.set_cons_zero, List.set_cons_succ])
  (refine takeH 9 5 (v := ?_) rfl rfl (by kernel_rfl) (by kernel_rfl) (by kernel_rfl) (fun _ _ _ h => h) hHeld rfl ?_ ?_; rotate_left; (focus (intro w' hSw; go_simp; try with_reducible rfl)))
  (try simp only [Act.put, List.setIfInBounds_toArray, List.set_cons_zero, List.set_cons_succ])
  refine wpAnyH_done (by kernel_rfl) ?_ _
  refine NoPanic.normal ?_
  have HX1 := Aside0.mk (And.intro (HX.out.1.on H1.out) (HX.out.2.on H1.out))
  have HT1 := Aside0.mk (HT0.out.below H1.out)
  clear x0 x1 x2 x3 x4 x5 x6 y0
  obtain ⟨x0, x1, x2, x3, x4, x5, x6⟩ := (seven HX1.out.1).1
  have HGS := Aside0.mk (Grow.start 3 (kInt .i64) (fun i => ok i ∧ i < w.heap.size) w1)
  go_upto_region 4 with (first | (at_builtin; refine Grow.cat rfl _ _ 64 _ 8 rfl Try.underlying64 infoInt rfl (by decide) (by omega) HGS.out tok B tok.length d rfl rfl (HGS.out.rowR rfl HT1.out.k) (by simp; omega) ?_; intro v2 w2 hG; have HG := Aside0.mk hG; clear hG))
  rw [List.nil_append] at HG
  obtain ⟨g, cap, rfl, hg, hcap, hB, hty⟩ := grow_ints HG.out (by omega)
  obtain ⟨x, hx⟩ : ∃ x, x = tok[i] := ⟨_, rfl⟩
  have hxi : tok[i]? = some x := by rw [List.getElem?_eq_getElem hil, hx]
  have hxm : x ∈ tok := List.mem_of_getElem? hxi
  have hxb := HTK.out x hxm
  have hcx : w2.cell? ⟨g, i, none⟩ = some (.int .i64 x) := hB.cell i (by rw [List.getElem?_map, hxi]; rfl)
  have hfx : w2.frozen? ⟨g, i, none⟩ = false := hB.frozen i (v := .int .i64 x) (by rw [List.getElem?_map, hxi]; rfl)
  have i0 : (0 : Int) ≤ (i : Int) := by omega
  have i1 : (i : Int) < (tok.length : Int) := by omega
  have HBG := Aside0.mk (And.intro hB (And.intro hg hcap))
  have HXI := Aside0.mk hxi
  have HB2 := Aside0.mk HG.out.bl
  clear hB hg hcap hty hx hxi hxm
  go_upto_region 5 with (fail)
  generalize hW3 : World.setCell _ _ _ = W3
  have HB3 : Aside0 (Below w1.heap.size w1 W3) := ⟨by rw [← hW3]; exact HB2.out.setCell (p := ⟨g, i, none⟩) HBG.out.2.1 _⟩
  have HB3g : Aside0 (Blk W3 g ((bump tok i).map (.int .i64))) := ⟨by
    rw [← hW3]
    have := HBG.out.1.set i (.int .i64 (x + 1))
    refine this.cast ?_
    unfold bump
    rw [List.map_set, List.getD_eq_getElem?_getD, HXI.out]
    rfl⟩
  clear hW3 hcx hfx
  have HX3 := Aside0.mk (And.intro (HX1.out.1.on HB3.out) (HX1.out.2.on HB3.out))
  have HT3 := Aside0.mk (HT1.out.below HB3.out)
  clear x0 x1 x2 x3 x4 x5 x6
  obtain ⟨x0, x1, x2, x3, x4, x5, x6⟩ := (seven HX3.out.1).1
  have HWO := Aside0.mk (without_calls ⟨⟨ra, rz, rc, rd⟩, l, tok, us⟩ (some a1) c B d at_ (fun i => ok i ∧ i < w.heap.size) W3 HT3.out HL.out.1)
  go_upto_region 6 with (first | ((with_reducible refine HWO.out.mono ?_); rintro e w4 ⟨A', c', B', d', rfl, hR, hb⟩; have HR4 := Aside0.mk hR; have HB4 := Aside0.mk hb; have HX4 := Aside0.mk (HX3.out.2.on hb); clear hR hb))
  generalize hl2 : l.eraseIdx at_ = l2 at HR4 HD
  generalize hW5 : World.alloc _ _ = W5
  have HB5 : Aside0 (Below w4.heap.size w4 W5) := ⟨by rw [← hW5]; exact below_alloc (Below.refl _ _) _⟩
  have HX5 : Aside0 (Blk W5 w4.heap.size [.int .i64 ra, .int .i64 rz, .int .i64 rc, .bool rd, .slice A' l2.length c', .slice B' tok.length d', .int .i64 us]) := ⟨by rw [← hW5]; exact Blk.new_ _ _ _ rfl rfl⟩
  have HZ5 := Aside0.mk (HX4.out.on HB5.out)
  have hne : w4.heap.size ≠ w.heap.size + 1 := by have := HX4.out.lt; omega
  clear hW5 hl2 x0 x1 x2 x3 x4 x5 x6
  obtain ⟨⟨x0, x1, x2, x3, x4, x5, x6⟩, f0, f1, f2, f3, f4, f5, f6⟩ := seven HX5.out
  obtain ⟨⟨r0, r1, r2, r3, r4, r5, r6⟩, h0, h1, h2, h3, h4, h5, h6⟩ := seven HZ5.out
  go_wp2
  generalize hW9 : World.setCell _ _ _ = W9
  have h9 := set7_blk (HZ5.out.set_far (g := w4.heap.size) hne 5 (.slice (some ⟨g, 0, none⟩) tok.length cap)) (.int .i64 ra) (.int .i64 rz) (.int .i64 rc) (.bool rd) (.slice A' l2.length c') (.slice (some ⟨g, 0, none⟩) tok.length cap) (.int .i64 us)
  have hO9 := set7_only (W5.setCell ⟨w4.heap.size, 5, none⟩ (.slice (some ⟨g, 0, none⟩) tok.length cap)) (w.heap.size + 1) (.int .i64 ra) (.int .i64 rz) (.int .i64 rc) (.bool rd) (.slice A' l2.length c') (.slice (some ⟨g, 0, none⟩) tok.length cap) (.int .i64 us)
  rw [show set7 (W5.setCell ⟨w4.heap.size, 5, none⟩ (.slice (some ⟨g, 0, none⟩) tok.length cap)) (w.heap.size + 1) (.int .i64 ra) (.int .i64 rz) (.int .i64 rc) (.bool rd) (.slice A' l2.length c') (.slice (some ⟨g, 0, none⟩) tok.length cap) (.int .i64 us) = W9 from hW9] at h9 hO9
  clear hW9
  have HO9 := Aside0.mk hO9
  obtain ⟨z0, z1, z2, z3, z4, z5, z6⟩ := (seven h9).1
  clear h9 hO9
  refine bodyPost_ret (v := .agg #[.int .i64 ra, .int .i64 rz, .int .i64 rc, .bool rd, .slice A' l2.length c', .slice (some ⟨g, 0, none⟩) tok.length cap, .int .i64 us]) (by simp [results, Try.results72, go_sem, z0, z1, z2, z3, z4, z5, z6]; try rfl) rfl ?_
  rw [HD.out]
  have hO : Only [w.heap.size + 1, w4.heap.size] W5 W9 := ((Only.refl [w.heap.size + 1, w4.heap.size] W5).set (p := ⟨w4.heap.size, 5, none⟩) (.slice (some ⟨g, 0, none⟩) tok.length cap) (.inl (by simp))).trans (HO9.out.mono (fun i hi => .inl (by simp at hi ⊢; omega)))
  have s1 := H1.out.size
  have s3 := HB3.out.size
  have s4 := HB4.out.size
  have hgW3 := HB3g.out.lt
  obtain ⟨_, hg, hcap⟩ := HBG.out
  have hbl : (bump tok i).length = tok.length := bump_len tok i
  have hg9 : Blk W9 g ((bump tok i).map (.int .i64)) := ((HB3g.out.on HB4.out).on HB5.out).only hO (by simp; omega)
  refine ⟨A', c', some ⟨g, 0, none⟩, cap, by rw [← hbl], ⟨?_, ?_, HR4.out.lc, by rw [hbl]; exact hcap⟩, ?_⟩
  · have h3 := (HR4.out.below HB5.out).bound.l
    refine Kd.F_mono (Foot.only (Foot.mono HR4.out.bound.l (fun i hi => hi) |>.step (fun i hi hlt => HB5.out.block i hlt)) hO (fun i hi hm => ?_)) (fun i hi => ?_)
    · simp at hm
      rcases hi.1 with h | h
      · have := h.2; omega
      · omega
    · rcases hi.1 with h | h
      · exact .inl h.1
      · right; omega
  · exact ints_F hg9 _ (.inr (by omega)) (fun y hy => by
      unfold bump at hy
      rcases List.mem_or_eq_of_mem_set hy with h | h
      · have := HTK.out y h; exact InR.mk64 (by omega) (by omega)
      · rw [h, List.getD_eq_getElem?_getD, HXI.out]
        exact InR.mk64 (x := x + 1) (by omega) (by omega)) (by omega)
  · have b1 : Below w.heap.size w W5 := Below.then_ (Below.then_ (Below.then_ (Below.then_ HB0.out H1.out (Nat.le_refl _)) HB3.out (Nat.le_refl _)) HB4.out (Nat.le_refl _)) HB5.out (Nat.le_refl _)
    exact ((Only.of_below [w.heap.size + 1, w4.heap.size] b1).trans hO).below (by intro i hi; simp at hi; omega) (Nat.le_refl _)
end RTab
end Go.Proofs.Ytgfjkpnaabiecaa
set_option linter.unusedVariables false
set_option linter.unusedSimpArgs false
namespace Go.Proofs.Ytgfjkpnaabiecaa
open Go.RowKit Go.Proofs.YtgfjkpnaabiecaaW.PrintWords
namespace RTab
open Tags Tab
def AtInv (l : List Cell) (ek : ByteArray) (j : Nat) (a : Int) : Prop :=
  (a = -1 ∧ least ((l.take j).filter (cand ek)) = none) ∨ (∃ i d, a = ((i : Nat) : Int) ∧ i < l.length ∧ l[i]? = some d ∧ least ((l.take j).filter (cand ek)) = some d)
theorem at_skip {l : List Cell} {ek : ByteArray} {j : Nat} {a : Int} {u : Cell} (h : AtInv l ek j a) (hu : l[j]? = some u) (hc : cand ek u = false) : AtInv l ek (j + 1) a := by
  have : (l.take (j + 1)).filter (cand ek) = (l.take j).filter (cand ek) := by
    rw [List.take_add_one, hu, List.filter_append]
    simp [hc]
  unfold AtInv
  rw [this]
  exact h
theorem at_upd {l : List Cell} {ek : ByteArray} {j : Nat} {u : Cell} (ho : Own1 l) (hu : l[j]? = some u) (hc : cand ek u = true) :
    least ((l.take (j + 1)).filter (cand ek)) = match least ((l.take j).filter (cand ek)) with
      | none => some u
      | some d => if u.used < d.used then some u else some d := by
  have e : (l.take (j + 1)).filter (cand ek) = (l.take j).filter (cand ek) ++ [u] := by
    rw [List.take_add_one, hu, List.filter_append]
    simp [hc]
  have h1 : Own1 ((l.take (j + 1)).filter (cand ek)) := own1_filter _ (List.Pairwise.sublist (List.take_sublist _ _) ho)
  rw [e] at h1 ⊢
  rw [least_perm h1 (List.perm_append_comm (l₁ := (l.take j).filter (cand ek)) (l₂ := [u]))]
  rfl
theorem at_take {l : List Cell} {ek : ByteArray} {j : Nat} {u : Cell} (ho : Own1 l) (hu : l[j]? = some u) (hc : cand ek u = true) (h : least ((l.take j).filter (cand ek)) = none ∨ ∃ d, least ((l.take j).filter (cand ek)) = some d ∧ u.used < d.used) : AtInv l ek (j + 1) (j : Int) := by
  refine .inr ⟨j, u, rfl, (List.getElem?_eq_some_iff.1 hu).1, hu, ?_⟩
  rw [at_upd ho hu hc]
  rcases h with h | ⟨d, h, hlt⟩
  · rw [h]
  · rw [h]; dsimp only; rw [if_pos hlt]
theorem at_keep {l : List Cell} {ek : ByteArray} {j i : Nat} {u d : Cell} (ho : Own1 l) (hu : l[j]? = some u) (hc : cand ek u = true) (hi : l[i]? = some d) (h : least ((l.take j).filter (cand ek)) = some d) (hn : ¬ u.used < d.used) : AtInv l ek (j + 1) (i : Int) := by
  refine .inr ⟨i, d, rfl, (List.getElem?_eq_some_iff.1 hi).1, hi, ?_⟩
  rw [at_upd ho hu hc, h]
  dsimp only
  rw [if_neg hn]
def RoomTold (w : World) (ok : Nat → Prop) (T : Tb) (e : Entry) (r : Ending) (w' : World) : Prop :=
  ∃ A c B d T', r = .returned (.tuple #[.agg (rtc T' A c B d).toArray, .bool (vict T e).2]) ∧ RT w' (fun i => ok i ∨ w.heap.size ≤ i) T' A c B d ∧ Below w.heap.size w w' ∧ ((vict T e).2 = true → T' = drops T (vict T e).1)
set_option maxRecDepth 100000 in
set_option maxHeartbeats 4000000 in
theorem room_calls (e : Entry) (Ae : Option Addr) (ce : Nat) (hE : EntOk e) : ∀ (q : Nat) (T : Tb) (A : Option Addr) (c : Nat) (B : Option Addr) (d : Nat) (n : Int) (ok : Nat → Prop) (w : World) (h : RT w ok T A c B d) (hw : Wf T n) (hn : n + (q : Int) ≤ 2000000000000000000) (hq : T.l.length < q)
    (hF : Kd.FK Entry.k w ok e (ecs e Ae ce)), Calls Try.prog 70 #[.agg (rtc T A c B d).toArray, .agg (ecs e Ae ce).toArray] w (RoomTold w ok T e) := by
  intro q
  induction q with
  | zero =>
    intro T A c B d n ok w h hw hn hq hF
    omega
  | succ q ih =>
    intro T A c B d n ok w h hw hn hq hF
    have IH := Aside0.mk ih
    have HT := Aside0.mk h.bound
    have HF := Aside0.mk (Foot.bound hF)
    have HW := Aside0.mk hw
    have hTl : T.l.length ≤ 4096 := by have h1 := hw.len; have h2 := hw.rm.2.1; omega
    have HVE := Aside0.mk (vict_eq T e hw.srt)
    have HNB := Aside0.mk (newL_bd (T := T) (e := e) [] hw.srt)
    have hsz : szs T.l ≤ 4194304 := by have h1 := hw.sz; have h2 := hw.rm.2.2.2.1; omega
    have HEO := Aside0.mk hE
    have hnl1 : (newL T e).length ≤ T.l.length + 1 := HNB.out.1
    have hnl2 : szs (newL T e) ≤ 5000000 := by have h1 := HNB.out.2; have h2 : csz e = e.key.size + e.val.b.length := rfl; have h3 := hE.2.1; have h4 := hE.2.2.1; show szs (newL (drops T []) e) ≤ _; omega
    have HWC : Aside0 (∀ w', Kd.FK Entry.k w' (fun i => ok i ∧ i < w.heap.size) e (ecs e Ae ce) → RT w' (fun i => ok i ∧ i < w.heap.size) T A c B d → Calls Try.prog 71 #[.agg (rtc T A c B d).toArray, .agg (ccs ⟨e, false, false, 0⟩ Ae ce).toArray] w' (MadeT w' (fun i => ok i ∧ i < w.heap.size) { T with l := newL T e })) := ⟨fun w' h1 h2 => with_calls T A c B d ⟨e, false, false, 0⟩ Ae ce _ w' h2 (fk_ce h1 izr) (by omega)⟩
    have HBC : Aside0 (∀ A' c' B' d' w', Cell.k.C w' A' (newL T e).length (newL T e) → Calls Try.prog 31 #[.agg (rtc { T with l := newL T e } A' c' B' d').toArray] w' fun r w'' => r = .returned (.int .i64 ((szs (newL T e) : Nat) : Int)) ∧ Below w'.heap.size w' w'') := ⟨fun A' c' B' d' w' h => bytesR_calls { T with l := newL T e } A' c' B' d' w' h (by dsimp only; omega)⟩
    have HFT : Aside0 (fits T e = true ↔ ((newL T e).length : Int) ≤ T.room.cells ∧ ((szs (newL T e) : Nat) : Int) ≤ T.room.bytes) := ⟨fits_iff⟩
    have hek : e.key.size ≤ 140737488351232 := by have := hE.2.1; omega
    have HGC : Aside0 (∀ i u A' c' B' d' w', RT w' (fun i => ok i ∧ i < w.heap.size) T A' c' B' d' → T.l[i]? = some u → Calls Try.prog 72 #[.agg (rtc T A' c' B' d').toArray, .int .i64 ((i : Nat) : Int)] w' (MadeT w' (fun i => ok i ∧ i < w.heap.size) (drop T u.e.key))) := ⟨fun i u A' c' B' d' w' h hu => gone_calls T A' c' B' d' i u _ w' h hu hw.srt (by omega) (by have h1 := (hw.ent u (List.mem_of_getElem? hu)).2.1; omega) hw.rm.2.2.2.2.1 hw.rm.2.2.2.2.2 hw.tl (fun x hx => by have := hw.tk x hx; omega)⟩
    clear ih h hF hw hE
    obtain ⟨⟨ra, rz, rc, rd⟩, l, tok, us⟩ := T
    obtain ⟨ek, ⟨a1, a2, a3⟩, ⟨eh, eb⟩⟩ := e
    dsimp only [rtc, ecs, ccs] at *
    go_enter Try.func70, Try.ntmps70
    go_upto_region 1 with (fail)
    generalize hX : World.alloc _ _ = W0
    have HB0 : Aside0 (Below w.heap.size w W0) := ⟨by rw [← hX]; exact below_alloc (below_alloc (below_alloc (Below.refl _ _) _) _) _⟩
    have HX : Aside0 (Blk W0 w.heap.size [.int .i64 ra, .int .i64 rz, .int .i64 rc, .bool rd, .slice A l.length c, .slice B tok.length d, .int .i64 us] ∧ Blk W0 (w.heap.size + 1) [.string ek, .int .i64 a1, .int .i64 a2, .int .i64 a3, .bool eh, .slice Ae eb.length ce] ∧ Blk W0 (w.heap.size + 2) [.int .i64 0, .int .i64 0, .int .i64 0, .bool false, .slice none 0 0, .slice none 0 0, .int .i64 0]) := ⟨by rw [← hX]; exact ⟨((Blk.new_ _ _ _ rfl rfl).alloc _).alloc _, (Blk.new_ _ _ _ (by simp) rfl).alloc _, Blk.new_ _ _ _ (by simp) rfl⟩⟩
    have hs3 : w.heap.size + 3 ≤ W0.heap.size := by have := HX.out.2.2.lt; omega
    obtain ⟨⟨x0, x1, x2, x3, x4, x5, x6⟩, _⟩ := seven HX.out.1
    obtain ⟨⟨e0, e1, e2, e3, e4, e5⟩, _⟩ := HX.out.2.1.six
    clear hX
    have HT0 := Aside0.mk (HT.out.below HB0.out)
    have HF0 : Aside0 (Kd.FK Entry.k W0 _ _ _) := ⟨Foot.step HF.out (fun i _ hlt => HB0.out.block i hlt)⟩
    go_upto_region 2 with (first | ((with_reducible refine (HWC.out _ HF0.out HT0.out).mono ?_); rintro r w4 ⟨A', c', B', d', rfl, hR, hb⟩; have HR4 := Aside0.mk hR; have HB4 := Aside0.mk hb; clear hR hb))
    obtain ⟨NL, hNL⟩ : ∃ NL, NL = newL ⟨⟨ra, rz, rc, rd⟩, l, tok, us⟩ ⟨ek, ⟨a1, a2, a3⟩, ⟨eh, eb⟩⟩ := ⟨_, rfl⟩
    rw [← hNL] at HR4 HBC HFT hnl1 hnl2
    rw [← hNL]
    clear hNL HNB HWC
    generalize hX : World.alloc _ _ = W5
    have HB5 : Aside0 (Below w4.heap.size w4 W5) := ⟨by rw [← hX]; exact below_alloc (Below.refl _ _) _⟩
    have hy : Blk W5 w4.heap.size [.int .i64 ra, .int .i64 rz, .int .i64 rc, .bool rd, .slice A' NL.length c', .slice B' tok.length d', .int .i64 us] := by rw [← hX]; exact Blk.new_ _ _ _ rfl rfl
    have HB05 := Aside0.mk (Below.then_ HB4.out HB5.out (Nat.le_refl _))
    have HX5 := Aside0.mk (And.intro (HX.out.1.on HB05.out) (And.intro (HX.out.2.1.on HB05.out) (HX.out.2.2.on HB05.out)))
    have HT5 := Aside0.mk (HT0.out.below HB05.out)
    have HF5 : Aside0 (Kd.FK Entry.k W5 _ _ _) := ⟨Foot.step HF0.out (fun i _ hlt => HB05.out.block i hlt)⟩
    have HR5 := Aside0.mk (HR4.out.below HB5.out)
    clear hX x0 x1 x2 x3 x4 x5 x6 e0 e1 e2 e3 e4 e5
    obtain ⟨⟨x0, x1, x2, x3, x4, x5, x6⟩, _⟩ := seven HX5.out.1
    obtain ⟨⟨y0, y1, y2, y3, y4, y5, y6⟩, _⟩ := seven hy
    clear hy
    have HXE := Aside0.mk (And.intro x0 (And.intro x1 (And.intro x2 (And.intro x3 (And.intro x4 (And.intro x5 x6))))))
    obtain ⟨fb, hfb⟩ : ∃ fb, fb = fits ⟨⟨ra, rz, rc, rd⟩, l, tok, us⟩ ⟨ek, ⟨a1, a2, a3⟩, ⟨eh, eb⟩⟩ := ⟨_, rfl⟩
    rw [← hfb] at HFT HVE
    clear hfb
    go_cut [27] (fun v wx => v = .bool fb ∧ Aside0 (Below W5.heap.size W5 wx))
    case first =>
      have x0 := fun w' (h : Below W5.heap.size W5 w') => pw_cell_below h x0
      have x1 := fun w' (h : Below W5.heap.size W5 w') => pw_cell_below h x1
      have x2 := fun w' (h : Below W5.heap.size W5 w') => pw_cell_below h x2
      have x3 := fun w' (h : Below W5.heap.size W5 w') => pw_cell_below h x3
      have x4 := fun w' (h : Below W5.heap.size W5 w') => pw_cell_below h x4
      have x5 := fun w' (h : Below W5.heap.size W5 w') => pw_cell_below h x5
      have x6 := fun w' (h : Below W5.heap.size W5 w') => pw_cell_below h x6
      have y0 := fun w' (h : Below W5.heap.size W5 w') => pw_cell_below h y0
      have y1 := fun w' (h : Below W5.heap.size W5 w') => pw_cell_below h y1
      have y2 := fun w' (h : Below W5.heap.size W5 w') => pw_cell_below h y2
      have y3 := fun w' (h : Below W5.heap.size W5 w') => pw_cell_below h y3
      have y4 := fun w' (h : Below W5.heap.size W5 w') => pw_cell_below h y4
      have y5 := fun w' (h : Below W5.heap.size W5 w') => pw_cell_below h y5
      have y6 := fun w' (h : Below W5.heap.size W5 w') => pw_cell_below h y6
      by_cases hA : (NL.length : Int) ≤ ra
      · have hA2 : decide ((NL.length : Int) ≤ ra) = true := by simpa using hA
        have HFB : Aside0 (decide (((szs NL : Nat) : Int) ≤ rz) = fb) := ⟨by
          rw [Bool.eq_iff_iff, HFT.out]
          simp [hA]⟩
        clear hA
        refine wp_region_noPanic ?_
        refine wp_region_held_drew (S := Below W5.heap.size W5) (by kernel_rfl) (below_drew (Below.refl _ _)) (fun hHeld => ?_)
        (refine takeH 0 13 (v := ?_) rfl rfl (by kernel_rfl) (by kernel_rfl) (by kernel_rfl) (fun _ _ _ h => h) hHeld rfl ?_ ?_; rotate_left; (focus (intro w' hSw; go_simp; try with_reducible rfl)))
        (try simp only [Act.put, List.setIfInBounds_toArray, List.set_cons_zero, List.set_cons_succ])
        (refine takeH 1 14 (v := ?_) rfl rfl (by kernel_rfl) (by kernel_rfl) (by kernel_rfl) (fun _ _ _ h => h) hHeld rfl ?_ ?_; rotate_left; (focus (intro w' hSw; go_simp; try with_reducible rfl)))
        (try simp only [Act.put, List.setIfInBounds_toArray, List.set_cons_zero, List.set_cons_succ])
        (refine takeH 2 15 (v := ?_) rfl rfl (by kernel_rfl) (by kernel_rfl) (by kernel_rfl) (fun _ _ _ h => h) hHeld rfl ?_ ?_; rotate_left; (focus (intro w' hSw; go_simp; try with_reducible rfl)))
        (try simp only [Act.put, List.setIfInBounds_toArray, List.set_cons_zero, List.set_cons_succ])
        (refine takeH 3 16 (v := ?_) rfl rfl (by kernel_rfl) (by kernel_rfl) (by kernel_rfl) (fun _ _ _ h => h) hHeld rfl ?_ ?_; rotate_left; (focus (intro w' hSw; go_simp; try with_reducible rfl)))
        (try simp only [Act.put, List.setIfInBounds_toArray, List.set_cons_zero, List.set_cons_succ])
        (refine takeH 4 17 (v := ?_) rfl rfl (by kernel_rfl) (by kernel_rfl) (by kernel_rfl) (fun _ _ _ h => h) hHeld rfl ?_ ?_; rotate_left; (focus (intro w' hSw; go_simp; try with_reducible rfl)))
        (try simp only [Act.put, List.setIfInBounds_toArray, List.set_cons_zero, List.set_cons_succ])
        (refine takeH 5 18 (v := ?_) rfl rfl (by kernel_rfl) (by kernel_rfl) (by kernel_rfl) (fun _ _ _ h => h) hHeld rfl ?_ ?_; rotate_left; (focus (intro w' hSw; go_simp; try with_reducible rfl)))
        (try simp only [Act.put, List.setIfInBounds_toArray, List.set_cons_zero, List.set_cons_succ])
        (refine takeH 6 19 (v := ?_) rfl rfl (by kernel_rfl) (by kernel_rfl) (by kernel_rfl) (fun _ _ _ h => h) hHeld rfl ?_ ?_; rotate_left; (focus (intro w' hSw; go_simp; try with_reducible rfl)))
        (try simp only [Act.put, List.setIfInBounds_toArray, List.set_cons_zero, List.set_cons_succ])
        (refine takeH 7 20 (v := ?_) rfl rfl (by kernel_rfl) (by kernel_rfl) (by kernel_rfl) (fun _ _ _ h => h) hHeld rfl ?_ ?_; rotate_left; (focus (intro w' hSw; go_simp; try with_reducible rfl)))
        (try simp only [Act.put, List.setIfInBounds_toArray, List.set_cons_zero, List.set_cons_succ])
        (first | (refine skipH 8 21 rfl rfl (by kernel_rfl) (by kernel_rfl) (by kernel_rfl) (fun _ _ _ h => h) hHeld rfl ?_) | (refine takeH 8 21 (v := ?_) rfl rfl (by kernel_rfl) (by kernel_rfl) (by kernel_rfl) (fun _ _ _ h => h) hHeld rfl ?_ ?_; rotate_left; (focus (intro w' hSw; go_simp; try with_reducible rfl))))
        (try simp only [Act.put, List.setIfInBounds_toArray, List.set_cons_zero, List.set_cons_succ])
        (first | (refine skipH 10 23 rfl rfl (by kernel_rfl) (by kernel_rfl) (by kernel_rfl) (fun _ _ _ h => h) hHeld rfl ?_) | (refine takeH 10 23 (v := ?_) rfl rfl (by kernel_rfl) (by kernel_rfl) (by kernel_rfl) (fun _ _ _ h => h) hHeld rfl ?_ ?_; rotate_left; (focus (intro w' hSw; go_simp; try with_reducible rfl))))
        (try simp only [Act.put, List.setIfInBounds_toArray, List.set_cons_zero, List.set_cons_succ])
        (first | (refine skipH 11 24 rfl rfl (by kernel_rfl) (by kernel_rfl) (by kernel_rfl) (fun _ _ _ h => h) hHeld rfl ?_) | (refine takeH 11 24 (v := ?_) rfl rfl (by kernel_rfl) (by kernel_rfl) (by kernel_rfl) (fun _ _ _ h => h) hHeld rfl ?_ ?_; rotate_left; (focus (intro w' hSw; go_simp; try with_reducible rfl))))
        (try simp only [Act.put, List.setIfInBounds_toArray, List.set_cons_zero, List.set_cons_succ])
        (first | (refine skipH 12 25 rfl rfl (by kernel_rfl) (by kernel_rfl) (by kernel_rfl) (fun _ _ _ h => h) hHeld rfl ?_) | (refine takeH 12 25 (v := ?_) rfl rfl (by kernel_rfl) (by kernel_rfl) (by kernel_rfl) (fun _ _ _ h => h) hHeld rfl ?_ ?_; rotate_left; (focus (intro w' hSw; go_simp; try with_reducible rfl))))
        (try simp only [Act.put, List.setIfInBounds_toArray, List.set_cons_zero, List.set_cons_succ])
        refine wpAnyH_ready (rs := [9]) (by kernel_rfl) (by simp) ?_
        refine AllReadyH.cons rfl (fun K hK => ?_) AllReadyH.nil
        go_simp
        refine (HBC.out A' c' B' d' _ (Kd.C_below (Kd.F_now HR5.out.l) (below_drew (Below.refl _ _)))).mono ?_
        rintro r w6 ⟨rfl, h1⟩
        have H1 := Aside0.mk (Below.then_ (below_drew (Below.refl W5.heap.size W5)) h1 (Nat.le_refl _))
        clear h1
        refine hK.out _ _ (H1.out) (fun hHeld => ?_)
        clear hK K
        (try simp only [Act.put, List.setIfInBounds_toArray, List.set_cons_zero, List.set_cons_succ])
        (first | (refine skipH 13 26 rfl rfl (by kernel_rfl) (by kernel_rfl) (by kernel_rfl) (fun _ _ _ h => h) hHeld rfl ?_) | (refine takeH 13 26 (v := ?_) rfl rfl (by kernel_rfl) (by kernel_rfl) (by kernel_rfl) (fun _ _ _ h => h) hHeld rfl ?_ ?_; rotate_left; (focus (intro w' hSw; go_simp; try with_reducible rfl))))
        (try simp only [Act.put, List.setIfInBounds_toArray, List.set_cons_zero, List.set_cons_succ])
        (refine takeH 14 27 (v := ?_) rfl rfl (by kernel_rfl) (by kernel_rfl) (by kernel_rfl) (fun _ _ _ h => h) hHeld rfl ?_ ?_; rotate_left; (focus (intro w' hSw; go_simp; try with_reducible rfl)))
        (try simp only [Act.put, List.setIfInBounds_toArray, List.set_cons_zero, List.set_cons_succ])
        refine wpAnyH_done (by kernel_rfl) ?_ _
        refine NoPanic.normal ?_
        go_wp2
        go_meet
        exact ⟨by rw [← HFB.out], H1⟩
      · have hA2 : decide ((NL.length : Int) ≤ ra) = false := by simpa using hA
        have HFB : Aside0 (fb = false) := ⟨by
          rw [Bool.eq_false_iff, Ne, HFT.out]
          exact fun h => hA h.1⟩
        clear hA
        refine wp_region_noPanic ?_
        refine wp_region_held_drew (S := Below W5.heap.size W5) (by kernel_rfl) (below_drew (Below.refl _ _)) (fun hHeld => ?_)
        (refine takeH 0 13 (v := ?_) rfl rfl (by kernel_rfl) (by kernel_rfl) (by kernel_rfl) (fun _ _ _ h => h) hHeld rfl ?_ ?_; rotate_left; (focus (intro w' hSw; go_simp; try with_reducible rfl)))
        (try simp only [Act.put, List.setIfInBounds_toArray, List.set_cons_zero, List.set_cons_succ])
        (refine takeH 1 14 (v := ?_) rfl rfl (by kernel_rfl) (by kernel_rfl) (by kernel_rfl) (fun _ _ _ h => h) hHeld rfl ?_ ?_; rotate_left; (focus (intro w' hSw; go_simp; try with_reducible rfl)))
        (try simp only [Act.put, List.setIfInBounds_toArray, List.set_cons_zero, List.set_cons_succ])
        (refine takeH 2 15 (v := ?_) rfl rfl (by kernel_rfl) (by kernel_rfl) (by kernel_rfl) (fun _ _ _ h => h) hHeld rfl ?_ ?_; rotate_left; (focus (intro w' hSw; go_simp; try with_reducible rfl)))
        (try simp only [Act.put, List.setIfInBounds_toArray, List.set_cons_zero, List.set_cons_succ])
        (refine takeH 3 16 (v := ?_) rfl rfl (by kernel_rfl) (by kernel_rfl) (by kernel_rfl) (fun _ _ _ h => h) hHeld rfl ?_ ?_; rotate_left; (focus (intro w' hSw; go_simp; try with_reducible rfl)))
        (try simp only [Act.put, List.setIfInBounds_toArray, List.set_cons_zero, List.set_cons_succ])
        (refine takeH 4 17 (v := ?_) rfl rfl (by kernel_rfl) (by kernel_rfl) (by kernel_rfl) (fun _ _ _ h => h) hHeld rfl ?_ ?_; rotate_left; (focus (intro w' hSw; go_simp; try with_reducible rfl)))
        (try simp only [Act.put, List.setIfInBounds_toArray, List.set_cons_zero, List.set_cons_succ])
        (refine takeH 5 18 (v := ?_) rfl rfl (by kernel_rfl) (by kernel_rfl) (by kernel_rfl) (fun _ _ _ h => h) hHeld rfl ?_ ?_; rotate_left; (focus (intro w' hSw; go_simp; try with_reducible rfl)))
        (try simp only [Act.put, List.setIfInBounds_toArray, List.set_cons_zero, List.set_cons_succ])
        (refine takeH 6 19 (v := ?_) rfl rfl (by kernel_rfl) (by kernel_rfl) (by kernel_rfl) (fun _ _ _ h => h) hHeld rfl ?_ ?_; rotate_left; (focus (intro w' hSw; go_simp; try with_reducible rfl)))
        (try simp only [Act.put, List.setIfInBounds_toArray, List.set_cons_zero, List.set_cons_succ])
        (refine takeH 7 20 (v := ?_) rfl rfl (by kernel_rfl) (by kernel_rfl) (by kernel_rfl) (fun _ _ _ h => h) hHeld rfl ?_ ?_; rotate_left; (focus (intro w' hSw; go_simp; try with_reducible rfl)))
        (try simp only [Act.put, List.setIfInBounds_toArray, List.set_cons_zero, List.set_cons_succ])
        (first | (refine skipH 8 21 rfl rfl (by kernel_rfl) (by kernel_rfl) (by kernel_rfl) (fun _ _ _ h => h) hHeld rfl ?_) | (refine takeH 8 21 (v := ?_) rfl rfl (by kernel_rfl) (by kernel_rfl) (by kernel_rfl) (fun _ _ _ h => h) hHeld rfl ?_ ?_; rotate_left; (focus (intro w' hSw; go_simp; try with_reducible rfl))))
        (try simp only [Act.put, List.setIfInBounds_toArray, List.set_cons_zero, List.set_cons_succ])
        (first | (refine skipH 9 22 rfl rfl (by kernel_rfl) (by kernel_rfl) (by kernel_rfl) (fun _ _ _ h => h) hHeld rfl ?_) | (refine takeH 9 22 (v := ?_) rfl rfl (by kernel_rfl) (by kernel_rfl) (by kernel_rfl) (fun _ _ _ h => h) hHeld rfl ?_ ?_; rotate_left; (focus (intro w' hSw; go_simp; try with_reducible rfl))))
        (try simp only [Act.put, List.setIfInBounds_toArray, List.set_cons_zero, List.set_cons_succ])
        (first | (refine skipH 10 23 rfl rfl (by kernel_rfl) (by kernel_rfl) (by kernel_rfl) (fun _ _ _ h => h) hHeld rfl ?_) | (refine takeH 10 23 (v := ?_) rfl rfl (by kernel_rfl) (by kernel_rfl) (by kernel_rfl) (fun _ _ _ h => h) hHeld rfl ?_ ?_; rotate_left; (focus (intro w' hSw; go_simp; try with_reducible rfl))))
        (try simp only [Act.put, List.setIfInBounds_toArray, List.set_cons_zero, List.set_cons_succ])
        (first | (refine skipH 11 24 rfl rfl (by kernel_rfl) (by kernel_rfl) (by kernel_rfl) (fun _ _ _ h => h) hHeld rfl ?_) | (refine takeH 11 24 (v := ?_) rfl rfl (by kernel_rfl) (by kernel_rfl) (by kernel_rfl) (fun _ _ _ h => h) hHeld rfl ?_ ?_; rotate_left; (focus (intro w' hSw; go_simp; try with_reducible rfl))))
        (try simp only [Act.put, List.setIfInBounds_toArray, List.set_cons_zero, List.set_cons_succ])
        (first | (refine skipH 12 25 rfl rfl (by kernel_rfl) (by kernel_rfl) (by kernel_rfl) (fun _ _ _ h => h) hHeld rfl ?_) | (refine takeH 12 25 (v := ?_) rfl rfl (by kernel_rfl) (by kernel_rfl) (by kernel_rfl) (fun _ _ _ h => h) hHeld rfl ?_ ?_; rotate_left; (focus (intro w' hSw; go_simp; try with_reducible rfl))))
        (try simp only [Act.put, List.setIfInBounds_toArray, List.set_cons_zero, List.set_cons_succ])
        (first | (refine skipH 13 26 rfl rfl (by kernel_rfl) (by kernel_rfl) (by kernel_rfl) (fun _ _ _ h => h) hHeld rfl ?_) | (refine takeH 13 26 (v := ?_) rfl rfl (by kernel_rfl) (by kernel_rfl) (by kernel_rfl) (fun _ _ _ h => h) hHeld rfl ?_ ?_; rotate_left; (focus (intro w' hSw; go_simp; try with_reducible rfl))))
        (try simp only [Act.put, List.setIfInBounds_toArray, List.set_cons_zero, List.set_cons_succ])
        (refine takeH 14 27 (v := ?_) rfl rfl (by kernel_rfl) (by kernel_rfl) (by kernel_rfl) (fun _ _ _ h => h) hHeld rfl ?_ ?_; rotate_left; (focus (intro w' hSw; go_simp; try with_reducible rfl)))
        (try simp only [Act.put, List.setIfInBounds_toArray, List.set_cons_zero, List.set_cons_succ])
        refine wpAnyH_done (by kernel_rfl) ?_ _
        refine NoPanic.normal ?_
        go_wp2
        go_meet
        exact ⟨by rw [HFB.out], ⟨below_drew (Below.refl _ _)⟩⟩
    case rest =>
      obtain ⟨rfl, HB6⟩ := hcut
      clear HR5 HR4 HB5 HB4 HBC HFT y0 y1 y2 y3 y4 y5 y6 x0 x1 x2 x3 x4 x5 x6 hnl1 hnl2
      obtain ⟨w6, hw6⟩ : ∃ w6, w6 = wc := ⟨_, rfl⟩
      rw [← hw6] at HB6
      rw [← hw6]
      clear hw6
      have HX6 := Aside0.mk (And.intro (HX5.out.1.on HB6.out) (And.intro (HX5.out.2.1.on HB6.out) (HX5.out.2.2.on HB6.out)))
      have HT6 := Aside0.mk (HT5.out.below HB6.out)
      have HF6 : Aside0 (Kd.FK Entry.k w6 _ _ _) := ⟨Foot.step HF5.out (fun i _ hlt => HB6.out.block i hlt)⟩
      have HBW6 := Aside0.mk (Below.then_ HB0.out (Below.then_ HB05.out HB6.out (Nat.le_refl _)) (Nat.le_refl _))
      have hs6 : W0.heap.size ≤ w6.heap.size := by have h1 := HB05.out.size; have h2 := HB6.out.size; omega
      clear HT5 HF5 HX5 HB05 HB6 HT0 HF0 HXE
      obtain ⟨⟨x0, x1, x2, x3, x4, x5, x6⟩, _⟩ := seven HX6.out.1
      obtain ⟨⟨e0, e1, e2, e3, e4, e5⟩, _⟩ := HX6.out.2.1.six
      obtain ⟨⟨r0, r1, r2, r3, r4, r5, r6⟩, g0, g1, g2, g3, g4, g5, g6⟩ := seven HX6.out.2.2
      cases fb with
      | true =>
        rw [if_pos rfl] at HVE
        go_wp2
        generalize hW9 : World.setCell _ _ _ = W9
        have h9 := set7_blk HX6.out.2.2 (.int .i64 ra) (.int .i64 rz) (.int .i64 rc) (.bool rd) (.slice A l.length c) (.slice B tok.length d) (.int .i64 us)
        have hO9 := set7_only w6 (w.heap.size + 2) (.int .i64 ra) (.int .i64 rz) (.int .i64 rc) (.bool rd) (.slice A l.length c) (.slice B tok.length d) (.int .i64 us)
        rw [show set7 w6 (w.heap.size + 2) (.int .i64 ra) (.int .i64 rz) (.int .i64 rc) (.bool rd) (.slice A l.length c) (.slice B tok.length d) (.int .i64 us) = W9 from hW9] at h9 hO9
        clear hW9
        have HO9 := Aside0.mk hO9
        obtain ⟨z0, z1, z2, z3, z4, z5, z6⟩ := (seven h9).1
        clear h9 hO9
        refine bodyPost_ret (v := .tuple #[.agg #[.int .i64 ra, .int .i64 rz, .int .i64 rc, .bool rd, .slice A l.length c, .slice B tok.length d, .int .i64 us], .bool true]) (by simp [results, Try.results70, go_sem, z0, z1, z2, z3, z4, z5, z6]; try rfl) rfl ?_
        refine ⟨A, c, B, d, _, by rw [HVE.out], (HT6.out.only HO9.out (fun i hi hm => by have := hi.2; simp at hm; omega)).mono (fun i hi => .inl hi.1), ?_, fun _ => by rw [HVE.out]; rfl⟩
        exact ((Only.of_below [w.heap.size + 2] HBW6.out).trans HO9.out).below (by intro i hi; simp at hi; omega) (Nat.le_refl _)
      | false =>
        rw [if_neg (by simp)] at HVE
        go_upto_region 6 with (fail)
        go_loopg [7, 8] l.length (fun gk v7 v8 wr => ∃ (j : Nat) (a : Int), v7 = .int .i64 a ∧ v8 = .int .i64 (j : Int) ∧ j ≤ l.length ∧ Aside0 (gk + j = l.length) ∧ Aside0 (AtInv l ek j a) ∧ Aside0 (Below w6.heap.size w6 wr))
        case atStart => exact ⟨0, -1, rfl, rfl, Nat.zero_le _, ⟨rfl⟩, ⟨.inl ⟨rfl, rfl⟩⟩, ⟨Below.refl _ _⟩⟩
        case round =>
          obtain ⟨j, a, rfl, rfl, hj, HG, HA, HRW⟩ := hrel
          have x0 := pw_cell_below HRW.out x0
          have x1 := pw_cell_below HRW.out x1
          have x2 := pw_cell_below HRW.out x2
          have x3 := pw_cell_below HRW.out x3
          have x4 := pw_cell_below HRW.out x4
          have x5 := pw_cell_below HRW.out x5
          have x6 := pw_cell_below HRW.out x6
          have e0 := pw_cell_below HRW.out e0
          have HDW : Aside0 (∀ m, Below w6.heap.size w6 (wr.drewN m)) := ⟨fun m => pw_below_drewN HRW.out m⟩
          by_cases hlt : j < l.length
          · have hltI : (j : Int) < (l.length : Int) := by omega
            obtain ⟨a1, u, A6, c6, rfl, HU, y0, y1, y2, y3, y4, y5, y6, y7, y8, _⟩ := RTab.cell_at HT6.out.l HRW.out j hlt
            cases huc : u.clean with
            | false =>
              rw [huc] at y7
              have HA1 := Aside0.mk (at_skip HA.out HU.out (by unfold cand; rw [huc]; rfl))
              clear huc
              go_upto_region 8 with (fail)
              go_quiet (fail)
              go_wp2
              go_roundg (l.length - (j + 1))
              case measure => have := HG.out; omega
              case rel => exact ⟨j + 1, a, rfl, by go_num, by omega, ⟨by omega⟩, HA1, ⟨HDW.out _⟩⟩
            | true =>
              rw [huc] at y7
              by_cases hke : u.e.key = ek
              · have hkb : (u.e.key.toList == ek.toList) = true := by rw [hke]; simp
                have HA1 := Aside0.mk (at_skip HA.out HU.out (by unfold cand; rw [hke]; simp))
                clear huc hke
                go_upto_region 8 with (fail)
                go_quiet (fail)
                go_wp2
                go_roundg (l.length - (j + 1))
                case measure => have := HG.out; omega
                case rel => exact ⟨j + 1, a, rfl, by go_num, by omega, ⟨by omega⟩, HA1, ⟨HDW.out _⟩⟩
              · have hkb : (u.e.key.toList == ek.toList) = false := by simpa using StrRow.txt_ne hke
                have HCD : Aside0 (cand ek u = true) := ⟨by unfold cand; rw [huc]; simp [hke]⟩
                clear huc hke
                rcases HA.out with ⟨ha, hln⟩ | ⟨i, dd, ha, hil, hi, hln⟩
                · subst ha
                  have HA1 := Aside0.mk (at_take HW.out.ow HU.out HCD.out (.inl hln))
                  clear hln
                  go_upto_region 8 with (fail)
                  go_quiet (fail)
                  go_wp2
                  go_roundg (l.length - (j + 1))
                  case measure => have := HG.out; omega
                  case rel => exact ⟨j + 1, _, rfl, by go_num, by omega, ⟨by omega⟩, HA1, ⟨HDW.out _⟩⟩
                · subst ha
                  obtain ⟨a2, u2, A7, c7, he2, HU2, _, _, _, _, _, _, _, _, p8, _⟩ := RTab.cell_at HT6.out.l HRW.out i hil
                  injection he2 with he2
                  subst he2
                  obtain rfl : u2 = dd := Option.some.inj (HU2.out.symm.trans hi)
                  have hiI : (i : Int) < (l.length : Int) := by omega
                  have hi0 : decide ((i : Int) < 0) = false := by simp
                  by_cases hus : u.used < u2.used
                  · have hub : decide (u.used < u2.used) = true := by simpa using hus
                    have HA1 := Aside0.mk (at_take HW.out.ow HU.out HCD.out (.inr ⟨u2, hln, hus⟩))
                    clear hln hus hi
                    go_upto_region 8 with (fail)
                    go_quiet (fail)
                    go_wp2
                    go_roundg (l.length - (j + 1))
                    case measure => have := HG.out; omega
                    case rel => exact ⟨j + 1, _, rfl, by go_num, by omega, ⟨by omega⟩, HA1, ⟨HDW.out _⟩⟩
                  · have hub : decide (u.used < u2.used) = false := by simpa using hus
                    have HA1 := Aside0.mk (at_keep HW.out.ow HU.out HCD.out hi hln hus)
                    clear hln hus hi
                    go_upto_region 8 with (fail)
                    go_quiet (fail)
                    go_wp2
                    go_roundg (l.length - (j + 1))
                    case measure => have := HG.out; omega
                    case rel => exact ⟨j + 1, _, rfl, by go_num, by omega, ⟨by omega⟩, HA1, ⟨HDW.out _⟩⟩
          · obtain rfl : j = l.length := by omega
            have HP : Aside0 ((l.take l.length).filter (cand ek) = l.filter (cand ek)) := ⟨by rw [List.take_length]⟩
            rcases HA.out with ⟨ha, hln⟩ | ⟨i, dd, ha, hil, hi, hln⟩
            · subst ha
              have hpk : pick l ek = none := by unfold pick; rw [← HP.out]; exact hln
              rw [hpk] at HVE
              clear hln hpk
              have HXR := Aside0.mk (HX6.out.2.2.on HRW.out)
              clear r0 r1 r2 r3 r4 r5 r6 g0 g1 g2 g3 g4 g5 g6
              obtain ⟨⟨r0, r1, r2, r3, r4, r5, r6⟩, g0, g1, g2, g3, g4, g5, g6⟩ := seven HXR.out
              go_wp2
              generalize hW9 : World.setCell _ _ _ = W9
              have h9 := set7_blk HXR.out (.int .i64 ra) (.int .i64 rz) (.int .i64 rc) (.bool rd) (.slice A l.length c) (.slice B tok.length d) (.int .i64 us)
              have hO9 := set7_only wr (w.heap.size + 2) (.int .i64 ra) (.int .i64 rz) (.int .i64 rc) (.bool rd) (.slice A l.length c) (.slice B tok.length d) (.int .i64 us)
              rw [show set7 wr (w.heap.size + 2) (.int .i64 ra) (.int .i64 rz) (.int .i64 rc) (.bool rd) (.slice A l.length c) (.slice B tok.length d) (.int .i64 us) = W9 from hW9] at h9 hO9
              clear hW9
              have HO9 := Aside0.mk hO9
              obtain ⟨z0, z1, z2, z3, z4, z5, z6⟩ := (seven h9).1
              clear h9 hO9
              refine bodyPost_ret (v := .tuple #[.agg #[.int .i64 ra, .int .i64 rz, .int .i64 rc, .bool rd, .slice A l.length c, .slice B tok.length d, .int .i64 us], .bool false]) (by simp [results, Try.results70, go_sem, z0, z1, z2, z3, z4, z5, z6]; try rfl) rfl ?_
              refine ⟨A, c, B, d, ⟨⟨ra, rz, rc, rd⟩, l, tok, us⟩, by rw [HVE.out], ((HT6.out.below HRW.out).only HO9.out (fun i hi hm => by have := hi.2; simp at hm; omega)).mono (fun i hi => .inl hi.1), ?_, fun h => by rw [HVE.out] at h; cases h⟩
              exact ((Only.of_below [w.heap.size + 2] (Below.then_ HBW6.out HRW.out (Nat.le_refl _))).trans HO9.out).below (by intro i hi; simp at hi; omega) (Nat.le_refl _)
            · subst ha
              have hpk : pick l ek = some dd := by unfold pick; rw [← HP.out]; exact hln
              rw [hpk] at HVE
              have HDI := Aside0.mk hi
              have HDL : Aside0 ((drop ⟨⟨ra, rz, rc, rd⟩, l, tok, us⟩ dd.e.key).l.length < q) := ⟨by
                have := len_drop (T := ⟨⟨ra, rz, rc, rd⟩, l, tok, us⟩) HW.out.srt (List.mem_of_getElem? hi)
                dsimp only at this
                omega⟩
              have HWD := Aside0.mk (HW.out.drop_ dd.e.key)
              dsimp only at HVE
              clear hln hpk hi
              have HXR := Aside0.mk (HX6.out.2.2.on HRW.out)
              have e1 := pw_cell_below HRW.out e1
              have e2 := pw_cell_below HRW.out e2
              have e3 := pw_cell_below HRW.out e3
              have e4 := pw_cell_below HRW.out e4
              have e5 := pw_cell_below HRW.out e5
              have hi0 : decide ((i : Int) < 0) = false := by simp
              clear r0 r1 r2 r3 r4 r5 r6 g0 g1 g2 g3 g4 g5 g6
              have x0 := fun w' (h : Only [w.heap.size + 2] wr w') => (h.cell (World.block_lt_of_cell? _ _ x0) (by simp; try omega)).trans x0
              have x1 := fun w' (h : Only [w.heap.size + 2] wr w') => (h.cell (World.block_lt_of_cell? _ _ x1) (by simp; try omega)).trans x1
              have x2 := fun w' (h : Only [w.heap.size + 2] wr w') => (h.cell (World.block_lt_of_cell? _ _ x2) (by simp; try omega)).trans x2
              have x3 := fun w' (h : Only [w.heap.size + 2] wr w') => (h.cell (World.block_lt_of_cell? _ _ x3) (by simp; try omega)).trans x3
              have x4 := fun w' (h : Only [w.heap.size + 2] wr w') => (h.cell (World.block_lt_of_cell? _ _ x4) (by simp; try omega)).trans x4
              have x5 := fun w' (h : Only [w.heap.size + 2] wr w') => (h.cell (World.block_lt_of_cell? _ _ x5) (by simp; try omega)).trans x5
              have x6 := fun w' (h : Only [w.heap.size + 2] wr w') => (h.cell (World.block_lt_of_cell? _ _ x6) (by simp; try omega)).trans x6
              have e0 := fun w' (h : Only [w.heap.size + 2] wr w') => (h.cell (World.block_lt_of_cell? _ _ e0) (by simp; try omega)).trans e0
              have e1 := fun w' (h : Only [w.heap.size + 2] wr w') => (h.cell (World.block_lt_of_cell? _ _ e1) (by simp; try omega)).trans e1
              have e2 := fun w' (h : Only [w.heap.size + 2] wr w') => (h.cell (World.block_lt_of_cell? _ _ e2) (by simp; try omega)).trans e2
              have e3 := fun w' (h : Only [w.heap.size + 2] wr w') => (h.cell (World.block_lt_of_cell? _ _ e3) (by simp; try omega)).trans e3
              have e4 := fun w' (h : Only [w.heap.size + 2] wr w') => (h.cell (World.block_lt_of_cell? _ _ e4) (by simp; try omega)).trans e4
              have e5 := fun w' (h : Only [w.heap.size + 2] wr w') => (h.cell (World.block_lt_of_cell? _ _ e5) (by simp; try omega)).trans e5
              have HTW := Aside0.mk (HT6.out.below HRW.out)
              have HFW : Aside0 (Kd.FK Entry.k wr _ _ _) := ⟨Foot.step HF6.out (fun i _ hlt => HRW.out.block i hlt)⟩
              go_upto_region 12 with (fail)
              refine wp_region_noPanic ?_
              refine wp_region_held_drew (S := Only [w.heap.size + 2] wr) (by kernel_rfl) ((Only.refl _ _).drew) (fun hHeld => ?_)
              (refine takeH 0 77 (v := ?_) rfl rfl (by kernel_rfl) (by kernel_rfl) (by kernel_rfl) (fun _ _ _ h => h) hHeld rfl ?_ ?_; rotate_left; (focus (intro w' hSw; go_simp; try with_reducible rfl)))
              (try simp only [Act.put, List.setIfInBounds_toArray, List.set_cons_zero, List.set_cons_succ])
              (refine takeH 1 78 (v := ?_) rfl rfl (by kernel_rfl) (by kernel_rfl) (by kernel_rfl) (fun _ _ _ h => h) hHeld rfl ?_ ?_; rotate_left; (focus (intro w' hSw; go_simp; try with_reducible rfl)))
              (try simp only [Act.put, List.setIfInBounds_toArray, List.set_cons_zero, List.set_cons_succ])
              (refine takeH 3 80 (v := ?_) rfl rfl (by kernel_rfl) (by kernel_rfl) (by kernel_rfl) (fun _ _ _ h => h) hHeld rfl ?_ ?_; rotate_left; (focus (intro w' hSw; go_simp; try with_reducible rfl)))
              (try simp only [Act.put, List.setIfInBounds_toArray, List.set_cons_zero, List.set_cons_succ])
              refine wpAnyH_ready (rs := [2]) (by kernel_rfl) (by simp) ?_
              refine AllReadyH.cons rfl (fun K hK => ?_) AllReadyH.nil
              go_simp
              refine (HGC.out i dd A c B d _ (HTW.out.below (below_drew (Below.refl _ _))) HDI.out).mono ?_
              rintro r w7 ⟨A7, c7, B7, d7, rfl, hR, hb⟩
              have HR7 := Aside0.mk hR
              have HB7 := Aside0.mk (Below.then_ (below_drew (Below.refl wr.heap.size wr)) hb (Nat.le_refl _))
              clear hR hb
              refine hK.out _ _ (Only.of_below _ HB7.out) (fun hHeld => ?_)
              clear hK K
              (try simp only [Act.put, List.setIfInBounds_toArray, List.set_cons_zero, List.set_cons_succ])
              have HF7 : Aside0 (Kd.FK Entry.k w7 (fun i => (ok i ∧ i < w.heap.size) ∨ wr.heap.size ≤ i) ⟨ek, ⟨a1, a2, a3⟩, ⟨eh, eb⟩⟩ [.string ek, .int .i64 a1, .int .i64 a2, .int .i64 a3, .bool eh, .slice Ae eb.length ce]) := ⟨Foot.mono (Foot.step HFW.out (fun i _ hlt => HB7.out.block i hlt)) (fun i hi => .inl hi)⟩
              have HIH := Aside0.mk (IH.out (drop ⟨⟨ra, rz, rc, rd⟩, l, tok, us⟩ dd.e.key) A7 c7 B7 d7 (n + 1) (fun i => (ok i ∧ i < w.heap.size) ∨ wr.heap.size ≤ i) w7 HR7.out HWD.out (by omega) HDL.out HF7.out)
              refine wpAnyH_ready (rs := [4]) (by kernel_rfl) (by simp) ?_
              refine AllReadyH.cons rfl (fun K hK => ?_) AllReadyH.nil
              go_simp
              refine HIH.out.mono ?_
              rintro r w8 ⟨A8, c8, B8, d8, T8, rfl, hR, hb, hT⟩
              have HR8 := Aside0.mk (And.intro hR hT)
              have HB8 := Aside0.mk (Below.then_ HB7.out hb (Nat.le_refl _))
              have HZ8 := Aside0.mk (HXR.out.on HB8.out)
              clear hR hb hT
              refine hK.out _ _ (Only.of_below _ HB8.out) (fun hHeld => ?_)
              clear hK K
              (try simp only [Act.put, List.setIfInBounds_toArray, List.set_cons_zero, List.set_cons_succ])
              (refine takeH 5 82 (v := ?_) rfl rfl (by kernel_rfl) (by kernel_rfl) (by kernel_rfl) (fun _ _ _ h => h) hHeld rfl ?_ ?_; rotate_left; (focus (intro w' hSw; go_simp; try with_reducible rfl)))
              (try simp only [Act.put, List.setIfInBounds_toArray, List.set_cons_zero, List.set_cons_succ])
              (refine takeH 6 83 (v := ?_) rfl rfl (by kernel_rfl) (by kernel_rfl) (by kernel_rfl) (fun _ _ _ h => h) hHeld rfl ?_ ?_; rotate_left; (focus (intro w' hSw; go_simp; try with_reducible rfl)))
              (try simp only [Act.put, List.setIfInBounds_toArray, List.set_cons_zero, List.set_cons_succ])
              obtain ⟨⟨r0, r1, r2, r3, r4, r5, r6⟩, g0, g1, g2, g3, g4, g5, g6⟩ := seven HZ8.out
              refine wpAnyH_ready (rs := [7]) (by kernel_rfl) (by simp) ?_
              refine AllReadyH.cons rfl (fun K hK => ?_) AllReadyH.nil
              go_simp
              refine hK.out _ _ (((((((((Only.of_below [w.heap.size + 2] HB8.out).set _ (.inl (by simp))).set _ (.inl (by simp))).set _ (.inl (by simp))).set _ (.inl (by simp))).set _ (.inl (by simp))).set _ (.inl (by simp))).set _ (.inl (by simp)))) (fun hHeld => ?_)
              clear hK K
              (try simp only [Act.put, List.setIfInBounds_toArray, List.set_cons_zero, List.set_cons_succ])
              (refine takeH 8 5 (v := ?_) rfl rfl (by kernel_rfl) (by kernel_rfl) (by kernel_rfl) (fun _ _ _ h => h) hHeld rfl ?_ ?_; rotate_left; (focus (intro w' hSw; go_simp; try with_reducible rfl)))
              (try simp only [Act.put, List.setIfInBounds_toArray, List.set_cons_zero, List.set_cons_succ])
              refine wpAnyH_done (by kernel_rfl) ?_ _
              refine NoPanic.normal ?_
              go_wp2
              generalize hW9 : World.setCell _ _ _ = W9
              have h9 := set7_blk HZ8.out (.int .i64 T8.room.cells) (.int .i64 T8.room.bytes) (.int .i64 T8.room.buckets) (.bool T8.room.fresh) (.slice A8 T8.l.length c8) (.slice B8 T8.tok.length d8) (.int .i64 T8.uses)
              have hO9 := set7_only w8 (w.heap.size + 2) (.int .i64 T8.room.cells) (.int .i64 T8.room.bytes) (.int .i64 T8.room.buckets) (.bool T8.room.fresh) (.slice A8 T8.l.length c8) (.slice B8 T8.tok.length d8) (.int .i64 T8.uses)
              rw [show set7 w8 (w.heap.size + 2) (.int .i64 T8.room.cells) (.int .i64 T8.room.bytes) (.int .i64 T8.room.buckets) (.bool T8.room.fresh) (.slice A8 T8.l.length c8) (.slice B8 T8.tok.length d8) (.int .i64 T8.uses) = W9 from hW9] at h9 hO9
              clear hW9
              have HO9 := Aside0.mk hO9
              obtain ⟨z0, z1, z2, z3, z4, z5, z6⟩ := (seven h9).1
              clear h9 hO9
              refine bodyPost_ret (v := .tuple #[.agg #[.int .i64 T8.room.cells, .int .i64 T8.room.bytes, .int .i64 T8.room.buckets, .bool T8.room.fresh, .slice A8 T8.l.length c8, .slice B8 T8.tok.length d8, .int .i64 T8.uses], .bool (vict (drop ⟨⟨ra, rz, rc, rd⟩, l, tok, us⟩ dd.e.key) ⟨ek, ⟨a1, a2, a3⟩, ⟨eh, eb⟩⟩).2]) (by simp [results, Try.results70, go_sem, z0, z1, z2, z3, z4, z5, z6]; try rfl) rfl ?_
              have s7 := HB7.out.size
              have s8 := HB8.out.size
              refine ⟨A8, c8, B8, d8, T8, by rw [HVE.out], (HR8.out.1.only HO9.out (fun i hi hm => ?_)).mono (fun i hi => ?_), ?_, fun h => ?_⟩
              · simp at hm
                have h1 := HRW.out.size
                rcases hi with (hi | hi) | hi
                · have := hi.2; omega
                · omega
                · omega
              · have h1 := HRW.out.size
                rcases hi with (hi | hi) | hi
                · exact .inl hi.1
                · right; omega
                · right; omega
              · exact ((Only.of_below [w.heap.size + 2] (Below.then_ (Below.then_ HBW6.out HRW.out (Nat.le_refl _)) HB8.out (Nat.le_refl _))).trans HO9.out).below (by intro i hi; simp at hi; omega) (Nat.le_refl _)
              · rw [HVE.out] at h ⊢
                rw [HR8.out.2 h]
                rfl
end RTab
end Go.Proofs.Ytgfjkpnaabiecaa
set_option linter.unusedVariables false
set_option linter.unusedSimpArgs false
namespace Go.Proofs.Ytgfjkpnaabiecaa
open Go.RowKit Go.Proofs.YtgfjkpnaabiecaaW.PrintWords
namespace RTab
open Tags Tab
theorem within_calls (a b : Int) (w : World) : Calls Try.prog 98 #[.int .i64 a, .int .i64 b] w fun e w' => e = .returned (.bool (decide (0 ≤ a ∧ a ≤ b))) ∧ w' = w := by
  go_enter Try.func98, Try.ntmps98
  go_wp2
  all_goals
    go_ret
    refine ⟨?_, rfl⟩
    show Ending.returned (.bool _) = .returned (.bool _)
    congr 2
    rw [Bool.eq_iff_iff]
    simp
    try omega
set_option maxRecDepth 100000 in
theorem checkR_calls (a1 a2 a3 : Int) (w : World) : Calls Try.prog 81 #[.agg #[.int .i64 a1, .int .i64 a2, .int .i64 a3]] w fun e w' => e = .returned (.int .i64 (chk ⟨a1, a2, a3⟩)) ∧ Below w.heap.size w w' := by
  have HW := Aside0.mk (fun a b w => within_calls a b w)
  obtain ⟨b1, h1⟩ : ∃ b, b = decide (0 ≤ a1 ∧ a1 ≤ 1099511627775) := ⟨_, rfl⟩
  obtain ⟨b2, h2⟩ : ∃ b, b = decide (0 ≤ a2 ∧ a2 ≤ 1048575) := ⟨_, rfl⟩
  obtain ⟨b3, h3⟩ : ∃ b, b = decide (0 ≤ a3 ∧ a3 ≤ 1048575) := ⟨_, rfl⟩
  have W1 : Aside0 (∀ w, Calls Try.prog 98 #[.int .i64 a1, .int .i64 1099511627775] w fun e w' => e = .returned (.bool b1) ∧ w' = w) := ⟨fun w => by rw [h1]; exact within_calls _ _ _⟩
  have W2 : Aside0 (∀ w, Calls Try.prog 98 #[.int .i64 a2, .int .i64 1048575] w fun e w' => e = .returned (.bool b2) ∧ w' = w) := ⟨fun w => by rw [h2]; exact within_calls _ _ _⟩
  have W3 : Aside0 (∀ w, Calls Try.prog 98 #[.int .i64 a3, .int .i64 1048575] w fun e w' => e = .returned (.bool b3) ∧ w' = w) := ⟨fun w => by rw [h3]; exact within_calls _ _ _⟩
  have HC : Aside0 (chk ⟨a1, a2, a3⟩ = if b1 ∧ b2 ∧ b3 ∧ (a1 = 0 → a2 = 0 ∧ a3 = 0) then 0 else 2) := ⟨by
    rw [h1, h2, h3]
    unfold chk TagOk
    congr 1
    simp
    constructor
    · rintro ⟨h1, h2, h3, h4, h5, h6, h7⟩; exact ⟨⟨h1, h2⟩, ⟨h3, h4⟩, ⟨h5, h6⟩, h7⟩
    · rintro ⟨⟨h1, h2⟩, ⟨h3, h4⟩, ⟨h5, h6⟩, h7⟩; exact ⟨h1, h2, h3, h4, h5, h6, h7⟩⟩
  have HI : Aside0 ((b2 = true → 0 ≤ a2) ∧ (b3 = true → 0 ≤ a3)) := ⟨by rw [h2, h3]; simp; omega⟩
  obtain ⟨cv, hcv⟩ : ∃ cv, cv = chk ⟨a1, a2, a3⟩ := ⟨_, rfl⟩
  rw [← hcv] at HC
  rw [← hcv]
  clear h1 h2 h3 HW hcv
  go_enter Try.func81, Try.ntmps81
  cases b1 <;> cases b2 <;> cases b3 <;> go_wp2_with (first | ((with_reducible refine (W1.out _).mono ?_); rintro e w1 ⟨rfl, rfl⟩) | ((with_reducible refine (W2.out _).mono ?_); rintro e w1 ⟨rfl, rfl⟩) | ((with_reducible refine (W3.out _).mono ?_); rintro e w1 ⟨rfl, rfl⟩))
  all_goals
    go_ret
    refine ⟨?_, below_alloc (Below.refl _ _) _⟩
    rw [HC.out]
    have hi := HI.out
    refine ret_i64 ?_
    simp at hi ⊢
    try omega
set_option maxRecDepth 100000 in
theorem rightR_calls (k : ByteArray) (a1 a2 a3 : Int) (h : Bool) (A : Option Addr) (c : Nat) (b : List UInt8) (w : World) (hk : k.size ≤ 140737488351232) (hb : b.length ≤ 140737488351232) :
    Calls Try.prog 69 #[.agg #[.string k, .int .i64 a1, .int .i64 a2, .int .i64 a3, .bool h, .slice A b.length c]] w fun e w' => e = .returned (.int .i64 (rgt ⟨k, ⟨a1, a2, a3⟩, ⟨h, b⟩⟩)) ∧ Below w.heap.size w w' := by
  obtain ⟨cv, hcv⟩ : ∃ cv, cv = chk ⟨a1, a2, a3⟩ := ⟨_, rfl⟩
  have HCK : Aside0 (∀ w', Calls Try.prog 81 #[.agg #[.int .i64 a1, .int .i64 a2, .int .i64 a3]] w' fun e w'' => e = .returned (.int .i64 cv) ∧ Below w'.heap.size w' w'') := ⟨fun w' => by rw [hcv]; exact checkR_calls _ _ _ _⟩
  have HCV := Aside0.mk hcv
  have hcc : cv = 0 ∨ cv = 2 := by rw [hcv]; unfold chk; split <;> simp
  clear hcv
  rcases hcc with hcc | hcc
  all_goals
    subst hcc
    go_enter Try.func69, Try.ntmps69
    go_wp2_with (first | ((with_reducible refine (HCK.out _).mono ?_); rintro e w' ⟨rfl, hb1⟩; have HB := Aside0.mk hb1; have hcc := (bcell hb1).1; have hz : w.heap.size < w'.heap.size := (by have := hb1.size; simp at this; omega); clear hb1))
    all_goals
      have hcv := HCV.out
      go_ret
      refine ⟨?_, ?_⟩
      · refine ret_i64 ?_
        grind [rgt, EntOk, chk]
      · first
        | exact below_alloc (Below.refl _ w) _
        | exact Below.then_ (below_alloc (Below.refl _ w) _) HB.out (Nat.le_refl _)
end RTab
end Go.Proofs.Ytgfjkpnaabiecaa
set_option linter.unusedVariables false
set_option linter.unusedSimpArgs false
namespace Go.Proofs.Ytgfjkpnaabiecaa
open Go.RowKit Go.Proofs.YtgfjkpnaabiecaaW.PrintWords
namespace RTab
open Tags Tab Cmp
theorem two_set {W : World} {b b2 : Nat} {u0 u1 u2 u3 u4 u5 u6 t0 t1 t2 t3 t4 t5 t6 t7 : Value} (h : Blk W b [u0, u1, u2, u3, u4, u5, u6]) (h2 : Blk W b2 [t0, t1, t2, t3, t4, t5, t6, t7]) (hne : b ≠ b2) (v0 v1 v2 v3 v4 v5 v6 s0 s1 s2 s3 s4 s5 s6 s7 : Value) :
    Blk (set8 (set7 W b v0 v1 v2 v3 v4 v5 v6) b2 s0 s1 s2 s3 s4 s5 s6 s7) b [v0, v1, v2, v3, v4, v5, v6] ∧ Blk (set8 (set7 W b v0 v1 v2 v3 v4 v5 v6) b2 s0 s1 s2 s3 s4 s5 s6 s7) b2 [s0, s1, s2, s3, s4, s5, s6, s7] ∧ Only [b, b2] W (set8 (set7 W b v0 v1 v2 v3 v4 v5 v6) b2 s0 s1 s2 s3 s4 s5 s6 s7) :=
  ⟨(set7_blk h v0 v1 v2 v3 v4 v5 v6).only (set8_only _ _ _ _ _ _ _ _ _ _) (by simp [hne]),
   set8_blk (h2.only (set7_only _ _ _ _ _ _ _ _ _) (by simp [Ne.symm hne])) s0 s1 s2 s3 s4 s5 s6 s7,
   ((set7_only W b v0 v1 v2 v3 v4 v5 v6).mono (fun i hi => .inl (by simp at hi ⊢; omega))).trans ((set8_only _ _ _ _ _ _ _ _ _ _).mono (fun i hi => .inl (by simp at hi ⊢; omega)))⟩
theorem fk_reply {w : World} {ok : Nat → Prop} {e : Entry} {A : Option Addr} {c : Nat} {x : Bool} {u : Int} (h : Kd.FK Entry.k w ok e (ecs e A c)) (hu : InR .i64 u) : Kd.FK Reply.k w ok ⟨e, x, u⟩ (rcs ⟨e, x, u⟩ A c) := by
  refine Foot.imp h (fun W' hK => ?_)
  obtain ⟨A5, c5, he, s0, r1, r2, r3, l5, g5⟩ := Entry.open_ hK
  simp only [ecs, List.cons.injEq, Value.slice.injEq, true_and, and_true] at he
  obtain ⟨rfl, rfl⟩ := he
  exact Reply.mk_ W' ⟨e, x, u⟩ s0 r1 r2 r3 l5 g5 hu
theorem fk_ent {w : World} {ok : Nat → Prop} {c : Cell} {A : Option Addr} {cp : Nat} (h : Kd.FK Cell.k w ok c (ccs c A cp)) : Kd.FK Entry.k w ok c.e (ecs c.e A cp) := by
  refine Foot.imp h (fun W' hK => ?_)
  obtain ⟨A5, c5, he, s0, r1, r2, r3, l5, g5, r8⟩ := Cell.open_ hK
  simp only [ccs, List.cons.injEq, Value.slice.injEq, true_and, and_true] at he
  obtain ⟨rfl, rfl⟩ := he
  exact Entry.mk_ W' c.e s0 r1 r2 r3 l5 g5
theorem fk_entz (w : World) (ok : Nat → Prop) (k : ByteArray) (hk : k.size ≤ 140737488351232) : Kd.FK Entry.k w ok ⟨k, Tag.z, Val.z⟩ [.string k, .int .i64 0, .int .i64 0, .int .i64 0, .bool false, .slice none 0 0] :=
  fun W' _ => Entry.mk_ W' ⟨k, Tag.z, Val.z⟩ hk izr izr izr (Nat.le_refl _) (Kd.C_nil _ _)
theorem fk_repz (w : World) (ok : Nat → Prop) : Kd.FK Reply.k w ok Reply.z [.string ByteArray.empty, .int .i64 0, .int .i64 0, .int .i64 0, .bool false, .slice none 0 0, .bool false, .int .i64 0] :=
  fun W' _ => Reply.mk_ W' Reply.z (by decide) izr izr izr (Nat.le_refl _) (Kd.C_nil _ _) izr
/-- What Query leaves. -/
def QueryR (w : World) (ok : Nat → Prop) (T : Tb) (k : ByteArray) (e : Ending) (w' : World) : Prop :=
  ∃ A c B d A5 c5, e = .returned (.tuple #[.agg (rtc (queryT T k) A c B d).toArray, .agg (rcs (queryR T k) A5 c5).toArray, .int .i64 (queryE k)]) ∧ RT w' (fun i => ok i ∨ w.heap.size ≤ i) (queryT T k) A c B d ∧ Kd.FK Reply.k w' (fun i => ok i ∨ w.heap.size ≤ i) (queryR T k) (rcs (queryR T k) A5 c5) ∧ Below w.heap.size w w'
set_option maxRecDepth 100000 in
set_option maxHeartbeats 2000000 in
theorem queryR_calls (T : Tb) (A : Option Addr) (c : Nat) (B : Option Addr) (d : Nat) (k : ByteArray) (n : Int) (ok : Nat → Prop) (w : World) (h : RT w ok T A c B d) (hw : Wf T n) (hn : n ≤ 2000000000000000000) (hks : k.size ≤ 140737488351232) :
    Calls Try.prog 49 #[.agg (rtc T A c B d).toArray, .string k] w (QueryR w ok T k) := by
  have HT := Aside0.mk h.bound
  have HTL := Aside0.mk hw.tok_len
  obtain ⟨r1, r2, r3, r4, r5, r6⟩ := hw.rm
  have HKS := Aside0.mk hks
  by_cases hk : KeyOk k
  · obtain ⟨b0, b1⟩ := Hash.bkt_bd k r5
    obtain ⟨i, hi⟩ : ∃ i : Nat, Hash.bkt k T.room.buckets = (i : Int) := ⟨_, (Int.toNat_of_nonneg b0).symm⟩
    have htl := hw.tl
    have hil : i < T.tok.length := by rw [hi] at b1; omega
    obtain ⟨x, hx⟩ : ∃ x, T.tok[i]? = some x := ⟨_, List.getElem?_eq_getElem hil⟩
    have HX0 : Aside0 (tokAt T k = x) := ⟨by unfold tokAt; rw [hi, Int.toNat_natCast, List.getD_eq_getElem?_getD, hx]; rfl⟩
    have hxb := hw.tk x (List.mem_of_getElem? hx)
    have HBK : Aside0 (∀ A c B d w', Calls Try.prog 66 #[.agg (rtc T A c B d).toArray, .string k] w' fun e w'' => e = .returned (.int .i64 (i : Int)) ∧ Below w'.heap.size w' w'') := ⟨fun A c B d w' => by
      have := bucketR_calls T A c B d k w' hks r5 r6
      rw [hi] at this
      exact this⟩
    obtain ⟨fi, hfi⟩ : ∃ fi, fi = findI T.l k := ⟨_, rfl⟩
    have HF : Aside0 (∀ A c B d w', Cell.k.C w' A T.l.length T.l → Calls Try.prog 67 #[.agg (rtc T A c B d).toArray, .string k] w' fun e w'' => e = .returned (.int .i64 fi) ∧ Below w'.heap.size w' w'') := ⟨fun A c B d w' h => by rw [hfi]; exact find_calls T A c B d k w' h⟩
    have HFI : Aside0 ((fi = -1 ∧ find T.l k = none) ∨ ∃ j u, fi = ((j : Nat) : Int) ∧ T.l[j]? = some u ∧ find T.l k = some u) := ⟨by
      rw [hfi]
      rcases hf : find T.l k with _ | u
      · exact .inl ⟨findI_none hf, rfl⟩
      · exact .inr ⟨_, u, findI_some hf, (idx_some hf).2, rfl⟩⟩
    clear hfi
    have hTl : T.l.length ≤ 4096 := by have h1 := hw.len; omega
    have HXR : Aside0 (InR .i64 x) := ⟨hw.tok_in (by omega) x (List.mem_of_getElem? hx)⟩
    have HUS : Aside0 (0 ≤ T.uses ∧ T.uses ≤ 4000000000000000000) := ⟨by have := hw.us; omega⟩
    have HE : Aside0 (queryE k = 0) := ⟨if_pos hk⟩
    have hkz := hk
    unfold KeyOk at hkz
    have HXI := Aside0.mk hx
    have HQS : Aside0 (∀ u, find T.l k = some u → queryT T k = lay T u ∧ queryR T k = ⟨u.e, u.whole, x⟩) := ⟨fun u hu => by unfold queryT queryR; rw [if_pos hk, if_pos hk, hu, HX0.out]; exact ⟨rfl, rfl⟩⟩
    have HQN : Aside0 (find T.l k = none → queryT T k = T ∧ queryR T k = ⟨⟨k, Tag.z, Val.z⟩, x == 0, x⟩) := ⟨fun hu => by unfold queryT queryR; rw [if_pos hk, if_pos hk, hu, HX0.out]; exact ⟨rfl, rfl⟩⟩
    clear r1 r2 r3 r4 h hw b0 b1 hi hx htl hk r5 r6
    obtain ⟨⟨ra, rz, rc, rd⟩, l, tok, us⟩ := T
    dsimp only [rtc] at *
    go_enter Try.func49, Try.ntmps49
    go_upto_region 3 with (fail)
    generalize hX : World.alloc _ _ = W0
    have HB0 : Aside0 (Below w.heap.size w W0) := ⟨by rw [← hX]; exact below_alloc (below_alloc (below_alloc (Below.refl _ _) _) _) _⟩
    have HX : Aside0 (Blk W0 w.heap.size [.int .i64 ra, .int .i64 rz, .int .i64 rc, .bool rd, .slice A l.length c, .slice B tok.length d, .int .i64 us] ∧ Blk W0 (w.heap.size + 1) [.int .i64 0, .int .i64 0, .int .i64 0, .bool false, .slice none 0 0, .slice none 0 0, .int .i64 0] ∧ Blk W0 (w.heap.size + 2) [.string ByteArray.empty, .int .i64 0, .int .i64 0, .int .i64 0, .bool false, .slice none 0 0, .bool false, .int .i64 0]) := ⟨by rw [← hX]; exact ⟨((Blk.new_ _ _ _ rfl rfl).alloc _).alloc _, (Blk.new_ _ _ _ (by simp) rfl).alloc _, Blk.new_ _ _ _ (by simp) rfl⟩⟩
    have hs3 : w.heap.size + 3 ≤ W0.heap.size := by have := HX.out.2.2.lt; omega
    obtain ⟨⟨x0, x1, x2, x3, x4, x5, x6⟩, _⟩ := seven HX.out.1
    have HT0 := Aside0.mk (HT.out.below HB0.out)
    obtain ⟨ad, x', rfl, HXI', t0, _⟩ := int_at (Kd.F_now HT0.out.k) i hil
    obtain rfl : x' = x := Option.some.inj (HXI'.out.symm.trans HXI.out)
    have i0 : (0 : Int) ≤ (i : Int) := by omega
    have i1 : (i : Int) < (tok.length : Int) := by omega
    clear hX
    have x0 := fun w' (h : Below W0.heap.size W0 w') => pw_cell_below h x0
    have x1 := fun w' (h : Below W0.heap.size W0 w') => pw_cell_below h x1
    have x2 := fun w' (h : Below W0.heap.size W0 w') => pw_cell_below h x2
    have x3 := fun w' (h : Below W0.heap.size W0 w') => pw_cell_below h x3
    have x4 := fun w' (h : Below W0.heap.size W0 w') => pw_cell_below h x4
    have x5 := fun w' (h : Below W0.heap.size W0 w') => pw_cell_below h x5
    have x6 := fun w' (h : Below W0.heap.size W0 w') => pw_cell_below h x6
    have t0 := fun w' (h : Below W0.heap.size W0 w') => pw_cell_below h t0
    refine wp_region_noPanic ?_
    refine wp_region_held_drew (S := Below W0.heap.size W0) (by kernel_rfl) (below_drew (Below.refl _ _)) (fun hHeld => ?_)
    (refine takeH 0 20 (v := ?_) rfl rfl (by kernel_rfl) (by kernel_rfl) (by kernel_rfl) (fun _ _ _ h => h) hHeld rfl ?_ ?_; rotate_left; (focus (intro w' hSw; go_simp; try with_reducible rfl)))
    (try simp only [Act.put, List.setIfInBounds_toArray, List.set_cons_zero, List.set_cons_succ])
    (refine takeH 1 21 (v := ?_) rfl rfl (by kernel_rfl) (by kernel_rfl) (by kernel_rfl) (fun _ _ _ h => h) hHeld rfl ?_ ?_; rotate_left; (focus (intro w' hSw; go_simp; try with_reducible rfl)))
    (try simp only [Act.put, List.setIfInBounds_toArray, List.set_cons_zero, List.set_cons_succ])
    (refine takeH 2 22 (v := ?_) rfl rfl (by kernel_rfl) (by kernel_rfl) (by kernel_rfl) (fun _ _ _ h => h) hHeld rfl ?_ ?_; rotate_left; (focus (intro w' hSw; go_simp; try with_reducible rfl)))
    (try simp only [Act.put, List.setIfInBounds_toArray, List.set_cons_zero, List.set_cons_succ])
    (refine takeH 3 23 (v := ?_) rfl rfl (by kernel_rfl) (by kernel_rfl) (by kernel_rfl) (fun _ _ _ h => h) hHeld rfl ?_ ?_; rotate_left; (focus (intro w' hSw; go_simp; try with_reducible rfl)))
    (try simp only [Act.put, List.setIfInBounds_toArray, List.set_cons_zero, List.set_cons_succ])
    refine wpAnyH_ready (rs := [4]) (by kernel_rfl) (by simp) ?_
    refine AllReadyH.cons rfl (fun K hK => ?_) AllReadyH.nil
    go_simp
    refine (HBK.out _ _ _ _ _).mono ?_
    rintro e w1 ⟨rfl, h1⟩
    have H1 := Aside0.mk (Below.then_ (below_drew (Below.refl W0.heap.size W0)) h1 (Nat.le_refl _))
    clear h1
    refine hK.out _ _ (H1.out) (fun hHeld => ?_)
    clear hK K
    (try simp only [Act.put, List.setIfInBounds_toArray, List.set_cons_zero, List.set_cons_succ])
    (refine takeH 5 25 (v := ?_) rfl rfl (by kernel_rfl) (by kernel_rfl) (by kernel_rfl) (fun _ _ _ h => h) hHeld rfl ?_ ?_; rotate_left; (focus (intro w' hSw; go_simp; try with_reducible rfl)))
    (try simp only [Act.put, List.setIfInBounds_toArray, List.set_cons_zero, List.set_cons_succ])
    (refine takeH 6 26 (v := ?_) rfl rfl (by kernel_rfl) (by kernel_rfl) (by kernel_rfl) (fun _ _ _ h => h) hHeld rfl ?_ ?_; rotate_left; (focus (intro w' hSw; go_simp; try with_reducible rfl)))
    (try simp only [Act.put, List.setIfInBounds_toArray, List.set_cons_zero, List.set_cons_succ])
    (refine takeH 7 7 (v := ?_) rfl rfl (by kernel_rfl) (by kernel_rfl) (by kernel_rfl) (fun _ _ _ h => h) hHeld rfl ?_ ?_; rotate_left; (focus (intro w' hSw; go_simp; try with_reducible rfl)))
    (try simp only [Act.put, List.setIfInBounds_toArray, List.set_cons_zero, List.set_cons_succ])
    refine wpAnyH_done (by kernel_rfl) ?_ _
    refine NoPanic.normal ?_
    have HX1 := Aside0.mk (And.intro (HX.out.1.on H1.out) (And.intro (HX.out.2.1.on H1.out) (HX.out.2.2.on H1.out)))
    have HT1 := Aside0.mk (HT0.out.below H1.out)
    clear x0 x1 x2 x3 x4 x5 x6 t0
    obtain ⟨⟨x0, x1, x2, x3, x4, x5, x6⟩, _⟩ := seven HX1.out.1
    go_upto_region 5 with (first | ((with_reducible refine (HF.out _ _ _ _ _ (Kd.F_now HT1.out.l)).mono ?_); rintro e w2 ⟨rfl, h2⟩; have H2 := Aside0.mk (Below.then_ H1.out h2 (Nat.le_refl _)); clear h2))
    have HX2 := Aside0.mk (And.intro (HX.out.1.on H2.out) (And.intro (HX.out.2.1.on H2.out) (HX.out.2.2.on H2.out)))
    have HT2 := Aside0.mk (HT0.out.below H2.out)
    have hne : w.heap.size + 1 ≠ w.heap.size + 2 := by omega
    clear x0 x1 x2 x3 x4 x5 x6
    obtain ⟨⟨x0, x1, x2, x3, x4, x5, x6⟩, _⟩ := seven HX2.out.1
    rcases HFI.out with ⟨rfl, hf⟩ | ⟨j, u, rfl, hj, hf⟩
    · obtain ⟨hQT, hQR⟩ := HQN.out hf
      have HQ := Aside0.mk (And.intro hQT hQR)
      clear hQT hQR hf
      obtain ⟨⟨r0, r1, r2, r3, r4, r5, r6⟩, g0, g1, g2, g3, g4, g5, g6⟩ := seven HX2.out.2.1
      obtain ⟨⟨q0, q1, q2, q3, q4, q5, q6, q7⟩, p0, p1, p2, p3, p4, p5, p6, p7⟩ := HX2.out.2.2.eight
      go_wp2
      generalize hW9 : World.setCell _ _ _ = W9
      have h9 := two_set HX2.out.2.1 HX2.out.2.2 hne (.int .i64 ra) (.int .i64 rz) (.int .i64 rc) (.bool rd) (.slice A l.length c) (.slice (some ad) tok.length d) (.int .i64 us) (.string k) (.int .i64 0) (.int .i64 0) (.int .i64 0) (.bool false) (.slice none 0 0) (.bool (x' == 0)) (.int .i64 x')
      rw [show set8 (set7 w2 _ (.int .i64 ra) (.int .i64 rz) (.int .i64 rc) (.bool rd) (.slice A l.length c) (.slice (some ad) tok.length d) (.int .i64 us)) _ (.string k) (.int .i64 0) (.int .i64 0) (.int .i64 0) (.bool false) (.slice none 0 0) (.bool (x' == 0)) (.int .i64 x') = W9 from hW9] at h9
      clear hW9
      have HO9 := Aside0.mk h9.2.2
      obtain ⟨z0, z1, z2, z3, z4, z5, z6⟩ := (seven h9.1).1
      obtain ⟨y0, y1, y2, y3, y4, y5, y6, y7⟩ := h9.2.1.eight.1
      clear h9
      refine bodyPost_ret (v := .tuple #[.agg #[.int .i64 ra, .int .i64 rz, .int .i64 rc, .bool rd, .slice A l.length c, .slice (some ad) tok.length d, .int .i64 us], .agg #[.string k, .int .i64 0, .int .i64 0, .int .i64 0, .bool false, .slice none 0 0, .bool (x' == 0), .int .i64 x'], .int .i64 0]) (by simp [results, Try.results49, go_sem, z0, z1, z2, z3, z4, z5, z6, y0, y1, y2, y3, y4, y5, y6, y7]; try rfl) rfl ?_
      have hnn : ∀ i, ok i ∧ i < w.heap.size → i ∉ [w.heap.size + 1, w.heap.size + 2] := fun i hi hm => by have := hi.2; simp at hm; omega
      unfold QueryR
      rw [HE.out, HQ.out.1, HQ.out.2]
      exact ⟨A, c, some ad, d, none, 0, rfl, (HT2.out.only HO9.out hnn).mono (fun i hi => .inl hi.1), fk_reply (fk_entz _ _ k HKS.out) HXR.out, ((Only.of_below [w.heap.size + 1, w.heap.size + 2] (Below.then_ HB0.out H2.out (Nat.le_refl _))).trans HO9.out).below (by intro i hi; simp at hi; omega) (Nat.le_refl _)⟩
    · obtain ⟨hQT, hQR⟩ := HQS.out u hf
      have hjl : j < l.length := (List.getElem?_eq_some_iff.1 hj).1
      have hjI : (j : Int) < (l.length : Int) := by omega
      obtain ⟨a1, u', A5, c5, rfl, HU', k0, k1, k2, k3, k4, k5, k6, k7, k8, HFK⟩ := RTab.cell_at HT2.out.l (Below.refl _ _) j hjl
      obtain rfl : u' = u := Option.some.inj (HU'.out.symm.trans hj)
      obtain ⟨T8, hT8⟩ : ∃ T8, T8 = lay ⟨⟨ra, rz, rc, rd⟩, l, tok, us⟩ u' := ⟨_, rfl⟩
      have HQ : Aside0 (queryT ⟨⟨ra, rz, rc, rd⟩, l, tok, us⟩ k = T8 ∧ queryR ⟨⟨ra, rz, rc, rd⟩, l, tok, us⟩ k = ⟨u'.e, u'.whole, x'⟩) := ⟨by rw [hT8]; exact ⟨hQT, hQR⟩⟩
      have HUC : Aside0 (∀ w', RT w' (fun i => ok i ∧ i < w.heap.size) ⟨⟨ra, rz, rc, rd⟩, l, tok, us⟩ (some a1) c (some ad) d → Kd.FK Cell.k w' (fun i => ok i ∧ i < w.heap.size) u' (ccs u' A5 c5) → Calls Try.prog 68 #[.agg (rtc ⟨⟨ra, rz, rc, rd⟩, l, tok, us⟩ (some a1) c (some ad) d).toArray, .agg (ccs u' A5 c5).toArray] w' (MadeT w' (fun i => ok i ∧ i < w.heap.size) T8)) := ⟨fun w' h1 h2 => by rw [hT8]; exact use_calls ⟨⟨ra, rz, rc, rd⟩, l, tok, us⟩ (some a1) c (some ad) d u' A5 c5 _ w' h1 h2 (by dsimp only; omega) HUS.out⟩
      clear hQT hQR hf hj hT8
      go_upto_region 8 with (fail)
      generalize hX5 : World.alloc _ _ = W5
      have HB5 : Aside0 (Below w2.heap.size w2 W5) := ⟨by rw [← hX5]; exact below_alloc (Below.refl _ _) _⟩
      have HX5 : Aside0 (Blk W5 w2.heap.size (ccs u' A5 c5)) := ⟨by rw [← hX5]; exact Blk.new_ _ _ _ rfl rfl⟩
      have HY5 := Aside0.mk (And.intro (HX2.out.1.on HB5.out) (And.intro (HX2.out.2.1.on HB5.out) (HX2.out.2.2.on HB5.out)))
      have HT5 := Aside0.mk (HT2.out.below HB5.out)
      have HFK5 : Aside0 (Kd.FK Cell.k W5 (fun i => ok i ∧ i < w.heap.size) u' (ccs u' A5 c5)) := ⟨Foot.step HFK.out (fun i _ hlt => HB5.out.block i hlt)⟩
      have hs5 : w.heap.size + 3 ≤ w2.heap.size := by have := HX2.out.2.2.lt; omega
      have hs6 := HX5.out.lt
      clear hX5 x0 x1 x2 x3 x4 x5 x6 k0 k1 k2 k3 k4 k5 k6 k7 k8
      obtain ⟨⟨x0, x1, x2, x3, x4, x5, x6⟩, _⟩ := seven HY5.out.1
      obtain ⟨⟨k0, k1, k2, k3, k4, k5, k6, k7, k8⟩, _⟩ := HX5.out.nine
      have x0 := fun w' (h : Only [w.heap.size + 1, w.heap.size + 2] W5 w') => (h.cell (World.block_lt_of_cell? _ _ x0) (by simp; try omega)).trans x0
      have x1 := fun w' (h : Only [w.heap.size + 1, w.heap.size + 2] W5 w') => (h.cell (World.block_lt_of_cell? _ _ x1) (by simp; try omega)).trans x1
      have x2 := fun w' (h : Only [w.heap.size + 1, w.heap.size + 2] W5 w') => (h.cell (World.block_lt_of_cell? _ _ x2) (by simp; try omega)).trans x2
      have x3 := fun w' (h : Only [w.heap.size + 1, w.heap.size + 2] W5 w') => (h.cell (World.block_lt_of_cell? _ _ x3) (by simp; try omega)).trans x3
      have x4 := fun w' (h : Only [w.heap.size + 1, w.heap.size + 2] W5 w') => (h.cell (World.block_lt_of_cell? _ _ x4) (by simp; try omega)).trans x4
      have x5 := fun w' (h : Only [w.heap.size + 1, w.heap.size + 2] W5 w') => (h.cell (World.block_lt_of_cell? _ _ x5) (by simp; try omega)).trans x5
      have x6 := fun w' (h : Only [w.heap.size + 1, w.heap.size + 2] W5 w') => (h.cell (World.block_lt_of_cell? _ _ x6) (by simp; try omega)).trans x6
      have k0 := fun w' (h : Only [w.heap.size + 1, w.heap.size + 2] W5 w') => (h.cell (World.block_lt_of_cell? _ _ k0) (by simp; try omega)).trans k0
      have k1 := fun w' (h : Only [w.heap.size + 1, w.heap.size + 2] W5 w') => (h.cell (World.block_lt_of_cell? _ _ k1) (by simp; try omega)).trans k1
      have k2 := fun w' (h : Only [w.heap.size + 1, w.heap.size + 2] W5 w') => (h.cell (World.block_lt_of_cell? _ _ k2) (by simp; try omega)).trans k2
      have k3 := fun w' (h : Only [w.heap.size + 1, w.heap.size + 2] W5 w') => (h.cell (World.block_lt_of_cell? _ _ k3) (by simp; try omega)).trans k3
      have k4 := fun w' (h : Only [w.heap.size + 1, w.heap.size + 2] W5 w') => (h.cell (World.block_lt_of_cell? _ _ k4) (by simp; try omega)).trans k4
      have k5 := fun w' (h : Only [w.heap.size + 1, w.heap.size + 2] W5 w') => (h.cell (World.block_lt_of_cell? _ _ k5) (by simp; try omega)).trans k5
      have k6 := fun w' (h : Only [w.heap.size + 1, w.heap.size + 2] W5 w') => (h.cell (World.block_lt_of_cell? _ _ k6) (by simp; try omega)).trans k6
      have k7 := fun w' (h : Only [w.heap.size + 1, w.heap.size + 2] W5 w') => (h.cell (World.block_lt_of_cell? _ _ k7) (by simp; try omega)).trans k7
      have k8 := fun w' (h : Only [w.heap.size + 1, w.heap.size + 2] W5 w') => (h.cell (World.block_lt_of_cell? _ _ k8) (by simp; try omega)).trans k8
      refine wp_region_noPanic ?_
      refine wp_region_held_drew (S := Only [w.heap.size + 1, w.heap.size + 2] W5) (by kernel_rfl) ((Only.refl _ _).drew) (fun hHeld => ?_)
      (refine takeH 0 44 (v := ?_) rfl rfl (by kernel_rfl) (by kernel_rfl) (by kernel_rfl) (fun _ _ _ h => h) hHeld rfl ?_ ?_; rotate_left; (focus (intro w' hSw; go_simp; try with_reducible rfl)))
      (try simp only [Act.put, List.setIfInBounds_toArray, List.set_cons_zero, List.set_cons_succ])
      (refine takeH 1 45 (v := ?_) rfl rfl (by kernel_rfl) (by kernel_rfl) (by kernel_rfl) (fun _ _ _ h => h) hHeld rfl ?_ ?_; rotate_left; (focus (intro w' hSw; go_simp; try with_reducible rfl)))
      (try simp only [Act.put, List.setIfInBounds_toArray, List.set_cons_zero, List.set_cons_succ])
      (refine takeH 3 47 (v := ?_) rfl rfl (by kernel_rfl) (by kernel_rfl) (by kernel_rfl) (fun _ _ _ h => h) hHeld rfl ?_ ?_; rotate_left; (focus (intro w' hSw; go_simp; try with_reducible rfl)))
      (try simp only [Act.put, List.setIfInBounds_toArray, List.set_cons_zero, List.set_cons_succ])
      (refine takeH 4 48 (v := ?_) rfl rfl (by kernel_rfl) (by kernel_rfl) (by kernel_rfl) (fun _ _ _ h => h) hHeld rfl ?_ ?_; rotate_left; (focus (intro w' hSw; go_simp; try with_reducible rfl)))
      (try simp only [Act.put, List.setIfInBounds_toArray, List.set_cons_zero, List.set_cons_succ])
      (refine takeH 5 49 (v := ?_) rfl rfl (by kernel_rfl) (by kernel_rfl) (by kernel_rfl) (fun _ _ _ h => h) hHeld rfl ?_ ?_; rotate_left; (focus (intro w' hSw; go_simp; try with_reducible rfl)))
      (try simp only [Act.put, List.setIfInBounds_toArray, List.set_cons_zero, List.set_cons_succ])
      (refine takeH 6 50 (v := ?_) rfl rfl (by kernel_rfl) (by kernel_rfl) (by kernel_rfl) (fun _ _ _ h => h) hHeld rfl ?_ ?_; rotate_left; (focus (intro w' hSw; go_simp; try with_reducible rfl)))
      (try simp only [Act.put, List.setIfInBounds_toArray, List.set_cons_zero, List.set_cons_succ])
      (refine takeH 7 51 (v := ?_) rfl rfl (by kernel_rfl) (by kernel_rfl) (by kernel_rfl) (fun _ _ _ h => h) hHeld rfl ?_ ?_; rotate_left; (focus (intro w' hSw; go_simp; try with_reducible rfl)))
      (try simp only [Act.put, List.setIfInBounds_toArray, List.set_cons_zero, List.set_cons_succ])
      (refine takeH 8 52 (v := ?_) rfl rfl (by kernel_rfl) (by kernel_rfl) (by kernel_rfl) (fun _ _ _ h => h) hHeld rfl ?_ ?_; rotate_left; (focus (intro w' hSw; go_simp; try with_reducible rfl)))
      (try simp only [Act.put, List.setIfInBounds_toArray, List.set_cons_zero, List.set_cons_succ])
      refine wpAnyH_ready (rs := [2]) (by kernel_rfl) (by simp) ?_
      refine AllReadyH.cons rfl (fun K hK => ?_) AllReadyH.nil
      go_simp
      refine (HUC.out _ (HT5.out.below (below_drew (Below.refl _ _))) (Foot.step HFK5.out (fun i _ hlt => (below_drew (Below.refl W5.heap.size W5)).block i hlt))).mono ?_
      rintro e w8 ⟨A8, c8, B8, d8, rfl, hR, hb⟩
      have HR8 := Aside0.mk hR
      have HB8 := Aside0.mk (Below.then_ (below_drew (Below.refl W5.heap.size W5)) hb (Nat.le_refl _))
      have HZ8 := Aside0.mk (And.intro (HY5.out.2.1.on HB8.out) (HY5.out.2.2.on HB8.out))
      clear hR hb
      refine hK.out _ _ (Only.of_below _ HB8.out) (fun hHeld => ?_)
      clear hK K
      (try simp only [Act.put, List.setIfInBounds_toArray, List.set_cons_zero, List.set_cons_succ])
      obtain ⟨⟨r0, r1, r2, r3, r4, r5, r6⟩, g0, g1, g2, g3, g4, g5, g6⟩ := seven HZ8.out.1
      obtain ⟨⟨q0, q1, q2, q3, q4, q5, q6, q7⟩, p0, p1, p2, p3, p4, p5, p6, p7⟩ := HZ8.out.2.eight
      refine wpAnyH_ready (rs := [9]) (by kernel_rfl) (by simp) ?_
      refine AllReadyH.cons rfl (fun K hK => ?_) AllReadyH.nil
      go_simp
      refine hK.out _ _ (((((((((Only.of_below [w.heap.size + 1, w.heap.size + 2] HB8.out).set _ (.inl (by simp))).set _ (.inl (by simp))).set _ (.inl (by simp))).set _ (.inl (by simp))).set _ (.inl (by simp))).set _ (.inl (by simp))).set _ (.inl (by simp)))) (fun hHeld => ?_)
      clear hK K
      (try simp only [Act.put, List.setIfInBounds_toArray, List.set_cons_zero, List.set_cons_succ])
      refine wpAnyH_ready (rs := [10]) (by kernel_rfl) (by simp) ?_
      refine AllReadyH.cons rfl (fun K hK => ?_) AllReadyH.nil
      go_simp
      refine hK.out _ _ (((((((((((((((((Only.of_below [w.heap.size + 1, w.heap.size + 2] HB8.out).set _ (.inl (by simp))).set _ (.inl (by simp))).set _ (.inl (by simp))).set _ (.inl (by simp))).set _ (.inl (by simp))).set _ (.inl (by simp))).set _ (.inl (by simp))).set _ (.inl (by simp))).set _ (.inl (by simp))).set _ (.inl (by simp))).set _ (.inl (by simp))).set _ (.inl (by simp))).set _ (.inl (by simp))).set _ (.inl (by simp))).set _ (.inl (by simp)))) (fun hHeld => ?_)
      clear hK K
      (try simp only [Act.put, List.setIfInBounds_toArray, List.set_cons_zero, List.set_cons_succ])
      (refine takeH 11 6 (v := ?_) rfl rfl (by kernel_rfl) (by kernel_rfl) (by kernel_rfl) (fun _ _ _ h => h) hHeld rfl ?_ ?_; rotate_left; (focus (intro w' hSw; go_simp; try with_reducible rfl)))
      (try simp only [Act.put, List.setIfInBounds_toArray, List.set_cons_zero, List.set_cons_succ])
      refine wpAnyH_done (by kernel_rfl) ?_ _
      refine NoPanic.normal ?_
      go_wp2
      generalize hW9 : World.setCell _ _ _ = W9
      have h9 := two_set HZ8.out.1 HZ8.out.2 hne (.int .i64 T8.room.cells) (.int .i64 T8.room.bytes) (.int .i64 T8.room.buckets) (.bool T8.room.fresh) (.slice A8 T8.l.length c8) (.slice B8 T8.tok.length d8) (.int .i64 T8.uses) (.string u'.e.key) (.int .i64 u'.e.tag.seq) (.int .i64 u'.e.tag.who) (.int .i64 u'.e.tag.op) (.bool u'.e.val.has) (.slice A5 u'.e.val.b.length c5) (.bool u'.whole) (.int .i64 x')
      rw [show set8 (set7 w8 _ (.int .i64 T8.room.cells) (.int .i64 T8.room.bytes) (.int .i64 T8.room.buckets) (.bool T8.room.fresh) (.slice A8 T8.l.length c8) (.slice B8 T8.tok.length d8) (.int .i64 T8.uses)) _ (.string u'.e.key) (.int .i64 u'.e.tag.seq) (.int .i64 u'.e.tag.who) (.int .i64 u'.e.tag.op) (.bool u'.e.val.has) (.slice A5 u'.e.val.b.length c5) (.bool u'.whole) (.int .i64 x') = W9 from hW9] at h9
      clear hW9
      have HO9 := Aside0.mk h9.2.2
      obtain ⟨z0, z1, z2, z3, z4, z5, z6⟩ := (seven h9.1).1
      obtain ⟨y0, y1, y2, y3, y4, y5, y6, y7⟩ := h9.2.1.eight.1
      clear h9
      refine bodyPost_ret (v := .tuple #[.agg (rtc T8 A8 c8 B8 d8).toArray, .agg (rcs ⟨u'.e, u'.whole, x'⟩ A5 c5).toArray, .int .i64 0]) (by simp [results, Try.results49, go_sem, z0, z1, z2, z3, z4, z5, z6, y0, y1, y2, y3, y4, y5, y6, y7, rtc, rcs]; try rfl) rfl ?_
      have s8 := HB8.out.size
      have hFR : Kd.FK Reply.k w8 (fun i => ok i ∧ i < w.heap.size) ⟨u'.e, u'.whole, x'⟩ (rcs ⟨u'.e, u'.whole, x'⟩ A5 c5) := fk_reply (fk_ent (Foot.step HFK5.out (fun i _ hlt => HB8.out.block i hlt))) HXR.out
      unfold QueryR
      rw [HE.out, HQ.out.1, HQ.out.2]
      refine ⟨A8, c8, B8, d8, A5, c5, rfl, (HR8.out.only HO9.out (fun i hi hm => ?_)).mono (fun i hi => ?_), ?_, ?_⟩
      · simp at hm
        rcases hi with hi | hi
        · have := hi.2; omega
        · simp at hi; omega
      · rcases hi with hi | hi
        · exact .inl hi.1
        · right; simp at hi; omega
      · exact Foot.mono (Foot.only hFR HO9.out (fun i hi hm => by have := hi.2; simp at hm; omega)) (fun i hi => .inl hi.1)
      · exact ((Only.of_below [w.heap.size + 1, w.heap.size + 2] (Below.then_ (Below.then_ (Below.then_ HB0.out H2.out (Nat.le_refl _)) HB5.out (Nat.le_refl _)) HB8.out (Nat.le_refl _))).trans HO9.out).below (by intro i hi; simp at hi; omega) (Nat.le_refl _)
  · have HE : Aside0 (queryE k = 2 ∧ queryT T k = T ∧ queryR T k = Reply.z) := ⟨⟨if_neg hk, if_neg hk, if_neg hk⟩⟩
    obtain ⟨⟨ra, rz, rc, rd⟩, l, tok, us⟩ := T
    dsimp only [rtc] at *
    have hk' : k.size < 1 ∨ (1 ≤ k.size ∧ 250 < k.size) := by unfold KeyOk at hk; omega
    clear r1 r2 r3 r4 r5 r6 h hw hk
    rcases hk' with hk | ⟨hk, hk2⟩
    all_goals
      go_enter Try.func49, Try.ntmps49
      go_upto_region 2 with (fail)
      generalize hX : World.alloc _ _ = W0
      have HB0 : Aside0 (Below w.heap.size w W0) := ⟨by rw [← hX]; exact below_alloc (below_alloc (below_alloc (Below.refl _ _) _) _) _⟩
      have HX : Aside0 (Blk W0 w.heap.size [.int .i64 ra, .int .i64 rz, .int .i64 rc, .bool rd, .slice A l.length c, .slice B tok.length d, .int .i64 us] ∧ Blk W0 (w.heap.size + 1) [.int .i64 0, .int .i64 0, .int .i64 0, .bool false, .slice none 0 0, .slice none 0 0, .int .i64 0] ∧ Blk W0 (w.heap.size + 2) [.string ByteArray.empty, .int .i64 0, .int .i64 0, .int .i64 0, .bool false, .slice none 0 0, .bool false, .int .i64 0]) := ⟨by rw [← hX]; exact ⟨((Blk.new_ _ _ _ rfl rfl).alloc _).alloc _, (Blk.new_ _ _ _ (by simp) rfl).alloc _, Blk.new_ _ _ _ (by simp) rfl⟩⟩
      have hs3 : w.heap.size + 3 ≤ W0.heap.size := by have := HX.out.2.2.lt; omega
      obtain ⟨⟨x0, x1, x2, x3, x4, x5, x6⟩, _⟩ := seven HX.out.1
      obtain ⟨⟨r0, r1, r2, r3, r4, r5, r6⟩, g0, g1, g2, g3, g4, g5, g6⟩ := seven HX.out.2.1
      obtain ⟨⟨q0, q1, q2, q3, q4, q5, q6, q7⟩, p0, p1, p2, p3, p4, p5, p6, p7⟩ := HX.out.2.2.eight
      have HT0 := Aside0.mk (HT.out.below HB0.out)
      have hne : w.heap.size + 1 ≠ w.heap.size + 2 := by omega
      clear hX
      go_wp2
      generalize hW9 : World.setCell _ _ _ = W9
      have h9 := two_set HX.out.2.1 HX.out.2.2 hne (.int .i64 ra) (.int .i64 rz) (.int .i64 rc) (.bool rd) (.slice A l.length c) (.slice B tok.length d) (.int .i64 us) (.string ByteArray.empty) (.int .i64 0) (.int .i64 0) (.int .i64 0) (.bool false) (.slice none 0 0) (.bool false) (.int .i64 0)
      rw [show set8 (set7 W0 _ (.int .i64 ra) (.int .i64 rz) (.int .i64 rc) (.bool rd) (.slice A l.length c) (.slice B tok.length d) (.int .i64 us)) _ (.string ByteArray.empty) (.int .i64 0) (.int .i64 0) (.int .i64 0) (.bool false) (.slice none 0 0) (.bool false) (.int .i64 0) = W9 from hW9] at h9
      clear hW9
      have HO9 := Aside0.mk h9.2.2
      obtain ⟨z0, z1, z2, z3, z4, z5, z6⟩ := (seven h9.1).1
      obtain ⟨y0, y1, y2, y3, y4, y5, y6, y7⟩ := h9.2.1.eight.1
      clear h9
      refine bodyPost_ret (v := .tuple #[.agg #[.int .i64 ra, .int .i64 rz, .int .i64 rc, .bool rd, .slice A l.length c, .slice B tok.length d, .int .i64 us], .agg #[.string ByteArray.empty, .int .i64 0, .int .i64 0, .int .i64 0, .bool false, .slice none 0 0, .bool false, .int .i64 0], .int .i64 2]) (by simp [results, Try.results49, go_sem, z0, z1, z2, z3, z4, z5, z6, y0, y1, y2, y3, y4, y5, y6, y7]; try rfl) rfl ?_
      have hnn : ∀ i, ok i ∧ i < w.heap.size → i ∉ [w.heap.size + 1, w.heap.size + 2] := fun i hi hm => by have := hi.2; simp at hm; omega
      unfold QueryR
      rw [HE.out.1, HE.out.2.1, HE.out.2.2]
      exact ⟨A, c, B, d, none, 0, rfl, (HT0.out.only HO9.out hnn).mono (fun i hi => .inl hi.1), fk_repz _ _, ((Only.of_below [w.heap.size + 1, w.heap.size + 2] HB0.out).trans HO9.out).below (by intro i hi; simp at hi; omega) (Nat.le_refl _)⟩
end RTab
end Go.Proofs.Ytgfjkpnaabiecaa
