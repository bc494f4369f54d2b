/- Layer lin: the small functions round Holds. -/
import Derived.Test.YtgconogjnjhmgaaLinF
import Derived.Lib.SlBytesConst
namespace Go.Proofs.Ytgconogjnjhmgaa
open Go.RowKit Go.Proofs.YtgconogjnjhmgaaW.PrintWords
namespace LinG
open LinA LinB LinC LinD LinE LinF
theorem kInt_at {w : World} {A : Option Addr} {n : Nat} {xs : List Int} (h : (kInt .i64).C w A n xs) (k : Nat) (h1 : k < n) : ∃ ad x, A = some ad ∧ Aside0 (xs[k]? = some x) ∧ w.cell? (ad.add k) = some (.int .i64 x) ∧ InR .i64 x := by
  have hl : xs.length = n := h.1
  obtain ⟨ad, c, e, _, hK, hc0⟩ := Kd.C_get h (0 : Int) (k : Int) (by omega) (by omega)
  have hx : xs[k]? = some (xs.getD k 0) := by simp [List.getD_eq_getElem?_getD, show k < xs.length by omega]
  have hK' : (kInt .i64).K w (xs.getD k 0) c := hK
  obtain ⟨rfl, hr⟩ := hK'
  have hc := hc0 0 _ rfl
  have e1 : (k : Int).toNat * (kInt .i64).sz + 0 = k := by show k * 1 + 0 = k; omega
  rw [e1] at hc
  exact ⟨ad, _, e, ⟨hx⟩, hc, hr⟩
set_option maxHeartbeats 400000 in
theorem indexFunc_int (A : Option Addr) (c : Nat) (xs : List Int) (f : FuncId) (cap : Array Value) (p : Int → Bool) (w : World) (hr : (kInt .i64).C w A xs.length xs) (hn : xs.length ≤ 1000000000000)
    (hcf : ∀ args w, (callFunc f args).run Try.prog w = .ok (.enter f args) w)
    (hf : ∀ x ∈ xs, ∀ w1, Below w.heap.size w w1 → Calls Try.prog f (#[.int .i64 x] ++ cap) w1 (fun e w2 => e = .returned (.bool (p x)) ∧ Below w1.heap.size w1 w2)) :
    Calls Try.prog 49 #[.slice A xs.length c, .func (.func f) #[] cap] w fun e w' => e = .returned (.int .i64 (fidx p xs 0)) ∧ Below w.heap.size w w' := by
  have HR := Aside0.mk hr
  have HF := Aside0.mk hf
  have HN := Aside0.mk hn
  clear hr hf hn
  go_enter Try.func49, Try.ntmps49
  go_wp2_with fail
  go_loopw [8] (fun v wr => ∃ k : Nat, v = .int .i64 k ∧ k ≤ xs.length ∧ Below w.heap.size w wr ∧ Aside0 (fidx p xs 0 = fidx p (xs.drop k) k)) (fun v _ => xs.length - (intOf v).toNat)
  case atStart => exact ⟨0, rfl, Nat.zero_le _, Below.refl _ _, ⟨by simp⟩⟩
  case round =>
    obtain ⟨k, rfl, hk, hb, HX⟩ := hrel
    have HB := Aside0.mk hb
    have hn := HN.out
    by_cases hlt : k < xs.length
    · obtain ⟨ad, x, rfl, HE, hx0, _⟩ := kInt_at (Kd.C_below HR.out hb) k hlt
      clear hb
      by_cases hp : p x = true
      · have HP := Aside0.mk hp
        clear hp
        go_wp2_with (first | ((with_reducible refine (HF.out x (List.mem_of_getElem? HE.out) wr HB.out).mono ?_); rintro e w1 ⟨rfl, hb1⟩; rw [HP.out]))
        go_ret
        exact ⟨by rw [HX.out, fidx_drop p xs k x HE.out, if_pos HP.out]; rfl, HB.out.trans (hb1.mono HB.out.size)⟩
      · have HP := Aside0.mk (Bool.eq_false_iff.2 hp)
        clear hp
        go_wp2_with (first | ((with_reducible refine (HF.out x (List.mem_of_getElem? HE.out) wr HB.out).mono ?_); rintro e w1 ⟨rfl, hb1⟩; rw [HP.out]))
        go_roundw
        case rel => exact ⟨k + 1, by go_num, by omega, HB.out.trans (hb1.mono HB.out.size), ⟨by rw [HX.out, fidx_drop p xs k x HE.out, HP.out]; rfl⟩⟩
        case measure => simp [intOf]; omega
    · go_wp2_with fail
      go_ret
      exact ⟨by rw [HX.out, List.drop_eq_nil_of_le (by omega)]; rfl, hb⟩
theorem containsFunc_int (A : Option Addr) (c : Nat) (xs : List Int) (f : FuncId) (cap : Array Value) (p : Int → Bool) (w : World) (hr : (kInt .i64).C w A xs.length xs) (hn : xs.length ≤ 1000000000000)
    (hcf : ∀ args w, (callFunc f args).run Try.prog w = .ok (.enter f args) w)
    (hf : ∀ x ∈ xs, ∀ w1, Below w.heap.size w w1 → Calls Try.prog f (#[.int .i64 x] ++ cap) w1 (fun e w2 => e = .returned (.bool (p x)) ∧ Below w1.heap.size w1 w2)) :
    Calls Try.prog 34 #[.slice A xs.length c, .func (.func f) #[] cap] w fun e w' => e = .returned (.bool (xs.any p)) ∧ Below w.heap.size w w' := by
  have H := Aside0.mk (indexFunc_int A c xs f cap p w hr hn hcf hf)
  clear hr hf hn hcf
  go_enter Try.func34, Try.ntmps34
  go_wp2_with (first | ((with_reducible refine H.out.mono ?_); rintro e w1 ⟨rfl, hb1⟩))
  go_ret
  exact ⟨by rw [← fidx_any p xs 0 (by omega)]; rfl, hb1⟩
/-- The closure of Holds: does deed j begin behind the end of the captured one? -/
theorem holds2_calls (j : Nat) (d l : Nat) (A : Option Addr) (c : Nat) (xs : List Deed) (to_ : Int) (w : World) (hj : j < xs.length) (hr : Deed.k.C w A xs.length xs)
    (hd : w.cell? ⟨d, 3, none⟩ = some (.int .i64 to_)) (hl : w.cell? ⟨l, 0, none⟩ = some (.slice A xs.length c)) :
    Calls Try.prog 35 #[.int .i64 j, .pointer (some ⟨d, 0, none⟩), .pointer (some ⟨l, 0, none⟩)] w fun e w' => e = .returned (.bool (decide (to_ < (xs.getD j Deed.z).from_))) ∧ Below w.heap.size w w' := by
  obtain ⟨ad, x, A1, c1, A6, c6, rfl, HE, hx0, hx1, hx2, hx3, hx4, hx5, hx6, HM⟩ := Deed.at_ hr j hj
  have hxj : xs.getD j Deed.z = x := by rw [List.getD_eq_getElem?_getD, HE.out]; rfl
  rw [hxj]
  have h0 : (0 : Int) ≤ (j : Int) := by omega
  have h1 : (j : Int) < (xs.length : Int) := by omega
  clear hxj hx0 hx1 hx3 hx4 hx5 hx6 HM HE hr
  go_enter Try.func35, Try.ntmps35
  go_wp2_with fail
  go_quiet (fail)
  go_wp2
  go_ret
  exact ⟨rfl, pw_below_drewN (Below.refl _ _) _⟩
def sumLen : List Deed → Int
  | [] => 0
  | x :: r => x.b.length + x.val.b.length + sumLen r
def longB (xs : List Deed) : Bool := decide (7 < xs.length) || decide (300 < sumLen xs)
theorem sumLen_append (l r : List Deed) : sumLen (l ++ r) = sumLen l + sumLen r := by
  induction l with
  | nil => simp [sumLen]
  | cons a l ih => simp only [List.cons_append, sumLen, ih]; omega
theorem sumLen_take {xs : List Deed} {k : Nat} {x : Deed} (h : xs[k]? = some x) : sumLen (xs.take (k + 1)) = sumLen (xs.take k) + (x.b.length + x.val.b.length) := by
  obtain ⟨hk, rfl⟩ := List.getElem?_eq_some_iff.1 h
  rw [List.take_succ_eq_append_getElem hk, sumLen_append]
  simp [sumLen]
def Short (x : Deed) : Prop := x.b.length ≤ 140737488351232 ∧ x.val.b.length ≤ 140737488351232
theorem sumLen_le {xs : List Deed} (h : ∀ x ∈ xs, Short x) : 0 ≤ sumLen xs ∧ sumLen xs ≤ xs.length * 281474976702464 := by
  induction xs with
  | nil => simp [sumLen]
  | cons a r ih =>
    have h1 := h a List.mem_cons_self
    have h2 := ih (fun x hx => h x (List.mem_cons_of_mem _ hx))
    unfold Short at h1
    simp only [sumLen, List.length_cons]
    push_cast
    omega
set_option maxHeartbeats 400000 in
theorem long_calls (A : Option Addr) (c : Nat) (xs : List Deed) (w : World) (hr : Deed.k.C w A xs.length xs) (hn : xs.length ≤ 70368744177664) (hs : ∀ x ∈ xs, Short x) :
    Calls Try.prog 9 #[.slice A xs.length c] w fun e w' => e = .returned (.bool (longB xs)) ∧ Below w.heap.size w w' := by
  have HR := Aside0.mk hr
  have HS := Aside0.mk hs
  clear hr hs
  go_enter Try.func9, Try.ntmps9
  go_wp2_with fail
  go_loopw [3, 4] (fun v3 v4 wr => ∃ (k : Nat) (z : Int), v4 = .int .i64 k ∧ v3 = .int .i64 z ∧ k ≤ xs.length ∧ Below w.heap.size w wr ∧ Aside0 (xs.length ≤ 7 → z = sumLen (xs.take k))) (fun _ v _ => xs.length - (intOf v).toNat)
  case atStart => exact ⟨0, 0, rfl, rfl, Nat.zero_le _, Below.refl _ _, ⟨fun _ => rfl⟩⟩
  case round =>
    obtain ⟨k, z, rfl, rfl, hk, hb, HZ⟩ := hrel
    by_cases hlt : k < xs.length
    · obtain ⟨ad, x, A1, c1, A6, c6, rfl, HE, hx0, hx1, hx2, hx3, hx4, hx5, hx6, HM⟩ := Deed.at_ (Kd.C_below HR.out hb) k hlt
      have HB := Aside0.mk hb
      clear hb hx0 hx2 hx3 hx4 hx5 HM
      have h0 : (0 : Int) ≤ (k : Int) := by omega
      have h1 : (k : Int) < (xs.length : Int) := by omega
      go_wp2_with fail
      go_quiet (fail)
      go_wp2
      go_roundw
      case rel => exact ⟨k + 1, _, by go_num, rfl, by omega, pw_below_drewN HB.out _, ⟨fun h7 => by
        have e1 := HZ.out h7
        have e2 := sumLen_take HE.out
        have e3 := HS.out x (List.mem_of_getElem? HE.out)
        have e4 := sumLen_le (xs := xs.take k) (fun y hy => HS.out y (List.mem_of_mem_take hy))
        have e5 : (xs.take k).length ≤ 7 := by rw [List.length_take]; omega
        unfold Short at e3
        unfold wrap64
        omega⟩⟩
      case measure => simp [intOf]; omega
    · obtain rfl : k = xs.length := by omega
      rw [List.take_length] at HZ
      by_cases h7 : 7 < xs.length
      · go_wp2_with fail
        go_ret
        exact ⟨by unfold longB; simp [h7], hb⟩
      · obtain rfl := HZ.out (by omega)
        go_wp2_with fail
        go_ret
        exact ⟨by unfold longB; rw [decide_eq_false h7]; simp; omega, hb⟩
theorem flat_get {α : Type} {sz : Nat} : ∀ (css : List (List α)), (∀ c ∈ css, c.length = sz) → ∀ (j i : Nat) (c : List α) (u : α), css[j]? = some c → c[i]? = some u → css.flatten[j * sz + i]? = some u
  | [], _, j, _, _, _, h, _ => by simp at h
  | c0 :: r, hl, j, i, c, u, h, hu => by
    have h0 := hl c0 List.mem_cons_self
    rcases j with _ | j
    · simp at h
      subst h
      have hi := (List.getElem?_eq_some_iff.1 hu).1
      rw [List.flatten_cons, List.getElem?_append_left (by omega)]
      simpa using hu
    · simp only [List.getElem?_cons_succ] at h
      have ih := flat_get r (fun c hc => hl c (List.mem_cons_of_mem _ hc)) j i c u h hu
      have e : (j + 1) * sz + i = c0.length + (j * sz + i) := by rw [h0, Nat.succ_mul]; omega
      rw [List.flatten_cons, e, List.getElem?_append_right (by omega)]
      simpa using ih
theorem C_flat {α : Type} {d : Kd α} {W : World} {g t : Nat} {fr : Nat × Nat} {xs : List α} {css : List (List Value)} (hx : xs.length = css.length) (hm : xs.length ≤ 9223372036854775807) (hk : ∀ (j : Nat) x c, xs[j]? = some x → css[j]? = some c → d.K W x c)
    (hb : W.heap[g]? = some (.cells css.flatten.toArray t fr)) : d.C W (some ⟨g, 0, none⟩) xs.length xs := by
  refine ⟨rfl, hm, fun _ => ⟨_, rfl, fun j p hj => ?_⟩⟩
  have hj' := (List.getElem?_eq_some_iff.1 hj).1
  have hc : css[j]? = some css[j] := List.getElem?_eq_getElem (by omega)
  have hkk := hk j p _ hj hc
  refine ⟨css[j], d.K_len hkk, hkk, fun i u hu => ?_⟩
  have hsz : ∀ c ∈ css, c.length = d.sz := fun c hc => by
    obtain ⟨q, hq, rfl⟩ := List.getElem_of_mem hc
    exact d.K_len (hk q xs[q] css[q] (List.getElem?_eq_getElem (by omega)) (List.getElem?_eq_getElem hq))
  have hf := flat_get css hsz j i _ u hc hu
  rw [add_plain]
  unfold World.cell?
  rw [hb]
  simpa using hf
def putX : Deed := ⟨2, [120], 0, 2, true, ⟨false, []⟩⟩
def getN (from_ : Int) : Deed := ⟨1, [], from_, 4, true, ⟨false, []⟩⟩
def TwoTold (from_ : Int) (w : World) (e : Ending) (w' : World) : Prop := ∃ A c, e = .returned (.slice A 2 c) ∧ 2 ≤ c ∧ Deed.k.C w' A 2 [putX, getN from_] ∧ Below w.heap.size w w'
set_option maxRecDepth 100000 in
theorem two_calls (from_ : Int) (w : World) (hf : InR .i64 from_) : Calls Try.prog 26 #[.int .i64 from_] w (TwoTold from_ w) := by
  have HF := Aside0.mk hf
  clear hf
  have kc := fun (w : World) (C : Array Value) (n c : Nat) => Lib.run_convert_bytes_const (P := Try.prog) w 26 5 C n c Try.underlying26 Try.underlying5
  go_enter Try.func26, Try.ntmps26
  go_wp2_with fail
  go_ret
  have hb : Below w.heap.size w ((w.alloc (.cells #[.int .u8 120] 5 (1, 2))).alloc (.cells #[.int .i64 2, .slice (some ⟨w.heap.size, 0, none⟩) 1 1, .int .i64 0, .int .i64 2, .bool true, .bool false, .slice none 0 0, .int .i64 1, .slice none 0 0, .int .i64 from_, .int .i64 4, .bool true, .bool false, .slice none 0 0] 30)) := below_alloc (below_alloc (Below.refl _ _) _) _
  generalize hW : (w.alloc (.cells #[.int .u8 120] 5 (1, 2))).alloc (.cells #[.int .i64 2, .slice (some ⟨w.heap.size, 0, none⟩) 1 1, .int .i64 0, .int .i64 2, .bool true, .bool false, .slice none 0 0, .int .i64 1, .slice none 0 0, .int .i64 from_, .int .i64 4, .bool true, .bool false, .slice none 0 0] 30) = W at *
  have hx : kU8.C W (some ⟨w.heap.size, 0, none⟩) [(120 : UInt8)].length [120] := by
    refine C_flat (css := [[.int .u8 120]]) rfl (by simp) (fun j x c h1 h2 => ?_) (t := 5) (fr := (1, 2)) (by rw [← hW]; exact (Below.heap_alloc _ _ _ (by simp)).trans (heap_alloc_new _ _))
    rcases j with _ | j
    · simp at h1 h2
      subst h1
      subst h2
      rfl
    · simp at h1
  have hz : (w.alloc (.cells #[.int .u8 120] 5 (1, 2))).heap.size = w.heap.size + 1 := by simp
  have hh : W.heap[w.heap.size + 1]? = some (.cells #[.int .i64 2, .slice (some ⟨w.heap.size, 0, none⟩) 1 1, .int .i64 0, .int .i64 2, .bool true, .bool false, .slice none 0 0, .int .i64 1, .slice none 0 0, .int .i64 from_, .int .i64 4, .bool true, .bool false, .slice none 0 0] 30) := by
    rw [← hW, ← hz]; exact heap_alloc_new _ _
  refine ⟨_, _, rfl, Nat.le_refl _, C_flat (css := [[.int .i64 2, .slice (some ⟨w.heap.size, 0, none⟩) 1 1, .int .i64 0, .int .i64 2, .bool true, .bool false, .slice none 0 0], [.int .i64 1, .slice none 0 0, .int .i64 from_, .int .i64 4, .bool true, .bool false, .slice none 0 0]]) rfl (by simp) (fun j x c h1 h2 => ?_) hh, hb⟩
  rcases j with _ | _ | j
  · simp at h1 h2
    subst h1
    subst h2
    exact Deed.mk_ W putX (InR.mk64 (by decide) (by decide)) (Nat.le_refl _) hx (InR.mk64 (by decide) (by decide)) (InR.mk64 (by decide) (by decide)) (Nat.le_refl _) (Kd.C_nil _ _)
  · simp at h1 h2
    subst h1
    subst h2
    exact Deed.mk_ W (getN from_) (InR.mk64 (x := 1) (by decide) (by decide)) (Nat.le_refl _) (Kd.C_nil _ _) HF.out (InR.mk64 (x := 4) (by decide) (by decide)) (Nat.le_refl _) (Kd.C_nil _ _)
  · simp at h1
set_option maxHeartbeats 400000 in
theorem sameInts_calls (A B : Option Addr) (c d : Nat) (xs ys : List Int) (w : World) (hx : (kInt .i64).C w A xs.length xs) (hy : (kInt .i64).C w B ys.length ys) (hn : xs.length ≤ 1000000000000) :
    Calls Try.prog 27 #[.slice A xs.length c, .slice B ys.length d] w fun e w' => e = .returned (.bool (decide (xs = ys))) ∧ Below w.heap.size w w' := by
  have HX := Aside0.mk hx
  have HY := Aside0.mk hy
  clear hx hy
  by_cases hl : xs.length = ys.length
  · have HL := Aside0.mk hl
    have hl1 : ((xs.length : Int) == (ys.length : Int)) = true := by rw [hl]; simp
    have hl2 : ((xs.length : Int) != (ys.length : Int)) = false := by rw [hl]; simp
    clear hl
    go_enter Try.func27, Try.ntmps27
    go_wp2_with fail
    clear hl1 hl2
    go_loopw [5] (fun v wr => ∃ k : Nat, v = .int .i64 k ∧ k ≤ xs.length ∧ Below w.heap.size w wr ∧ Aside0 (∀ j, j < k → xs[j]? = ys[j]?)) (fun v _ => xs.length - (intOf v).toNat)
    case atStart => exact ⟨0, rfl, Nat.zero_le _, Below.refl _ _, ⟨fun j hj => absurd hj (Nat.not_lt_zero _)⟩⟩
    case round =>
      obtain ⟨k, rfl, hk, hb, HE⟩ := hrel
      by_cases hlt : k < xs.length
      · have hlt2 : k < ys.length := by have := HL.out; omega
        obtain ⟨ad, x, rfl, HA, hx0, _⟩ := kInt_at (Kd.C_below HX.out hb) k hlt
        obtain ⟨bd, y, rfl, HB, hy0, _⟩ := kInt_at (Kd.C_below HY.out hb) k hlt2
        have HBB := Aside0.mk hb
        have h0 : (0 : Int) ≤ (k : Int) := by omega
        have h1 : (k : Int) < (xs.length : Int) := by omega
        have h2 : (k : Int) < (ys.length : Int) := by omega
        clear hb
        by_cases hxy : x = y
        · subst hxy
          go_wp2_with fail
          go_quiet (fail)
          go_wp2
          go_roundw
          case rel => exact ⟨k + 1, by go_num, by omega, pw_below_drewN HBB.out _, ⟨fun j hj => by rcases Nat.lt_succ_iff_lt_or_eq.1 hj with h | rfl; exact HE.out j h; rw [HA.out, HB.out]⟩⟩
          case measure => simp [intOf]; omega
        · have hb1 : (x == y) = false := by simpa using hxy
          have hb2 : (x != y) = true := by simpa using hxy
          have HXY := Aside0.mk hxy
          clear hxy
          go_wp2_with fail
          go_quiet (fail)
          go_wp2
          go_ret
          exact ⟨by rw [decide_eq_false (fun e => HXY.out (by have h3 := HA.out; rw [e, HB.out] at h3; injection h3 with h3; exact h3.symm))]; rfl, pw_below_drewN HBB.out _⟩
      · go_wp2_with fail
        go_ret
        exact ⟨by rw [decide_eq_true (List.ext_getElem? (fun j => by
          by_cases hj : j < xs.length
          · exact HE.out j (by omega)
          · rw [List.getElem?_eq_none (by omega), List.getElem?_eq_none (by have := HL.out; omega)]))]; rfl, hb⟩
  · go_enter Try.func27, Try.ntmps27
    go_wp2_with fail
    go_ret
    exact ⟨by rw [decide_eq_false (fun e => hl (by rw [e]))]; rfl, Below.refl _ _⟩
end LinG
end Go.Proofs.Ytgconogjnjhmgaa
