/- Layer lin: what its small functions answer. -/
import Derived.Test.YtgconogjnjhmgaaKinds
namespace Go.Proofs.Ytgconogjnjhmgaa
open Go.RowKit Go.Proofs.YtgconogjnjhmgaaW.PrintWords
namespace LinA
def kn (k : Int) : Bool := decide (1 ≤ k) && decide (k ≤ 3)
theorem known_calls (n : Int) (w : World) : Calls Try.prog 30 #[.int .i64 n] w fun e w' => e = .returned (.bool (kn n)) ∧ w' = w := by
  unfold kn
  by_cases h : 1 ≤ n
  · go_enter Try.func30, Try.ntmps30
    go_wp2_with fail
    go_ret
    exact ⟨by simp [h], rfl⟩
  · rw [decide_eq_false h]
    go_enter Try.func30, Try.ntmps30
    go_wp2_with fail
    go_ret
    exact ⟨rfl, rfl⟩

theorem order1_calls (x : Deed) (cs : List Value) (w : World) (h : Deed.k.K w x cs) : Calls Try.prog 29 #[.agg cs.toArray] w fun e w' => e = .returned (.bool (!kn x.kind)) ∧ Below w.heap.size w w' := by
  obtain ⟨A1, c1, A6, c6, rfl, _⟩ := Deed.open_ h
  clear h
  go_enter Try.func29, Try.ntmps29
  go_wp2_with (first | ((with_reducible refine (known_calls _ _).mono ?_); rintro e w1 ⟨rfl, rfl⟩))
  go_ret
  exact ⟨rfl, (Below.refl _ _).alloc (Nat.le_refl _) _⟩
theorem holds1_calls (x : Deed) (cs : List Value) (w : World) (h : Deed.k.K w x cs) : Calls Try.prog 32 #[.agg cs.toArray] w fun e w' => e = .returned (.bool (!kn x.kind)) ∧ Below w.heap.size w w' := by
  obtain ⟨A1, c1, A6, c6, rfl, _⟩ := Deed.open_ h
  clear h
  go_enter Try.func32, Try.ntmps32
  go_wp2_with (first | ((with_reducible refine (known_calls _ _).mono ?_); rintro e w1 ⟨rfl, rfl⟩))
  go_ret
  exact ⟨rfl, (Below.refl _ _).alloc (Nat.le_refl _) _⟩

/-- The place of the first that p holds of, counted from i on. -/
def fidx {α : Type} (p : α → Bool) : List α → Int → Int
  | [], _ => -1
  | x :: r, i => if p x then i else fidx p r (i + 1)
theorem fidx_drop {α : Type} (p : α → Bool) (xs : List α) (k : Nat) (x : α) (h : xs[k]? = some x) : fidx p (xs.drop k) k = if p x then (k : Int) else fidx p (xs.drop (k+1)) ((k + 1 : Nat) : Int) := by
  obtain ⟨hk, rfl⟩ := List.getElem?_eq_some_iff.1 h
  rw [List.drop_eq_getElem_cons hk]
  simp [fidx]
theorem fidx_any {α : Type} (p : α → Bool) : ∀ (xs : List α) (i : Int), 0 ≤ i → decide (0 ≤ fidx p xs i) = xs.any p
  | [], i, _ => by simp [fidx]
  | x :: r, i, h => by
    unfold fidx
    by_cases hp : p x = true
    · simp [hp, h]
    · simp [hp, fidx_any p r (i + 1) (by omega)]

set_option maxHeartbeats 400000 in
theorem indexFunc_deed (A : Option Addr) (c : Nat) (xs : List Deed) (f : FuncId) (cap : Array Value) (p : Deed → Bool) (w : World) (hr : Deed.k.C w A xs.length xs) (hn : xs.length ≤ 1000000000000)
    (hcf : ∀ args w, (callFunc f args).run Try.prog w = .ok (.enter f args) w)
    (hf : ∀ x ∈ xs, ∀ w1, Below w.heap.size w w1 → ∀ cs, Deed.k.K w1 x cs → Calls Try.prog f (#[.agg cs.toArray] ++ cap) w1 (fun e w2 => e = .returned (.bool (p x)) ∧ Below w1.heap.size w1 w2)) :
    Calls Try.prog 47 #[.slice A xs.length c, .func (.func f) #[] cap] w fun e w' => e = .returned (.int .i64 (fidx p xs 0)) ∧ Below w.heap.size w w' := by
  have HR := Aside0.mk hr
  have HF := Aside0.mk hf
  have HN := Aside0.mk hn
  clear hr hf hn
  go_enter Try.func47, Try.ntmps47
  go_wp2_with fail
  go_loopw [8] (fun v wr => ∃ k : Nat, v = .int .i64 k ∧ k ≤ xs.length ∧ Below w.heap.size w wr ∧ Aside0 (fidx p xs 0 = fidx p (xs.drop k) k)) (fun v _ => xs.length - (intOf v).toNat)
  case atStart => exact ⟨0, rfl, Nat.zero_le _, Below.refl _ _, ⟨by simp⟩⟩
  case round =>
    obtain ⟨k, rfl, hk, hb, HX⟩ := hrel
    have HB := Aside0.mk hb
    have hn := HN.out
    by_cases hlt : k < xs.length
    · obtain ⟨ad, x, A1, c1, A6, c6, rfl, HE, hx0, hx1, hx2, hx3, hx4, hx5, hx6, HM⟩ := Deed.at_ (Kd.C_below HR.out hb) k hlt
      clear hb
      by_cases hp : p x = true
      · have HP := Aside0.mk hp
        clear hp
        go_wp2_with (first | ((with_reducible refine (HF.out x (List.mem_of_getElem? HE.out) wr HB.out _ HM.out).mono ?_); rintro e w1 ⟨rfl, hb1⟩; rw [HP.out]))
        go_ret
        exact ⟨by rw [HX.out, fidx_drop p xs k x HE.out, if_pos HP.out]; rfl, HB.out.trans (hb1.mono HB.out.size)⟩
      · have HP := Aside0.mk (Bool.eq_false_iff.2 hp)
        clear hp
        go_wp2_with (first | ((with_reducible refine (HF.out x (List.mem_of_getElem? HE.out) wr HB.out _ HM.out).mono ?_); rintro e w1 ⟨rfl, hb1⟩; rw [HP.out]))
        go_roundw
        case rel => exact ⟨k + 1, by go_num, by omega, HB.out.trans (hb1.mono HB.out.size), ⟨by rw [HX.out, fidx_drop p xs k x HE.out, HP.out]; rfl⟩⟩
        case measure => simp [intOf]; omega
    · go_wp2_with fail
      go_ret
      exact ⟨by rw [HX.out, List.drop_eq_nil_of_le (by omega)]; rfl, hb⟩
theorem containsFunc_deed (A : Option Addr) (c : Nat) (xs : List Deed) (f : FuncId) (cap : Array Value) (p : Deed → Bool) (w : World) (hr : Deed.k.C w A xs.length xs) (hn : xs.length ≤ 1000000000000)
    (hcf : ∀ args w, (callFunc f args).run Try.prog w = .ok (.enter f args) w)
    (hf : ∀ x ∈ xs, ∀ w1, Below w.heap.size w w1 → ∀ cs, Deed.k.K w1 x cs → Calls Try.prog f (#[.agg cs.toArray] ++ cap) w1 (fun e w2 => e = .returned (.bool (p x)) ∧ Below w1.heap.size w1 w2)) :
    Calls Try.prog 28 #[.slice A xs.length c, .func (.func f) #[] cap] w fun e w' => e = .returned (.bool (xs.any p)) ∧ Below w.heap.size w w' := by
  have H := Aside0.mk (indexFunc_deed A c xs f cap p w hr hn hcf hf)
  clear hr hf hn hcf
  go_enter Try.func28, Try.ntmps28
  go_wp2_with (first | ((with_reducible refine H.out.mono ?_); rintro e w1 ⟨rfl, hb1⟩))
  go_ret
  exact ⟨by rw [← fidx_any p xs 0 (by omega)]; rfl, hb1⟩
end LinA
end Go.Proofs.Ytgconogjnjhmgaa
