/- Layer lin: Order. -/
import Derived.Test.YtgconogjnjhmgaaLinE
namespace Go.Proofs.Ytgconogjnjhmgaa
open Go.RowKit Go.Proofs.YtgconogjnjhmgaaW.PrintWords
namespace LinF
open LinA LinB LinC LinD LinE
/-- What Order answers: places, and an error's number. -/
def Ord (xs : List Deed) (p : List Nat) (c : Int) : Prop :=
  (20 < xs.length ∧ c = 3 ∧ p = []) ∨ (xs.length ≤ 20 ∧ xs.any (fun x => !kn x.kind) = true ∧ c = 4 ∧ p = []) ∨
  (xs.length ≤ 20 ∧ xs.any (fun x => !kn x.kind) = false ∧ c = 4 ∧ p = [] ∧ ∀ q, ¬ Path xs 0 Val.z q) ∨
  (xs.length ≤ 20 ∧ xs.any (fun x => !kn x.kind) = false ∧ c = 0 ∧ Path xs 0 Val.z p)
def nums (p : List Nat) : List Int := p.map fun k : Nat => (k : Int)
def OrderTold (xs : List Deed) (w : World) (e : Ending) (w' : World) : Prop :=
  ∃ (p : List Nat) (c : Int) (A : Option Addr) (cap : Nat), e = .returned (.tuple #[.slice A p.length cap, .int .i64 c]) ∧ p.length ≤ cap ∧ (kInt .i64).C w' A p.length (nums p) ∧ Below w.heap.size w w' ∧ Ord xs p c
theorem path_lt {xs : List Deed} {m : Nat} {v : Val} {p : List Nat} (h : Path xs m v p) : ∀ k ∈ p, k < xs.length := by
  induction h with
  | done _ => intro k hk; cases hk
  | step _ h2 _ _ _ ih =>
    intro k hk
    rcases List.mem_cons.1 hk with rfl | hk
    · exact h2
    · exact ih k hk
theorem nums_C {w : World} {B : Nat} {v : Value} {o : List Nat} (h : w.ownsRow B 3 1 v o.length (ints o)) (ho : ∀ k ∈ o, k < 4611686018427387904) : ∃ A c, v = .slice A o.length c ∧ o.length ≤ c ∧ (kInt .i64).C w A o.length (nums o) := by
  have hl : (nums o).length = o.length := by simp [nums]
  rcases h.2 with ⟨rfl, h0⟩ | ⟨g, cap, cur, rfl, hb, hh, hn, hm, hs, ht⟩
  · have : o = [] := List.eq_nil_of_length_eq_zero h0
    subst this
    exact ⟨none, 0, rfl, Nat.le_refl _, Kd.C_nil _ _⟩
  · have hm' : cap ≤ 9223372036854775807 := by simpa [maxLen] using hm
    refine ⟨_, cap, rfl, hn, hl, by omega, fun _ => ⟨_, rfl, fun j q hj => ⟨[.int .i64 q], rfl, ⟨rfl, ?_⟩, fun i u hu => ?_⟩⟩⟩
    · unfold nums at hj
      rw [List.getElem?_map] at hj
      obtain ⟨k, hk, rfl⟩ := Option.map_eq_some_iff.1 hj
      have := ho k (List.mem_of_getElem? hk)
      exact InR.mk64 (by omega) (by omega)
    · obtain rfl : i = 0 := by
        rcases i with _ | i
        · rfl
        · simp at hu
      simp at hu
      subst hu
      have hc := h.cells (g := g) rfl j (.int .i64 q) (by unfold ints; unfold nums at hj; rw [List.getElem?_map] at hj ⊢; obtain ⟨k, hk, rfl⟩ := Option.map_eq_some_iff.1 hj; rw [hk]; rfl)
      have e1 : j * (kInt .i64).sz + 0 = j := by show j * 1 + 0 = j; omega
      rw [e1]
      exact hc
theorem frozen_new (w : World) (cs : Array Value) (t : TypeId) (i : Nat) : (w.alloc (.cells cs t)).frozen? ⟨w.heap.size, i, none⟩ = false := by
  unfold World.frozen?
  rw [heap_alloc_new]
  simp
theorem callFunc29 : ∀ args w, (callFunc 29 args).run Try.prog w = .ok (.enter 29 args) w := fun args w => by rfl
set_option maxHeartbeats 400000 in
theorem order_calls (A : Option Addr) (c : Nat) (xs : List Deed) (w : World) (hr : Deed.k.C w A xs.length xs) (hn : xs.length ≤ 1000000000000) :
    Calls Try.prog 11 #[.slice A xs.length c] w (OrderTold xs w) := by
  have HR := Aside0.mk hr
  have HN := Aside0.mk hn
  by_cases h20 : 20 < xs.length
  · clear hr
    go_enter Try.func11, Try.ntmps11
    go_wp2_with fail
    go_ret2
    exact ⟨[], 3, none, 0, rfl, Nat.le_refl _, Kd.C_nil _ _, Below.refl _ _, .inl ⟨h20, rfl, rfl⟩⟩
  · have hcf := Aside0.mk (containsFunc_deed A c xs 29 #[] (fun x => !kn x.kind) w hr hn callFunc29 (fun x _ w1 _ cs hk => order1_calls x cs w1 hk))
    clear hr
    cases hany : xs.any (fun x => !kn x.kind) with
    | true =>
      rw [hany] at hcf
      have HA := Aside0.mk hany
      clear hany
      go_enter Try.func11, Try.ntmps11
      go_wp2_with (first | ((with_reducible refine hcf.out.mono ?_); rintro e w1 ⟨rfl, hb1⟩))
      go_ret2
      exact ⟨[], 4, none, 0, rfl, Nat.le_refl _, Kd.C_nil _ _, hb1, .inr (.inl ⟨by omega, HA.out, rfl, rfl⟩)⟩
    | false =>
      rw [hany] at hcf
      have HA := Aside0.mk hany
      clear hany
      have hmm := @run_makeMap Try.prog
      go_enter Try.func11, Try.ntmps11
      go_wp2_with (first | ((with_reducible refine hcf.out.mono ?_); rintro e w1 ⟨rfl, hb1⟩))
      have hss : SS w1.heap.size (w1.heap.size + 1) w1.heap.size A c xs ((w1.alloc (.map #[] 0)).alloc (.cells #[.slice A xs.length c, .map (some w1.heap.size), .slice none 0 0] 71)) [] (.slice none 0 0) [] := by
        refine ⟨by omega, Nat.le_refl _, cell_new2 _ _ _ _ _ 0 _ rfl, cell_new2 _ _ _ _ _ 1 _ rfl, cell_new2 _ _ _ _ _ 2 _ rfl, ?_, ?_, (fun x hx => by cases hx), own_nil _ _ _ _, (fun k hk => by simp [Value.ownBlock] at hk)⟩
        · have := frozen_new (w1.alloc (.map #[] 0)) #[.slice A xs.length c, .map (some w1.heap.size), .slice none 0 0] 71 2
          have e : (w1.alloc (.map #[] 0)).heap.size = w1.heap.size + 1 := by simp
          rw [e] at this
          exact this
        · exact (MapL.made w1 93).move (Below.heap_alloc _ _ _ (by simp))
      have hbw : Below w1.heap.size w1 ((w1.alloc (.map #[] 0)).alloc (.cells #[.slice A xs.length c, .map (some w1.heap.size), .slice none 0 0] 71)) := below_alloc (below_alloc (Below.refl _ _) _) _
      have hfc : Calls Try.prog 31 #[.pointer (some ⟨w1.heap.size + 1, 0, none⟩), .int .u32 0, .agg #[.bool false, .slice none 0 0]] ((w1.alloc (.map #[] 0)).alloc (.cells #[.slice A xs.length c, .map (some w1.heap.size), .slice none 0 0] 71)) (LinE.Told w1.heap.size (w1.heap.size + 1) w1.heap.size A c xs 0 Val.z ((w1.alloc (.map #[] 0)).alloc (.cells #[.slice A xs.length c, .map (some w1.heap.size), .slice none 0 0] 71)) (.slice none 0 0) []) :=
        from_calls w1.heap.size (w1.heap.size + 1) w1.heap.size A c xs w1 rfl (by omega) (Kd.C_below HR.out hb1) (free xs 0) 0 Val.z [.bool false, .slice none 0 0] _ [] (.slice none 0 0) [] rfl (Nat.two_pow_pos _) (Val.mk_ w1 Val.z (Nat.le_refl _) (Kd.C_nil _ _)) hbw hss (by
          have : free xs 0 ≤ (List.range xs.length).length := List.length_filter_le _ _
          simp at this ⊢; omega)
      have HB1 := Aside0.mk hb1
      have HSS := Aside0.mk hss
      have HFC := Aside0.mk hfc
      have HBW := Aside0.mk hbw
      clear hss hfc hb1 hbw
      ((with_reducible refine HFC.out.mono ?_); rintro e w2 ⟨r, E', ov', p, rfl, hs, ht, hy, hn⟩)
      have HB2 := Aside0.mk (ht.belowB HSS.out (by simp; omega))
      have c2 := hs.c2
      rw [List.nil_append] at hs
      cases r with
      | false =>
        obtain ⟨rfl, hnp⟩ := hn rfl
        have HNP := Aside0.mk hnp
        clear hs ht hy hn hnp c2
        go_wp2_with fail
        go_ret2
        exact ⟨[], 4, none, 0, rfl, Nat.le_refl _, Kd.C_nil _ _, below_step HB1.out (HBW.out.trans HB2.out), .inr (.inr (.inl ⟨by omega, HA.out, rfl, rfl, HNP.out⟩))⟩
      | true =>
        have hp := hy rfl
        have hlt := path_lt hp
        obtain ⟨A', c', rfl, hc', hC⟩ := nums_C hs.ow (fun k hk => by have := hlt k hk; omega)
        have HQ := Aside0.mk (And.intro hp (And.intro hc' hC))
        clear hs ht hy hn hp hlt hc' hC
        go_wp2_with fail
        go_ret2
        exact ⟨p, 0, A', c', rfl, HQ.out.2.1, HQ.out.2.2, below_step HB1.out (HBW.out.trans HB2.out), .inr (.inr (.inr ⟨by omega, HA.out, rfl, HQ.out.1⟩))⟩
end LinF
end Go.Proofs.Ytgconogjnjhmgaa
