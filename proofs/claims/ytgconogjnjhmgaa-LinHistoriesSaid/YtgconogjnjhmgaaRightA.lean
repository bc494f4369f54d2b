/- Layer lin: Right. -/
import Derived.Test.YtgconogjnjhmgaaMaps
import Derived.Test.YtgconogjnjhmgaaKinds
namespace Go.Proofs.Ytgconogjnjhmgaa
open Go.RowKit Go.Proofs.YtgconogjnjhmgaaW.PrintWords
open Go.Maps (Keyed int_keyed)
section
variable {w : World} {k : TypeId} {b : Nat} {E : List (Value × Value)}
/-- m[key] = val, and just what the map holds then. -/
theorem MapL.set (h : MapL w k b E) (K : Keyed Try.prog k) {t e : TypeId} (ht : Try.prog.underlying t = some (.map k e)) {key : Value} (val : Value) (hkey : IsKey k key) :
    ∃ w' E', (Instr.mapUpdate t (.map (some b)) key val).run Try.prog w = .ok () w' ∧ MapL w' k b E' ∧ w.grownBy w' (some b) ∧ ∀ x, x ∈ E' ↔ x = (key, val) ∨ (x ∈ E ∧ x.1 ≠ key) := by
  by_cases hm : ∃ v, (key, v) ∈ E
  · obtain ⟨v0, hv⟩ := hm
    obtain ⟨l1, l2, rfl⟩ := List.append_of_mem hv
    have hp : (l1 ++ (key, v0) :: l2).Perm ((key, v0) :: (l1 ++ l2)) := List.perm_middle
    have ha := (h.perm hp).apart
    rw [List.pairwise_cons] at ha
    obtain ⟨w', h1, h2, h3⟩ := h.put_old K ht val hkey hp
    refine ⟨w', _, h1, h2, h3, fun x => ?_⟩
    rw [List.mem_cons, hp.mem_iff, List.mem_cons]
    constructor
    · rintro (rfl | hx)
      · exact .inl rfl
      · exact .inr ⟨.inr hx, fun e => ha.1 x hx e.symm⟩
    · rintro (rfl | ⟨rfl | hx, hne⟩)
      · exact .inl rfl
      · exact absurd rfl hne
      · exact .inr hx
  · obtain ⟨w', h1, h2, h3⟩ := h.put_new K ht val hkey (fun v hv => hm ⟨v, hv⟩)
    refine ⟨w', _, h1, h2, h3, fun x => ?_⟩
    rw [List.mem_cons]
    constructor
    · rintro (rfl | hx)
      · exact .inl rfl
      · exact .inr ⟨hx, fun e => hm ⟨x.2, by rw [← e]; exact hx⟩⟩
    · rintro (rfl | ⟨hx, _⟩)
      · exact .inl rfl
      · exact .inr hx
end
namespace RightA
def nid (x : Note) : Int := if x.isAnswer then x.answer.id_ else x.call.id_
/-- Which calls wait behind some notes. -/
def opn (l : List Note) : Int → Bool := l.foldl (fun o n => fun i => if i = nid n then !n.isAnswer else o i) (fun _ => false)
theorem opn_snoc (l : List Note) (x : Note) (i : Int) : opn (l ++ [x]) i = if i = nid x then !x.isAnswer else opn l i := by simp [opn]
/-- Is each of the first k notes right? -/
def rightTo (xs : List Note) (k : Nat) : Bool := (List.range k).all fun j => opn (xs.take j) (nid (xs.getD j Note.z)) == (xs.getD j Note.z).isAnswer
def rightB (xs : List Note) : Bool := rightTo xs xs.length
theorem rightTo_succ (xs : List Note) (k : Nat) : rightTo xs (k + 1) = (rightTo xs k && (opn (xs.take k) (nid (xs.getD k Note.z)) == (xs.getD k Note.z).isAnswer)) := by
  unfold rightTo; rw [List.range_succ, List.all_append]; simp
theorem rightTo_false {xs : List Note} {k n : Nat} (h : rightTo xs k = false) (hn : k ≤ n) : rightTo xs n = false := by
  unfold rightTo at *
  rw [List.all_eq_false] at *
  obtain ⟨x, hx, h⟩ := h
  exact ⟨x, by rw [List.mem_range] at *; omega, h⟩
def rightC (xs : List Note) : Int := if rightB xs then 0 else 2
theorem lawI : Keyed Try.prog 3 := int_keyed Try.underlying3
theorem keyI {i : Int} (h : InR .i64 i) : IsKey 3 (.int .i64 i) := ⟨_, Go.Maps.keyOf_int_mk Try.underlying3 h⟩
/-- A map of numbers to truths, read as a function. -/
def MapB (w : World) (b : Nat) (o : Int → Bool) : Prop := ∃ E, MapL w 3 b E ∧ (∀ x ∈ E, ∃ i v, x = (.int .i64 i, .bool v) ∧ o i = v) ∧ ∀ i, o i = true → (.int .i64 i, .bool true) ∈ E
theorem MapB.made (w : World) : MapB (w.alloc (.map #[] 0)) w.heap.size (fun _ => false) := by
  refine ⟨[], MapL.made w _, fun x hx => ?_, fun i h => ?_⟩
  · cases hx
  · cases h
theorem MapB.move {w w' : World} {b : Nat} {o : Int → Bool} (h : MapB w b o) (hb : w'.heap[b]? = w.heap[b]?) : MapB w' b o := by
  obtain ⟨E, h1, h2⟩ := h
  exact ⟨E, h1.move hb, h2⟩
theorem MapB.lt {w : World} {b : Nat} {o : Int → Bool} (h : MapB w b o) : b < w.heap.size := by
  obtain ⟨E, h1, h2⟩ := h
  exact h1.lt
theorem zeroB (w : World) : (zeroValue 4).run Try.prog w = .ok (.bool false) w := by kernel_rfl
theorem MapB.look {w : World} {b : Nat} {o : Int → Bool} (h : MapB w b o) {i : Int} (hi : InR .i64 i) : (Instr.lookup 89 (.map (some b)) (.int .i64 i) false).run Try.prog w = .ok (.bool (o i)) w := by
  obtain ⟨E, hm, h1, h2⟩ := h
  by_cases hE : ∃ v, (.int .i64 i, v) ∈ E
  · obtain ⟨v, hv⟩ := hE
    obtain ⟨j, u, he, rfl⟩ := h1 _ hv
    simp only [Prod.mk.injEq, Value.int.injEq, true_and] at he
    obtain ⟨rfl, rfl⟩ := he
    exact hm.look_old lawI Try.underlying89 false (keyI hi) hv
  · have : o i = false := by
      cases ho : o i with
      | false => rfl
      | true => exact absurd ⟨_, h2 i ho⟩ hE
    rw [this]
    exact hm.look_new lawI Try.underlying89 (zeroB w) false (keyI hi) (fun v hv => hE ⟨v, hv⟩)
theorem MapB.set {w : World} {b : Nat} {o : Int → Bool} (h : MapB w b o) {i : Int} (hi : InR .i64 i) (v : Bool) : ∃ w', (Instr.mapUpdate 89 (.map (some b)) (.int .i64 i) (.bool v)).run Try.prog w = .ok () w' ∧ MapB w' b (fun j => if j = i then v else o j) ∧ w.grownBy w' (some b) := by
  obtain ⟨E, hm, h1, h2⟩ := h
  obtain ⟨w', E', hr, hm', hg, hx⟩ := hm.set lawI Try.underlying89 (.bool v) (keyI hi)
  refine ⟨w', hr, ⟨E', hm', fun x hxe => ?_, fun j hj => ?_⟩, hg⟩
  · rcases (hx x).1 hxe with rfl | ⟨hxE, hne⟩
    · exact ⟨i, v, rfl, by simp⟩
    · obtain ⟨j, u, rfl, hu⟩ := h1 x hxE
      refine ⟨j, u, rfl, ?_⟩
      have : j ≠ i := fun e => hne (by rw [e])
      simp [this, hu]
  · by_cases e : j = i
    · subst e
      simp at hj
      subst hj
      exact (hx _).2 (.inl rfl)
    · simp [e] at hj
      exact (hx _).2 (.inr ⟨h2 j hj, by simpa using e⟩)
set_option maxRecDepth 100000 in
set_option maxHeartbeats 1000000 in
theorem right_calls (A : Option Addr) (c : Nat) (xs : List Note) (w : World) (hr : Note.k.C w A xs.length xs) (hn : xs.length ≤ 1300000000000) :
    Calls Try.prog 23 #[.slice A xs.length c] w fun e w' => e = .returned (.int .i64 (rightC xs)) ∧ Below w.heap.size w w' := by
  have HR := Aside0.mk hr
  have hmm := @run_makeMap Try.prog
  clear hr
  go_enter Try.func23, Try.ntmps23
  go_wp2
  go_step3
  go_wp2
  go_step3
  go_wp2
  have hm0 := Aside0.mk (MapB.made w)
  clear hmm
  generalize hW : w.alloc (.map #[] 0) = W at *
  have HW : Aside0 (Below w.heap.size w W) := ⟨by rw [← hW]; exact below_alloc (Below.refl _ _) _⟩
  clear hW
  go_loopw [4, 11] (fun v4 v11 wr => ∃ k : Nat, v11 = .int .i64 k ∧ v4 = .bool true ∧ k ≤ xs.length ∧ Aside0 (Below w.heap.size w wr) ∧ Aside0 (rightTo xs k = true) ∧ Aside0 (MapB wr w.heap.size (opn (xs.take k)))) (fun _ v11 _ => xs.length - (intOf v11).toNat)
  case atStart => exact ⟨0, rfl, rfl, Nat.zero_le _, HW, ⟨rfl⟩, hm0⟩
  case round =>
    obtain ⟨k, rfl, rfl, hk, HB, HT, HM⟩ := hrel
    by_cases hlt : k < xs.length
    · obtain ⟨ad, x, A4, c4, A8, c8, rfl, HE, hx0, hx1, hx2, hx3, hx4, hx5, hx6, hx7, hx8, HMM⟩ := Note.at_ (Kd.C_below HR.out HB.out) k hlt
      have HXK : Aside0 (xs.getD k Note.z = x) := ⟨by rw [List.getD_eq_getElem?_getD, HE.out]; rfl⟩
      obtain ⟨_, _, _, _, he, r1, r2, s3, l4, g4, r5, r6, l8, g8⟩ := Note.open_ HMM.out
      have HI : Aside0 (InR .i64 (nid x)) := ⟨by unfold nid; split; exact r5; exact r1⟩
      clear he r1 r2 s3 l4 g4 r5 r6 l8 g8
      obtain ⟨xa, ⟨ci, ck, cy, cb⟩, ⟨ai, ae, av⟩⟩ := x
      cases xa with
      | true =>
        have hlk : ∀ o, (Instr.lookup 89 (.map (some w.heap.size)) (.int .i64 ai) false).run Try.prog (wr.alloc o) = .ok (.bool (opn (xs.take k) ai)) (wr.alloc o) := fun o => MapB.look (HM.out.move (Below.heap_alloc _ _ _ HM.out.lt)) HI.out
        obtain ⟨f, hf⟩ := Classical.axiomOfChoice (fun o => MapB.set (HM.out.move (w' := wr.alloc o) (Below.heap_alloc _ _ _ HM.out.lt)) HI.out false)
        have hup : ∀ o, (Instr.mapUpdate 89 (.map (some w.heap.size)) (.int .i64 ai) (.bool false)).run Try.prog (wr.alloc o) = .ok () (f o) := fun o => (hf o).1
        have HF := Aside0.mk hf
        have HN := Aside0.mk (rightTo_succ xs k)
        have HO := Aside0.mk (opn_snoc (xs.take k) (xs.getD k Note.z))
        rw [HT.out, HXK.out] at HN
        rw [HXK.out] at HO
        change Aside0 (_ = (true && (opn (xs.take k) ai == true))) at HN
        clear hf
        cases hop : opn (xs.take k) ai with
        | true =>
          rw [hop] at hlk HN
          go_wp2
          go_roundw
          case rel => exact ⟨k + 1, by go_num, rfl, by omega, ⟨(below_alloc HB.out _).grown (HF.out _).2.2 (below_alloc HB.out _).size (fun k hk => by cases hk; exact Nat.le_refl _)⟩, ⟨HN.out⟩, ⟨by
            rw [show xs.take (k + 1) = xs.take k ++ [xs.getD k Note.z] by rw [HXK.out, List.take_add_one, HE.out]; rfl]
            rw [show opn (xs.take k ++ [xs.getD k Note.z]) = _ from funext (fun i => by rw [opn_snoc, HXK.out])]
            exact (HF.out _).2.1⟩⟩
          case measure => simp [intOf]; omega
        | false =>
          rw [hop] at hlk HN
          go_wp2
          go_ret
          exact ⟨by rw [rightC, rightB, rightTo_false HN.out (show k + 1 ≤ xs.length by omega)]; rfl, below_alloc HB.out _⟩
      | false =>
        have hlk : ∀ o, (Instr.lookup 89 (.map (some w.heap.size)) (.int .i64 ci) false).run Try.prog (wr.alloc o) = .ok (.bool (opn (xs.take k) ci)) (wr.alloc o) := fun o => MapB.look (HM.out.move (Below.heap_alloc _ _ _ HM.out.lt)) HI.out
        obtain ⟨f, hf⟩ := Classical.axiomOfChoice (fun o => MapB.set (HM.out.move (w' := wr.alloc o) (Below.heap_alloc _ _ _ HM.out.lt)) HI.out true)
        have hup : ∀ o, (Instr.mapUpdate 89 (.map (some w.heap.size)) (.int .i64 ci) (.bool true)).run Try.prog (wr.alloc o) = .ok () (f o) := fun o => (hf o).1
        have HF := Aside0.mk hf
        have HN := Aside0.mk (rightTo_succ xs k)
        have HO := Aside0.mk (opn_snoc (xs.take k) (xs.getD k Note.z))
        rw [HT.out, HXK.out] at HN
        rw [HXK.out] at HO
        change Aside0 (_ = (true && (opn (xs.take k) ci == false))) at HN
        clear hf
        cases hop : opn (xs.take k) ci with
        | true =>
          rw [hop] at hlk HN
          go_wp2
          go_ret
          exact ⟨by rw [rightC, rightB, rightTo_false HN.out (show k + 1 ≤ xs.length by omega)]; rfl, below_alloc HB.out _⟩
        | false =>
          rw [hop] at hlk HN
          go_wp2
          go_roundw
          case rel => exact ⟨k + 1, by go_num, rfl, by omega, ⟨(below_alloc HB.out _).grown (HF.out _).2.2 (below_alloc HB.out _).size (fun k hk => by cases hk; exact Nat.le_refl _)⟩, ⟨HN.out⟩, ⟨by
            rw [show xs.take (k + 1) = xs.take k ++ [xs.getD k Note.z] by rw [HXK.out, List.take_add_one, HE.out]; rfl]
            rw [show opn (xs.take k ++ [xs.getD k Note.z]) = _ from funext (fun i => by rw [opn_snoc, HXK.out])]
            exact (HF.out _).2.1⟩⟩
          case measure => simp [intOf]; omega
    · obtain rfl : k = xs.length := by omega
      go_wp2
      rw [Exit.noGoto_ret]
      go_ret
      exact ⟨by rw [rightC, rightB, HT.out]; rfl, HB.out⟩
end RightA
end Go.Proofs.Ytgconogjnjhmgaa
