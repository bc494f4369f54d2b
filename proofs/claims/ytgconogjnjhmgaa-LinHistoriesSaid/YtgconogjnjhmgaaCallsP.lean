/- Calls that nobody answered, and a read of nothing: they are linear. -/
import Derived.Test.YtgconogjnjhmgaaLinearA
namespace Go.Proofs.Ytgconogjnjhmgaa
open Go.RowKit Go.Proofs.YtgconogjnjhmgaaW.PrintWords
namespace CallsP
open LinA LinB LinC LinD LinE LinF LinG LinH RightA DeedA DeedsB KeysA LinearA
def n99 : Note := ⟨false, ⟨99, 1, ⟨#[113]⟩, []⟩, Answer.z⟩
def a99 : Note := ⟨true, Call.z, ⟨99, 0, Val.z⟩⟩
def full99 (C : List Note) : List Note := C ++ [n99, a99]
/-- Calls alone, each with its own number, none 99. -/
structure Calm (C : List Note) : Prop where
  calls : ∀ x ∈ C, x.isAnswer = false
  apart : C.Pairwise (fun x y => x.call.id_ ≠ y.call.id_)
  free : ∀ x ∈ C, x.call.id_ ≠ 99
theorem opn_calls_ : ∀ (n : Nat) (l : List Note), l.length = n → (∀ x ∈ l, x.isAnswer = false) → ∀ i : Int, opn l i = true → ∃ x ∈ l, x.call.id_ = i
  | 0, l, hl, _, i, ho => by
    rw [List.eq_nil_of_length_eq_zero hl] at ho
    cases ho
  | n + 1, l, hl, h, i, ho => by
    rcases List.eq_nil_or_concat l with rfl | ⟨l', x, rfl⟩
    · cases hl
    · rw [List.concat_eq_append] at *
      rw [opn_snoc] at ho
      by_cases e : i = nid x
      · refine ⟨x, by simp, ?_⟩
        have hxa := h x (by simp)
        unfold nid at e
        rw [hxa] at e
        exact e.symm
      · rw [if_neg e] at ho
        obtain ⟨y, hy, he⟩ := opn_calls_ n l' (by simpa using hl) (fun y hy => h y (by simp [hy])) i ho
        exact ⟨y, by simp [hy], he⟩
theorem opn_calls {l : List Note} (h : ∀ x ∈ l, x.isAnswer = false) (i : Int) (ho : opn l i = true) : ∃ x ∈ l, x.call.id_ = i := opn_calls_ _ l rfl h i ho
theorem getD_app {C D : List Note} {j : Nat} (h : j < C.length) : (C ++ D).getD j Note.z = C.getD j Note.z := by
  rw [List.getD_eq_getElem?_getD, List.getD_eq_getElem?_getD, List.getElem?_append_left h]
theorem getD_app2 {C D : List Note} (j : Nat) : (C ++ D).getD (C.length + j) Note.z = D.getD j Note.z := by
  rw [List.getD_eq_getElem?_getD, List.getD_eq_getElem?_getD, List.getElem?_append_right (by omega)]
  congr 2
  omega
theorem getD_mem {C : List Note} {j : Nat} (h : j < C.length) : C.getD j Note.z ∈ C := by
  rw [List.getD_eq_getElem?_getD, List.getElem?_eq_getElem h]
  exact List.getElem_mem h
variable {C : List Note}
theorem right99 (h : Calm C) : rightB (full99 C) = true := by
  unfold rightB rightTo full99
  rw [List.all_eq_true]
  intro j hj
  rw [List.mem_range, List.length_append] at hj
  simp only [List.length_cons, List.length_nil] at hj
  rcases Nat.lt_or_ge j C.length with hlt | hge
  · rw [getD_app hlt, List.take_append_of_le_length (Nat.le_of_lt hlt)]
    have hx := h.calls _ (getD_mem hlt)
    rw [hx]
    have hn : nid (C.getD j Note.z) = (C.getD j Note.z).call.id_ := by unfold nid; rw [hx]; rfl
    rw [hn]
    cases ho : opn (C.take j) (C.getD j Note.z).call.id_ with
    | false => rfl
    | true =>
      obtain ⟨y, hy, he⟩ := opn_calls (fun y hy => h.calls y (List.mem_of_mem_take hy)) _ ho
      obtain ⟨i, hi, rfl⟩ := List.mem_iff_getElem.1 hy
      rw [List.length_take] at hi
      rw [List.getElem_take] at he
      have := List.pairwise_iff_getElem.1 h.apart i j (by omega) hlt (by omega)
      rw [List.getD_eq_getElem?_getD, List.getElem?_eq_getElem hlt] at he
      exact absurd he this
  · obtain ⟨d, rfl⟩ : ∃ d, j = C.length + d := ⟨j - C.length, by omega⟩
    rw [getD_app2]
    rcases d with _ | d
    · rw [show (C ++ [n99, a99]).take (C.length + 0) = C by simp]
      have hc : opn C 99 = false := by
        cases ho : opn C 99 with
        | false => rfl
        | true =>
          obtain ⟨y, hy, he⟩ := opn_calls h.calls _ ho
          exact absurd he (h.free y hy)
      show (opn C 99 == false) = true
      rw [hc]; rfl
    · obtain rfl : d = 0 := by omega
      rw [show (C ++ [n99, a99]).take (C.length + (0 + 1)) = C ++ [n99] by rw [List.take_append]; simp; exact List.take_of_length_le (by omega)]
      show (opn (C ++ [n99]) 99 == true) = true
      rw [opn_snoc]; rfl
theorem len99 (C : List Note) : (full99 C).length = C.length + 2 := by unfold full99; simp
theorem no_ans (h : Calm C) {i : Nat} (hi : i < C.length) : ∀ j, i < j → j < (full99 C).length → isAns ((full99 C).getD j Note.z) (C.getD i Note.z).call.id_ = false := by
  intro j _ hj
  rw [len99] at hj
  unfold full99
  rcases Nat.lt_or_ge j C.length with hlt | hge
  · rw [getD_app hlt]
    unfold isAns
    rw [h.calls _ (getD_mem hlt)]; rfl
  · obtain ⟨d, rfl⟩ : ∃ d, j = C.length + d := ⟨j - C.length, by omega⟩
    rw [getD_app2]
    rcases d with _ | d
    · rfl
    · obtain rfl : d = 0 := by omega
      show (true && ((99 : Int) == (C.getD i Note.z).call.id_)) = false
      have := h.free _ (getD_mem hi)
      simpa using fun e : (99 : Int) = _ => this e.symm
theorem deed_call (h : Calm C) {i : Nat} (hi : i < C.length) : deedE (full99 C) i = 40 ∧ deedD (full99 C) i = bare (C.getD i Note.z) i (C.length + 2) := by
  have := deed_none (xs := full99 C) (at_ := i) (x := C.getD i Note.z) (getD_app hi) (no_ans h hi)
  rw [len99] at this
  exact this
theorem deed_99 (C : List Note) : deedD (full99 C) C.length = ⟨1, [], C.length, (C.length + 1 : Nat), true, Val.z⟩ := by
  have hx : (full99 C).getD C.length Note.z = n99 := getD_app2 (C := C) (D := [n99, a99]) 0
  have hy : (full99 C).getD (C.length + 1) Note.z = a99 := getD_app2 (C := C) (D := [n99, a99]) 1
  have := (deed_some hx hy (by omega) (by rw [len99]; omega) rfl (fun i h1 h2 => absurd h1 (by omega))).2
  rw [this]
  rfl
theorem mem_dTo (h : Calm C) {key : ByteArray} {d : Deed} (hd : d ∈ dTo key (full99 C) C.length) : d.done = false ∧ kn d.kind = true ∧ d.to_ = ((C.length + 2 : Nat) : Int) := by
  unfold dTo at hd
  obtain ⟨i, hi, rfl⟩ := List.mem_map.1 hd
  rw [List.mem_filter, List.mem_range] at hi
  have hdd := deed_call h hi.1
  have hk : kn (deedD (full99 C) i).kind = true := by
    have := hi.2
    unfold dIs deedIs at this
    simp only [Bool.and_eq_true] at this
    exact this.2.1
  refine ⟨?_, hk, ?_⟩
  · rw [hdd.2]; rfl
  · rw [hdd.2]; rfl
theorem dTo99 (C : List Note) (key : ByteArray) : dTo key (full99 C) (full99 C).length = dTo key (full99 C) C.length ++ (if dIs key (full99 C) C.length then [⟨1, [], C.length, (C.length + 1 : Nat), true, Val.z⟩] else []) := by
  rw [len99, dTo_succ, dTo_succ, deed_99]
  have : dIs key (full99 C) (C.length + 1) = false := by
    unfold dIs
    have hy : (full99 C).getD (C.length + 1) Note.z = a99 := getD_app2 (C := C) (D := [n99, a99]) 1
    rw [hy]; rfl
  rw [this]
  simp
theorem getD_d {l : List Deed} {j : Nat} (h : j < l.length) : l.getD j Deed.z ∈ l := by
  rw [List.getD_eq_getElem?_getD, List.getElem?_eq_getElem h]
  exact List.getElem_mem h
theorem key99 (h : Calm C) (key : ByteArray) : LinKey (dTo key (full99 C) (full99 C).length) := by
  rw [dTo99]
  generalize hl : dTo key (full99 C) C.length = l
  have hm : ∀ d ∈ l, d.done = false ∧ kn d.kind = true ∧ d.to_ = ((C.length + 2 : Nat) : Int) := fun d hd => mem_dTo h (hl ▸ hd)
  cases hq : dIs key (full99 C) C.length with
  | false =>
    simp only [if_neg Bool.false_ne_true, List.append_nil]
    refine ⟨List.any_eq_false.2 (fun d hd => by rw [(hm d hd).2.1]; simp), [], .done ?_⟩
    unfold leftB
    rw [List.any_eq_false]
    intro j hj
    rw [List.mem_range] at hj
    rw [(hm _ (getD_d hj)).1]; simp
  | true =>
    simp only [if_true]
    generalize hd0 : (⟨1, [], C.length, (C.length + 1 : Nat), true, Val.z⟩ : Deed) = d0
    have hj1 : ∀ j, j < l.length → (l ++ [d0]).getD j Deed.z = l.getD j Deed.z := fun j hj => by
      rw [List.getD_eq_getElem?_getD, List.getD_eq_getElem?_getD, List.getElem?_append_left hj]
    have hk1 : (l ++ [d0]).getD l.length Deed.z = d0 := by
      rw [List.getD_eq_getElem?_getD, List.getElem?_append_right (Nat.le_refl _)]; simp
    have hlen : (l ++ [d0]).length = l.length + 1 := by simp
    refine ⟨?_, [l.length], .step ?_ (by omega) ?_ ?_ (.done ?_)⟩
    · rw [List.any_append, List.any_eq_false.2 (fun d hd => by rw [(hm d hd).2.1]; simp)]
      rw [← hd0]; rfl
    · unfold leftB
      rw [List.any_eq_true]
      exact ⟨l.length, by rw [List.mem_range]; omega, by rw [hk1, ← hd0]; simp⟩
    · unfold mayB
      rw [Bool.and_eq_true, List.all_eq_true]
      refine ⟨by simp, fun j hj => ?_⟩
      rw [List.mem_range, hlen] at hj
      rcases Nat.lt_or_ge j l.length with hlt | hge
      · unfold clash
        rw [hj1 j hlt, hk1, (hm _ (getD_d hlt)).2.2, ← hd0]
        simp
        omega
      · obtain rfl : j = l.length := by omega
        unfold clash
        simp
    · rw [hk1, ← hd0]; rfl
    · unfold leftB
      rw [List.any_eq_false]
      intro j hj
      rw [List.mem_range, hlen] at hj
      rcases Nat.lt_or_ge j l.length with hlt | hge
      · rw [hj1 j hlt, (hm _ (getD_d hlt)).1]; simp
      · obtain rfl : j = l.length := by omega
        simp
theorem spec99 (h : Calm C) (hl : C.length ≤ 7) {b : Bool} {c : Int} (hs : LinSpec (full99 C) b c) : b = true ∧ c = 0 := by
  have hr := right99 h
  have hd : ∀ key, deedsL key (full99 C) = dTo key (full99 C) (full99 C).length := fun key => by unfold deedsL; rw [hr]; rfl
  rcases hs with ⟨h1, _⟩ | ⟨_, ⟨key, _, h2⟩, _⟩ | ⟨_, _, h3, h4⟩
  · rw [hr] at h1; cases h1
  · have := dTo_length key (full99 C) (full99 C).length
    rw [hd, ] at h2
    rw [len99] at this h2
    omega
  · exact ⟨h4.2 (fun key _ => by rw [hd]; exact key99 h key), h3⟩
/-- Without its last note a history is right, if it is. -/
theorem right_take {xs : List Note} (h : rightB xs = true) (k : Nat) (hk : k ≤ xs.length) : rightB (xs.take k) = true := by
  unfold rightB rightTo at *
  rw [List.all_eq_true] at *
  intro j hj
  rw [List.mem_range, List.length_take] at hj
  have := h j (by rw [List.mem_range]; omega)
  rw [List.take_take, Nat.min_eq_left (by omega)]
  rw [List.getD_eq_getElem?_getD, List.getElem?_take, if_pos (by omega), ← List.getD_eq_getElem?_getD]
  exact this
end CallsP
end Go.Proofs.Ytgconogjnjhmgaa
