/- Plain: deeds that can be put in order can be, too, when they are widened. -/
import Derived.Test.YtgconogjnjhmgaaLinJ
namespace Go.Proofs.Ytgconogjnjhmgaa
namespace WidB
open LinA LinB LinC LinD LinE LinF LinG LinH LinJ
structure Wider (xs ws : List Deed) : Prop where
  len : ws.length = xs.length
  at_ : ∀ j, j < xs.length → (ws.getD j Deed.z).kind = (xs.getD j Deed.z).kind ∧ (ws.getD j Deed.z).b = (xs.getD j Deed.z).b ∧ (ws.getD j Deed.z).val = (xs.getD j Deed.z).val ∧ (ws.getD j Deed.z).done = (xs.getD j Deed.z).done ∧
    (ws.getD j Deed.z).from_ ≤ (xs.getD j Deed.z).from_ ∧ (xs.getD j Deed.z).to_ ≤ (ws.getD j Deed.z).to_
theorem wider_set {xs : List Deed} {k : Nat} {x : Deed} (hx : xs[k]? = some x) {f t : Int} (hf : f ≤ x.from_) (ht : x.to_ ≤ t) : Wider xs (xs.set k { x with from_ := f, to_ := t }) := by
  obtain ⟨hk, rfl⟩ := List.getElem?_eq_some_iff.1 hx
  refine ⟨List.length_set, fun j hj => ?_⟩
  rw [List.getD_eq_getElem?_getD, List.getD_eq_getElem?_getD]
  by_cases hjk : k = j
  · subst hjk
    rw [List.getElem?_set_self hk, List.getElem?_eq_getElem hk]
    exact ⟨rfl, rfl, rfl, rfl, hf, ht⟩
  · rw [List.getElem?_set_ne hjk]
    exact ⟨rfl, rfl, rfl, rfl, Int.le_refl _, Int.le_refl _⟩
theorem nxt_same {d e : Deed} (h1 : d.kind = e.kind) (h2 : d.b = e.b) (h3 : d.val = e.val) (v : Val) : nxt d v = nxt e v := by
  unfold nxt
  rw [h1, h2, h3]
theorem vals_wider {xs ws : List Deed} (h : Wider xs ws) : ∀ (p : List Nat) (v : Val), (∀ k ∈ p, k < xs.length) → valsOk ws p v = valsOk xs p v
  | [], _, _ => rfl
  | k :: r, v, hp => by
    obtain ⟨h1, h2, h3, _⟩ := h.at_ k (hp k List.mem_cons_self)
    unfold valsOk
    rw [nxt_same h1 h2 h3, vals_wider h r _ (fun j hj => hp j (List.mem_cons_of_mem _ hj))]
theorem any_wider {xs ws : List Deed} (h : Wider xs ws) : ws.any (fun x => !kn x.kind) = xs.any (fun x => !kn x.kind) := by
  rw [Bool.eq_iff_iff, List.any_eq_true, List.any_eq_true]
  constructor
  · rintro ⟨x, hx, hk⟩
    obtain ⟨j, hj, rfl⟩ := List.getElem_of_mem hx
    have hj' : j < xs.length := by rw [← h.len]; exact hj
    refine ⟨xs[j], List.getElem_mem hj', ?_⟩
    have := (h.at_ j hj').1
    rw [List.getD_eq_getElem?_getD, List.getD_eq_getElem?_getD, List.getElem?_eq_getElem hj, List.getElem?_eq_getElem hj'] at this
    simp only [Option.getD_some] at this
    rw [← this]; exact hk
  · rintro ⟨x, hx, hk⟩
    obtain ⟨j, hj, rfl⟩ := List.getElem_of_mem hx
    have hj' : j < ws.length := by rw [h.len]; exact hj
    refine ⟨ws[j], List.getElem_mem hj', ?_⟩
    have := (h.at_ j hj).1
    rw [List.getD_eq_getElem?_getD, List.getD_eq_getElem?_getD, List.getElem?_eq_getElem hj, List.getElem?_eq_getElem hj'] at this
    simp only [Option.getD_some] at this
    rw [this]; exact hk
theorem holds_wider {xs ws : List Deed} (h : Wider xs ws) {order : List Int} (ho : HoldsP xs order) : HoldsP ws order := by
  obtain ⟨h1, ⟨v, hg⟩, hl⟩ := ho
  have hidx : ∀ x ∈ order, x.toNat < xs.length := fun x hx => by
    obtain ⟨a, ha, rfl⟩ := List.getElem_of_mem hx
    obtain ⟨k, hk, hkl⟩ := hg.rng a ha
    rw [List.getElem?_eq_getElem ha] at hk
    injection hk with hk
    rw [hk]; simpa using hkl
  refine ⟨by rw [any_wider h]; exact h1, ⟨v, ⟨?_, hg.inj, ?_, ?_⟩⟩, ?_⟩
  · intro a ha
    obtain ⟨k, hk, hkl⟩ := hg.rng a ha
    exact ⟨k, hk, by rw [h.len]; exact hkl⟩
  · intro a ha b hab k j hk hj hjl
    rw [h.len] at hjl
    obtain ⟨k', hk', hkl⟩ := hg.rng a ha
    rw [hk] at hk'
    injection hk' with hk'
    obtain rfl : k = k' := by omega
    have h3 := hg.time a ha b hab k j hk hj hjl
    have h4 := (h.at_ k hkl).2.2.2.2.1
    have h5 := (h.at_ j hjl).2.2.2.2.2
    omega
  · rw [vals_wider h]
    · exact hg.val
    · intro k hk
      obtain ⟨x, hx, rfl⟩ := List.mem_map.1 hk
      exact hidx x (List.mem_of_mem_take hx)
  · intro k hk hn
    rw [h.len] at hk
    obtain ⟨h3, h4⟩ := hl k hk hn
    refine ⟨by rw [(h.at_ k hk).2.2.2.1]; exact h3, fun x hx => ?_⟩
    have h5 := h4 x hx
    have h6 := (h.at_ x.toNat (hidx x hx)).2.2.2.2.1
    have h7 := (h.at_ k hk).2.2.2.2.2
    omega
theorem count_but (p : Nat → Bool) (k : Nat) (hp : p k = true) : ∀ n, ((List.range n).filter fun j => p j && j != k).length + (if k < n then 1 else 0) = ((List.range n).filter p).length
  | 0 => rfl
  | n + 1 => by
    have ih := count_but p k hp n
    rw [List.range_succ, List.filter_append, List.filter_append, List.length_append, List.length_append]
    by_cases hn : n = k
    · subst hn
      rw [if_neg (by omega)] at ih
      rw [if_pos (by omega)]
      simp [hp]
      omega
    · have e : (n != k) = true := by simp [hn]
      by_cases hk : k < n
      · rw [if_pos hk] at ih
        rw [if_pos (by omega)]
        simp only [List.filter_cons, List.filter_nil, e, Bool.and_true]
        omega
      · rw [if_neg hk] at ih
        rw [if_neg (by omega)]
        simp only [List.filter_cons, List.filter_nil, e, Bool.and_true]
        omega
theorem free_step {xs : List Deed} {m k : Nat} (hk : k < xs.length) (hb : m.testBit k = false) : free xs (m ||| 2 ^ k) + 1 = free xs m := by
  unfold free
  have h := count_but (fun j => !m.testBit j) k (by rw [hb]; rfl) xs.length
  rw [if_pos hk] at h
  rw [← h]
  congr 2
  refine List.filter_congr (fun j _ => ?_)
  rw [Nat.testBit_or, Nat.testBit_two_pow]
  by_cases e : k = j
  · subst e; simp
  · have : (j != k) = true := by simp; omega
    simp [e, this]
theorem path_all {xs : List Deed} {m : Nat} {v : Val} {p : List Nat} (h : Path xs m v p) (hd : ∀ j, j < xs.length → (xs.getD j Deed.z).done = true) : p.length = free xs m := by
  induction h with
  | @done m v h =>
    unfold leftB at h
    unfold free
    symm
    rw [List.length_nil, List.length_eq_zero_iff, List.filter_eq_nil_iff]
    intro j hj
    have h1 := List.any_eq_false.1 h j hj
    rw [hd j (List.mem_range.1 hj)] at h1
    simpa using h1
  | step _ h2 h3 _ _ ih =>
    rw [List.length_cons, ih, free_step h2 (mayB_bit h3)]
theorem ord_wider {xs ws : List Deed} (h : Wider xs ws) (hl : xs.length ≤ 20) (hd : ∀ j, j < xs.length → (xs.getD j Deed.z).done = true) {p q : List Nat} {f : Int} (hp : Ord xs p 0) (hq : Ord ws q f) : f = 0 ∧ q.length = ws.length := by
  have hh := holds_wider h (ord_holds hp rfl)
  have hf := holds_ord hh (by rw [h.len]; exact hl) hq
  refine ⟨hf, ?_⟩
  rcases hq with ⟨_, h1, _⟩ | ⟨_, _, h1, _⟩ | ⟨_, _, h1, _⟩ | ⟨_, _, _, h1⟩
  · omega
  · omega
  · omega
  · have h2 := path_all h1 (fun j hj => by rw [h.len] at hj; rw [(h.at_ j hj).2.2.2.1]; exact hd j hj)
    rw [h2]
    unfold free
    have : (List.range ws.length).filter (fun k => !(0 : Nat).testBit k) = List.range ws.length := List.filter_eq_self.2 (fun j _ => by simp)
    rw [this, List.length_range]
end WidB
end Go.Proofs.Ytgconogjnjhmgaa
