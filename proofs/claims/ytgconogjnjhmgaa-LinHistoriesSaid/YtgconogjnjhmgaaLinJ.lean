/- Plain laws of orders: what the search tells holds; where any order holds, the search tells one. -/
import Derived.Test.YtgconogjnjhmgaaLinI
namespace Go.Proofs.Ytgconogjnjhmgaa
namespace LinJ
open LinA LinB LinC LinD LinE LinF LinG LinH
def mask (q : List Nat) : Nat := q.foldl (fun m k => m ||| 2 ^ k) 0
theorem mask_snoc (q : List Nat) (k : Nat) : mask (q ++ [k]) = mask q ||| 2 ^ k := by simp [mask]
theorem mask_bit (q : List Nat) (j : Nat) : (mask q).testBit j = true ↔ j ∈ q := by
  have h : ∀ (q : List Nat) (m : Nat), (q.foldl (fun m k => m ||| 2 ^ k) m).testBit j = true ↔ m.testBit j = true ∨ j ∈ q := by
    intro q
    induction q with
    | nil => intro m; simp
    | cons k r ih =>
      intro m
      rw [List.foldl_cons, ih, Nat.testBit_or, Nat.testBit_two_pow, Bool.or_eq_true, decide_eq_true_eq, List.mem_cons, or_assoc]
      exact ⟨fun h => h.imp id (fun h => h.imp Eq.symm id), fun h => h.imp id (fun h => h.imp Eq.symm id)⟩
  unfold mask
  rw [h]
  simp
theorem mask_no {q : List Nat} {j : Nat} (h : j ∉ q) : (mask q).testBit j = false := by
  cases hb : (mask q).testBit j
  · rfl
  · exact absurd ((mask_bit q j).1 hb) h
theorem clash_no {xs : List Deed} {m k j : Nat} (hm : mayB xs m k = true) (hj : j < xs.length) (hb : m.testBit j = false) (hk : j ≠ k) : (xs.getD k Deed.z).from_ ≤ (xs.getD j Deed.z).to_ := by
  unfold mayB at hm
  rw [Bool.and_eq_true, List.all_eq_true] at hm
  have h := hm.2 j (List.mem_range.2 hj)
  unfold clash at h
  rw [hb] at h
  have hjk : (j != k) = true := by simp [hk]
  rw [hjk] at h
  simp only [Bool.not_false, Bool.true_and, Bool.not_eq_true', decide_eq_false_iff_not] at h
  omega
theorem mayB_of {xs : List Deed} {m k : Nat} (hb : m.testBit k = false) (h : ∀ j, j < xs.length → m.testBit j = false → j ≠ k → (xs.getD k Deed.z).from_ ≤ (xs.getD j Deed.z).to_) : mayB xs m k = true := by
  refine mayB_yes hb (fun j hj => ?_)
  unfold clash
  cases hbj : m.testBit j with
  | true => rfl
  | false =>
    by_cases hk : j = k
    · subst hk; simp
    · have := h j hj hbj hk
      rw [decide_eq_false (by omega)]
      simp
theorem path_fresh {xs : List Deed} {m : Nat} {v : Val} {p : List Nat} (h : Path xs m v p) : ∀ j ∈ p, m.testBit j = false := by
  induction h with
  | done _ => intro j hj; cases hj
  | @step m v k p h1 h2 h3 h4 h5 ih =>
    intro j hj
    rcases List.mem_cons.1 hj with rfl | hj
    · exact mayB_bit h3
    · have := ih j hj
      rw [Nat.testBit_or, Bool.or_eq_false_iff] at this
      exact this.1
theorem nums_get {p : List Nat} {i : Nat} {k : Nat} (h : p[i]? = some k) : (nums p)[i]? = some (k : Int) := by
  unfold nums
  rw [List.getElem?_map, h]
  rfl
theorem nums_get' {p : List Nat} {i : Nat} {k : Nat} (h : (nums p)[i]? = some (k : Int)) : p[i]? = some k := by
  unfold nums at h
  rw [List.getElem?_map] at h
  obtain ⟨a, ha, he⟩ := Option.map_eq_some_iff.1 h
  obtain rfl : a = k := by omega
  exact ha
theorem nums_mem {p : List Nat} {k : Nat} : (k : Int) ∈ nums p ↔ k ∈ p := by
  unfold nums
  rw [List.mem_map]
  exact ⟨fun ⟨a, ha, he⟩ => by obtain rfl : a = k := by omega
                               exact ha, fun h => ⟨k, h, rfl⟩⟩
theorem path_good {xs : List Deed} {m : Nat} {v : Val} {p : List Nat} (h : Path xs m v p) : ∀ q, m = mask q → LinH.Good xs (nums (q ++ p)) q.length v → (∀ x ∈ q, ∀ j, j < xs.length → j ∉ q → (xs.getD x Deed.z).from_ ≤ (xs.getD j Deed.z).to_) →
    (∃ u, LinH.Good xs (nums (q ++ p)) (q ++ p).length u) ∧ leftB xs (mask (q ++ p)) = false ∧ ∀ x ∈ q ++ p, ∀ j, j < xs.length → j ∉ q ++ p → (xs.getD x Deed.z).from_ ≤ (xs.getD j Deed.z).to_ := by
  induction h with
  | @done m v h =>
    intro q hm hg hq
    rw [List.append_nil] at hg ⊢
    subst hm
    exact ⟨⟨v, hg⟩, h, hq⟩
  | @step m v k p h1 h2 h3 h4 h5 ih =>
    intro q hm hg hq
    have hk := mayB_bit h3
    have hkq : k ∉ q := fun hin => by
      have := (mask_bit q k).2 hin
      rw [hm] at hk
      rw [hk] at this
      cases this
    have e : q ++ k :: p = (q ++ [k]) ++ p := by simp
    rw [e] at hg ⊢
    refine ih (q ++ [k]) (by rw [mask_snoc, hm]) ?_ ?_
    · have hget : (nums (q ++ [k] ++ p))[q.length]? = some (k : Int) := nums_get (by simp)
      have hs := hg.step hget h2 (fun hin => ?_) h4 (fun b hb j hj hjl => ?_)
      · simpa using hs
      · have e2 : (nums (q ++ [k] ++ p)).take q.length = nums q := by
          unfold nums
          rw [← List.map_take]
          simp
        rw [e2] at hin
        exact hkq (nums_mem.1 hin)
      · have hj' := nums_get' hj
        rw [List.append_assoc, List.getElem?_append_right (by omega), List.singleton_append] at hj'
        obtain ⟨b', hb'⟩ : ∃ b', b - q.length = b' + 1 := ⟨b - q.length - 1, by omega⟩
        rw [hb', List.getElem?_cons_succ] at hj'
        have hf := path_fresh h5 j (List.mem_of_getElem? hj')
        rw [Nat.testBit_or, Bool.or_eq_false_iff, Nat.testBit_two_pow] at hf
        exact clash_no h3 hjl hf.1 (fun e => by rw [e] at hf; simp at hf)
    · intro x hx j hj hjq
      rw [List.mem_append, List.mem_singleton, not_or] at hjq
      rcases List.mem_append.1 hx with hx | hx
      · exact hq x hx j hj hjq.1
      · rw [List.mem_singleton] at hx
        subst hx
        exact clash_no h3 hj (by rw [hm]; exact mask_no hjq.1) hjq.2
/-- What the search tells holds. -/
theorem ord_holds {xs : List Deed} {p : List Nat} {c : Int} (h : Ord xs p c) (hc : c = 0) : HoldsP xs (nums p) := by
  rcases h with ⟨_, h, _⟩ | ⟨_, _, h, _⟩ | ⟨_, _, h, _⟩ | ⟨_, hk, _, hp⟩
  · omega
  · omega
  · omega
  · obtain ⟨⟨u, hg⟩, hl, ho⟩ := path_good hp [] rfl (LinH.Good.start xs _) (fun x hx => by cases hx)
    simp only [List.nil_append] at hg hl ho
    refine ⟨hk, ⟨u, by simpa [nums] using hg⟩, fun k hkl hn => ?_⟩
    have hkp : k ∉ p := fun h => hn (nums_mem.2 h)
    refine ⟨?_, fun x hx => ?_⟩
    · unfold leftB at hl
      have := List.any_eq_false.1 hl k (List.mem_range.2 hkl)
      rw [mask_no hkp] at this
      simpa using this
    · unfold nums at hx
      obtain ⟨a, ha, rfl⟩ := List.mem_map.1 hx
      exact ho a ha k hkl hkp
theorem holds_path {xs : List Deed} {order : List Int} (h : HoldsP xs order) : ∀ (d i : Nat) (v : Val), i + d = order.length → valsOk xs ((order.take i).map Int.toNat) Val.z = some v → ∃ p, Path xs (mask ((order.take i).map Int.toNat)) v p := by
  obtain ⟨_, ⟨u, hg⟩, hl⟩ := h
  have hmem : ∀ (i j : Nat), j ∈ (order.take i).map Int.toNat ↔ (j : Int) ∈ order.take i := fun i j => by
    rw [List.mem_map]
    refine ⟨fun ⟨a, ha, e⟩ => ?_, fun hj => ⟨j, hj, by simp⟩⟩
    obtain ⟨n, hn, rfl⟩ := List.mem_take_iff_getElem.1 ha
    obtain ⟨k, hk, _⟩ := hg.rng n (by omega)
    rw [List.getElem?_eq_getElem (by omega)] at hk
    injection hk with hk
    rw [hk] at ha e
    simp at e
    subst e
    exact ha
  intro d
  induction d with
  | zero =>
    intro i v hi hv
    refine ⟨[], Path.done ?_⟩
    unfold leftB
    refine List.any_eq_false.2 (fun k hk => ?_)
    rw [List.mem_range] at hk
    by_cases hin : (k : Int) ∈ order
    · have : (mask ((order.take i).map Int.toNat)).testBit k = true := (mask_bit _ _).2 ((hmem i k).2 (by rw [show i = order.length by omega, List.take_length]; exact hin))
      rw [this]; simp
    · rw [(hl k hk hin).1]; simp
  | succ d ih =>
    intro i v hi hv
    obtain ⟨k, hk, hkl⟩ := hg.rng i (by omega)
    have hfull := hg.val
    rw [List.take_length, ← List.take_append_drop (i + 1) order, List.map_append] at hfull
    obtain ⟨w, hw⟩ := valsOk_head _ _ _ _ _ hfull
    have hw2 := hw
    rw [take_toNat hk, valsOk_snoc, hv, Option.bind_some] at hw2
    have hn : (nxt (xs.getD k Deed.z) v).2 = true := by
      split at hw2
      · assumption
      · cases hw2
    rw [if_pos hn] at hw2
    injection hw2 with hw2
    obtain ⟨p, hp⟩ := ih (i + 1) w (by omega) hw
    by_cases hleft : leftB xs (mask ((order.take i).map Int.toNat)) = true
    · refine ⟨k :: p, Path.step hleft hkl (mayB_of (mask_no (fun hin => ?_)) (fun j hj hb hjk => ?_)) hn ?_⟩
      · obtain ⟨a, ha, he⟩ := List.mem_take_iff_getElem.1 ((hmem i k).1 hin)
        refine hg.inj a i (by omega) (by omega) ?_
        rw [hk, List.getElem?_eq_getElem (by omega), he]
      · have hjn : (j : Int) ∉ order.take i := fun hin => by
          have := (mask_bit _ _).2 ((hmem i j).2 hin)
          rw [hb] at this
          cases this
        by_cases hin : (j : Int) ∈ order
        · obtain ⟨b, hb1, hb2⟩ := List.getElem_of_mem hin
          have hbi : i < b := by
            rcases Nat.lt_trichotomy b i with h | rfl | h
            · exact absurd (List.mem_take_iff_getElem.2 ⟨b, by omega, hb2⟩) hjn
            · rw [List.getElem?_eq_getElem hb1, hb2] at hk
              injection hk with hk
              omega
            · exact h
          exact hg.time i (by omega) b hbi k j hk (by rw [List.getElem?_eq_getElem hb1, hb2]) hj
        · have := (hl j hj hin).2 (k : Int) (List.mem_of_getElem? hk)
          simpa using this
      · rw [take_toNat hk, mask_snoc] at hp
        rw [hw2]
        exact hp
    · exact ⟨[], Path.done (by simpa using hleft)⟩
/-- Where any order holds, the search tells one. -/
theorem holds_ord {xs : List Deed} {order : List Int} {p : List Nat} {c : Int} (h : HoldsP xs order) (hl : xs.length ≤ 20) (ho : Ord xs p c) : c = 0 := by
  rcases ho with ⟨h1, _⟩ | ⟨_, h1, _⟩ | ⟨_, _, _, _, h1⟩ | ⟨_, _, h1, _⟩
  · omega
  · rw [h.1] at h1; cases h1
  · obtain ⟨q, hq⟩ := holds_path h order.length 0 Val.z (by omega) rfl
    exact absurd hq (h1 q)
  · exact h1
end LinJ
end Go.Proofs.Ytgconogjnjhmgaa
