/- Layer lin: the search. -/
import Derived.Test.YtgconogjnjhmgaaLinD
namespace Go.Proofs.Ytgconogjnjhmgaa
open Go.RowKit Go.Proofs.YtgconogjnjhmgaaW.PrintWords
open Go.Maps (Keyed)
namespace LinE
open LinB LinC LinD
def leftB (xs : List Deed) (m : Nat) : Bool := (List.range xs.length).any fun k => (xs.getD k Deed.z).done && !m.testBit k
/-- A way on, from where those of m stand, and the key holds v. -/
inductive Path (xs : List Deed) : Nat → Val → List Nat → Prop
  | done {m : Nat} {v : Val} : leftB xs m = false → Path xs m v []
  | step {m : Nat} {v : Val} {k : Nat} {p : List Nat} : leftB xs m = true → k < xs.length → mayB xs m k = true → (nxt (xs.getD k Deed.z) v).2 = true → Path xs (m ||| 2 ^ k) (nxt (xs.getD k Deed.z) v).1 p → Path xs m v (k :: p)
def leftTo (xs : List Deed) (m k : Nat) : Bool := (List.range k).any fun k => (xs.getD k Deed.z).done && !m.testBit k
theorem leftTo_succ (xs : List Deed) (m k : Nat) : leftTo xs m (k + 1) = (leftTo xs m k || ((xs.getD k Deed.z).done && !m.testBit k)) := by
  unfold leftTo; rw [List.range_succ, List.any_append]; simp
theorem stV_inj {m m' : Nat} {v v' : Val} (h : stV m v = stV m' v') : m = m' ∧ v = v' := by
  obtain ⟨a, b⟩ := v
  obtain ⟨a', b'⟩ := v'
  simp [stV] at h
  obtain ⟨h1, rfl, rfl⟩ := h
  exact ⟨by omega, rfl⟩
def free (xs : List Deed) (m : Nat) : Nat := ((List.range xs.length).filter fun k => !m.testBit k).length
/-- What the map holds: states from which there is no way on. -/
def Dead (xs : List Deed) (E : List (Value × Value)) : Prop := ∀ x ∈ E, ∃ m v, x = (stV m v, .bool true) ∧ ∀ p, ¬ Path xs m v p
def ints (o : List Nat) : List Value := o.map fun k : Nat => Value.int .i64 (k : Int)
/-- The search, in memory: all its own lies from block B on. -/
structure SS (B : Nat) (sb mb : Nat) (A : Option Addr) (c : Nat) (xs : List Deed) (w : World) (E : List (Value × Value)) (ov : Value) (o : List Nat) : Prop where
  bs : B ≤ sb
  bm : B ≤ mb
  c0 : w.cell? ⟨sb, 0, none⟩ = some (.slice A xs.length c)
  c1 : w.cell? ⟨sb, 1, none⟩ = some (.map (some mb))
  c2 : w.cell? ⟨sb, 2, none⟩ = some ov
  fz : w.frozen? ⟨sb, 2, none⟩ = false
  mp : MapL w 93 mb E
  dead : Dead xs E
  ow : w.ownsRow B 3 1 ov o.length (ints o)
  ne : ∀ k, ov.ownBlock = some k → k ≠ sb ∧ k ≠ mb
/-- What a step of the search may change. -/
structure Touch (sb mb : Nat) (w w' : World) (ov ov' : Value) : Prop where
  os : w'.os = w.os
  tape : w'.tape = w.tape
  output : w'.output = w.output
  size : w.heap.size ≤ w'.heap.size
  block : ∀ k, k < w.heap.size → k ≠ sb → k ≠ mb → some k ≠ ov.ownBlock → w'.heap[k]? = w.heap[k]?
  own : ov'.ownBlock = ov.ownBlock ∨ ∃ b, ov'.ownBlock = some b ∧ w.heap.size ≤ b
theorem Touch.refl (sb mb : Nat) (w : World) (ov : Value) : Touch sb mb w w ov ov := ⟨rfl, rfl, rfl, Nat.le_refl _, fun _ _ _ _ _ => rfl, .inl rfl⟩
theorem Touch.trans {sb mb : Nat} {w w1 w2 : World} {ov ov1 ov2 : Value} (h : Touch sb mb w w1 ov ov1) (k : Touch sb mb w1 w2 ov1 ov2) : Touch sb mb w w2 ov ov2 := by
  refine ⟨k.os.trans h.os, k.tape.trans h.tape, k.output.trans h.output, Nat.le_trans h.size k.size, fun i hi h1 h2 h3 => ?_, ?_⟩
  · refine (k.block i (Nat.lt_of_lt_of_le hi h.size) h1 h2 ?_).trans (h.block i hi h1 h2 h3)
    rcases h.own with e | ⟨b, e, hb⟩
    · rw [e]; exact h3
    · rw [e]; intro e'; injection e' with e'; omega
  · rcases k.own with e | ⟨b, e, hb⟩
    · rw [e]; exact h.own
    · exact .inr ⟨b, e, Nat.le_trans h.size hb⟩
theorem Touch.below {sb mb : Nat} {w w1 : World} (h : Below w.heap.size w w1) (ov : Value) : Touch sb mb w w1 ov ov :=
  ⟨h.os, h.tape, h.output, h.size, fun k hk _ _ _ => h.block k hk, .inl rfl⟩
theorem SS.below {B sb mb : Nat} {A : Option Addr} {c : Nat} {xs : List Deed} {w w1 : World} {E : List (Value × Value)} {ov : Value} {o : List Nat} (h : SS B sb mb A c xs w E ov o) (hb : Below w.heap.size w w1) : SS B sb mb A c xs w1 E ov o := by
  have hs := World.block_lt_of_cell? w _ h.c0
  exact ⟨h.bs, h.bm, pw_cell_below hb h.c0, pw_cell_below hb h.c1, pw_cell_below hb h.c2, (hb.frozen (p := ⟨sb, 2, none⟩) hs).trans h.fz, h.mp.move (hb.block _ h.mp.lt), h.dead, pw_own_below h.ow hb, h.ne⟩
theorem SS.apart {B sb mb : Nat} {A : Option Addr} {c : Nat} {xs : List Deed} {w : World} {E : List (Value × Value)} {ov : Value} {o : List Nat} (h : SS B sb mb A c xs w E ov o) : sb < w.heap.size ∧ mb < w.heap.size ∧ ∀ k, ov.ownBlock = some k → B ≤ k ∧ k < w.heap.size :=
  ⟨World.block_lt_of_cell? w _ h.c0, h.mp.lt, fun k hk => ⟨own_base h.ow k hk, own_lt h.ow k hk⟩⟩
theorem Touch.belowB {B sb mb : Nat} {A : Option Addr} {c : Nat} {xs : List Deed} {w w1 : World} {E : List (Value × Value)} {ov ov1 : Value} {o : List Nat} (h : SS B sb mb A c xs w E ov o) (t : Touch sb mb w w1 ov ov1) (hB : B ≤ w.heap.size) : Below B w w1 :=
  ⟨t.os, t.tape, t.output, t.size, fun k hk => t.block k (by omega) (by have := h.bs; omega) (by have := h.bm; omega) (fun e => by have := h.apart.2.2 k e.symm; omega)⟩
theorem Touch.cell {sb mb : Nat} {w w1 : World} {ov ov1 : Value} (t : Touch sb mb w w1 ov ov1) {a : Addr} {u : Value} (hc : w.cell? a = some u) (h1 : a.block ≠ sb) (h2 : a.block ≠ mb) (h3 : some a.block ≠ ov.ownBlock) : w1.cell? a = some u :=
  (World.cell?_of_block (t.block a.block (World.block_lt_of_cell? w a hc) h1 h2 h3)).trans hc
theorem Path.not_via {xs : List Deed} {m k : Nat} {v : Val} (h : mayB xs m k = false ∨ (nxt (xs.getD k Deed.z) v).2 = false ∨ ∀ p, ¬ Path xs (m ||| 2 ^ k) (nxt (xs.getD k Deed.z) v).1 p) : ∀ p, ¬ Path xs m v (k :: p) := by
  intro p hp
  cases hp with
  | step h1 h2 h3 h4 h5 =>
    rcases h with h | h | h
    · rw [h] at h3; cases h3
    · rw [h] at h4; cases h4
    · exact h _ h5
theorem ints_length (o : List Nat) : (ints o).length = o.length := by simp [ints]
theorem ints_snoc (o : List Nat) (k : Nat) : ints (o ++ [k]) = ints o ++ [.int .i64 (k : Int)] := by simp [ints]
theorem SS.grown {B sb mb : Nat} {A : Option Addr} {c : Nat} {xs : List Deed} {w w1 : World} {E : List (Value × Value)} {ov : Value} {o : List Nat} (h : SS B sb mb A c xs w E ov o) (hg : w.grownBy w1 ov.ownBlock) :
    w1.cell? ⟨sb, 0, none⟩ = some (.slice A xs.length c) ∧ w1.cell? ⟨sb, 1, none⟩ = some (.map (some mb)) ∧ w1.cell? ⟨sb, 2, none⟩ = some ov ∧ w1.frozen? ⟨sb, 2, none⟩ = false ∧ MapL w1 93 mb E := by
  have ha := h.apart
  have e1 : w1.heap[sb]? = w.heap[sb]? := hg.block sb ha.1 (fun e => (h.ne _ e.symm).1 rfl)
  have e2 : w1.heap[mb]? = w.heap[mb]? := hg.block mb ha.2.1 (fun e => (h.ne _ e.symm).2 rfl)
  exact ⟨(World.cell?_of_block (a := ⟨sb, 0, none⟩) e1).trans h.c0, (World.cell?_of_block (a := ⟨sb, 1, none⟩) e1).trans h.c1, (World.cell?_of_block (a := ⟨sb, 2, none⟩) e1).trans h.c2, (World.frozen?_of_block (a := ⟨sb, 2, none⟩) e1).trans h.fz, h.mp.move e2⟩
theorem setCell_other {w : World} {a b : Addr} {u v : Value} (hc : w.cell? a = some v) (h : a ≠ b) : (w.setCell b u).cell? a = some v := by rw [World.cell?_setCell_other (h := Ne.symm h)]; exact hc
theorem setCell_same {w : World} {a : Addr} {u v : Value} (hc : w.cell? a = some v) : (w.setCell a u).cell? a = some u := by rw [World.cell?_setCell_same (h := hc)]
theorem SS.pushed {B sb mb : Nat} {A : Option Addr} {c : Nat} {xs : List Deed} {w w1 : World} {E : List (Value × Value)} {ov v1 : Value} {o o1 : List Nat} (h : SS B sb mb A c xs w E ov o) (hown : w1.ownsRow B 3 1 v1 o1.length (ints o1)) (hg : w.grownBy w1 ov.ownBlock)
    (hat : v1.ownBlock = ov.ownBlock ∨ ∃ b, v1.ownBlock = some b ∧ w.heap.size ≤ b) : SS B sb mb A c xs (w1.setCell ⟨sb, 2, none⟩ v1) E v1 o1 ∧ Touch sb mb w (w1.setCell ⟨sb, 2, none⟩ v1) ov v1 := by
  obtain ⟨h0, h1, h2, h3, h4⟩ := h.grown hg
  have ha := h.apart
  have hne : ∀ k, v1.ownBlock = some k → k ≠ sb ∧ k ≠ mb := fun k hk => by
    rcases hat with e | ⟨b, e, hb⟩
    · exact h.ne k (e ▸ hk)
    · rw [hk] at e; injection e with e; omega
  refine ⟨⟨h.bs, h.bm, setCell_other h0 (by simp), setCell_other h1 (by simp), setCell_same h2, (World.frozen?_setCell _ _ _ _).trans h3, h4.move (Below.heap_setCell _ _ _ _ (fun e => ?_)), h.dead, ?_, hne⟩, ?_⟩
  · simp only at e
    subst e
    obtain ⟨es, cl, hb, _⟩ := h4
    simp [World.cell?, hb] at h2
  · exact own_move hown (fun k hk => Below.heap_setCell _ _ _ _ (fun e => (hne k hk).1 e))
  · exact ⟨hg.os, hg.tape, hg.output, by simpa [World.setCell] using hg.size, fun k hk k1 _ k3 => (Below.heap_setCell _ _ _ _ k1).trans (hg.block k hk k3), hat⟩
theorem infoI : (Try.prog.info? 3).map (fun i => (i.zero, i.size, i.bytes)) = some (some (.int .i64 0), 1, 8) := by kernel_rfl
theorem or1 (m k : Nat) (hm : m < 4294967296) (hk : k < 20) : bits .or .u32 (m : Int) (IntKind.u32.wrap (2 ^ k)) = ((m ||| 2 ^ k : Nat) : Int) := by
  have h20 : 2 ^ k < 2 ^ 20 := Nat.pow_lt_pow_right (by omega) hk
  have e : IntKind.u32.wrap (2 ^ k) = ((2 ^ k : Nat) : Int) := by
    have h : ((2 : Int) ^ k) = ((2 ^ k : Nat) : Int) := by push_cast; rfl
    rw [IntKind.wrap_u32, h]
    generalize 2 ^ k = z at *
    omega
  rw [e]
  exact (bits_nat .u32 32 (by decide) (fun n h0 h1 => by rw [IntKind.wrap_u32]; omega) m (2 ^ k) hm (by omega)).2
theorem filter_le {l : List Nat} {p q : Nat → Bool} (h : ∀ j ∈ l, q j = true → p j = true) : (l.filter q).length ≤ (l.filter p).length := by
  induction l with
  | nil => exact Nat.le_refl _
  | cons a r ih =>
    have h1 := ih (fun j hj => h j (List.mem_cons_of_mem _ hj))
    have h2 := h a List.mem_cons_self
    rw [List.filter_cons, List.filter_cons]
    cases hq : q a with
    | true => rw [h2 hq, if_pos rfl, if_pos rfl, List.length_cons, List.length_cons]; omega
    | false =>
      rw [if_neg (by simp)]
      split
      · rw [List.length_cons]; omega
      · exact h1
theorem filter_lt {l : List Nat} {p q : Nat → Bool} (h : ∀ j ∈ l, q j = true → p j = true) {k : Nat} (hk : k ∈ l) (hp : p k = true) (hq : q k = false) : (l.filter q).length < (l.filter p).length := by
  induction l with
  | nil => cases hk
  | cons a r ih =>
    have h1 : (r.filter q).length ≤ (r.filter p).length := filter_le (fun j hj => h j (List.mem_cons_of_mem _ hj))
    have h2 := h a List.mem_cons_self
    rw [List.filter_cons, List.filter_cons]
    rcases List.mem_cons.1 hk with rfl | hk'
    · rw [hp, hq, if_pos rfl, if_neg (by simp), List.length_cons]; omega
    · have h3 := ih (fun j hj => h j (List.mem_cons_of_mem _ hj)) hk'
      cases hqa : q a with
      | true => rw [h2 hqa, if_pos rfl, if_pos rfl, List.length_cons, List.length_cons]; omega
      | false =>
        rw [if_neg (by simp)]
        split
        · rw [List.length_cons]; omega
        · exact h3
theorem free_lt {xs : List Deed} {m k : Nat} (hk : k < xs.length) (hb : m.testBit k = false) : free xs (m ||| 2 ^ k) < free xs m := by
  unfold free
  refine filter_lt (fun j _ hj => ?_) (List.mem_range.2 hk) (by rw [hb]; rfl) (by rw [Nat.testBit_or, Nat.testBit_two_pow_self, Bool.or_true]; rfl)
  rw [Nat.testBit_or] at hj
  cases h : m.testBit j
  · rfl
  · rw [h] at hj; simp at hj
theorem mayB_bit {xs : List Deed} {m k : Nat} (h : mayB xs m k = true) : m.testBit k = false := by
  unfold mayB at h
  simp at h
  exact h.1
theorem SS.top {B sb mb : Nat} {A : Option Addr} {c : Nat} {xs : List Deed} {w : World} {E : List (Value × Value)} {ov : Value} {o : List Nat} {k : Nat} (h : SS B sb mb A c xs w E ov (o ++ [k] ++ [])) :
    ∃ g cap, ov = .slice (some ⟨g, 0, none⟩) (o.length + 1) cap ∧ o.length + 1 ≤ cap ∧ cap ≤ 9223372036854775807 ∧ SS B sb mb A c xs (w.setCell ⟨sb, 2, none⟩ (.slice (some ⟨g, 0, none⟩) o.length cap)) E (.slice (some ⟨g, 0, none⟩) o.length cap) o ∧
      Touch sb mb w (w.setCell ⟨sb, 2, none⟩ (.slice (some ⟨g, 0, none⟩) o.length cap)) ov (.slice (some ⟨g, 0, none⟩) o.length cap) := by
  have hl : (o ++ [k] ++ []).length = o.length + 1 := by simp
  have how := h.ow
  rw [hl] at how
  obtain ⟨h1, h2⟩ := how
  rcases h2 with ⟨_, h2⟩ | ⟨g, cap, cur, rfl, hb, hh, hn, hm, hs, ht⟩
  · omega
  have hq : cap ≤ 9223372036854775807 := by simpa [maxLen] using hm
  have hown : w.ownsRow B 3 1 (.slice (some ⟨g, 0, none⟩) o.length cap) o.length (ints o) := by
    refine ⟨by simp [ints_length], .inr ⟨g, cap, cur, rfl, hb, hh, by omega, hm, hs, ?_⟩⟩
    have h3 : (cur.toList.take ((o.length + 1) * 1)).take (o.length * 1) = cur.toList.take (o.length * 1) := by rw [List.take_take]; congr 1; omega
    rw [← h3, ht]
    simp [ints]
  have hp := h.pushed (w1 := w) (v1 := .slice (some ⟨g, 0, none⟩) o.length cap) (o1 := o) hown ⟨rfl, rfl, rfl, Nat.le_refl _, fun _ _ _ => rfl⟩ (.inl rfl)
  exact ⟨g, cap, rfl, hn, hq, hp.1, hp.2⟩
theorem SS.put {B sb mb : Nat} {A : Option Addr} {c : Nat} {xs : List Deed} {w w1 : World} {E E' : List (Value × Value)} {ov : Value} {o : List Nat} (h : SS B sb mb A c xs w E ov o) (hg : w.grownBy w1 (some mb)) (hm : MapL w1 93 mb E') (hd : Dead xs E') :
    SS B sb mb A c xs w1 E' ov o ∧ Touch sb mb w w1 ov ov := by
  have ha := h.apart
  have hne : sb ≠ mb := fun e => by
    obtain ⟨es, cl, hb, _⟩ := h.mp
    have h0 := h.c0
    rw [e] at h0
    simp [World.cell?, hb] at h0
  have e1 : w1.heap[sb]? = w.heap[sb]? := hg.block sb ha.1 (fun e => hne (by injection e))
  refine ⟨⟨h.bs, h.bm, (World.cell?_of_block (a := ⟨sb, 0, none⟩) e1).trans h.c0, (World.cell?_of_block (a := ⟨sb, 1, none⟩) e1).trans h.c1, (World.cell?_of_block (a := ⟨sb, 2, none⟩) e1).trans h.c2, (World.frozen?_of_block (a := ⟨sb, 2, none⟩) e1).trans h.fz, hm, hd, ?_, h.ne⟩, ?_⟩
  · exact own_move h.ow (fun k hk => hg.block k (own_lt h.ow k hk) (fun e => (h.ne k hk).2 (by injection e)))
  · exact ⟨hg.os, hg.tape, hg.output, hg.size, fun k hk _ k2 _ => hg.block k hk (fun e => k2 (by injection e)), .inl rfl⟩
/-- What the search tells: whether there is a way on; one, if there is. -/
def Told (B sb mb : Nat) (A : Option Addr) (c : Nat) (xs : List Deed) (m : Nat) (v : Val) (w : World) (ov : Value) (o : List Nat) (e : Ending) (w' : World) : Prop :=
  ∃ (r : Bool) (E' : List (Value × Value)) (ov' : Value) (p : List Nat), e = .returned (.bool r) ∧ SS B sb mb A c xs w' E' ov' (o ++ p) ∧ Touch sb mb w w' ov ov' ∧ (r = true → Path xs m v p) ∧ (r = false → p = [] ∧ ∀ q, ¬ Path xs m v q)
def Calls31 (B sb mb : Nat) (A : Option Addr) (c : Nat) (xs : List Deed) (w0 : World) (n : Nat) : Prop :=
  ∀ (m : Nat) (v : Val) (cs : List Value) (w : World) (E : List (Value × Value)) (ov : Value) (o : List Nat), free xs m = n → m < 2 ^ xs.length → Val.k.K w0 v cs → Below B w0 w → SS B sb mb A c xs w E ov o → o.length + n ≤ 20 →
    Calls Try.prog 31 #[.pointer (some ⟨sb, 0, none⟩), .int .u32 m, .agg cs.toArray] w (Told B sb mb A c xs m v w ov o)
set_option maxRecDepth 100000 in
set_option maxHeartbeats 1000000 in
theorem from_step (B sb mb : Nat) (A : Option Addr) (c : Nat) (xs : List Deed) (w0 : World) (hB : B = w0.heap.size) (hl : xs.length ≤ 20) (hr : Deed.k.C w0 A xs.length xs) (n : Nat) (ih : ∀ i, i < n → Calls31 B sb mb A c xs w0 i) : Calls31 B sb mb A c xs w0 n := by
  intro m v cs w E ov o hn hm hv hbw hss ho
  obtain ⟨A1, c1, rfl, l1, g1⟩ := Val.open_ hv
  have hvl : v.b.length ≤ 9223372036854775807 := g1.2.1
  subst hB
  have e1 := conv_bytes (src := 26) (dst := 9) (c := c1) Try.underlying26 Try.underlying5 Try.underlying9 (Kd.C_below (Kd.C_below g1 hbw) (below_alloc (Below.refl _ _) (.cells #[.bool v.has, .slice A1 v.b.length c1] 28)))
  have HR := Aside0.mk hr
  have HI := Aside0.mk ih
  have HN := Aside0.mk hn
  have HM := Aside0.mk hm
  have HV := Aside0.mk hv
  have HW := Aside0.mk hbw
  have HS := Aside0.mk hss
  have HO := Aside0.mk ho
  have k0 := hss.c0
  have k1 := hss.c1
  clear hr ih hn hm hv hbw hss ho g1
  go_enter Try.func31, Try.ntmps31
  go_wp2_with fail
  generalize hW : (w.alloc (.cells #[.bool v.has, .slice A1 v.b.length c1] 28)).alloc (.cells #[.int .u32 m, .bool v.has, .string ⟨v.b.toArray⟩] 93) = W
  have hbW : Below w.heap.size w W := by rw [← hW]; exact below_alloc (below_alloc (Below.refl _ _) _) _
  have hz : W.heap.size = w.heap.size + 2 := by rw [← hW]; simp
  have b0 : W.cell? ⟨w.heap.size, 0, none⟩ = some (.bool v.has) := by rw [← hW]; exact cell_alloc (cell_new w _ _ _ 0 _ rfl) _
  have b1 : W.cell? ⟨w.heap.size, 1, none⟩ = some (.slice A1 v.b.length c1) := by rw [← hW]; exact cell_alloc (cell_new w _ _ _ 1 _ rfl) _
  have s0 : W.cell? ⟨w.heap.size + 1, 0, none⟩ = some (.int .u32 m) := by rw [← hW]; exact cell_new2 w _ _ _ _ 0 _ rfl
  have s1 : W.cell? ⟨w.heap.size + 1, 1, none⟩ = some (.bool v.has) := by rw [← hW]; exact cell_new2 w _ _ _ _ 1 _ rfl
  have s2 : W.cell? ⟨w.heap.size + 1, 2, none⟩ = some (.string ⟨v.b.toArray⟩) := by rw [← hW]; exact cell_new2 w _ _ _ _ 2 _ rfl
  have HBW := Aside0.mk hbW
  have HZ := Aside0.mk hz
  have HSW := Aside0.mk (HS.out.below hbW)
  clear hW e1 k0 k1
  have k0 := HSW.out.c0
  have k1 := HSW.out.c1
  have hm32 : m < 4294967296 := by
    have h1 := HM.out
    have h2 : 2 ^ xs.length ≤ 2 ^ 20 := Nat.pow_le_pow_right (by omega) hl
    omega
  have hkey : IsKey 93 (stV m v) := keyS m v hm32 hvl
  have HKEY := Aside0.mk hkey
  have hzero : ∀ w : World, (zeroValue 4).run Try.prog w = .ok (.bool false) w := fun w => by kernel_rfl
  by_cases hin : (stV m v, .bool true) ∈ E
  · have hlk : ∀ n, (Instr.lookup 69 (.map (some mb)) (.agg #[.int .u32 m, .bool v.has, .string ⟨v.b.toArray⟩]) false).run Try.prog (W.drewN n) = .ok (.bool true) (W.drewN n) := fun n => (HSW.out.mp.move (w' := W.drewN n) rfl).look_old lawS Try.underlying69 false hkey hin
    clear hbW hz
    go_quiet (fail)
    go_wp2
    go_ret
    obtain ⟨m', v', he, hd⟩ := HS.out.dead _ hin
    obtain ⟨rfl, rfl⟩ := stV_inj (Prod.mk.inj he).1
    exact ⟨false, E, ov, [], rfl, by rw [List.append_nil]; exact HSW.out.below (pw_below_drewN (Below.refl _ _) _), Touch.below (pw_below_drewN HBW.out _) _, fun h => by simp at h, fun _ => ⟨rfl, hd⟩⟩
  · have hnot : ∀ u, (stV m v, u) ∉ E := fun u hu => by
      obtain ⟨m', v', he, _⟩ := HS.out.dead _ hu
      obtain ⟨h1, rfl⟩ := Prod.mk.inj he
      exact hin hu
    have hlk : ∀ n, (Instr.lookup 69 (.map (some mb)) (.agg #[.int .u32 m, .bool v.has, .string ⟨v.b.toArray⟩]) false).run Try.prog (W.drewN n) = .ok (.bool false) (W.drewN n) := fun n => (HSW.out.mp.move (w' := W.drewN n) rfl).look_new lawS Try.underlying69 (hzero _) false hkey hnot
    have HNOT := Aside0.mk hnot
    clear hbW hz hnot hin
    go_quiet (fail)
    clear hlk hkey
    go_wp2
    go_loopw [8, 33] (fun v8 v33 wr => ∃ k : Nat, v33 = .int .i64 k ∧ v8 = .bool (leftTo xs m k) ∧ k ≤ xs.length ∧ Below W.heap.size W wr) (fun _ v33 _ => xs.length - (intOf v33).toNat)
    case atStart => exact ⟨0, rfl, rfl, Nat.zero_le _, pw_below_drewN (Below.refl _ _) _⟩
    case round =>
      obtain ⟨k, rfl, rfl, hk, hb⟩ := hrel
      have HBR := Aside0.mk hb
      have k0' := pw_cell_below hb k0
      by_cases hlt : k < xs.length
      · obtain ⟨ad, x, B1, d1, B6, d6, rfl, HE, hx0, hx1, hx2, hx3, hx4, hx5, hx6, HMM⟩ := Deed.at_ (Kd.C_below HR.out (below_step (below_step HW.out HBW.out) hb)) k hlt
        clear hb HMM
        have hxk : xs.getD k Deed.z = x := by rw [List.getD_eq_getElem?_getD, HE.out]; rfl
        have HLS := Aside0.mk (leftTo_succ xs m k)
        rw [hxk] at HLS
        clear hxk
        generalize leftTo xs m k = b at *
        cases b with
        | true =>
          go_wp2
          go_roundw
          case rel => exact ⟨k + 1, by go_num, by rw [HLS.out]; rfl, by omega, HBR.out.alloc HBR.out.size _⟩
          case measure => simp [intOf]; omega
        | false =>
          obtain ⟨xk, xb, xf, xt, xd, xv⟩ := x
          cases xd with
          | false =>
            go_wp2
            go_roundw
            case rel => exact ⟨k + 1, by go_num, by rw [HLS.out]; rfl, by omega, HBR.out.alloc HBR.out.size _⟩
            case measure => simp [intOf]; omega
          | true =>
            have e0 := is0 (k := k) hm32 rfl
            generalize m.testBit k = tb at *
            cases tb
            all_goals
              go_wp2
              go_roundw
              case rel => exact ⟨k + 1, by go_num, by rw [HLS.out]; rfl, by omega, HBR.out.alloc HBR.out.size _⟩
              case measure => simp [intOf]; omega
      · obtain rfl : k = xs.length := by omega
        have hleft : leftTo xs m xs.length = leftB xs m := rfl
        rw [hleft]
        cases hlb : leftB xs m with
        | false =>
          have HLB := Aside0.mk hlb
          clear hlb
          go_wp2
          go_ret
          exact ⟨true, E, ov, [], rfl, by rw [List.append_nil]; exact HSW.out.below hb, Touch.below (below_step HBW.out hb) _, fun _ => Path.done HLB.out, fun h => by simp at h⟩
        | true =>
          have HLB := Aside0.mk hlb
          clear hlb
          go_wp2
          clear k0'
          go_loopw [58] (fun v58 wr => ∃ (k : Nat) (Ek : List (Value × Value)) (ovk : Value), v58 = .int .i64 k ∧ k ≤ xs.length ∧ Aside0 (SS w0.heap.size sb mb A c xs wr Ek ovk o) ∧ Aside0 (Touch sb mb W wr ov ovk) ∧ Aside0 (∀ j, j < k → ∀ p, ¬ Path xs m v (j :: p))) (fun v58 _ => xs.length - (intOf v58).toNat)
          case atStart => exact ⟨0, E, ov, rfl, Nat.zero_le _, ⟨HSW.out.below hb⟩, ⟨Touch.below hb _⟩, ⟨fun j hj => absurd hj (Nat.not_lt_zero _)⟩⟩
          case round =>
            clear hb hk hlt HBR
            obtain ⟨k, Ek, ovk, rfl, hk, HSR, HTR, HNP⟩ := hrel
            have HAP := Aside0.mk HS.out.apart
            have b0r := cell_alloc (HTR.out.cell b0 (by have := HAP.out; simp only; omega) (by have := HAP.out; simp only; omega) (fun e => by have := HAP.out.2.2 _ e.symm; simp only at this; omega))
            have b1r := cell_alloc (HTR.out.cell b1 (by have := HAP.out; simp only; omega) (by have := HAP.out; simp only; omega) (fun e => by have := HAP.out.2.2 _ e.symm; simp only at this; omega))
            have k0r := HSR.out.c0
            have HBR := Aside0.mk ((below_step HW.out HBW.out).trans (HTR.out.belowB HSW.out (by have := HW.out.size; have := HBW.out.size; omega)))
            by_cases hlt : k < xs.length
            · obtain ⟨ad, x, B1, d1, B6, d6, rfl, HE, hx0, hx1, hx2, hx3, hx4, hx5, hx6, HMM⟩ := Deed.at_ HR.out k hlt
              replace hx0 := pw_cell_below HBR.out hx0
              replace hx1 := pw_cell_below HBR.out hx1
              replace hx2 := pw_cell_below HBR.out hx2
              replace hx3 := pw_cell_below HBR.out hx3
              replace hx4 := pw_cell_below HBR.out hx4
              replace hx5 := pw_cell_below HBR.out hx5
              replace hx6 := pw_cell_below HBR.out hx6
              have HXK : Aside0 (xs.getD k Deed.z = x) := ⟨by rw [List.getD_eq_getElem?_getD, HE.out]; rfl⟩
              clear hzero b0 b1 s0 s1 s2 k0 k1
              cases hnx : (nxt x v).2 with
              | false =>
                have HNX := Aside0.mk hnx
                clear hnx
                go_wp2_with (first | ((with_reducible refine (after_calls x v _ _ _ (Deed.k.K_below (below_alloc HBR.out _) HMM.out) (Val.k.K_below (below_alloc HBR.out _) HV.out)).mono ?_); rintro e w1 ⟨rs, he, hrs, hb1⟩; rw [HNX.out] at he; subst he; obtain ⟨A', c', rfl, _⟩ := Val.open_ (hrs w0 HMM.out HV.out); have HB2 := Aside0.mk (below_step (below_alloc (Below.refl _ _) _) hb1); clear hb1 hrs))
                go_roundw
                case rel => exact ⟨k + 1, Ek, ovk, by go_num, by omega, ⟨HSR.out.below (below_alloc HB2.out _)⟩, ⟨HTR.out.trans (Touch.below (below_alloc HB2.out _) _)⟩, ⟨fun j hj => by rcases Nat.lt_succ_iff_lt_or_eq.1 hj with h | rfl; exact HNP.out j h; exact Path.not_via (.inr (.inl (by rw [HXK.out]; exact HNX.out)))⟩⟩
                case measure => simp [intOf]; omega
              | true =>
                have HNX := Aside0.mk hnx
                clear hnx
                cases hmb : mayB xs m k with
                | false =>
                  have HMB := Aside0.mk hmb
                  clear hmb
                  go_wp2_with (first | ((with_reducible refine (after_calls x v _ _ _ (Deed.k.K_below (below_alloc HBR.out _) HMM.out) (Val.k.K_below (below_alloc HBR.out _) HV.out)).mono ?_); rintro e w1 ⟨rs, he, hrs, hb1⟩; rw [HNX.out] at he; subst he; obtain ⟨A', c', rfl, _⟩ := Val.open_ (hrs w0 HMM.out HV.out); have HB2 := Aside0.mk (below_step (below_alloc (Below.refl _ _) _) hb1); clear hb1 hrs) | ((with_reducible refine (may_calls sb _ c xs m k _ hm32 hlt hl (cell_alloc (pw_cell_below HB2.out k0r) _) (Kd.C_below HR.out (below_alloc (below_step HBR.out HB2.out) _))).mono ?_); rintro e w2 ⟨he, hb3⟩; rw [HMB.out] at he; subst he; have HB3 := Aside0.mk (below_step (below_alloc HB2.out _) hb3); clear hb3))
                  go_roundw
                  case rel => exact ⟨k + 1, Ek, ovk, by go_num, by omega, ⟨HSR.out.below HB3.out⟩, ⟨HTR.out.trans (Touch.below HB3.out _)⟩, ⟨fun j hj => by rcases Nat.lt_succ_iff_lt_or_eq.1 hj with h | rfl; exact HNP.out j h; exact Path.not_via (.inl HMB.out)⟩⟩
                  case measure => simp [intOf]; omega
                | true =>
                  have HMB := Aside0.mk hmb
                  clear hmb
                  go_wp2_with (first | ((with_reducible refine (after_calls x v _ _ _ (Deed.k.K_below (below_alloc HBR.out _) HMM.out) (Val.k.K_below (below_alloc HBR.out _) HV.out)).mono ?_); rintro e w1 ⟨rs, he, hrs, hb1⟩; rw [HNX.out] at he; subst he; have HRS := Aside0.mk (hrs w0 HMM.out HV.out); obtain ⟨A', c', rfl, _⟩ := Val.open_ HRS.out; have HB2 := Aside0.mk (below_step (below_alloc (Below.refl _ _) _) hb1); clear hb1 hrs) | ((with_reducible refine (may_calls sb _ c xs m k _ hm32 hlt hl (cell_alloc (pw_cell_below HB2.out k0r) _) (Kd.C_below HR.out (below_alloc (below_step HBR.out HB2.out) _))).mono ?_); rintro e w2 ⟨he, hb3⟩; rw [HMB.out] at he; subst he; have HB3 := Aside0.mk (below_step (below_alloc HB2.out _) hb3); have HS2 := Aside0.mk (HSR.out.below HB3.out); have hc2 := HS2.out.c2; have HB13 := Aside0.mk hb3; clear hb3) | (at_builtin; refine print_append (w0 := w0) w0.heap.size rfl _ _ 23 3 (.int .i64 0) 8 rfl Try.underlying23 infoI rfl (by omega) ovk (ints o) (.int .i64 k) rfl rfl rfl (by rw [ints_length]; exact HS2.out.ow) (below_step HBR.out HB3.out) (below_step HBR.out HB3.out).size (by rw [ints_length]; have := HO.out; omega) ?_; intro v1 w3 hown hB3 hg3 hat3; rw [← ints_snoc, ints_length] at hown; obtain ⟨Av, cv, rfl⟩ := own_slice hown; have HG := Aside0.mk (HS2.out.grown hg3); have hc3 := HG.out.2.2.1; have hf3 := HG.out.2.2.2.1; have HP := Aside0.mk (HS2.out.pushed (o1 := o ++ [k]) hown hg3 hat3); clear hown hB3 hg3 hat3))
                  have q0 : w2.cell? ⟨w1.heap.size, 0, none⟩ = some (.bool (nxt x v).1.has) := pw_cell_below HB13.out (cell_new w1 _ _ _ 0 _ rfl)
                  have q1 : w2.cell? ⟨w1.heap.size, 1, none⟩ = some (.slice A' (nxt x v).1.b.length c') := pw_cell_below HB13.out (cell_new w1 _ _ _ 1 _ rfl)
                  rw [List.length_append, List.length_singleton] at HP
                  generalize w3.setCell ⟨sb, 2, none⟩ (.slice Av (o.length + 1) cv) = W4 at *
                  have HAR := Aside0.mk HSR.out.apart
                  have r0 := HP.out.2.cell q0 (by have := HAR.out; have := HB2.out.size; simp only; omega) (by have := HAR.out; have := HB2.out.size; simp only; omega) (fun e => by have h1 : w1.heap.size < wr.heap.size := (HAR.out.2.2 _ e.symm).2; have := HB2.out.size; omega)
                  have r1 := HP.out.2.cell q1 (by have := HAR.out; have := HB2.out.size; simp only; omega) (by have := HAR.out; have := HB2.out.size; simp only; omega) (fun e => by have h1 : w1.heap.size < wr.heap.size := (HAR.out.2.2 _ e.symm).2; have := HB2.out.size; omega)
                  clear q0 q1
                  have hor := or1 m k hm32 (by omega)
                  have HFR := Aside0.mk (free_lt hlt (mayB_bit HMB.out))
                  have HLT : Aside0 (m ||| 2 ^ k < 2 ^ xs.length) := ⟨Nat.or_lt_two_pow HM.out (Nat.pow_lt_pow_right (by omega) hlt)⟩
                  have HB4 : Aside0 (Below w0.heap.size w0 W4.drew) := ⟨(((below_step HBR.out HB3.out).trans (HP.out.2.belowB HS2.out (by have := HBR.out.size; have := HB3.out.size; omega)))).drew⟩
                  have HLN : Aside0 ((o ++ [k]).length + free xs (m ||| 2 ^ k) ≤ 20) := ⟨by have := HO.out; have := HN.out; have := HFR.out; simp; omega⟩
                  have HIN : Aside0 (free xs (m ||| 2 ^ k) < n) := ⟨by have := HN.out; have := HFR.out; omega⟩
                  have HIK := Aside0.mk (HI.out (free xs (m ||| 2 ^ k)) HIN.out)
                  unfold Calls31 at HIK
                  go_region_with (first | ((with_reducible refine (HIK.out (m ||| 2 ^ k) (nxt x v).1 _ _ Ek _ (o ++ [k]) rfl HLT.out HRS.out HB4.out (HP.out.1.below (below_drew (Below.refl _ _))) HLN.out).mono ?_); rintro e w5 ⟨r, E5, ov5, p, rfl, hs5, ht5, hy, hn⟩; have HS5 := Aside0.mk hs5; have HT5 := Aside0.mk ht5; have HY := Aside0.mk hy; have HNO := Aside0.mk hn; clear hs5 ht5 hy hn))
                  cases r with
                  | true =>
                    go_wp2
                    go_ret
                    exact ⟨true, E5, ov5, k :: p, rfl, by rw [show o ++ k :: p = (o ++ [k]) ++ p by simp]; exact HS5.out, (Touch.below HBW.out _).trans ((((HTR.out.trans (Touch.below HB3.out _)).trans HP.out.2).trans (Touch.below (below_drew (Below.refl _ _)) _)).trans HT5.out), fun _ => Path.step HLB.out hlt HMB.out (by rw [HXK.out]; exact HNX.out) (by rw [HXK.out]; exact HY.out trivial), fun h => by simp at h⟩
                  | false =>
                    obtain ⟨rfl, hnp⟩ := HNO.out rfl
                    obtain ⟨g, cap, rfl, hc1, hc2', hs6, ht6⟩ := HS5.out.top
                    have HS6 := Aside0.mk hs6
                    have HT6 := Aside0.mk ht6
                    have HNQ := Aside0.mk hnp
                    have c25 := HS5.out.c2
                    have f25 := HS5.out.fz
                    clear hs6 ht6 hnp hc2
                    go_wp2
                    go_region
                    go_wp2
                    go_roundw
                    case rel => exact ⟨k + 1, E5, _, by go_num, by omega, ⟨HS6.out.below (below_drew (Below.refl _ _))⟩, ⟨((((HTR.out.trans (Touch.below HB3.out _)).trans HP.out.2).trans (Touch.below (below_drew (Below.refl _ _)) _)).trans HT5.out).trans (HT6.out.trans (Touch.below (below_drew (Below.refl _ _)) _))⟩, ⟨fun j hj => by rcases Nat.lt_succ_iff_lt_or_eq.1 hj with h | rfl; exact HNP.out j h; exact Path.not_via (.inr (.inr (by rw [HXK.out]; exact HNQ.out)))⟩⟩
                    case measure => simp [intOf]; omega
            · obtain rfl : k = xs.length := by omega
              have s0r := HTR.out.cell s0 (by have := HAP.out; simp only; omega) (by have := HAP.out; simp only; omega) (fun e => by have h1 : w.heap.size + 1 < w.heap.size := (HAP.out.2.2 _ e.symm).2; omega)
              have s1r := HTR.out.cell s1 (by have := HAP.out; simp only; omega) (by have := HAP.out; simp only; omega) (fun e => by have h1 : w.heap.size + 1 < w.heap.size := (HAP.out.2.2 _ e.symm).2; omega)
              have s2r := HTR.out.cell s2 (by have := HAP.out; simp only; omega) (by have := HAP.out; simp only; omega) (fun e => by have h1 : w.heap.size + 1 < w.heap.size := (HAP.out.2.2 _ e.symm).2; omega)
              have k1r := HSR.out.c1
              obtain ⟨w6, E6, hrun, hm6, hg6, hmem⟩ := (HSR.out.mp.move (w' := wr.drew) rfl).put lawS Try.underlying69 (.bool true) HKEY.out
              unfold stV at hrun
              have HM6 := Aside0.mk hm6
              have HG6 := Aside0.mk hg6
              have hno : ∀ q, ¬ Path xs m v q := by
                intro q hq
                cases hq with
                | done h => rw [HLB.out] at h; cases h
                | step h1 h2 h3 h4 h5 => exact HNP.out _ h2 _ (Path.step h1 h2 h3 h4 h5)
              have HNO := Aside0.mk hno
              have HD6 : Aside0 (Dead xs E6) := ⟨fun y hy => by
                rcases hmem y hy with rfl | h
                · exact ⟨m, v, rfl, hno⟩
                · exact HSR.out.dead y h⟩
              clear hm6 hg6 hmem hno
              go_wp2
              go_region
              go_wp2
              go_ret
              have hp := (HSR.out.below (below_drew (Below.refl _ _))).put HG6.out HM6.out HD6.out
              exact ⟨false, E6, ovk, [], rfl, by rw [List.append_nil]; exact hp.1, (Touch.below HBW.out _).trans ((HTR.out.trans (Touch.below (below_drew (Below.refl _ _)) _)).trans hp.2), fun h => by simp at h, fun _ => ⟨rfl, HNO.out⟩⟩
theorem from_calls (B sb mb : Nat) (A : Option Addr) (c : Nat) (xs : List Deed) (w0 : World) (hB : B = w0.heap.size) (hl : xs.length ≤ 20) (hr : Deed.k.C w0 A xs.length xs) (n : Nat) : Calls31 B sb mb A c xs w0 n := by
  induction n using Nat.strongRecOn with
  | _ n ih => exact from_step B sb mb A c xs w0 hB hl hr n ih
end LinE
end Go.Proofs.Ytgconogjnjhmgaa
