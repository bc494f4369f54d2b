/- CellsWhole: what the loop holds (its table, best, kept). -/
import Derived.Test.YtgfjkpnaabiecaaTabR
set_option linter.unusedVariables false
set_option linter.unusedSimpArgs false
namespace Go.Proofs.Ytgfjkpnaabiecaa
open Go.RowKit Go.Proofs.YtgfjkpnaabiecaaW.PrintWords
namespace Tab
open Tags
abbrev tcs (t : Tag) : List Value := [.int .i64 t.seq, .int .i64 t.who, .int .i64 t.op]
abbrev ecs (e : Entry) (A : Option Addr) (c : Nat) : List Value := [.string e.key, .int .i64 e.tag.seq, .int .i64 e.tag.who, .int .i64 e.tag.op, .bool e.val.has, .slice A e.val.b.length c]
/-- The loop's things since w: the table, best's box bB, kept's box kB. -/
structure WS (w : World) (p mb tb bB kB : Nat) (T : Tb) (best : Tag) (kept : Entry) (A : Option Addr) (c : Nat) (wr : World) : Prop where
  t : TbR wr p mb tb T
  b : Blk wr bB (tcs best)
  bt : Ty wr 32 bB
  k : Blk wr kB (ecs kept A c)
  kt : Ty wr 37 kB
  f : Kd.FK Entry.k wr (fun i => i ∉ [p, mb, tb, bB, kB]) kept (ecs kept A c)
  bl : Below w.heap.size w wr
  g : w.heap.size ≤ p ∧ w.heap.size ≤ mb ∧ w.heap.size ≤ tb ∧ w.heap.size ≤ bB ∧ w.heap.size ≤ kB
namespace WS
variable {w wr w1 : World} {p mb tb bB kB : Nat} {T T' : Tb} {best : Tag} {kept : Entry} {A : Option Addr} {c : Nat}
theorem ne (h : WS w p mb tb bB kB T best kept A c wr) : bB ∉ [p, mb, tb] ∧ kB ∉ [p, mb, tb] ∧ bB ≠ kB := by
  have n1 := h.t.pty
  have n2 := h.t.tty
  have n3 := h.t.map.noTy
  refine ⟨fun hm => ?_, fun hm => ?_, fun e => ?_⟩
  · simp at hm
    rcases hm with rfl | rfl | rfl
    · exact (h.bt.ne (t' := 83) (by decide)) n1
    · exact n3 _ h.bt
    · exact (h.bt.ne (t' := 3) (by decide)) n2
  · simp at hm
    rcases hm with rfl | rfl | rfl
    · exact (h.kt.ne (t' := 83) (by decide)) n1
    · exact n3 _ h.kt
    · exact (h.kt.ne (t' := 3) (by decide)) n2
  · subst e
    exact (h.bt.ne (t' := 37) (by decide)) h.kt
theorem below (h : WS w p mb tb bB kB T best kept A c wr) (k : Below wr.heap.size wr w1) : WS w p mb tb bB kB T best kept A c w1 :=
  ⟨h.t.below k, h.b.on k, h.bt.below k, h.k.on k, h.kt.below k, Foot.step h.f (fun i _ hlt => k.block i hlt), Below.then_ h.bl k (Nat.le_refl _), h.g⟩
/-- Behind a call on the table. -/
theorem told (h : WS w p mb tb bB kB T best kept A c wr) (ht : TbR w1 p mb tb T') (o : Only [p, mb, tb] wr w1) : WS w p mb tb bB kB T' best kept A c w1 := by
  obtain ⟨n1, n2, n3⟩ := h.ne
  refine ⟨ht, h.b.only o n1, h.bt.only o n1, h.k.only o n2, h.kt.only o n2, Foot.only h.f o (fun i hi hm => hi (by simp at hm ⊢; omega)), ?_, h.g⟩
  exact ((Only.of_below [p, mb, tb] h.bl).trans o).below (by intro i hi; obtain ⟨g1, g2, g3, _⟩ := h.g; simp at hi; rcases hi with rfl | rfl | rfl <;> assumption) (Nat.le_refl _)
/-- best's box is written. -/
theorem setB (h : WS w p mb tb bB kB T best kept A c wr) {best' : Tag} (o : Only [bB] wr w1) (hb : Blk w1 bB (tcs best')) (ht : Ty w1 32 bB) : WS w p mb tb bB kB T best' kept A c w1 := by
  obtain ⟨n1, n2, n3⟩ := h.ne
  simp only [List.mem_cons, List.not_mem_nil, or_false, not_or] at n1 n2
  refine ⟨h.t.only o (by simp; omega) (by simp; omega) (by simp; omega) (fun i hi => by simp at hi; subst hi; exact h.bt.ne (by decide)), hb, ht, h.k.only o (by simp; omega), h.kt.only o (by simp; omega), Foot.only h.f o (fun i hi hm => hi (by simp at hm ⊢; omega)), ?_, h.g⟩
  exact ((Only.of_below [bB] h.bl).trans o).below (by intro i hi; have := h.g; simp at hi; omega) (Nat.le_refl _)
/-- kept's box is written. -/
theorem setK (h : WS w p mb tb bB kB T best kept A c wr) {kept' : Entry} {A' : Option Addr} {c' : Nat} (o : Only [kB] wr w1) (hk : Blk w1 kB (ecs kept' A' c')) (ht : Ty w1 37 kB)
    (hf : Kd.FK Entry.k wr (fun i => i ∉ [p, mb, tb, bB, kB]) kept' (ecs kept' A' c')) : WS w p mb tb bB kB T best kept' A' c' w1 := by
  obtain ⟨n1, n2, n3⟩ := h.ne
  simp only [List.mem_cons, List.not_mem_nil, or_false, not_or] at n1 n2
  refine ⟨h.t.only o (by simp; omega) (by simp; omega) (by simp; omega) (fun i hi => by simp at hi; subst hi; exact h.kt.ne (by decide)), h.b.only o (by simp; omega), h.bt.only o (by simp; omega), hk, ht, Foot.only hf o (fun i hi hm => hi (by simp at hm ⊢; omega)), ?_, h.g⟩
  exact ((Only.of_below [kB] h.bl).trans o).below (by intro i hi; have := h.g; simp at hi; omega) (Nat.le_refl _)
/-- kept may be filled in. -/
theorem fillF (h : WS w p mb tb bB kB T best kept A c wr) : Kd.FK Entry.k wr (fun i => i ∉ [p, mb, tb]) kept (ecs kept A c) :=
  Foot.mono h.f (fun i hi hm => hi (by simp at hm ⊢; omega))
end WS
/-- An entry that lies in elder blocks. -/
theorem ent_old {w : World} {e : Entry} {A : Option Addr} {c : Nat} (h : Entry.k.K w e (ecs e A c)) : Kd.FK Entry.k w (fun i => i < w.heap.size) e (ecs e A c) := by
  obtain ⟨A5, c5, he, s0, r1, r2, r3, l5, g5⟩ := Entry.open_ h
  simp only [ecs, List.cons.injEq, Value.slice.injEq, true_and, and_true] at he
  obtain ⟨rfl, rfl⟩ := he
  exact Foot.imp (kU8_old g5) (fun W' g' => Entry.mk_ W' e s0 r1 r2 r3 l5 g')
theorem do_ent {w : World} {x : Do} {A : Option Addr} {c : Nat} (h : Do.k.K w x ([.int .i64 x.kind] ++ ecs x.e A c ++ [.int .i64 x.token])) : Entry.k.K w x.e (ecs x.e A c) := by
  obtain ⟨A6, c6, he, r0, s1, r2, r3, r4, l6, g6, r7⟩ := Do.open_ h
  simp only [ecs, List.cons_append, List.nil_append, List.cons.injEq, Value.slice.injEq, true_and, and_true] at he
  obtain ⟨rfl, rfl⟩ := he
  exact Entry.mk_ w x.e s1 r2 r3 r4 l6 g6
/-- An elder entry may be stored. -/
theorem WS.storeF {w wr : World} {p mb tb bB kB : Nat} {T : Tb} {best : Tag} {kept : Entry} {A A' : Option Addr} {c c' : Nat} {e : Entry} (h : WS w p mb tb bB kB T best kept A c wr) (he : Entry.k.K w e (ecs e A' c')) :
    Kd.FK Entry.k wr (fun i => i ∉ [p, mb, tb]) e (ecs e A' c') := by
  obtain ⟨g1, g2, g3, _⟩ := h.g
  refine Foot.mono (Foot.step (ent_old he) (fun i _ hlt => h.bl.block i hlt)) (fun i hi hm => ?_)
  simp at hm
  omega
end Tab
end Go.Proofs.Ytgfjkpnaabiecaa
