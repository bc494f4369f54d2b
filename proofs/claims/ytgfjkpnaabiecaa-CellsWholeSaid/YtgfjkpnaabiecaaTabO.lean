/- The statements' own example: known() answers true. -/
import Derived.Test.YtgfjkpnaabiecaaTabN
set_option linter.unusedVariables false
set_option linter.unusedSimpArgs false
namespace Go.Proofs.Ytgfjkpnaabiecaa
open Go.RowKit Go.Proofs.YtgfjkpnaabiecaaW.PrintWords
namespace Tab
open Tags
/-- A table that was made since w. -/
def KS (w : World) (p mb tb : Nat) (T : Tb) (w' : World) : Prop := TbR w' p mb tb T ∧ Below w.heap.size w w' ∧ w.heap.size ≤ p ∧ w.heap.size ≤ mb ∧ w.heap.size ≤ tb
theorem KS.below {w w1 w2 : World} {p mb tb : Nat} {T : Tb} (h : KS w p mb tb T w1) (k : Below w1.heap.size w1 w2) : KS w p mb tb T w2 := ⟨h.1.below k, Below.then_ h.2.1 k (Nat.le_refl _), h.2.2⟩
theorem KS.told {w w1 w2 : World} {p mb tb : Nat} {T T' : Tb} (h : KS w p mb tb T w1) (h1 : TbR w2 p mb tb T') (o : Only [p, mb, tb] w1 w2) : KS w p mb tb T' w2 :=
  ⟨h1, ((Only.of_below [p, mb, tb] h.2.1).trans o).below (by intro i hi; obtain ⟨g1, g2, g3⟩ := h.2.2; simp at hi; rcases hi with rfl | rfl | rfl <;> assumption) (Nat.le_refl _), h.2.2⟩
namespace Kn
theorem one64 : InR .i64 1 := InR.mk64 (by decide) (by decide)
theorem fk (w : World) (ok : Nat → Prop) (k : ByteArray) (hk : k.size ≤ 9) : Kd.FK Entry.k w ok ⟨k, ⟨1, 0, 0⟩, ⟨false, []⟩⟩ [.string k, .int .i64 1, .int .i64 0, .int .i64 0, .bool false, .slice none 0 0] :=
  fun W' _ => Entry.mk_ W' ⟨k, ⟨1, 0, 0⟩, ⟨false, []⟩⟩ (by dsimp only; omega) one64 izr izr (Nat.le_refl _) (Kd.C_nil _ _)
theorem n0 : Num T0 9 := num [] 0 0 (by omega) (by omega) (.inl rfl)
theorem n1 : Num T1 9 := num _ 0 1 (by omega) (by omega) (.inr ⟨_, rfl, by decide, by decide, by decide⟩)
theorem n2 : Num T2 9 := num _ 0 1 (by omega) (by omega) (.inr ⟨_, rfl, by decide, by decide, by decide⟩)
theorem n3 : Num T3 9 := num _ 1 2 (by omega) (by omega) (.inr ⟨_, rfl, by decide, by decide, by decide⟩)
theorem new_c (w : World) : Calls Try.prog 10 #[.agg #[.int .i64 1, .int .i64 99, .int .i64 1, .bool true]] w fun e w' => ∃ p mb tb, e = .returned (.tuple #[.pointer (some ⟨p, 0, none⟩), .int .i64 0]) ∧ KS w p mb tb T0 w' := by
  refine (new_calls R0 w).mono ?_
  intro e w' h
  unfold NewTold at h
  rw [if_pos (by decide)] at h
  obtain ⟨p, mb, tb, rfl, h1, h2, h3, h4, h5⟩ := h
  exact ⟨p, mb, tb, rfl, h1, h5, h2, h3, h4⟩
theorem st1 {w w1 : World} {p mb tb : Nat} (h : KS w p mb tb T0 w1) : Calls Try.prog 13 #[.pointer (some ⟨p, 0, none⟩), .agg #[.string ⟨#[107]⟩, .int .i64 1, .int .i64 0, .int .i64 0, .bool false, .slice none 0 0]] w1 fun e w' => e = .returned (.int .i64 0) ∧ KS w p mb tb T1 w' := by
  refine (store_calls p mb tb T0 eK none 0 9 w1 h.1 n0 (by omega) (fk _ _ kB (by decide)) (by decide)).mono ?_
  rintro e w' ⟨rfl, h1, h2⟩
  rw [s1.1] at h1
  rw [s1.2]
  exact ⟨rfl, h.told h1 h2⟩
theorem st2 {w w1 : World} {p mb tb : Nat} (h : KS w p mb tb T1 w1) : Calls Try.prog 13 #[.pointer (some ⟨p, 0, none⟩), .agg #[.string ⟨#[106]⟩, .int .i64 1, .int .i64 0, .int .i64 0, .bool false, .slice none 0 0]] w1 fun e w' => e = .returned (.int .i64 30) ∧ KS w p mb tb T1 w' := by
  refine (store_calls p mb tb T1 eJ none 0 9 w1 h.1 n1 (by omega) (fk _ _ jB (by decide)) (by decide)).mono ?_
  rintro e w' ⟨rfl, h1, h2⟩
  rw [s2.1] at h1
  rw [s2.2]
  exact ⟨rfl, h.told h1 h2⟩
theorem st3 {w w1 : World} {p mb tb : Nat} (h : KS w p mb tb T2 w1) : Calls Try.prog 13 #[.pointer (some ⟨p, 0, none⟩), .agg #[.string ⟨#[106]⟩, .int .i64 1, .int .i64 0, .int .i64 0, .bool false, .slice none 0 0]] w1 fun e w' => e = .returned (.int .i64 0) ∧ KS w p mb tb T3 w' := by
  refine (store_calls p mb tb T2 eJ none 0 9 w1 h.1 n2 (by omega) (fk _ _ jB (by decide)) (by decide)).mono ?_
  rintro e w' ⟨rfl, h1, h2⟩
  rw [s3.1] at h1
  rw [s3.2]
  exact ⟨rfl, h.told h1 h2⟩
theorem cl1 {w w1 : World} {p mb tb : Nat} (h : KS w p mb tb T1 w1) : Calls Try.prog 18 #[.pointer (some ⟨p, 0, none⟩), .string ⟨#[107]⟩, .agg #[.int .i64 1, .int .i64 0, .int .i64 0]] w1 fun e w' => e = .returned (.bool true) ∧ KS w p mb tb T2 w' := by
  refine (clean_calls p mb tb T1 kB 1 0 0 w1 h.1 (by decide)).mono ?_
  rintro e w' ⟨rfl, h1, h2⟩
  rw [c1.1] at h1
  rw [c1.2]
  exact ⟨rfl, h.told h1 h2⟩
theorem qu1 {w w1 : World} {p mb tb : Nat} (h : KS w p mb tb T3 w1) : Calls Try.prog 21 #[.pointer (some ⟨p, 0, none⟩), .string ⟨#[107]⟩] w1 fun e w' => ∃ A c, e = .returned (.tuple #[.agg #[.string ⟨#[107]⟩, .int .i64 0, .int .i64 0, .int .i64 0, .bool false, .slice A 0 c, .bool false, .int .i64 1], .int .i64 0]) ∧ Below w.heap.size w w' := by
  refine (query_calls p mb tb T3 kB 9 w1 h.1 n3 (by omega) (by decide)).mono ?_
  rintro e w' ⟨cs, rfl, h1, h2, h3⟩
  rw [q1.1] at h1
  rw [q1.2]
  obtain ⟨A, c, he, _⟩ := Reply.open_ h1.now
  refine ⟨A, c, ?_, (h.told h2 h3).2.1⟩
  have : cs = cs.toList.toArray := by simp
  rw [this, he]
  rfl
end Kn
theorem store_nil2 (w : World) : Calls Try.prog 13 #[.pointer none, .agg #[.string ⟨#[]⟩, .int .i64 0, .int .i64 0, .int .i64 0, .bool false, .slice none 0 0]] w fun e w' => e = .returned (.int .i64 1) ∧ Below w.heap.size w w' := store_nil w
set_option maxRecDepth 100000 in
set_option maxHeartbeats 1000000 in
theorem known_true (w : World) : Calls Try.prog 12 #[] w fun e w' => e = .returned (.bool true) ∧ Below w.heap.size w w' := by
  go_enter Try.func12, Try.ntmps12
  go_wp2_with (first
    | ((with_reducible refine (Kn.new_c _).mono ?_); rintro e w1 ⟨p, mb, tb, rfl, h⟩; have HK := Aside0.mk h; clear h)
    | ((with_reducible refine (ent_calls _ _ _).mono ?_); rintro e w1 ⟨rfl, h⟩; have HK := Aside0.mk (KS.below HK.out h); clear h)
    | ((with_reducible refine (Kn.st1 HK.out).mono ?_); rintro e w1 ⟨rfl, h⟩; have HK := Aside0.mk h; clear h)
    | ((with_reducible refine (Kn.st2 HK.out).mono ?_); rintro e w1 ⟨rfl, h⟩; have HK := Aside0.mk h; clear h)
    | ((with_reducible refine (Kn.st3 HK.out).mono ?_); rintro e w1 ⟨rfl, h⟩; have HK := Aside0.mk h; clear h)
    | ((with_reducible refine (Kn.cl1 HK.out).mono ?_); rintro e w1 ⟨rfl, h⟩; have HK := Aside0.mk h; clear h)
    | ((with_reducible refine (Kn.qu1 HK.out).mono ?_); rintro e w1 ⟨A, c, rfl, h⟩; have HQ := Aside0.mk h; clear h)
    | ((with_reducible refine (store_nil2 _).mono ?_); rintro e w1 ⟨rfl, h⟩; have HE := Aside0.mk h; clear h))
  go_ret
  exact ⟨rfl, Below.then_ (below_alloc HQ.out _) HE.out (Nat.le_refl _)⟩
end Tab
end Go.Proofs.Ytgfjkpnaabiecaa
