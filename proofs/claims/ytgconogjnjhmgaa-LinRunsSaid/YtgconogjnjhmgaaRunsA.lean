/- LinRuns: words for its walk: rows of notes, side by side. -/
import Derived.Test.YtgconogjnjhmgaaRunsP
import Derived.Test.YtgconogjnjhmgaaSameB
namespace Go.Proofs.Ytgconogjnjhmgaa
open Go.RowKit Go.Proofs.YtgconogjnjhmgaaW.PrintWords
namespace RunsA
open LinA LinB LinC LinD LinE LinF LinG LinH RightA DeedA DeedsB KeysA LinearA CallsP CallsW RunsP SameA SameB
theorem blk_grown {W W1 : World} {b : Nat} {cs : List Value} {row : Option Nat} (h : Blk W b cs) (hg : W.grownBy W1 row) (hne : some b ≠ row) : Blk W1 b cs := by
  have e := hg.block b h.1 hne
  refine ⟨?_, fun i v hi => ⟨?_, ?_⟩⟩
  · exact heap_lt e h.1
  · rw [World.cell?_of_block (w := W) e]; exact (h.2 i v hi).1
  · rw [World.frozen?_of_block (w := W) e]; exact (h.2 i v hi).2
def Ne2 (v u : Value) : Prop := ∀ b, v.ownBlock = some b → u.ownBlock ≠ some b
theorem Ne2.symm {v u : Value} (h : Ne2 v u) : Ne2 u v := fun b hb he => h b he hb
theorem Ne2.other {v u : Value} (h : Ne2 v u) : v.ownBlock = none ∨ v.ownBlock ≠ u.ownBlock := by
  cases hv : v.ownBlock with
  | none => exact .inl rfl
  | some b => exact .inr fun e => h b hv e.symm
theorem Ne2.nil (u : Value) : Ne2 (.slice none 0 0) u := fun b hb => by simp [Value.ownBlock] at hb
theorem Ne2.after {v v1 u : Value} {W : World} (h : Ne2 v u) (hu : ∀ b, u.ownBlock = some b → b < W.heap.size) (hat : v1.ownBlock = v.ownBlock ∨ ∃ b, v1.ownBlock = some b ∧ W.heap.size ≤ b) : Ne2 v1 u := by
  rcases hat with hat | ⟨b, hat, hlt⟩
  · intro c hc
    rw [hat] at hc
    exact h c hc
  · intro c hc he
    rw [hat] at hc
    injection hc with hc
    subst hc
    have := hu _ he
    omega
abbrev Row (w W : World) (base : Nat) (v : Value) (l : List Note) : Prop := OwnRow (RN w) 59 9 W base v l
theorem Row.lt {w W : World} {base : Nat} {v : Value} {l : List Note} (h : Row w W base v l) : ∀ b, v.ownBlock = some b → b < W.heap.size := by
  obtain ⟨inner, ho, _⟩ := h
  exact own_lt ho
theorem Row.set {w W : World} {base g j : Nat} {v u : Value} {l : List Note} (h : Row w W base v l) (hg : g < base) : Row w (W.setCell ⟨g, j, none⟩ u) base v l := by
  obtain ⟨inner, ho, hr⟩ := h
  refine ⟨inner, own_setCell ho (fun e => ?_) u, hr⟩
  have := own_base ho g (by first | exact e.symm | exact e)
  omega
theorem noteSame_refl (x : Note) : noteSame x x = true := by
  unfold noteSame
  simp [same_refl]
theorem allSame_refl (l : List Note) : allSame noteSame l l = true := by
  induction l with
  | nil => rfl
  | cons x l ih => show (noteSame x x && allSame noteSame l l) = true; rw [noteSame_refl, ih]; rfl
/-- A note of a row that is read. -/
theorem row_at {w W : World} {base : Nat} {A : Option Addr} {n c : Nat} {l : List Note} (h : Row w W base (.slice A n c) l) (hb : Below w.heap.size w W) (k : Nat) (h1 : k < l.length) {x : Note} (hx : l.getD k Note.z = x) :
    ∃ ad A4 c4 A8 c8, A = some ad ∧ W.cell? (ad.add (k * 9)) = some (.bool x.isAnswer) ∧ W.cell? ⟨(ad.add (k * 9)).block, (ad.add (k * 9)).off + 1, none⟩ = some (.int .i64 x.call.id_) ∧ W.cell? ⟨(ad.add (k * 9)).block, (ad.add (k * 9)).off + 2, none⟩ = some (.int .i64 x.call.kind) ∧ W.cell? ⟨(ad.add (k * 9)).block, (ad.add (k * 9)).off + 3, none⟩ = some (.string x.call.key) ∧ W.cell? ⟨(ad.add (k * 9)).block, (ad.add (k * 9)).off + 4, none⟩ = some (.slice A4 x.call.b.length c4) ∧ W.cell? ⟨(ad.add (k * 9)).block, (ad.add (k * 9)).off + 5, none⟩ = some (.int .i64 x.answer.id_) ∧ W.cell? ⟨(ad.add (k * 9)).block, (ad.add (k * 9)).off + 6, none⟩ = some (.int .i64 x.answer.e) ∧ W.cell? ⟨(ad.add (k * 9)).block, (ad.add (k * 9)).off + 7, none⟩ = some (.bool x.answer.val.has) ∧ W.cell? ⟨(ad.add (k * 9)).block, (ad.add (k * 9)).off + 8, none⟩ = some (.slice A8 x.answer.val.b.length c8) ∧
      Aside0 (RN w x [.bool x.isAnswer, .int .i64 x.call.id_, .int .i64 x.call.kind, .string x.call.key, .slice A4 x.call.b.length c4, .int .i64 x.answer.id_, .int .i64 x.answer.e, .bool x.answer.val.has, .slice A8 x.answer.val.b.length c8]) := by
  obtain ⟨A', c', he, hl, hR⟩ := OwnRow.reads h
  injection he with e1 e2 e3
  subst e1
  obtain ⟨ad, e, hc⟩ := hR.2.2 (by omega)
  obtain ⟨cs, s1, s2, s3⟩ := hc k x (by rw [← hx, List.getD_eq_getElem?_getD, List.getElem?_eq_getElem h1]; rfl)
  have s4 := s2
  obtain ⟨A4, c4, A8, c8, hcs, _⟩ := Note.open_ (s2.2.2 W hb)
  subst hcs
  have g : ∀ i u, ([.bool x.isAnswer, .int .i64 x.call.id_, .int .i64 x.call.kind, .string x.call.key, .slice A4 x.call.b.length c4, .int .i64 x.answer.id_, .int .i64 x.answer.e, .bool x.answer.val.has, .slice A8 x.answer.val.b.length c8] : List Value)[i]? = some u → W.cell? (ad.add (k * 9 + i)) = some u := s3
  exact ⟨ad, A4, c4, A8, c8, e, g 0 _ rfl, by rw [← add_field _ _ 1 (by omega)]; exact g 1 _ rfl, by rw [← add_field _ _ 2 (by omega)]; exact g 2 _ rfl, by rw [← add_field _ _ 3 (by omega)]; exact g 3 _ rfl, by rw [← add_field _ _ 4 (by omega)]; exact g 4 _ rfl, by rw [← add_field _ _ 5 (by omega)]; exact g 5 _ rfl, by rw [← add_field _ _ 6 (by omega)]; exact g 6 _ rfl, by rw [← add_field _ _ 7 (by omega)]; exact g 7 _ rfl, by rw [← add_field _ _ 8 (by omega)]; exact g 8 _ rfl, ⟨s4⟩⟩
end RunsA
end Go.Proofs.Ytgconogjnjhmgaa
