/- Bytes copied: append([]byte(nil), b...), as a step of whatever region. -/
import Derived.Test.YtgfjkpnaabiecaaApp
namespace Go.Proofs.Ytgfjkpnaabiecaa
open Go.RowKit Go.Proofs.YtgfjkpnaabiecaaW.PrintWords
theorem info8 : (Try.prog.info? 5).map (fun i => (i.zero, i.size, i.bytes)) = some (some (.int .u8 0), 1, 1) := by kernel_rfl
/-- What A points to was made between W and w'. -/
def Fresh (W w' : World) (A : Option Addr) : Prop := ∀ ad, A = some ad → W.heap.size ≤ ad.block ∧ ad.block < w'.heap.size
theorem Fresh.own {α : Type} {R : α → List Value → Prop} {e : TypeId} {size : Nat} {W w' : World} {A : Option Addr} {n c : Nat} {xs : List α} (h : OwnRow R e size w' W.heap.size (.slice A n c) xs) : Fresh W w' A := by
  obtain ⟨inner, ho, hr⟩ := h
  have hlt := own_lt ho
  have hba := own_base ho
  rintro ad rfl
  exact ⟨hba ad.block rfl, hlt ad.block rfl⟩
theorem adr_block (a : Addr) (n : Nat) : (a.add n).block = a.block := by unfold Addr.add; split <;> rfl
theorem kU8_set {w : World} {A : Option Addr} {n g i : Nat} {xs : List UInt8} {v : Value} (h : kU8.C w A n xs) (hA : ∀ ad, A = some ad → ad.block ≠ g) : kU8.C (w.setCell ⟨g, i, none⟩ v) A n xs := by
  obtain ⟨h1, h2, h3⟩ := h
  refine ⟨h1, h2, fun hn => ?_⟩
  obtain ⟨ad, e, hc⟩ := h3 hn
  refine ⟨ad, e, fun j p hj => ?_⟩
  obtain ⟨cs, k1, k2, k3⟩ := hc j p hj
  refine ⟨cs, k1, k2, fun q u hq => ?_⟩
  rw [World.cell?_setCell_other _ _ _ _ (fun e2 => hA ad e ((adr_block ad _).symm.trans (congrArg Addr.block e2.symm)))]
  exact k3 q u hq
section
variable {ops : Array Oper} {rest : List Oper} {o : Oper} {a : Act} {Q : Exit → Act → World → Prop} {W : World} {K : Act → World → Prop} {E : Prop}
/-- In a region that draws. -/
theorem step_copy (hgd : o.guard = none) (s x : Operand) (ho : o.op = .call { callee := .builtin .append, args := #[s, x], argTypes := #[33, 33] })
    (hs : a.eval s = .slice none 0 0) {A : Option Addr} {c : Nat} {xs : List UInt8} (hx : a.eval x = .slice A xs.length c) (HR : kU8.C W A xs.length xs) (hl : xs.length ≤ 140737488355328)
    (h : ∀ A' c' w', xs.length ≤ c' → kU8.C w' A' xs.length xs → Fresh W w' A' → Below W.heap.size W w' → K (a.put o.dst (.slice A' xs.length c')) w') :
    if Region.wanted o (yielded ops a.tmps) = true then Oper.wp Try.prog o a W K Q else E := by
  refine step_append_rows (R := fun x cs => kU8.K W x cs) W.heap.size hgd s x 33 5 (.int .u8 0) 1 1 ho Try.underlying33 info8 rfl (by omega) (by omega) (.slice none 0 0) [] xs A xs.length c hs hx (OwnRow.none_ _ _ _ _ _) HR (fun x cs h => kU8.K_one h) (Nat.le_refl _) (by simp; exact hl) ?_
  intro v1 w1 ho1 hg1 _
  rw [List.nil_append] at ho1
  obtain ⟨A', c', rfl, hc, hr⟩ := OwnRow.reads ho1
  exact h A' c' w1 hc hr (Fresh.own ho1) ((Below.refl W.heap.size W).grown hg1 (Nat.le_refl _) (fun k hk => by cases hk))
/-- In a plain region. -/
theorem own_copy (hgd : o.guard = none) (s x : Operand) (ho : o.op = .call { callee := .builtin .append, args := #[s, x], argTypes := #[33, 33] })
    (hs : a.eval s = .slice none 0 0) {A : Option Addr} {c : Nat} {xs : List UInt8} (hx : a.eval x = .slice A xs.length c) (HR : kU8.C W A xs.length xs) (hl : xs.length ≤ 140737488355328)
    (h : ∀ A' c' w', xs.length ≤ c' → kU8.C w' A' xs.length xs → Fresh W w' A' → Below W.heap.size W w' → wpList Try.prog ops Q rest (a.put o.dst (.slice A' xs.length c')) w') :
    wpList Try.prog ops Q (o :: rest) a W := by
  refine own_append_rows (w0 := W) (R := fun x cs => kU8.K W x cs) W.heap.size hgd s x 33 5 (.int .u8 0) 1 1 ho Try.underlying33 info8 rfl (by omega) (by omega) (.slice none 0 0) [] xs A xs.length c hs hx (OwnRow.none_ _ _ _ _ _) HR (fun x cs h => kU8.K_one h) (Below.refl _ _) (Nat.le_refl _) (by simp; exact hl) ?_
  intro v1 w1 ho1 hb1 _ _
  rw [List.nil_append] at ho1
  obtain ⟨A', c', rfl, hc, hr⟩ := OwnRow.reads ho1
  exact h A' c' w1 hc hr (Fresh.own ho1) hb1
end
end Go.Proofs.Ytgfjkpnaabiecaa
