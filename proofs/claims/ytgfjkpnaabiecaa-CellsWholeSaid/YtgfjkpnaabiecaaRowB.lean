/- Rows whose elements' things lie elsewhere than in the row, and from some block on (any kind). -/
import Derived.Test.YtgfjkpnaabiecaaFrame
import Derived.Test.YtgfjkpnaabiecaaApp
set_option linter.unusedVariables false
set_option linter.unusedSimpArgs false
namespace Go.Proofs.Ytgfjkpnaabiecaa
open Go.RowKit Go.Proofs.YtgfjkpnaabiecaaW.PrintWords
/-- An element whose things lie elsewhere than in this row, from block B on. -/
def RFB {α : Type} (d : Kd α) (B : Nat) (W : World) (row : Option Nat) (x : α) (cs : List Value) : Prop := Kd.FK d W (fun k => some k ≠ row ∧ B ≤ k) x cs
namespace RFB
variable {α : Type} {d : Kd α} {B : Nat} {W W1 : World} {row : Option Nat} {v v1 : Value} {x : α} {cs : List Value} {ds : List α} {t : TypeId} {base size g : Nat}
theorem one (h : RFB d B W row x cs) : ∀ u ∈ cs, u.oneCell' = true := d.K_one (Kd.FK_now h)
theorem below (h : RFB d B W row x cs) (hb : Below W.heap.size W W1) : RFB d B W1 row x cs := Foot.step h (fun k _ hlt => hb.block k hlt)
theorem grown (h : RFB d B W v.ownBlock x cs) (hg : W.grownBy W1 v.ownBlock) (hat : v1.ownBlock = v.ownBlock ∨ ∃ b, v1.ownBlock = some b ∧ W.heap.size ≤ b) : RFB d B W1 v1.ownBlock x cs := by
  refine Foot.mono ((Foot.bound h).step (fun k hk hlt => hg.block k hlt hk.1.1)) (fun k hk => ⟨?_, hk.1.2⟩)
  rcases hat with hat | ⟨b, hat, hlt⟩
  · rw [hat]; exact hk.1.1
  · rw [hat]
    intro e
    injection e with e
    have := hk.2
    omega
theorem row_ (h : OwnRow (RFB d B W v.ownBlock) t size W base v ds) (hb : Below W.heap.size W W1) : OwnRow (RFB d B W1 v.ownBlock) t size W1 base v ds :=
  (h.imp_ (fun _ _ h => h.below hb)).below hb
theorem only_ {S : List Nat} (h : OwnRow (RFB d B W v.ownBlock) t size W base v ds) (hb : Only S W W1) (hS : ∀ i ∈ S, some i ≠ v.ownBlock ∧ i < B) : OwnRow (RFB d B W1 v.ownBlock) t size W1 base v ds := by
  obtain ⟨inner, ho, hr⟩ := h
  refine ⟨inner, own_move ho (fun k hk => hb.block k (own_lt ho k hk) (fun hm => (hS k hm).1 hk.symm)), hr.imp_ (fun p c hp => Foot.step hp (fun k hk hlt => hb.block k hlt (fun hm => Nat.not_lt_of_le hk.2 (hS k hm).2)))⟩
theorem new_ {N : Nat} (h : Kd.FK d W (fun k => N ≤ k) x cs) (hN : B ≤ N) (hv : ∀ b, v.ownBlock = some b → b < N) : RFB d B W v.ownBlock x cs :=
  Foot.mono h (fun k hk => ⟨fun e => absurd (hv k e.symm) (Nat.not_lt_of_le hk), Nat.le_trans hN hk⟩)
theorem row_lt {R : α → List Value → Prop} (h : OwnRow R t size W base v ds) : ∀ b, v.ownBlock = some b → b < W.heap.size := by
  obtain ⟨inner, ho, _⟩ := h
  exact own_lt ho
theorem reads_one (h : RFB d B W row x cs) (hl : cs.length = size) (hB : Blk W g cs) : ReadsRow (RFB d B W row) size W (some ⟨g, 0, none⟩) 1 [x] := by
  refine ⟨rfl, by omega, fun _ => ⟨_, rfl, fun j p hj => ?_⟩⟩
  rcases j with _ | j
  · simp at hj
    subst hj
    exact ⟨cs, hl, h, fun i u hu => by rw [add_plain]; simpa using hB.cell i hu⟩
  · simp at hj
/-- What the row reads as lies from block B on. -/
theorem foot (h : OwnRow (RFB d B W v.ownBlock) t d.sz W B v ds) : ∃ A c, v = .slice A ds.length c ∧ ds.length ≤ c ∧ Kd.F d W (fun k => B ≤ k) A ds.length ds := by
  obtain ⟨A, c, rfl, hc⟩ := h.slice_
  refine ⟨A, c, rfl, hc, fun W' hW => ?_⟩
  obtain ⟨inner, ho, hr⟩ := h
  have h' : OwnRow (d.K W') t d.sz W' B (.slice A ds.length c) ds := ⟨inner, own_move ho (fun k hk => hW k (own_base ho k hk) (own_lt ho k hk)), hr.imp_ (fun p c hp => hp W' (fun k hk hlt => hW k hk.2 hlt))⟩
  obtain ⟨A', c', he, _, hr'⟩ := h'.reads
  injection he with h1 h2 h3
  subst h1
  exact hr'
end RFB
/-- An element of a row that lies in ok. -/
theorem F_elem {α β : Type} {d : Kd α} {d' : Kd β} {W : World} {ok : Nat → Prop} {A : Option Addr} {n k : Nat} {xs : List α} {x : α} {y : β} {cs : List Value} (h : Kd.F d W ok A n xs)
    (hi : ∀ W', d.C W' A n xs → d'.K W' y cs) : Kd.FK d' W ok y cs := Foot.imp h hi
end Go.Proofs.Ytgfjkpnaabiecaa
