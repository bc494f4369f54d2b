/- The statements' own example (plain): what the table comes to. -/
import Derived.Test.YtgfjkpnaabiecaaTabL
set_option linter.unusedVariables false
set_option linter.unusedSimpArgs false
namespace Go.Proofs.Ytgfjkpnaabiecaa
open Go.RowKit Go.Proofs.YtgfjkpnaabiecaaW.PrintWords
namespace Tab
open Tags
namespace Kn
def kB : ByteArray := ⟨#[107]⟩
def jB : ByteArray := ⟨#[106]⟩
theorem kj : kB ≠ jB := by decide
theorem jk : jB ≠ kB := by decide
def R0 : Room := ⟨1, 99, 1, true⟩
def eK : Entry := ⟨kB, ⟨1, 0, 0⟩, ⟨false, []⟩⟩
def eJ : Entry := ⟨jB, ⟨1, 0, 0⟩, ⟨false, []⟩⟩
def T0 : Tb := ⟨R0, [], [0], 0⟩
def T1 : Tb := ⟨R0, [⟨eK, true, false, 1⟩], [0], 1⟩
def T2 : Tb := ⟨R0, [⟨eK, true, true, 1⟩], [0], 1⟩
def T3 : Tb := ⟨R0, [⟨eJ, true, false, 2⟩], [1], 2⟩
theorem tok0 (l : List Cell) (t u : Int) (k : ByteArray) : tokAt ⟨R0, l, [t], u⟩ k = t := by
  unfold tokAt
  show [t].getD (Hash.bkt k 1).toNat 0 = t
  rw [Hash.bkt_one]; rfl
theorem drop0 (l : List Cell) (t u : Int) (k : ByteArray) : drop ⟨R0, l, [t], u⟩ k = ⟨R0, del l k, [t + 1], u⟩ := by
  unfold drop
  show (⟨R0, del l k, bump [t] (Hash.bkt k 1).toNat, u⟩ : Tb) = _
  rw [Hash.bkt_one]; rfl
theorem okK : EntOk eK ∧ eK.tag.seq ≠ 0 := by decide
theorem okJ : EntOk eJ ∧ eJ.tag.seq ≠ 0 := by decide
theorem new0 : newT R0 = T0 := rfl
theorem fits0 (t u : Int) (e : Entry) (h : e = eK ∨ e = eJ) : fits ⟨R0, [], [t], u⟩ e = true := by
  rcases h with rfl | rfl <;> rfl
theorem s1 : storeT T0 eK = T1 ∧ storeE T0 eK = 0 := by
  have hv : vict T0 eK = ([], true) := by
    unfold vict victF
    rw [if_pos (show fits T0 eK = true from fits0 0 0 eK (.inl rfl))]
  have hE : makeE T0 eK = 0 := by unfold makeE; rw [hv]; rfl
  have hT : makeT T0 eK = T0 := by unfold makeT; rw [hv]; rfl
  have hO : storeOld T0 eK = none := rfl
  have hW : wholeT T0 eK.key = true := by
    show (tokAt T0 eK.key == 0) = true
    rw [show tokAt T0 eK.key = 0 from tok0 _ _ _ _]; rfl
  unfold storeT storeE
  rw [if_pos okK, if_pos okK, hO]
  dsimp only
  rw [hE, if_pos rfl, hT, hW]
  exact ⟨rfl, rfl⟩
theorem s2 : storeT T1 eJ = T1 ∧ storeE T1 eJ = 30 := by
  have hf : find T1.l jB = none := by simp [find, T1, eK, kj]
  have hn : newL T1 eJ = [⟨eJ, false, false, 0⟩, ⟨eK, true, false, 1⟩] := by
    simp only [newL, T1, put]
    rw [if_neg (by exact kj), if_pos (by decide)]
  have hv : vict T1 eJ = ([], false) := by
    have h1 : fits T1 eJ = false := by
      unfold fits; rw [hn]; rfl
    have h2 : pick T1.l eJ.key = none := rfl
    show victF 2 T1 eJ = _
    unfold victF
    rw [if_neg (by rw [h1]; decide), h2]
  have hE : makeE T1 eJ = 30 := by unfold makeE; rw [hv]; rfl
  have hO : storeOld T1 eJ = none := by unfold storeOld; rw [show find T1.l eJ.key = none from hf]; rfl
  unfold storeT storeE
  rw [if_pos okJ, if_pos okJ, hO]
  dsimp only
  rw [hE]
  exact ⟨rfl, rfl⟩
theorem c1 : cleanT T1 kB ⟨1, 0, 0⟩ = T2 ∧ cleanOn T1 kB ⟨1, 0, 0⟩ = some ⟨eK, true, false, 1⟩ := by
  have hf : find T1.l kB = some ⟨eK, true, false, 1⟩ := by simp [find, T1, eK]
  have ho : cleanOn T1 kB ⟨1, 0, 0⟩ = some ⟨eK, true, false, 1⟩ := by
    unfold cleanOn; rw [hf]; rfl
  refine ⟨?_, ho⟩
  unfold cleanT
  rw [ho]
  simp [T1, T2, put]
theorem s3 : storeT T2 eJ = T3 ∧ storeE T2 eJ = 0 := by
  have hf : find T2.l jB = none := by simp [find, T2, eK, kj]
  have hn : newL T2 eJ = [⟨eJ, false, false, 0⟩, ⟨eK, true, true, 1⟩] := by
    simp only [newL, T2, put]
    rw [if_neg (by exact kj), if_pos (by decide)]
  have hd : drop T2 kB = ⟨R0, [], [1], 1⟩ := by
    show drop ⟨R0, _, [0], 1⟩ kB = _
    rw [drop0]
    simp [del, eK]
  have hv : vict T2 eJ = ([kB], true) := by
    have h1 : fits T2 eJ = false := by
      unfold fits; rw [hn]; rfl
    have h2 : pick T2.l eJ.key = some ⟨eK, true, true, 1⟩ := by
      simp [pick, T2, cand, eK, eJ, kj, least]
    show victF 2 T2 eJ = _
    unfold victF
    rw [if_neg (by rw [h1]; decide), h2]
    dsimp only
    rw [show drop T2 eK.key = ⟨R0, [], [1], 1⟩ from hd]
    unfold victF
    rw [if_pos (fits0 1 1 eJ (.inr rfl))]
    rfl
  have hE : makeE T2 eJ = 0 := by unfold makeE; rw [hv]; rfl
  have hT : makeT T2 eJ = ⟨R0, [], [1], 1⟩ := by
    unfold makeT; rw [hv]; exact hd
  have hO : storeOld T2 eJ = none := by unfold storeOld; rw [show find T2.l eJ.key = none from hf]; rfl
  have hW : wholeT T2 eJ.key = true := by
    unfold wholeT
    rw [show find T2.l eJ.key = none from hf]
    show (tokAt T2 eJ.key == 0) = true
    rw [show tokAt T2 eJ.key = 0 from tok0 _ _ _ _]; rfl
  unfold storeT storeE
  rw [if_pos okJ, if_pos okJ, hO]
  dsimp only
  rw [hE, if_pos rfl, hT, hW]
  exact ⟨rfl, rfl⟩
theorem q1 : queryR T3 kB = ⟨⟨kB, Tag.z, Val.z⟩, false, 1⟩ ∧ queryE kB = 0 := by
  have hf : find T3.l kB = none := by simp [find, T3, eJ, jk]
  have ht : tokAt T3 kB = 1 := tok0 _ _ _ _
  have hk : KeyOk kB := by decide
  unfold queryR queryE
  rw [if_pos hk, if_pos hk, hf, ht]
  exact ⟨rfl, rfl⟩
theorem num (l : List Cell) (t u : Int) (ht : 0 ≤ t ∧ t ≤ 9) (hu : 0 ≤ u ∧ u ≤ 9) (hl : l = [] ∨ ∃ c, l = [c] ∧ c.e.key.size ≤ 9 ∧ c.e.val.b.length ≤ 9 ∧ 1 ≤ c.used) : Num ⟨R0, l, [t], u⟩ 9 := by
  refine ⟨by omega, ⟨by show (1 : Int) ≤ 1; omega, by show (1 : Int) ≤ 65536; omega⟩, rfl, ?_, ?_, ?_, ?_, by dsimp only; omega, ?_, ?_⟩
  · intro x hx; simp at hx; omega
  all_goals
    rcases hl with rfl | ⟨c, rfl, h1, h2, h3⟩
    · simp [szs, Own1]
    · simp [szs, Own1, csz]; try omega
end Kn
end Tab
end Go.Proofs.Ytgfjkpnaabiecaa
