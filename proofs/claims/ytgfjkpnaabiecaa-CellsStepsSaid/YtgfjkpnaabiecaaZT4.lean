/- Lemmas for the row (words on memory, contracts of the program's functions): TabL, TabN, TabO, TabP, LayC, CmpA, CmpB, TabTok, TabCopy, TabQ, TabR, TabS, TabU, TabT, TabDone, TabLaw, LawQP, LawGP, RefTA, Grow. -/
import Derived.Shelf.Slices.Clone
import Derived.Shelf.SlMaps.Clone
import Derived.Test.YtgfjkpnaabiecaaProg
import Derived.Deep.QuietTactic
import Derived.BigQuiet
import Derived.Test.YtgfjkpnaabiecaaZT3
set_option linter.unusedVariables false
set_option linter.unusedSimpArgs false
namespace Go.Proofs.Ytgfjkpnaabiecaa
open Go.RowKit Go.Proofs.YtgfjkpnaabiecaaW.PrintWords
namespace Tab
open Tags
set_option maxRecDepth 100000 in
set_option maxHeartbeats 1000000 in
theorem long_calls (A : Option Addr) (c : Nat) (xs : List Do) (w : World) (hr : Do.k.C w A xs.length xs) (hn : xs.length ≤ 1600000000000) :
    Calls Try.prog 11 #[.slice A xs.length c] w fun e w' => ∃ n : Int, e = .returned (.int .i64 n) ∧ Below w.heap.size w w' := by
  have HR := Aside0.mk hr
  clear hr
  go_enter Try.func11, Try.ntmps11
  go_wp2
  go_loopg [3, 4] xs.length (fun gk v3 v4 wr => ∃ (n : Int) (k : Nat), v3 = .int .i64 n ∧ v4 = .int .i64 (k : Int) ∧ k ≤ xs.length ∧ Aside0 (gk + k = xs.length) ∧ Aside0 (Below w.heap.size w wr))
  case atStart => exact ⟨0, 0, rfl, rfl, Nat.zero_le _, ⟨rfl⟩, ⟨Below.refl _ _⟩⟩
  case round =>
    obtain ⟨n, k, rfl, rfl, hk, HGK, HB⟩ := hrel
    by_cases hlt : k < xs.length
    · obtain ⟨ad, x, A6, c6, rfl, HX, x0, x1, x2, x3, x4, x5, x6, x7, x8⟩ := Do.at_ (Kd.C_below HR.out HB.out) k hlt
      have r1 : ∀ w', Below wr.heap.size wr w' → w'.cell? ⟨(ad.add (k * 8)).block, (ad.add (k * 8)).off + 1, none⟩ = some (.string x.e.key) := fun w' h => pw_cell_below h x1
      have r6 : ∀ w', Below wr.heap.size wr w' → w'.cell? ⟨(ad.add (k * 8)).block, (ad.add (k * 8)).off + 6, none⟩ = some (.slice A6 x.e.val.b.length c6) := fun w' h => pw_cell_below h x6
      have k0 : (0 : Int) ≤ (k : Int) := by omega
      have k1 : (k : Int) < (xs.length : Int) := by omega
      clear x0 x1 x2 x3 x4 x5 x6 x7 x8
      go_upto_region 5 with (fail)
      refine wp_region_noPanic ?_
      refine wp_region_held_drew (S := Below wr.heap.size wr) (by kernel_rfl) (below_drew (Below.refl _ _)) (fun hHeld => ?_)
      (refine takeH 0 11 (v := ?_) rfl rfl (by kernel_rfl) (by kernel_rfl) (by kernel_rfl) (fun _ _ _ h => h) hHeld rfl ?_ ?_; rotate_left; (focus (intro w' hSw; go_simp; try with_reducible rfl)))
      (try simp only [Act.put, List.setIfInBounds_toArray, List.set_cons_zero, List.set_cons_succ])
      (refine takeH 1 12 (v := ?_) rfl rfl (by kernel_rfl) (by kernel_rfl) (by kernel_rfl) (fun _ _ _ h => h) hHeld rfl ?_ ?_; rotate_left; (focus (intro w' hSw; go_simp; try with_reducible rfl)))
      (try simp only [Act.put, List.setIfInBounds_toArray, List.set_cons_zero, List.set_cons_succ])
      (refine takeH 2 13 (v := ?_) rfl rfl (by kernel_rfl) (by kernel_rfl) (by kernel_rfl) (fun _ _ _ h => h) hHeld rfl ?_ ?_; rotate_left; (focus (intro w' hSw; go_simp; try with_reducible rfl)))
      (try simp only [Act.put, List.setIfInBounds_toArray, List.set_cons_zero, List.set_cons_succ])
      (refine takeH 3 14 (v := ?_) rfl rfl (by kernel_rfl) (by kernel_rfl) (by kernel_rfl) (fun _ _ _ h => h) hHeld rfl ?_ ?_; rotate_left; (focus (intro w' hSw; go_simp; try with_reducible rfl)))
      (try simp only [Act.put, List.setIfInBounds_toArray, List.set_cons_zero, List.set_cons_succ])
      (refine takeH 4 15 (v := ?_) rfl rfl (by kernel_rfl) (by kernel_rfl) (by kernel_rfl) (fun _ _ _ h => h) hHeld rfl ?_ ?_; rotate_left; (focus (intro w' hSw; go_simp; try with_reducible rfl)))
      (try simp only [Act.put, List.setIfInBounds_toArray, List.set_cons_zero, List.set_cons_succ])
      (refine takeH 5 16 (v := ?_) rfl rfl (by kernel_rfl) (by kernel_rfl) (by kernel_rfl) (fun _ _ _ h => h) hHeld rfl ?_ ?_; rotate_left; (focus (intro w' hSw; go_simp; try with_reducible rfl)))
      (try simp only [Act.put, List.setIfInBounds_toArray, List.set_cons_zero, List.set_cons_succ])
      (refine takeH 6 17 (v := ?_) rfl rfl (by kernel_rfl) (by kernel_rfl) (by kernel_rfl) (fun _ _ _ h => h) hHeld rfl ?_ ?_; rotate_left; (focus (intro w' hSw; go_simp; try with_reducible rfl)))
      (try simp only [Act.put, List.setIfInBounds_toArray, List.set_cons_zero, List.set_cons_succ])
      (refine takeH 7 18 (v := ?_) rfl rfl (by kernel_rfl) (by kernel_rfl) (by kernel_rfl) (fun _ _ _ h => h) hHeld rfl ?_ ?_; rotate_left; (focus (intro w' hSw; go_simp; try with_reducible rfl)))
      (try simp only [Act.put, List.setIfInBounds_toArray, List.set_cons_zero, List.set_cons_succ])
      (refine takeH 8 19 (v := ?_) rfl rfl (by kernel_rfl) (by kernel_rfl) (by kernel_rfl) (fun _ _ _ h => h) hHeld rfl ?_ ?_; rotate_left; (focus (intro w' hSw; go_simp; try with_reducible rfl)))
      (try simp only [Act.put, List.setIfInBounds_toArray, List.set_cons_zero, List.set_cons_succ])
      (refine takeH 9 20 (v := ?_) rfl rfl (by kernel_rfl) (by kernel_rfl) (by kernel_rfl) (fun _ _ _ h => h) hHeld rfl ?_ ?_; rotate_left; (focus (intro w' hSw; go_simp; try with_reducible rfl)))
      (try simp only [Act.put, List.setIfInBounds_toArray, List.set_cons_zero, List.set_cons_succ])
      (refine takeH 10 21 (v := ?_) rfl rfl (by kernel_rfl) (by kernel_rfl) (by kernel_rfl) (fun _ _ _ h => h) hHeld rfl ?_ ?_; rotate_left; (focus (intro w' hSw; go_simp; try with_reducible rfl)))
      (try simp only [Act.put, List.setIfInBounds_toArray, List.set_cons_zero, List.set_cons_succ])
      (refine takeH 11 22 (v := ?_) rfl rfl (by kernel_rfl) (by kernel_rfl) (by kernel_rfl) (fun _ _ _ h => h) hHeld rfl ?_ ?_; rotate_left; (focus (intro w' hSw; go_simp; try with_reducible rfl)))
      (try simp only [Act.put, List.setIfInBounds_toArray, List.set_cons_zero, List.set_cons_succ])
      (refine takeH 12 23 (v := ?_) rfl rfl (by kernel_rfl) (by kernel_rfl) (by kernel_rfl) (fun _ _ _ h => h) hHeld rfl ?_ ?_; rotate_left; (focus (intro w' hSw; go_simp; try with_reducible rfl)))
      (try simp only [Act.put, List.setIfInBounds_toArray, List.set_cons_zero, List.set_cons_succ])
      (refine takeH 13 24 (v := ?_) rfl rfl (by kernel_rfl) (by kernel_rfl) (by kernel_rfl) (fun _ _ _ h => h) hHeld rfl ?_ ?_; rotate_left; (focus (intro w' hSw; go_simp; try with_reducible rfl)))
      (try simp only [Act.put, List.setIfInBounds_toArray, List.set_cons_zero, List.set_cons_succ])
      (refine takeH 14 25 (v := ?_) rfl rfl (by kernel_rfl) (by kernel_rfl) (by kernel_rfl) (fun _ _ _ h => h) hHeld rfl ?_ ?_; rotate_left; (focus (intro w' hSw; go_simp; try with_reducible rfl)))
      (try simp only [Act.put, List.setIfInBounds_toArray, List.set_cons_zero, List.set_cons_succ])
      (refine takeH 15 26 (v := ?_) rfl rfl (by kernel_rfl) (by kernel_rfl) (by kernel_rfl) (fun _ _ _ h => h) hHeld rfl ?_ ?_; rotate_left; (focus (intro w' hSw; go_simp; try with_reducible rfl)))
      (try simp only [Act.put, List.setIfInBounds_toArray, List.set_cons_zero, List.set_cons_succ])
      (refine takeH 16 27 (v := ?_) rfl rfl (by kernel_rfl) (by kernel_rfl) (by kernel_rfl) (fun _ _ _ h => h) hHeld rfl ?_ ?_; rotate_left; (focus (intro w' hSw; go_simp; try with_reducible rfl)))
      (try simp only [Act.put, List.setIfInBounds_toArray, List.set_cons_zero, List.set_cons_succ])
      (refine takeH 17 28 (v := ?_) rfl rfl (by kernel_rfl) (by kernel_rfl) (by kernel_rfl) (fun _ _ _ h => h) hHeld rfl ?_ ?_; rotate_left; (focus (intro w' hSw; go_simp; try with_reducible rfl)))
      (try simp only [Act.put, List.setIfInBounds_toArray, List.set_cons_zero, List.set_cons_succ])
      (refine takeH 18 29 (v := ?_) rfl rfl (by kernel_rfl) (by kernel_rfl) (by kernel_rfl) (fun _ _ _ h => h) hHeld rfl ?_ ?_; rotate_left; (focus (intro w' hSw; go_simp; try with_reducible rfl)))
      (try simp only [Act.put, List.setIfInBounds_toArray, List.set_cons_zero, List.set_cons_succ])
      (refine takeH 19 3 (v := ?_) rfl rfl (by kernel_rfl) (by kernel_rfl) (by kernel_rfl) (fun _ _ _ h => h) hHeld rfl ?_ ?_; rotate_left; (focus (intro w' hSw; go_simp; try with_reducible rfl)))
      (try simp only [Act.put, List.setIfInBounds_toArray, List.set_cons_zero, List.set_cons_succ])
      refine wpAnyH_done (by kernel_rfl) ?_ _
      refine NoPanic.normal ?_
      go_wp2
      go_roundg (xs.length - (k + 1))
      case measure => have := HGK.out; omega
      case rel => exact ⟨_, k + 1, rfl, by go_num, by omega, ⟨by omega⟩, ⟨below_drew HB.out⟩⟩
    · obtain rfl : k = xs.length := by omega
      go_wp2
      go_ret
      exact ⟨n, rfl, HB.out⟩
theorem ent_calls (k : ByteArray) (n : Int) (w : World) : Calls Try.prog 36 #[.string k, .int .i64 n] w fun e w' => e = .returned (.agg #[.string k, .int .i64 n, .int .i64 0, .int .i64 0, .bool false, .slice none 0 0]) ∧ Below w.heap.size w w' := by
  go_enter Try.func36, Try.ntmps36
  go_wp2
  refine bodyPost_ret (v := .agg #[.string k, .int .i64 n, .int .i64 0, .int .i64 0, .bool false, .slice none 0 0]) (by simp [results, Try.results36, go_sem]; try rfl) rfl ?_
  exact ⟨rfl, below_alloc (Below.refl _ _) _⟩
theorem store_nil (w : World) : Calls Try.prog 13 #[.pointer none, .agg #[.string ByteArray.empty, .int .i64 0, .int .i64 0, .int .i64 0, .bool false, .slice none 0 0]] w fun e w' => e = .returned (.int .i64 1) ∧ Below w.heap.size w w' := by
  go_enter Try.func13, Try.ntmps13
  go_wp2
  go_ret
  exact ⟨rfl, below_alloc (Below.refl _ _) _⟩
end Tab
end Go.Proofs.Ytgfjkpnaabiecaa
set_option linter.unusedVariables false
set_option linter.unusedSimpArgs false
namespace Go.Proofs.Ytgfjkpnaabiecaa
open Go.RowKit Go.Proofs.YtgfjkpnaabiecaaW.PrintWords
namespace Tab
open Tags
namespace Kn
def kB : ByteArray := ⟨#[107]⟩
def jB : ByteArray := ⟨#[106]⟩
theorem kj : kB ≠ jB := by decide
theorem jk : jB ≠ kB := by decide
def R0 : Room := ⟨1, 99, 1, true⟩
def eK : Entry := ⟨kB, ⟨1, 0, 0⟩, ⟨false, []⟩⟩
def eJ : Entry := ⟨jB, ⟨1, 0, 0⟩, ⟨false, []⟩⟩
def T0 : Tb := ⟨R0, [], [0], 0⟩
def T1 : Tb := ⟨R0, [⟨eK, true, false, 1⟩], [0], 1⟩
def T2 : Tb := ⟨R0, [⟨eK, true, true, 1⟩], [0], 1⟩
def T3 : Tb := ⟨R0, [⟨eJ, true, false, 2⟩], [1], 2⟩
theorem tok0 (l : List Cell) (t u : Int) (k : ByteArray) : tokAt ⟨R0, l, [t], u⟩ k = t := by
  unfold tokAt
  show [t].getD (Hash.bkt k 1).toNat 0 = t
  rw [Hash.bkt_one]; rfl
theorem drop0 (l : List Cell) (t u : Int) (k : ByteArray) : drop ⟨R0, l, [t], u⟩ k = ⟨R0, del l k, [t + 1], u⟩ := by
  unfold drop
  show (⟨R0, del l k, bump [t] (Hash.bkt k 1).toNat, u⟩ : Tb) = _
  rw [Hash.bkt_one]; rfl
theorem okK : EntOk eK ∧ eK.tag.seq ≠ 0 := by decide
theorem okJ : EntOk eJ ∧ eJ.tag.seq ≠ 0 := by decide
theorem fits0 (t u : Int) (e : Entry) (h : e = eK ∨ e = eJ) : fits ⟨R0, [], [t], u⟩ e = true := by
  rcases h with rfl | rfl <;> rfl
theorem s1 : storeT T0 eK = T1 ∧ storeE T0 eK = 0 := by
  have hv : vict T0 eK = ([], true) := by
    unfold vict victF
    rw [if_pos (show fits T0 eK = true from fits0 0 0 eK (.inl rfl))]
  have hE : makeE T0 eK = 0 := by unfold makeE; rw [hv]; rfl
  have hT : makeT T0 eK = T0 := by unfold makeT; rw [hv]; rfl
  have hO : storeOld T0 eK = none := rfl
  have hW : wholeT T0 eK.key = true := by
    show (tokAt T0 eK.key == 0) = true
    rw [show tokAt T0 eK.key = 0 from tok0 _ _ _ _]; rfl
  unfold storeT storeE
  rw [if_pos okK, if_pos okK, hO]
  dsimp only
  rw [hE, if_pos rfl, hT, hW]
  exact ⟨rfl, rfl⟩
theorem s2 : storeT T1 eJ = T1 ∧ storeE T1 eJ = 30 := by
  have hf : find T1.l jB = none := by simp [find, T1, eK, kj]
  have hn : newL T1 eJ = [⟨eJ, false, false, 0⟩, ⟨eK, true, false, 1⟩] := by
    simp only [newL, T1, put]
    rw [if_neg (by exact kj), if_pos (by decide)]
  have hv : vict T1 eJ = ([], false) := by
    have h1 : fits T1 eJ = false := by
      unfold fits; rw [hn]; rfl
    have h2 : pick T1.l eJ.key = none := rfl
    show victF 2 T1 eJ = _
    unfold victF
    rw [if_neg (by rw [h1]; decide), h2]
  have hE : makeE T1 eJ = 30 := by unfold makeE; rw [hv]; rfl
  have hO : storeOld T1 eJ = none := by unfold storeOld; rw [show find T1.l eJ.key = none from hf]; rfl
  unfold storeT storeE
  rw [if_pos okJ, if_pos okJ, hO]
  dsimp only
  rw [hE]
  exact ⟨rfl, rfl⟩
theorem c1 : cleanT T1 kB ⟨1, 0, 0⟩ = T2 ∧ cleanOn T1 kB ⟨1, 0, 0⟩ = some ⟨eK, true, false, 1⟩ := by
  have hf : find T1.l kB = some ⟨eK, true, false, 1⟩ := by simp [find, T1, eK]
  have ho : cleanOn T1 kB ⟨1, 0, 0⟩ = some ⟨eK, true, false, 1⟩ := by
    unfold cleanOn; rw [hf]; rfl
  refine ⟨?_, ho⟩
  unfold cleanT
  rw [ho]
  simp [T1, T2, put]
theorem s3 : storeT T2 eJ = T3 ∧ storeE T2 eJ = 0 := by
  have hf : find T2.l jB = none := by simp [find, T2, eK, kj]
  have hn : newL T2 eJ = [⟨eJ, false, false, 0⟩, ⟨eK, true, true, 1⟩] := by
    simp only [newL, T2, put]
    rw [if_neg (by exact kj), if_pos (by decide)]
  have hd : drop T2 kB = ⟨R0, [], [1], 1⟩ := by
    show drop ⟨R0, _, [0], 1⟩ kB = _
    rw [drop0]
    simp [del, eK]
  have hv : vict T2 eJ = ([kB], true) := by
    have h1 : fits T2 eJ = false := by
      unfold fits; rw [hn]; rfl
    have h2 : pick T2.l eJ.key = some ⟨eK, true, true, 1⟩ := by
      simp [pick, T2, cand, eK, eJ, kj, least]
    show victF 2 T2 eJ = _
    unfold victF
    rw [if_neg (by rw [h1]; decide), h2]
    dsimp only
    rw [show drop T2 eK.key = ⟨R0, [], [1], 1⟩ from hd]
    unfold victF
    rw [if_pos (fits0 1 1 eJ (.inr rfl))]
    rfl
  have hE : makeE T2 eJ = 0 := by unfold makeE; rw [hv]; rfl
  have hT : makeT T2 eJ = ⟨R0, [], [1], 1⟩ := by
    unfold makeT; rw [hv]; exact hd
  have hO : storeOld T2 eJ = none := by unfold storeOld; rw [show find T2.l eJ.key = none from hf]; rfl
  have hW : wholeT T2 eJ.key = true := by
    unfold wholeT
    rw [show find T2.l eJ.key = none from hf]
    show (tokAt T2 eJ.key == 0) = true
    rw [show tokAt T2 eJ.key = 0 from tok0 _ _ _ _]; rfl
  unfold storeT storeE
  rw [if_pos okJ, if_pos okJ, hO]
  dsimp only
  rw [hE, if_pos rfl, hT, hW]
  exact ⟨rfl, rfl⟩
theorem q1 : queryR T3 kB = ⟨⟨kB, Tag.z, Val.z⟩, false, 1⟩ ∧ queryE kB = 0 := by
  have hf : find T3.l kB = none := by simp [find, T3, eJ, jk]
  have ht : tokAt T3 kB = 1 := tok0 _ _ _ _
  have hk : KeyOk kB := by decide
  unfold queryR queryE
  rw [if_pos hk, if_pos hk, hf, ht]
  exact ⟨rfl, rfl⟩
theorem num (l : List Cell) (t u : Int) (ht : 0 ≤ t ∧ t ≤ 9) (hu : 0 ≤ u ∧ u ≤ 9) (hl : l = [] ∨ ∃ c, l = [c] ∧ c.e.key.size ≤ 9 ∧ c.e.val.b.length ≤ 9 ∧ 1 ≤ c.used) : Num ⟨R0, l, [t], u⟩ 9 := by
  refine ⟨by omega, ⟨by show (1 : Int) ≤ 1; omega, by show (1 : Int) ≤ 65536; omega⟩, rfl, ?_, ?_, ?_, ?_, by dsimp only; omega, ?_, ?_⟩
  · intro x hx; simp at hx; omega
  all_goals
    rcases hl with rfl | ⟨c, rfl, h1, h2, h3⟩
    · simp [szs, Own1]
    · simp [szs, Own1, csz]; try omega
end Kn
end Tab
end Go.Proofs.Ytgfjkpnaabiecaa
set_option linter.unusedVariables false
set_option linter.unusedSimpArgs false
namespace Go.Proofs.Ytgfjkpnaabiecaa
open Go.RowKit Go.Proofs.YtgfjkpnaabiecaaW.PrintWords
namespace Tab
open Tags
/-- A table that was made since w. -/
def KS (w : World) (p mb tb : Nat) (T : Tb) (w' : World) : Prop := TbR w' p mb tb T ∧ Below w.heap.size w w' ∧ w.heap.size ≤ p ∧ w.heap.size ≤ mb ∧ w.heap.size ≤ tb
theorem KS.below {w w1 w2 : World} {p mb tb : Nat} {T : Tb} (h : KS w p mb tb T w1) (k : Below w1.heap.size w1 w2) : KS w p mb tb T w2 := ⟨h.1.below k, Below.then_ h.2.1 k (Nat.le_refl _), h.2.2⟩
theorem KS.told {w w1 w2 : World} {p mb tb : Nat} {T T' : Tb} (h : KS w p mb tb T w1) (h1 : TbR w2 p mb tb T') (o : Only [p, mb, tb] w1 w2) : KS w p mb tb T' w2 :=
  ⟨h1, ((Only.of_below [p, mb, tb] h.2.1).trans o).below (by intro i hi; obtain ⟨g1, g2, g3⟩ := h.2.2; simp at hi; rcases hi with rfl | rfl | rfl <;> assumption) (Nat.le_refl _), h.2.2⟩
namespace Kn
theorem one64 : InR .i64 1 := InR.mk64 (by decide) (by decide)
theorem fk (w : World) (ok : Nat → Prop) (k : ByteArray) (hk : k.size ≤ 9) : Kd.FK Entry.k w ok ⟨k, ⟨1, 0, 0⟩, ⟨false, []⟩⟩ [.string k, .int .i64 1, .int .i64 0, .int .i64 0, .bool false, .slice none 0 0] :=
  fun W' _ => Entry.mk_ W' ⟨k, ⟨1, 0, 0⟩, ⟨false, []⟩⟩ (by dsimp only; omega) one64 izr izr (Nat.le_refl _) (Kd.C_nil _ _)
theorem n0 : Num T0 9 := num [] 0 0 (by omega) (by omega) (.inl rfl)
theorem n1 : Num T1 9 := num _ 0 1 (by omega) (by omega) (.inr ⟨_, rfl, by decide, by decide, by decide⟩)
theorem n2 : Num T2 9 := num _ 0 1 (by omega) (by omega) (.inr ⟨_, rfl, by decide, by decide, by decide⟩)
theorem n3 : Num T3 9 := num _ 1 2 (by omega) (by omega) (.inr ⟨_, rfl, by decide, by decide, by decide⟩)
theorem new_c (w : World) : Calls Try.prog 10 #[.agg #[.int .i64 1, .int .i64 99, .int .i64 1, .bool true]] w fun e w' => ∃ p mb tb, e = .returned (.tuple #[.pointer (some ⟨p, 0, none⟩), .int .i64 0]) ∧ KS w p mb tb T0 w' := by
  refine (new_calls R0 w).mono ?_
  intro e w' h
  unfold NewTold at h
  rw [if_pos (by decide)] at h
  obtain ⟨p, mb, tb, rfl, h1, h2, h3, h4, h5⟩ := h
  exact ⟨p, mb, tb, rfl, h1, h5, h2, h3, h4⟩
theorem st1 {w w1 : World} {p mb tb : Nat} (h : KS w p mb tb T0 w1) : Calls Try.prog 13 #[.pointer (some ⟨p, 0, none⟩), .agg #[.string ⟨#[107]⟩, .int .i64 1, .int .i64 0, .int .i64 0, .bool false, .slice none 0 0]] w1 fun e w' => e = .returned (.int .i64 0) ∧ KS w p mb tb T1 w' := by
  refine (store_calls p mb tb T0 eK none 0 9 w1 h.1 n0 (by omega) (fk _ _ kB (by decide)) (by decide)).mono ?_
  rintro e w' ⟨rfl, h1, h2⟩
  rw [s1.1] at h1
  rw [s1.2]
  exact ⟨rfl, h.told h1 h2⟩
theorem st2 {w w1 : World} {p mb tb : Nat} (h : KS w p mb tb T1 w1) : Calls Try.prog 13 #[.pointer (some ⟨p, 0, none⟩), .agg #[.string ⟨#[106]⟩, .int .i64 1, .int .i64 0, .int .i64 0, .bool false, .slice none 0 0]] w1 fun e w' => e = .returned (.int .i64 30) ∧ KS w p mb tb T1 w' := by
  refine (store_calls p mb tb T1 eJ none 0 9 w1 h.1 n1 (by omega) (fk _ _ jB (by decide)) (by decide)).mono ?_
  rintro e w' ⟨rfl, h1, h2⟩
  rw [s2.1] at h1
  rw [s2.2]
  exact ⟨rfl, h.told h1 h2⟩
theorem st3 {w w1 : World} {p mb tb : Nat} (h : KS w p mb tb T2 w1) : Calls Try.prog 13 #[.pointer (some ⟨p, 0, none⟩), .agg #[.string ⟨#[106]⟩, .int .i64 1, .int .i64 0, .int .i64 0, .bool false, .slice none 0 0]] w1 fun e w' => e = .returned (.int .i64 0) ∧ KS w p mb tb T3 w' := by
  refine (store_calls p mb tb T2 eJ none 0 9 w1 h.1 n2 (by omega) (fk _ _ jB (by decide)) (by decide)).mono ?_
  rintro e w' ⟨rfl, h1, h2⟩
  rw [s3.1] at h1
  rw [s3.2]
  exact ⟨rfl, h.told h1 h2⟩
theorem cl1 {w w1 : World} {p mb tb : Nat} (h : KS w p mb tb T1 w1) : Calls Try.prog 18 #[.pointer (some ⟨p, 0, none⟩), .string ⟨#[107]⟩, .agg #[.int .i64 1, .int .i64 0, .int .i64 0]] w1 fun e w' => e = .returned (.bool true) ∧ KS w p mb tb T2 w' := by
  refine (clean_calls p mb tb T1 kB 1 0 0 w1 h.1 (by decide)).mono ?_
  rintro e w' ⟨rfl, h1, h2⟩
  rw [c1.1] at h1
  rw [c1.2]
  exact ⟨rfl, h.told h1 h2⟩
theorem qu1 {w w1 : World} {p mb tb : Nat} (h : KS w p mb tb T3 w1) : Calls Try.prog 21 #[.pointer (some ⟨p, 0, none⟩), .string ⟨#[107]⟩] w1 fun e w' => ∃ A c, e = .returned (.tuple #[.agg #[.string ⟨#[107]⟩, .int .i64 0, .int .i64 0, .int .i64 0, .bool false, .slice A 0 c, .bool false, .int .i64 1], .int .i64 0]) ∧ Below w.heap.size w w' := by
  refine (query_calls p mb tb T3 kB 9 w1 h.1 n3 (by omega) (by decide)).mono ?_
  rintro e w' ⟨cs, rfl, h1, h2, h3⟩
  rw [q1.1] at h1
  rw [q1.2]
  obtain ⟨A, c, he, _⟩ := Reply.open_ h1.now
  refine ⟨A, c, ?_, (h.told h2 h3).2.1⟩
  have : cs = cs.toList.toArray := by simp
  rw [this, he]
  rfl
end Kn
theorem store_nil2 (w : World) : Calls Try.prog 13 #[.pointer none, .agg #[.string ⟨#[]⟩, .int .i64 0, .int .i64 0, .int .i64 0, .bool false, .slice none 0 0]] w fun e w' => e = .returned (.int .i64 1) ∧ Below w.heap.size w w' := store_nil w
set_option maxRecDepth 100000 in
set_option maxHeartbeats 1000000 in
theorem known_true (w : World) : Calls Try.prog 12 #[] w fun e w' => e = .returned (.bool true) ∧ Below w.heap.size w w' := by
  go_enter Try.func12, Try.ntmps12
  go_wp2_with (first
    | ((with_reducible refine (Kn.new_c _).mono ?_); rintro e w1 ⟨p, mb, tb, rfl, h⟩; have HK := Aside0.mk h; clear h)
    | ((with_reducible refine (ent_calls _ _ _).mono ?_); rintro e w1 ⟨rfl, h⟩; have HK := Aside0.mk (KS.below HK.out h); clear h)
    | ((with_reducible refine (Kn.st1 HK.out).mono ?_); rintro e w1 ⟨rfl, h⟩; have HK := Aside0.mk h; clear h)
    | ((with_reducible refine (Kn.st2 HK.out).mono ?_); rintro e w1 ⟨rfl, h⟩; have HK := Aside0.mk h; clear h)
    | ((with_reducible refine (Kn.st3 HK.out).mono ?_); rintro e w1 ⟨rfl, h⟩; have HK := Aside0.mk h; clear h)
    | ((with_reducible refine (Kn.cl1 HK.out).mono ?_); rintro e w1 ⟨rfl, h⟩; have HK := Aside0.mk h; clear h)
    | ((with_reducible refine (Kn.qu1 HK.out).mono ?_); rintro e w1 ⟨A, c, rfl, h⟩; have HQ := Aside0.mk h; clear h)
    | ((with_reducible refine (store_nil2 _).mono ?_); rintro e w1 ⟨rfl, h⟩; have HE := Aside0.mk h; clear h))
  go_ret
  exact ⟨rfl, Below.then_ (below_alloc HQ.out _) HE.out (Nat.le_refl _)⟩
end Tab
end Go.Proofs.Ytgfjkpnaabiecaa
set_option linter.unusedVariables false
set_option linter.unusedSimpArgs false
namespace Go.Proofs.Ytgfjkpnaabiecaa
open Go.RowKit Go.Proofs.YtgfjkpnaabiecaaW.PrintWords
namespace Tab
open Tags
structure Wf (T : Tb) (n : Int) : Prop where
  rm : RoomOk T.room
  srt : Srt T.l
  tl : T.room.buckets = T.tok.length
  tk : TokOk T n
  ent : ∀ c ∈ T.l, EntOk c.e
  len : (T.l.length : Int) ≤ T.room.cells
  sz : ((szs T.l : Nat) : Int) ≤ T.room.bytes
  us : 0 ≤ T.uses ∧ T.uses ≤ n
  u1 : ∀ c ∈ T.l, 1 ≤ c.used ∧ c.used ≤ T.uses
  ow : Own1 T.l
namespace Wf
variable {T : Tb} {n m : Int}
theorem pos (h : Wf T n) : 0 ≤ n := by have := h.us; omega
theorem num (h : Wf T n) (hn : n ≤ 4000000000000000000) : Num T n := by
  obtain ⟨r1, r2, r3, r4, r5, r6⟩ := h.rm
  refine ⟨⟨h.pos, hn⟩, ⟨r5, by omega⟩, h.tl, h.tk, by have := h.len; omega, by have := h.sz; omega, fun c hc => ?_, h.us, fun c hc => (h.u1 c hc).1, h.ow⟩
  obtain ⟨e1, e2, e3, _⟩ := h.ent c hc
  exact ⟨by omega, by omega⟩
theorem mono (h : Wf T n) (hm : n ≤ m) : Wf T m := { h with tk := fun x hx => by have := h.tk x hx; omega, us := by have := h.us; omega }
theorem new_ {r : Room} (h : RoomOk r) : Wf (newT r) 1 := by
  obtain ⟨r1, r2, r3, r4, r5, r6⟩ := h
  refine ⟨⟨r1, r2, r3, r4, r5, r6⟩, List.Pairwise.nil, ?_, ?_, fun c hc => by simp [newT] at hc, by show (0 : Int) ≤ r.cells; omega, by show (0 : Int) ≤ r.bytes; omega, by show (0 : Int) ≤ 0 ∧ (0 : Int) ≤ 1; omega, fun c hc => by simp [newT] at hc, List.Pairwise.nil⟩
  · show r.buckets = ((List.replicate r.buckets.toNat _).length : Int)
    rw [List.length_replicate]; omega
  · intro x hx
    have : x = if r.fresh = true then 0 else 1 := (List.mem_replicate.1 hx).2
    rw [this]; split <;> omega
theorem lay_ (h : Wf T n) {c : Cell} (he : EntOk c.e) (hl : ((put T.l c).length : Int) ≤ T.room.cells) (hz : ((szs (put T.l c) : Nat) : Int) ≤ T.room.bytes) : Wf (lay T c) (n + 1) := by
  have hp := put_perm (l := T.l) (c := { c with used := T.uses + 1 }) h.srt
  have hs1 : szs (put T.l { c with used := T.uses + 1 }) = szs (put T.l c) := by rw [szs_put _ h.srt, szs_put _ h.srt]
  have hl1 : (put T.l { c with used := T.uses + 1 }).length = (put T.l c).length := by rw [len_put _ h.srt, len_put _ h.srt]
  have hu := h.us
  refine ⟨h.rm, srt_put h.srt, h.tl, fun x hx => by have := h.tk x hx; omega, fun x hx => ?_, by show ((put T.l _).length : Int) ≤ _; rw [hl1]; exact hl, by show ((szs (put T.l _) : Nat) : Int) ≤ _; rw [hs1]; exact hz, by show 0 ≤ T.uses + 1 ∧ T.uses + 1 ≤ n + 1; omega, fun x hx => ?_, ?_⟩
  · rcases (mem_put h.srt).1 hx with rfl | ⟨hx, _⟩
    · exact he
    · exact h.ent x hx
  · show 1 ≤ x.used ∧ x.used ≤ T.uses + 1
    rcases (mem_put h.srt).1 hx with rfl | ⟨hx, _⟩
    · dsimp only; omega
    · have := h.u1 x hx; omega
  · refine own1_perm ?_ hp.symm
    refine List.pairwise_cons.2 ⟨fun d hd => ?_, List.Pairwise.sublist List.filter_sublist h.ow⟩
    have := h.u1 d (mem_del.1 hd).1
    show T.uses + 1 ≠ d.used
    omega
theorem put_same {l : List Cell} (hs : Srt l) {c d : Cell} (hf : find l c.e.key = some c) (hd : d.e = c.e) : (put l d).length = l.length ∧ szs (put l d) = szs l := by
  refine ⟨?_, szs_same hs hf hd⟩
  rw [len_put _ hs, hd]
  have := (del_perm hs hf).length_eq
  rw [this, List.length_cons]
theorem lay_old (h : Wf T n) {c d : Cell} (hf : find T.l c.e.key = some c) (hd : d.e = c.e) : Wf (lay T d) (n + 1) := by
  obtain ⟨h1, h2⟩ := put_same h.srt hf hd
  exact h.lay_ (by rw [hd]; exact h.ent c (find_mem hf).1) (by rw [h1]; exact h.len) (by rw [h2]; exact h.sz)
theorem drop_ (h : Wf T n) (k : ByteArray) : Wf (drop T k) (n + 1) := by
  have hsub : List.Sublist (del T.l k) T.l := List.filter_sublist
  refine ⟨h.rm, srt_del k h.srt, by show T.room.buckets = ((bump T.tok (Hash.bkt k T.room.buckets).toNat).length : Int); rw [bump_len]; exact h.tl, tok_bump h.tk h.pos _, fun c hc => h.ent c (mem_del.1 hc).1, ?_, ?_, by show 0 ≤ T.uses ∧ T.uses ≤ n + 1; have := h.us; omega, fun c hc => h.u1 c (mem_del.1 hc).1, List.Pairwise.sublist hsub h.ow⟩
  · show ((del T.l k).length : Int) ≤ T.room.cells
    have := hsub.length_le; have := h.len; omega
  · show ((szs (del T.l k) : Nat) : Int) ≤ T.room.bytes
    have h1 : szs (del T.l k) ≤ szs T.l := szs_filter _ _
    have := h.sz; omega
theorem drops_ (h : Wf T n) (out : List ByteArray) : Wf (drops T out) (n + out.length) := by
  induction out generalizing T n with
  | nil => exact h.mono (by simp)
  | cons k r ih => exact (ih (h.drop_ k)).mono (by rw [List.length_cons]; omega)
theorem victF_fits (e : Entry) : ∀ (f : Nat) (T : Tb), T.l.length < f → Srt T.l → (victF f T e).2 = true → fits (drops T (victF f T e).1) e = true
  | 0, T, hl, _, _ => absurd hl (by omega)
  | f + 1, T, hl, hs, hv => by
    unfold victF at hv ⊢
    by_cases hf : fits T e = true
    · rw [if_pos hf]; exact hf
    · rw [if_neg hf] at hv ⊢
      cases hp : pick T.l e.key with
      | none => rw [hp] at hv; cases hv
      | some c =>
        rw [hp] at hv
        dsimp only at hv ⊢
        exact victF_fits e f (drop T c.e.key) (by have := len_drop hs (pick_mem hp).1; omega) (srt_drop _ hs) hv
theorem make_ (h : Wf T n) {e : Entry} (he : EntOk e) (h0 : makeE T e = 0) (x y : Bool) (u : Int) :
    Wf (makeT T e) (n + 4096) ∧ ((put (makeT T e).l ⟨e, x, y, u⟩).length : Int) ≤ (makeT T e).room.cells ∧ ((szs (put (makeT T e).l ⟨e, x, y, u⟩) : Nat) : Int) ≤ (makeT T e).room.bytes := by
  have hv : (vict T e).2 = true := by unfold makeE at h0; cases hb : (vict T e).2 <;> simp [hb] at h0 ⊢
  have hT : makeT T e = drops T (vict T e).1 := by unfold makeT; rw [if_pos hv]
  have hl := (vict_len (T := T) e h.srt).1
  have hlen := h.len
  have hrm := h.rm.2.1
  have hw : Wf (makeT T e) (n + 4096) := by rw [hT]; exact (h.drops_ _).mono (by omega)
  have hf := victF_fits e _ T (Nat.lt_succ_self _) h.srt hv
  rw [show victF (T.l.length + 1) T e = vict T e from rfl, ← hT] at hf
  have hf2 := fits_iff.1 hf
  unfold newL at hf2
  have hs := hw.srt
  refine ⟨hw, ?_, ?_⟩
  · rw [len_put _ hs]; rw [len_put _ hs] at hf2; exact hf2.1
  · rw [szs_put _ hs]; rw [szs_put _ hs] at hf2; exact hf2.2
theorem store_ (h : Wf T n) (e : Entry) : Wf (storeT T e) (n + 5000) := by
  unfold storeT
  split
  · rename_i ho
    split
    · rename_i c hc
      unfold storeOld at hc
      obtain ⟨d, hd, hc⟩ := Option.bind_eq_some_iff.1 hc
      split at hc
      · injection hc with hc
        subst hc
        exact (h.lay_old (c := d) (by rw [(find_mem hd).2]; exact hd) rfl).mono (by omega)
      · cases hc
    · split
      · rename_i h0
        obtain ⟨h1, h2, h3⟩ := h.make_ ho.1 h0 (wholeT T e.key) false 0
        exact (h1.lay_ ho.1 h2 h3).mono (by omega)
      · exact h.mono (by omega)
  · exact h.mono (by omega)
theorem fill_ (h : Wf T n) (e : Entry) (tk : Int) : Wf (fillT T e tk) (n + 5000) := by
  unfold fillT
  split
  · rename_i ho
    split
    · rename_i c hc
      unfold fillOld at hc
      obtain ⟨d, hd, hc⟩ := Option.bind_eq_some_iff.1 hc
      split at hc
      · injection hc with hc
        subst hc
        exact (h.lay_old (c := d) (d := { d with whole := true }) (by rw [(find_mem hd).2]; exact hd) rfl).mono (by omega)
      · cases hc
    · split
      · rename_i h0
        obtain ⟨h1, h2, h3⟩ := h.make_ ho.1 h0 true true 0
        exact (h1.lay_ ho.1 h2 h3).mono (by omega)
      · exact h.mono (by omega)
  · exact h.mono (by omega)
theorem query_ (h : Wf T n) (k : ByteArray) : Wf (queryT T k) (n + 5000) := by
  unfold queryT
  split
  · split
    · rename_i c hc
      exact (h.lay_old (c := c) (by rw [(find_mem hc).2]; exact hc) rfl).mono (by omega)
    · exact h.mono (by omega)
  · exact h.mono (by omega)
theorem evict_ (h : Wf T n) (k : ByteArray) : Wf (evictT T k) (n + 5000) := by
  unfold evictT
  split
  · exact (h.drop_ k).mono (by omega)
  · exact h.mono (by omega)
theorem forget_ (h : Wf T n) : Wf (forgetT T) (n + 5000) := by
  refine ⟨h.rm, srt_off h.srt, by show T.room.buckets = ((T.tok.map (· + 1)).length : Int); rw [List.length_map]; exact h.tl, fun x hx => ?_, fun c hc => ?_, by show ((T.l.map off).length : Int) ≤ _; rw [List.length_map]; exact h.len, by show ((szs (T.l.map off) : Nat) : Int) ≤ _; rw [szs_off]; exact h.sz, by show 0 ≤ T.uses ∧ T.uses ≤ n + 5000; have := h.us; omega, fun c hc => ?_, ?_⟩
  · obtain ⟨y, hy, rfl⟩ := List.mem_map.1 hx
    have := h.tk y hy; omega
  · obtain ⟨d, hd, rfl⟩ := List.mem_map.1 hc
    exact h.ent d hd
  · obtain ⟨d, hd, rfl⟩ := List.mem_map.1 hc
    exact h.u1 d hd
  · show Own1 (T.l.map off)
    unfold Own1
    rw [List.pairwise_map]
    exact h.ow
theorem clean_ (h : Wf T n) (k : ByteArray) (t : Tag) : Wf (cleanT T k t) n := by
  unfold cleanT
  split
  · rename_i c hc
    unfold cleanOn at hc
    obtain ⟨d, hd, hc⟩ := Option.bind_eq_some_iff.1 hc
    split at hc
    · cases hc
    · injection hc with hc
      subst hc
      have hf : find T.l d.e.key = some d := by rw [(find_mem hd).2]; exact hd
      obtain ⟨h1, h2⟩ := put_same (d := { d with clean := true }) h.srt hf rfl
      have hdm := (find_mem hd).1
      refine ⟨h.rm, srt_put h.srt, h.tl, h.tk, fun x hx => ?_, by show ((put T.l _).length : Int) ≤ _; rw [h1]; exact h.len, by show ((szs (put T.l _) : Nat) : Int) ≤ _; rw [h2]; exact h.sz, by show 0 ≤ T.uses ∧ T.uses ≤ n; have := h.us; omega, fun x hx => ?_, ?_⟩
      · rcases (mem_put h.srt).1 hx with rfl | ⟨hx, _⟩
        · exact h.ent d hdm
        · exact h.ent x hx
      · rcases (mem_put h.srt).1 hx with rfl | ⟨hx, _⟩
        · exact h.u1 d hdm
        · exact h.u1 x hx
      · refine own1_perm ?_ (put_perm h.srt).symm
        refine List.pairwise_cons.2 ⟨fun x hx => ?_, List.Pairwise.sublist List.filter_sublist h.ow⟩
        intro e
        have hx' := mem_del.1 hx
        have := own1_eq h.ow hdm hx'.1 e
        exact hx'.2 (by rw [← this])
  · exact h
end Wf
end Tab
end Go.Proofs.Ytgfjkpnaabiecaa
namespace Go.Proofs
open Go.Shelf
def Try.cloneI_ren : Go.Shelf.Ren := ⟨fun | 15 => 48 | n => n, fun | 22 => 64 | 3 => 3 | 4 => 4 | n => n, fun | n => n⟩
theorem Try.cloneI : Go.Proofs.Lays2.n15 Try.prog Try.cloneI_ren := {
  mixed := by kernel_rfl
  f15 := Try.func48.trans (congrArg some (by kernel_rfl))
  t3 := Try.underlying3
  a3 := Try.isAgg3
  z3 := Try.sizeOf3
  v3 := Try.zeroValue3
  t4 := Try.underlying4
  a4 := Try.isAgg4
  z4 := Try.sizeOf4
  v4 := Try.zeroValue4
  t22 := Try.underlying64
  a22 := Try.isAgg64
  z22 := Try.sizeOf64
  v22 := Try.zeroValue64
  i3 := by kernel_rfl }
end Go.Proofs
set_option linter.unusedVariables false
set_option linter.unusedSimpArgs false
namespace Go.Proofs.Ytgfjkpnaabiecaa
open Go.RowKit Go.Proofs.YtgfjkpnaabiecaaW.PrintWords
namespace Cmp
/-- True, and nothing that was there has turned. -/
def Yes (w : World) (e : Ending) (w' : World) : Prop := e = .returned (.bool true) ∧ Below w.heap.size w w'
set_option maxRecDepth 100000 in
theorem sameVal_refl (v : Val) (A B : Option Addr) (c d : Nat) (w : World) (ha : kU8.C w A v.b.length v.b) (hb : kU8.C w B v.b.length v.b) :
    Calls Try.prog 47 #[.agg #[.bool v.has, .slice A v.b.length c], .agg #[.bool v.has, .slice B v.b.length d]] w (Yes w) := by
  have HA := Aside0.mk ha
  have HB := Aside0.mk hb
  have hl : v.b.length ≤ 9223372036854775807 := ha.2.1
  obtain ⟨h, b⟩ := v
  dsimp only at *
  clear ha hb
  cases h with
  | false =>
    go_enter Try.func47, Try.ntmps47
    go_wp2
    go_ret
    exact ⟨rfl, below_alloc (below_alloc (Below.refl _ _) _) _⟩
  | true =>
    go_enter Try.func47, Try.ntmps47
    go_upto_region 8 with (fail)
    obtain ⟨W0, hW0⟩ : ∃ W, W = (w.alloc (.cells #[.bool true, .slice A b.length c] 35)).alloc (.cells #[.bool true, .slice B b.length d] 35) := ⟨_, rfl⟩
    rw [← hW0]
    have HW : Aside0 (Below w.heap.size w W0) := ⟨by rw [hW0]; exact below_alloc (below_alloc (Below.refl _ _) _) _⟩
    have hx : Blk W0 w.heap.size [.bool true, .slice A b.length c] := by rw [hW0]; exact (Blk.new_ w _ _ rfl rfl).alloc _
    have hy : Blk W0 (w.heap.size + 1) [.bool true, .slice B b.length d] := by rw [hW0]; exact Blk.new_ _ _ _ (by simp) rfl
    have HA : Aside0 (kU8.C W0 A b.length b) := ⟨Kd.C_below HA.out HW.out⟩
    have HB : Aside0 (kU8.C W0 B b.length b) := ⟨Kd.C_below HB.out HW.out⟩
    have x1 := hx.cell 1 rfl
    have y1 := hy.cell 1 rfl
    clear hx hy hW0
    go_loopg [5] b.length (fun gk v wr => ∃ k : Nat, v = .int .i64 (k : Int) ∧ k ≤ b.length ∧ Aside0 (gk + k = b.length) ∧ Aside0 (Below W0.heap.size W0 wr))
    case atStart => exact ⟨0, rfl, Nat.zero_le _, ⟨rfl⟩, ⟨Below.refl _ _⟩⟩
    case round =>
      obtain ⟨k, rfl, hk, HG, HR⟩ := hrel
      have x1 := pw_cell_below HR.out x1
      have y1 := pw_cell_below HR.out y1
      by_cases hlt : k < b.length
      · obtain ⟨a1, u, rfl, HU, z⟩ := Hash.u8_at (Kd.C_below HA.out HR.out) k hlt
        obtain ⟨a2, u', rfl, HU', z'⟩ := Hash.u8_at (Kd.C_below HB.out HR.out) k hlt
        obtain rfl : u' = u := Option.some.inj (HU'.out.symm.trans HU.out)
        have hltI : (k : Int) < (b.length : Int) := by omega
        go_upto_region 10 with (fail)
        go_quiet (fail)
        go_wp2
        go_roundg (b.length - (k + 1))
        case measure => have := HG.out; omega
        case rel => exact ⟨k + 1, by go_num, by omega, ⟨by omega⟩, ⟨pw_below_drewN HR.out _⟩⟩
      · obtain rfl : k = b.length := by omega
        go_wp2
        go_ret
        exact ⟨rfl, Below.then_ HW.out HR.out (Nat.le_refl _)⟩
theorem txt_refl (a : ByteArray) : (a.toList == a.toList) = true := by simp
set_option maxRecDepth 100000 in
theorem same_refl (e : Entry) (A B : Option Addr) (c d : Nat) (w : World) (ha : kU8.C w A e.val.b.length e.val.b) (hb : kU8.C w B e.val.b.length e.val.b) :
    Calls Try.prog 25 #[.agg #[.string e.key, .int .i64 e.tag.seq, .int .i64 e.tag.who, .int .i64 e.tag.op, .bool e.val.has, .slice A e.val.b.length c], .agg #[.string e.key, .int .i64 e.tag.seq, .int .i64 e.tag.who, .int .i64 e.tag.op, .bool e.val.has, .slice B e.val.b.length d]] w (Yes w) := by
  have HC := Aside0.mk (fun w' (hb' : Below w.heap.size w w') => sameVal_refl e.val A B c d w' (Kd.C_below ha hb') (Kd.C_below hb hb'))
  obtain ⟨k, ⟨s1, s2, s3⟩, ⟨h, b⟩⟩ := e
  dsimp only at *
  clear ha hb
  have hk := txt_refl k
  go_enter Try.func25, Try.ntmps25
  go_wp2_with (first | ((with_reducible refine (HC.out _ (below_alloc (below_alloc (Below.refl _ _) _) _)).mono ?_); rintro e w1 ⟨rfl, h1⟩; have H1 := Aside0.mk h1; clear h1))
  go_ret
  exact ⟨rfl, Below.then_ (below_alloc (below_alloc (Below.refl _ _) _) _) H1.out (Nat.le_refl _)⟩
set_option maxRecDepth 100000 in
theorem sameReply_refl (r : Reply) (A B : Option Addr) (c d : Nat) (w : World) (ha : kU8.C w A r.e.val.b.length r.e.val.b) (hb : kU8.C w B r.e.val.b.length r.e.val.b) :
    Calls Try.prog 26 #[.agg #[.string r.e.key, .int .i64 r.e.tag.seq, .int .i64 r.e.tag.who, .int .i64 r.e.tag.op, .bool r.e.val.has, .slice A r.e.val.b.length c, .bool r.whole, .int .i64 r.token], .agg #[.string r.e.key, .int .i64 r.e.tag.seq, .int .i64 r.e.tag.who, .int .i64 r.e.tag.op, .bool r.e.val.has, .slice B r.e.val.b.length d, .bool r.whole, .int .i64 r.token]] w (Yes w) := by
  have HC := Aside0.mk (fun w' (hb' : Below w.heap.size w w') => same_refl r.e A B c d w' (Kd.C_below ha hb') (Kd.C_below hb hb'))
  obtain ⟨⟨k, ⟨s1, s2, s3⟩, ⟨h, b⟩⟩, x, t⟩ := r
  dsimp only at *
  clear ha hb
  go_enter Try.func26, Try.ntmps26
  go_upto_region 1 with (fail)
  obtain ⟨W0, hW0⟩ : ∃ W, W = (w.alloc (.cells #[.string k, .int .i64 s1, .int .i64 s2, .int .i64 s3, .bool h, .slice A b.length c, .bool x, .int .i64 t] 52)).alloc (.cells #[.string k, .int .i64 s1, .int .i64 s2, .int .i64 s3, .bool h, .slice B b.length d, .bool x, .int .i64 t] 52) := ⟨_, rfl⟩
  rw [← hW0]
  have HW : Aside0 (Below w.heap.size w W0) := ⟨by rw [hW0]; exact below_alloc (below_alloc (Below.refl _ _) _) _⟩
  have hx : Blk W0 w.heap.size [.string k, .int .i64 s1, .int .i64 s2, .int .i64 s3, .bool h, .slice A b.length c, .bool x, .int .i64 t] := by rw [hW0]; exact (Blk.new_ w _ _ rfl rfl).alloc _
  have hy : Blk W0 (w.heap.size + 1) [.string k, .int .i64 s1, .int .i64 s2, .int .i64 s3, .bool h, .slice B b.length d, .bool x, .int .i64 t] := by rw [hW0]; exact Blk.new_ _ _ _ (by simp) rfl
  have HXY := Aside0.mk (And.intro hx hy)
  obtain ⟨⟨x0, x1, x2, x3, x4, x5, x6, x7⟩, _⟩ := hx.eight
  obtain ⟨⟨y0, y1, y2, y3, y4, y5, y6, y7⟩, _⟩ := hy.eight
  clear hx hy hW0
  go_wp2_with (first | ((with_reducible refine (HC.out _ HW.out).mono ?_); rintro e w1 ⟨rfl, h1⟩; have H1 := Aside0.mk h1; obtain ⟨⟨_, _, _, _, _, _, x6, x7⟩, _⟩ := (HXY.out.1.on h1).eight; obtain ⟨⟨_, _, _, _, _, _, y6, y7⟩, _⟩ := (HXY.out.2.on h1).eight; clear h1))
  go_ret
  exact ⟨rfl, Below.then_ HW.out H1.out (Nat.le_refl _)⟩
end Cmp
end Go.Proofs.Ytgfjkpnaabiecaa
set_option linter.unusedVariables false
set_option linter.unusedSimpArgs false
namespace Go.Proofs.Ytgfjkpnaabiecaa
open Go.RowKit Go.Proofs.YtgfjkpnaabiecaaW.PrintWords
namespace Cmp
set_option maxRecDepth 100000 in
set_option maxHeartbeats 1000000 in
theorem sameCells_refl (l : List Cell) (A B : Option Addr) (c d : Nat) (w : World) (ha : Cell.k.C w A l.length l) (hb : Cell.k.C w B l.length l) :
    Calls Try.prog 23 #[.slice A l.length c, .slice B l.length d] w (Yes w) := by
  have HA := Aside0.mk ha
  have HB := Aside0.mk hb
  have hl : l.length ≤ 9223372036854775807 := ha.2.1
  clear ha hb
  go_enter Try.func23, Try.ntmps23
  go_wp2
  go_loopg [5] l.length (fun gk v wr => ∃ k : Nat, v = .int .i64 (k : Int) ∧ k ≤ l.length ∧ Aside0 (gk + k = l.length) ∧ Aside0 (Below w.heap.size w wr))
  case atStart => exact ⟨0, rfl, Nat.zero_le _, ⟨rfl⟩, ⟨Below.refl _ _⟩⟩
  case round =>
    obtain ⟨k, rfl, hk, HG, HR⟩ := hrel
    by_cases hlt : k < l.length
    · obtain ⟨a1, u, A5, c5, rfl, HU, x0, x1, x2, x3, x4, x5, x6, x7, x8, HK⟩ := Cell.at_ (Kd.C_below HA.out HR.out) k hlt
      obtain ⟨a2, u', B5, d5, rfl, HU', y0, y1, y2, y3, y4, y5, y6, y7, y8, HK'⟩ := Cell.at_ (Kd.C_below HB.out HR.out) k hlt
      obtain rfl : u' = u := Option.some.inj (HU'.out.symm.trans HU.out)
      have hltI : (k : Int) < (l.length : Int) := by omega
      have HSM : Aside0 (∀ w', Below wr.heap.size wr w' → Calls Try.prog 25 #[.agg #[.string u'.e.key, .int .i64 u'.e.tag.seq, .int .i64 u'.e.tag.who, .int .i64 u'.e.tag.op, .bool u'.e.val.has, .slice A5 u'.e.val.b.length c5], .agg #[.string u'.e.key, .int .i64 u'.e.tag.seq, .int .i64 u'.e.tag.who, .int .i64 u'.e.tag.op, .bool u'.e.val.has, .slice B5 u'.e.val.b.length d5]] w' (Yes w')) := ⟨fun w' hb => by
        obtain ⟨A6, c6, he, _, _, _, _, _, g5, _⟩ := Cell.open_ HK.out
        obtain ⟨B6, d6, he', _, _, _, _, _, g5', _⟩ := Cell.open_ HK'.out
        simp only [List.cons.injEq, Value.slice.injEq, true_and, and_true] at he he'
        obtain ⟨rfl, rfl⟩ := he
        obtain ⟨rfl, rfl⟩ := he'
        exact same_refl u'.e A5 B5 c5 d5 w' (Kd.C_below g5 hb) (Kd.C_below g5' hb)⟩
      obtain ⟨⟨uk, ⟨t1, t2, t3⟩, ⟨uh, ub⟩⟩, uw, uc, uu⟩ := u'
      dsimp only at x0 x1 x2 x3 x4 x5 x6 x7 x8 y0 y1 y2 y3 y4 y5 y6 y7 y8 HSM
      have x0 := fun w' (h : Below wr.heap.size wr w') => pw_cell_below h x0
      have x1 := fun w' (h : Below wr.heap.size wr w') => pw_cell_below h x1
      have x2 := fun w' (h : Below wr.heap.size wr w') => pw_cell_below h x2
      have x3 := fun w' (h : Below wr.heap.size wr w') => pw_cell_below h x3
      have x4 := fun w' (h : Below wr.heap.size wr w') => pw_cell_below h x4
      have x5 := fun w' (h : Below wr.heap.size wr w') => pw_cell_below h x5
      have x6 := fun w' (h : Below wr.heap.size wr w') => pw_cell_below h x6
      have x7 := fun w' (h : Below wr.heap.size wr w') => pw_cell_below h x7
      have x8 := fun w' (h : Below wr.heap.size wr w') => pw_cell_below h x8
      have y0 := fun w' (h : Below wr.heap.size wr w') => pw_cell_below h y0
      have y1 := fun w' (h : Below wr.heap.size wr w') => pw_cell_below h y1
      have y2 := fun w' (h : Below wr.heap.size wr w') => pw_cell_below h y2
      have y3 := fun w' (h : Below wr.heap.size wr w') => pw_cell_below h y3
      have y4 := fun w' (h : Below wr.heap.size wr w') => pw_cell_below h y4
      have y5 := fun w' (h : Below wr.heap.size wr w') => pw_cell_below h y5
      have y6 := fun w' (h : Below wr.heap.size wr w') => pw_cell_below h y6
      have y7 := fun w' (h : Below wr.heap.size wr w') => pw_cell_below h y7
      have y8 := fun w' (h : Below wr.heap.size wr w') => pw_cell_below h y8
      go_upto_region 6 with (fail)
      refine wp_region_noPanic ?_
      refine wp_region_held_drew (S := Below wr.heap.size wr) (by kernel_rfl) (below_drew (Below.refl _ _)) (fun hHeld => ?_)
      (refine takeH 0 17 (v := ?_) rfl rfl (by kernel_rfl) (by kernel_rfl) (by kernel_rfl) (fun _ _ _ h => h) hHeld rfl ?_ ?_; rotate_left; (focus (intro w' hSw; go_simp; try with_reducible rfl)))
      (try simp only [Act.put, List.setIfInBounds_toArray, List.set_cons_zero, List.set_cons_succ])
      (refine takeH 1 18 (v := ?_) rfl rfl (by kernel_rfl) (by kernel_rfl) (by kernel_rfl) (fun _ _ _ h => h) hHeld rfl ?_ ?_; rotate_left; (focus (intro w' hSw; go_simp; try with_reducible rfl)))
      (try simp only [Act.put, List.setIfInBounds_toArray, List.set_cons_zero, List.set_cons_succ])
      (refine takeH 2 19 (v := ?_) rfl rfl (by kernel_rfl) (by kernel_rfl) (by kernel_rfl) (fun _ _ _ h => h) hHeld rfl ?_ ?_; rotate_left; (focus (intro w' hSw; go_simp; try with_reducible rfl)))
      (try simp only [Act.put, List.setIfInBounds_toArray, List.set_cons_zero, List.set_cons_succ])
      (refine takeH 3 20 (v := ?_) rfl rfl (by kernel_rfl) (by kernel_rfl) (by kernel_rfl) (fun _ _ _ h => h) hHeld rfl ?_ ?_; rotate_left; (focus (intro w' hSw; go_simp; try with_reducible rfl)))
      (try simp only [Act.put, List.setIfInBounds_toArray, List.set_cons_zero, List.set_cons_succ])
      (refine takeH 4 21 (v := ?_) rfl rfl (by kernel_rfl) (by kernel_rfl) (by kernel_rfl) (fun _ _ _ h => h) hHeld rfl ?_ ?_; rotate_left; (focus (intro w' hSw; go_simp; try with_reducible rfl)))
      (try simp only [Act.put, List.setIfInBounds_toArray, List.set_cons_zero, List.set_cons_succ])
      (refine takeH 5 22 (v := ?_) rfl rfl (by kernel_rfl) (by kernel_rfl) (by kernel_rfl) (fun _ _ _ h => h) hHeld rfl ?_ ?_; rotate_left; (focus (intro w' hSw; go_simp; try with_reducible rfl)))
      (try simp only [Act.put, List.setIfInBounds_toArray, List.set_cons_zero, List.set_cons_succ])
      (refine takeH 6 23 (v := ?_) rfl rfl (by kernel_rfl) (by kernel_rfl) (by kernel_rfl) (fun _ _ _ h => h) hHeld rfl ?_ ?_; rotate_left; (focus (intro w' hSw; go_simp; try with_reducible rfl)))
      (try simp only [Act.put, List.setIfInBounds_toArray, List.set_cons_zero, List.set_cons_succ])
      (refine takeH 7 24 (v := ?_) rfl rfl (by kernel_rfl) (by kernel_rfl) (by kernel_rfl) (fun _ _ _ h => h) hHeld rfl ?_ ?_; rotate_left; (focus (intro w' hSw; go_simp; try with_reducible rfl)))
      (try simp only [Act.put, List.setIfInBounds_toArray, List.set_cons_zero, List.set_cons_succ])
      (refine takeH 8 25 (v := ?_) rfl rfl (by kernel_rfl) (by kernel_rfl) (by kernel_rfl) (fun _ _ _ h => h) hHeld rfl ?_ ?_; rotate_left; (focus (intro w' hSw; go_simp; try with_reducible rfl)))
      (try simp only [Act.put, List.setIfInBounds_toArray, List.set_cons_zero, List.set_cons_succ])
      (refine takeH 9 26 (v := ?_) rfl rfl (by kernel_rfl) (by kernel_rfl) (by kernel_rfl) (fun _ _ _ h => h) hHeld rfl ?_ ?_; rotate_left; (focus (intro w' hSw; go_simp; try with_reducible rfl)))
      (try simp only [Act.put, List.setIfInBounds_toArray, List.set_cons_zero, List.set_cons_succ])
      refine wpAnyH_ready (rs := [10]) (by kernel_rfl) (by simp) ?_
      refine AllReadyH.cons rfl (fun K hK => ?_) AllReadyH.nil
      go_simp
      refine (HSM.out _ (below_drew (Below.refl _ _))).mono ?_
      rintro e w1 ⟨rfl, h1⟩
      have H1 := Aside0.mk (Below.then_ (below_drew (Below.refl wr.heap.size wr)) h1 (Nat.le_refl _))
      clear h1
      refine hK.out _ _ (H1.out) (fun hHeld => ?_)
      clear hK K
      (try simp only [Act.put, List.setIfInBounds_toArray, List.set_cons_zero, List.set_cons_succ])
      (refine takeH 11 28 (v := ?_) rfl rfl (by kernel_rfl) (by kernel_rfl) (by kernel_rfl) (fun _ _ _ h => h) hHeld rfl ?_ ?_; rotate_left; (focus (intro w' hSw; go_simp; try with_reducible rfl)))
      (try simp only [Act.put, List.setIfInBounds_toArray, List.set_cons_zero, List.set_cons_succ])
      (refine takeH 12 29 (v := ?_) rfl rfl (by kernel_rfl) (by kernel_rfl) (by kernel_rfl) (fun _ _ _ h => h) hHeld rfl ?_ ?_; rotate_left; (focus (intro w' hSw; go_simp; try with_reducible rfl)))
      (try simp only [Act.put, List.setIfInBounds_toArray, List.set_cons_zero, List.set_cons_succ])
      (first | (refine skipH 13 30 rfl rfl (by kernel_rfl) (by kernel_rfl) (by kernel_rfl) (fun _ _ _ h => h) hHeld rfl ?_) | (refine takeH 13 30 (v := ?_) rfl rfl (by kernel_rfl) (by kernel_rfl) (by kernel_rfl) (fun _ _ _ h => h) hHeld rfl ?_ ?_; rotate_left; (focus (intro w' hSw; go_simp; try with_reducible rfl))))
      (try simp only [Act.put, List.setIfInBounds_toArray, List.set_cons_zero, List.set_cons_succ])
      (first | (refine skipH 14 31 rfl rfl (by kernel_rfl) (by kernel_rfl) (by kernel_rfl) (fun _ _ _ h => h) hHeld rfl ?_) | (refine takeH 14 31 (v := ?_) rfl rfl (by kernel_rfl) (by kernel_rfl) (by kernel_rfl) (fun _ _ _ h => h) hHeld rfl ?_ ?_; rotate_left; (focus (intro w' hSw; go_simp; try with_reducible rfl))))
      (try simp only [Act.put, List.setIfInBounds_toArray, List.set_cons_zero, List.set_cons_succ])
      (first | (refine skipH 15 32 rfl rfl (by kernel_rfl) (by kernel_rfl) (by kernel_rfl) (fun _ _ _ h => h) hHeld rfl ?_) | (refine takeH 15 32 (v := ?_) rfl rfl (by kernel_rfl) (by kernel_rfl) (by kernel_rfl) (fun _ _ _ h => h) hHeld rfl ?_ ?_; rotate_left; (focus (intro w' hSw; go_simp; try with_reducible rfl))))
      (try simp only [Act.put, List.setIfInBounds_toArray, List.set_cons_zero, List.set_cons_succ])
      (first | (refine skipH 16 33 rfl rfl (by kernel_rfl) (by kernel_rfl) (by kernel_rfl) (fun _ _ _ h => h) hHeld rfl ?_) | (refine takeH 16 33 (v := ?_) rfl rfl (by kernel_rfl) (by kernel_rfl) (by kernel_rfl) (fun _ _ _ h => h) hHeld rfl ?_ ?_; rotate_left; (focus (intro w' hSw; go_simp; try with_reducible rfl))))
      (try simp only [Act.put, List.setIfInBounds_toArray, List.set_cons_zero, List.set_cons_succ])
      (first | (refine skipH 17 34 rfl rfl (by kernel_rfl) (by kernel_rfl) (by kernel_rfl) (fun _ _ _ h => h) hHeld rfl ?_) | (refine takeH 17 34 (v := ?_) rfl rfl (by kernel_rfl) (by kernel_rfl) (by kernel_rfl) (fun _ _ _ h => h) hHeld rfl ?_ ?_; rotate_left; (focus (intro w' hSw; go_simp; try with_reducible rfl))))
      (try simp only [Act.put, List.setIfInBounds_toArray, List.set_cons_zero, List.set_cons_succ])
      (first | (refine skipH 18 35 rfl rfl (by kernel_rfl) (by kernel_rfl) (by kernel_rfl) (fun _ _ _ h => h) hHeld rfl ?_) | (refine takeH 18 35 (v := ?_) rfl rfl (by kernel_rfl) (by kernel_rfl) (by kernel_rfl) (fun _ _ _ h => h) hHeld rfl ?_ ?_; rotate_left; (focus (intro w' hSw; go_simp; try with_reducible rfl))))
      (try simp only [Act.put, List.setIfInBounds_toArray, List.set_cons_zero, List.set_cons_succ])
      (first | (refine skipH 19 36 rfl rfl (by kernel_rfl) (by kernel_rfl) (by kernel_rfl) (fun _ _ _ h => h) hHeld rfl ?_) | (refine takeH 19 36 (v := ?_) rfl rfl (by kernel_rfl) (by kernel_rfl) (by kernel_rfl) (fun _ _ _ h => h) hHeld rfl ?_ ?_; rotate_left; (focus (intro w' hSw; go_simp; try with_reducible rfl))))
      (try simp only [Act.put, List.setIfInBounds_toArray, List.set_cons_zero, List.set_cons_succ])
      (first | (refine skipH 20 37 rfl rfl (by kernel_rfl) (by kernel_rfl) (by kernel_rfl) (fun _ _ _ h => h) hHeld rfl ?_) | (refine takeH 20 37 (v := ?_) rfl rfl (by kernel_rfl) (by kernel_rfl) (by kernel_rfl) (fun _ _ _ h => h) hHeld rfl ?_ ?_; rotate_left; (focus (intro w' hSw; go_simp; try with_reducible rfl))))
      (try simp only [Act.put, List.setIfInBounds_toArray, List.set_cons_zero, List.set_cons_succ])
      (first | (refine skipH 21 38 rfl rfl (by kernel_rfl) (by kernel_rfl) (by kernel_rfl) (fun _ _ _ h => h) hHeld rfl ?_) | (refine takeH 21 38 (v := ?_) rfl rfl (by kernel_rfl) (by kernel_rfl) (by kernel_rfl) (fun _ _ _ h => h) hHeld rfl ?_ ?_; rotate_left; (focus (intro w' hSw; go_simp; try with_reducible rfl))))
      (try simp only [Act.put, List.setIfInBounds_toArray, List.set_cons_zero, List.set_cons_succ])
      (first | (refine skipH 22 39 rfl rfl (by kernel_rfl) (by kernel_rfl) (by kernel_rfl) (fun _ _ _ h => h) hHeld rfl ?_) | (refine takeH 22 39 (v := ?_) rfl rfl (by kernel_rfl) (by kernel_rfl) (by kernel_rfl) (fun _ _ _ h => h) hHeld rfl ?_ ?_; rotate_left; (focus (intro w' hSw; go_simp; try with_reducible rfl))))
      (try simp only [Act.put, List.setIfInBounds_toArray, List.set_cons_zero, List.set_cons_succ])
      (first | (refine skipH 23 40 rfl rfl (by kernel_rfl) (by kernel_rfl) (by kernel_rfl) (fun _ _ _ h => h) hHeld rfl ?_) | (refine takeH 23 40 (v := ?_) rfl rfl (by kernel_rfl) (by kernel_rfl) (by kernel_rfl) (fun _ _ _ h => h) hHeld rfl ?_ ?_; rotate_left; (focus (intro w' hSw; go_simp; try with_reducible rfl))))
      (try simp only [Act.put, List.setIfInBounds_toArray, List.set_cons_zero, List.set_cons_succ])
      (refine takeH 24 41 (v := ?_) rfl rfl (by kernel_rfl) (by kernel_rfl) (by kernel_rfl) (fun _ _ _ h => h) hHeld rfl ?_ ?_; rotate_left; (focus (intro w' hSw; go_simp; try with_reducible rfl)))
      (try simp only [Act.put, List.setIfInBounds_toArray, List.set_cons_zero, List.set_cons_succ])
      (refine takeH 25 42 (v := ?_) rfl rfl (by kernel_rfl) (by kernel_rfl) (by kernel_rfl) (fun _ _ _ h => h) hHeld rfl ?_ ?_; rotate_left; (focus (intro w' hSw; go_simp; try with_reducible rfl)))
      (try simp only [Act.put, List.setIfInBounds_toArray, List.set_cons_zero, List.set_cons_succ])
      (first | (refine skipH 26 43 rfl rfl (by kernel_rfl) (by kernel_rfl) (by kernel_rfl) (fun _ _ _ h => h) hHeld rfl ?_) | (refine takeH 26 43 (v := ?_) rfl rfl (by kernel_rfl) (by kernel_rfl) (by kernel_rfl) (fun _ _ _ h => h) hHeld rfl ?_ ?_; rotate_left; (focus (intro w' hSw; go_simp; try with_reducible rfl))))
      (try simp only [Act.put, List.setIfInBounds_toArray, List.set_cons_zero, List.set_cons_succ])
      (first | (refine skipH 27 44 rfl rfl (by kernel_rfl) (by kernel_rfl) (by kernel_rfl) (fun _ _ _ h => h) hHeld rfl ?_) | (refine takeH 27 44 (v := ?_) rfl rfl (by kernel_rfl) (by kernel_rfl) (by kernel_rfl) (fun _ _ _ h => h) hHeld rfl ?_ ?_; rotate_left; (focus (intro w' hSw; go_simp; try with_reducible rfl))))
      (try simp only [Act.put, List.setIfInBounds_toArray, List.set_cons_zero, List.set_cons_succ])
      (first | (refine skipH 28 45 rfl rfl (by kernel_rfl) (by kernel_rfl) (by kernel_rfl) (fun _ _ _ h => h) hHeld rfl ?_) | (refine takeH 28 45 (v := ?_) rfl rfl (by kernel_rfl) (by kernel_rfl) (by kernel_rfl) (fun _ _ _ h => h) hHeld rfl ?_ ?_; rotate_left; (focus (intro w' hSw; go_simp; try with_reducible rfl))))
      (try simp only [Act.put, List.setIfInBounds_toArray, List.set_cons_zero, List.set_cons_succ])
      (first | (refine skipH 29 46 rfl rfl (by kernel_rfl) (by kernel_rfl) (by kernel_rfl) (fun _ _ _ h => h) hHeld rfl ?_) | (refine takeH 29 46 (v := ?_) rfl rfl (by kernel_rfl) (by kernel_rfl) (by kernel_rfl) (fun _ _ _ h => h) hHeld rfl ?_ ?_; rotate_left; (focus (intro w' hSw; go_simp; try with_reducible rfl))))
      (try simp only [Act.put, List.setIfInBounds_toArray, List.set_cons_zero, List.set_cons_succ])
      (first | (refine skipH 30 47 rfl rfl (by kernel_rfl) (by kernel_rfl) (by kernel_rfl) (fun _ _ _ h => h) hHeld rfl ?_) | (refine takeH 30 47 (v := ?_) rfl rfl (by kernel_rfl) (by kernel_rfl) (by kernel_rfl) (fun _ _ _ h => h) hHeld rfl ?_ ?_; rotate_left; (focus (intro w' hSw; go_simp; try with_reducible rfl))))
      (try simp only [Act.put, List.setIfInBounds_toArray, List.set_cons_zero, List.set_cons_succ])
      (first | (refine skipH 31 48 rfl rfl (by kernel_rfl) (by kernel_rfl) (by kernel_rfl) (fun _ _ _ h => h) hHeld rfl ?_) | (refine takeH 31 48 (v := ?_) rfl rfl (by kernel_rfl) (by kernel_rfl) (by kernel_rfl) (fun _ _ _ h => h) hHeld rfl ?_ ?_; rotate_left; (focus (intro w' hSw; go_simp; try with_reducible rfl))))
      (try simp only [Act.put, List.setIfInBounds_toArray, List.set_cons_zero, List.set_cons_succ])
      (first | (refine skipH 32 49 rfl rfl (by kernel_rfl) (by kernel_rfl) (by kernel_rfl) (fun _ _ _ h => h) hHeld rfl ?_) | (refine takeH 32 49 (v := ?_) rfl rfl (by kernel_rfl) (by kernel_rfl) (by kernel_rfl) (fun _ _ _ h => h) hHeld rfl ?_ ?_; rotate_left; (focus (intro w' hSw; go_simp; try with_reducible rfl))))
      (try simp only [Act.put, List.setIfInBounds_toArray, List.set_cons_zero, List.set_cons_succ])
      (first | (refine skipH 33 50 rfl rfl (by kernel_rfl) (by kernel_rfl) (by kernel_rfl) (fun _ _ _ h => h) hHeld rfl ?_) | (refine takeH 33 50 (v := ?_) rfl rfl (by kernel_rfl) (by kernel_rfl) (by kernel_rfl) (fun _ _ _ h => h) hHeld rfl ?_ ?_; rotate_left; (focus (intro w' hSw; go_simp; try with_reducible rfl))))
      (try simp only [Act.put, List.setIfInBounds_toArray, List.set_cons_zero, List.set_cons_succ])
      (first | (refine skipH 34 51 rfl rfl (by kernel_rfl) (by kernel_rfl) (by kernel_rfl) (fun _ _ _ h => h) hHeld rfl ?_) | (refine takeH 34 51 (v := ?_) rfl rfl (by kernel_rfl) (by kernel_rfl) (by kernel_rfl) (fun _ _ _ h => h) hHeld rfl ?_ ?_; rotate_left; (focus (intro w' hSw; go_simp; try with_reducible rfl))))
      (try simp only [Act.put, List.setIfInBounds_toArray, List.set_cons_zero, List.set_cons_succ])
      (first | (refine skipH 35 52 rfl rfl (by kernel_rfl) (by kernel_rfl) (by kernel_rfl) (fun _ _ _ h => h) hHeld rfl ?_) | (refine takeH 35 52 (v := ?_) rfl rfl (by kernel_rfl) (by kernel_rfl) (by kernel_rfl) (fun _ _ _ h => h) hHeld rfl ?_ ?_; rotate_left; (focus (intro w' hSw; go_simp; try with_reducible rfl))))
      (try simp only [Act.put, List.setIfInBounds_toArray, List.set_cons_zero, List.set_cons_succ])
      (first | (refine skipH 36 53 rfl rfl (by kernel_rfl) (by kernel_rfl) (by kernel_rfl) (fun _ _ _ h => h) hHeld rfl ?_) | (refine takeH 36 53 (v := ?_) rfl rfl (by kernel_rfl) (by kernel_rfl) (by kernel_rfl) (fun _ _ _ h => h) hHeld rfl ?_ ?_; rotate_left; (focus (intro w' hSw; go_simp; try with_reducible rfl))))
      (try simp only [Act.put, List.setIfInBounds_toArray, List.set_cons_zero, List.set_cons_succ])
      (refine takeH 37 54 (v := ?_) rfl rfl (by kernel_rfl) (by kernel_rfl) (by kernel_rfl) (fun _ _ _ h => h) hHeld rfl ?_ ?_; rotate_left; (focus (intro w' hSw; go_simp; try with_reducible rfl)))
      (try simp only [Act.put, List.setIfInBounds_toArray, List.set_cons_zero, List.set_cons_succ])
      (refine takeH 38 55 (v := ?_) rfl rfl (by kernel_rfl) (by kernel_rfl) (by kernel_rfl) (fun _ _ _ h => h) hHeld rfl ?_ ?_; rotate_left; (focus (intro w' hSw; go_simp; try with_reducible rfl)))
      (try simp only [Act.put, List.setIfInBounds_toArray, List.set_cons_zero, List.set_cons_succ])
      (first | (refine skipH 39 56 rfl rfl (by kernel_rfl) (by kernel_rfl) (by kernel_rfl) (fun _ _ _ h => h) hHeld rfl ?_) | (refine takeH 39 56 (v := ?_) rfl rfl (by kernel_rfl) (by kernel_rfl) (by kernel_rfl) (fun _ _ _ h => h) hHeld rfl ?_ ?_; rotate_left; (focus (intro w' hSw; go_simp; try with_reducible rfl))))
      (try simp only [Act.put, List.setIfInBounds_toArray, List.set_cons_zero, List.set_cons_succ])
      (first | (refine skipH 40 57 rfl rfl (by kernel_rfl) (by kernel_rfl) (by kernel_rfl) (fun _ _ _ h => h) hHeld rfl ?_) | (refine takeH 40 57 (v := ?_) rfl rfl (by kernel_rfl) (by kernel_rfl) (by kernel_rfl) (fun _ _ _ h => h) hHeld rfl ?_ ?_; rotate_left; (focus (intro w' hSw; go_simp; try with_reducible rfl))))
      (try simp only [Act.put, List.setIfInBounds_toArray, List.set_cons_zero, List.set_cons_succ])
      (first | (refine skipH 41 58 rfl rfl (by kernel_rfl) (by kernel_rfl) (by kernel_rfl) (fun _ _ _ h => h) hHeld rfl ?_) | (refine takeH 41 58 (v := ?_) rfl rfl (by kernel_rfl) (by kernel_rfl) (by kernel_rfl) (fun _ _ _ h => h) hHeld rfl ?_ ?_; rotate_left; (focus (intro w' hSw; go_simp; try with_reducible rfl))))
      (try simp only [Act.put, List.setIfInBounds_toArray, List.set_cons_zero, List.set_cons_succ])
      (first | (refine skipH 42 59 rfl rfl (by kernel_rfl) (by kernel_rfl) (by kernel_rfl) (fun _ _ _ h => h) hHeld rfl ?_) | (refine takeH 42 59 (v := ?_) rfl rfl (by kernel_rfl) (by kernel_rfl) (by kernel_rfl) (fun _ _ _ h => h) hHeld rfl ?_ ?_; rotate_left; (focus (intro w' hSw; go_simp; try with_reducible rfl))))
      (try simp only [Act.put, List.setIfInBounds_toArray, List.set_cons_zero, List.set_cons_succ])
      (first | (refine skipH 43 60 rfl rfl (by kernel_rfl) (by kernel_rfl) (by kernel_rfl) (fun _ _ _ h => h) hHeld rfl ?_) | (refine takeH 43 60 (v := ?_) rfl rfl (by kernel_rfl) (by kernel_rfl) (by kernel_rfl) (fun _ _ _ h => h) hHeld rfl ?_ ?_; rotate_left; (focus (intro w' hSw; go_simp; try with_reducible rfl))))
      (try simp only [Act.put, List.setIfInBounds_toArray, List.set_cons_zero, List.set_cons_succ])
      (first | (refine skipH 44 61 rfl rfl (by kernel_rfl) (by kernel_rfl) (by kernel_rfl) (fun _ _ _ h => h) hHeld rfl ?_) | (refine takeH 44 61 (v := ?_) rfl rfl (by kernel_rfl) (by kernel_rfl) (by kernel_rfl) (fun _ _ _ h => h) hHeld rfl ?_ ?_; rotate_left; (focus (intro w' hSw; go_simp; try with_reducible rfl))))
      (try simp only [Act.put, List.setIfInBounds_toArray, List.set_cons_zero, List.set_cons_succ])
      (first | (refine skipH 45 62 rfl rfl (by kernel_rfl) (by kernel_rfl) (by kernel_rfl) (fun _ _ _ h => h) hHeld rfl ?_) | (refine takeH 45 62 (v := ?_) rfl rfl (by kernel_rfl) (by kernel_rfl) (by kernel_rfl) (fun _ _ _ h => h) hHeld rfl ?_ ?_; rotate_left; (focus (intro w' hSw; go_simp; try with_reducible rfl))))
      (try simp only [Act.put, List.setIfInBounds_toArray, List.set_cons_zero, List.set_cons_succ])
      (first | (refine skipH 46 63 rfl rfl (by kernel_rfl) (by kernel_rfl) (by kernel_rfl) (fun _ _ _ h => h) hHeld rfl ?_) | (refine takeH 46 63 (v := ?_) rfl rfl (by kernel_rfl) (by kernel_rfl) (by kernel_rfl) (fun _ _ _ h => h) hHeld rfl ?_ ?_; rotate_left; (focus (intro w' hSw; go_simp; try with_reducible rfl))))
      (try simp only [Act.put, List.setIfInBounds_toArray, List.set_cons_zero, List.set_cons_succ])
      (first | (refine skipH 47 64 rfl rfl (by kernel_rfl) (by kernel_rfl) (by kernel_rfl) (fun _ _ _ h => h) hHeld rfl ?_) | (refine takeH 47 64 (v := ?_) rfl rfl (by kernel_rfl) (by kernel_rfl) (by kernel_rfl) (fun _ _ _ h => h) hHeld rfl ?_ ?_; rotate_left; (focus (intro w' hSw; go_simp; try with_reducible rfl))))
      (try simp only [Act.put, List.setIfInBounds_toArray, List.set_cons_zero, List.set_cons_succ])
      (first | (refine skipH 48 65 rfl rfl (by kernel_rfl) (by kernel_rfl) (by kernel_rfl) (fun _ _ _ h => h) hHeld rfl ?_) | (refine takeH 48 65 (v := ?_) rfl rfl (by kernel_rfl) (by kernel_rfl) (by kernel_rfl) (fun _ _ _ h => h) hHeld rfl ?_ ?_; rotate_left; (focus (intro w' hSw; go_simp; try with_reducible rfl))))
      (try simp only [Act.put, List.setIfInBounds_toArray, List.set_cons_zero, List.set_cons_succ])
      (first | (refine skipH 49 66 rfl rfl (by kernel_rfl) (by kernel_rfl) (by kernel_rfl) (fun _ _ _ h => h) hHeld rfl ?_) | (refine takeH 49 66 (v := ?_) rfl rfl (by kernel_rfl) (by kernel_rfl) (by kernel_rfl) (fun _ _ _ h => h) hHeld rfl ?_ ?_; rotate_left; (focus (intro w' hSw; go_simp; try with_reducible rfl))))
      (try simp only [Act.put, List.setIfInBounds_toArray, List.set_cons_zero, List.set_cons_succ])
      (refine takeH 50 67 (v := ?_) rfl rfl (by kernel_rfl) (by kernel_rfl) (by kernel_rfl) (fun _ _ _ h => h) hHeld rfl ?_ ?_; rotate_left; (focus (intro w' hSw; go_simp; try with_reducible rfl)))
      (try simp only [Act.put, List.setIfInBounds_toArray, List.set_cons_zero, List.set_cons_succ])
      refine wpAnyH_done (by kernel_rfl) ?_ _
      refine NoPanic.normal ?_
      go_wp2
      go_roundg (l.length - (k + 1))
      case measure => have := HG.out; omega
      case rel => exact ⟨k + 1, by go_num, by omega, ⟨by omega⟩, ⟨Below.then_ HR.out H1.out (Nat.le_refl _)⟩⟩
    · obtain rfl : k = l.length := by omega
      go_wp2
      go_ret
      exact ⟨rfl, HR.out⟩
theorem int_at {w : World} {A : Option Addr} {n : Nat} {xs : List Int} (h : (kInt .i64).C w A n xs) (k : Nat) (h1 : k < n) : ∃ ad x, A = some ad ∧ Aside0 (xs[k]? = some x) ∧ w.cell? (ad.add k) = some (.int .i64 x) ∧ Aside0 (InR .i64 x) := by
  have hl : xs.length = n := h.1
  obtain ⟨ad, c, e, _, hK, hc0⟩ := Kd.C_get h 0 (k : Int) (by omega) (by omega)
  have hc : ∀ j u, c[j]? = some u → w.cell? (ad.add (k * 1 + j)) = some u := hc0
  have hx : xs[k]? = some (xs.getD k 0) := by simp [List.getD_eq_getElem?_getD, show k < xs.length by omega]
  have hK' : (kInt .i64).K w (xs.getD k 0) c := hK
  generalize xs.getD k 0 = x at hK' hx
  obtain ⟨rfl, hr⟩ : c = [.int .i64 x] ∧ InR .i64 x := hK'
  exact ⟨ad, x, e, ⟨hx⟩, by have := hc 0 _ rfl; simpa using this, ⟨hr⟩⟩
def Is (b : Bool) (w : World) (e : Ending) (w' : World) : Prop := e = .returned (.bool b) ∧ Below w.heap.size w w'
set_option maxRecDepth 100000 in
theorem sameInts_calls (xs ys : List Int) (A B : Option Addr) (c d : Nat) (w : World) (ha : (kInt .i64).C w A xs.length xs) (hb : (kInt .i64).C w B ys.length ys) :
    Calls Try.prog 28 #[.slice A xs.length c, .slice B ys.length d] w (Is (decide (xs = ys)) w) := by
  have HA := Aside0.mk ha
  have HB := Aside0.mk hb
  have hl : xs.length ≤ 9223372036854775807 := ha.2.1
  clear ha hb
  by_cases hlen : xs.length = ys.length
  · rw [← hlen] at HB ⊢
    have HLN := Aside0.mk hlen
    clear hlen
    go_enter Try.func28, Try.ntmps28
    go_wp2
    go_loopg [5] xs.length (fun gk v wr => ∃ k : Nat, v = .int .i64 (k : Int) ∧ k ≤ xs.length ∧ Aside0 (gk + k = xs.length) ∧ Aside0 (Below w.heap.size w wr) ∧ Aside0 (xs.take k = ys.take k))
    case atStart => exact ⟨0, rfl, Nat.zero_le _, ⟨rfl⟩, ⟨Below.refl _ _⟩, ⟨rfl⟩⟩
    case round =>
      obtain ⟨k, rfl, hk, HG, HR, HT⟩ := hrel
      by_cases hlt : k < xs.length
      · obtain ⟨a1, u, rfl, HU, z, _⟩ := int_at (Kd.C_below HA.out HR.out) k hlt
        obtain ⟨a2, u', rfl, HU', z', _⟩ := int_at (Kd.C_below HB.out HR.out) k hlt
        have hltI : (k : Int) < (xs.length : Int) := by omega
        by_cases he : u = u'
        · subst he
          go_upto_region 6 with (fail)
          go_quiet (fail)
          go_wp2
          go_roundg (xs.length - (k + 1))
          case measure => have := HG.out; omega
          case rel => exact ⟨k + 1, by go_num, by omega, ⟨by omega⟩, ⟨pw_below_drewN HR.out _⟩, ⟨by rw [List.take_add_one, List.take_add_one, HU.out, HU'.out, HT.out]⟩⟩
        · have HN : Aside0 (decide (xs = ys) = false) := ⟨by
            refine decide_eq_false (fun e => he ?_)
            have h1 := HU.out
            rw [e, HU'.out] at h1
            exact (Option.some.inj h1).symm⟩
          have hd : (u == u') = false := by simpa using he
          have hd2 : (u != u') = true := by simpa using he
          clear he
          go_upto_region 6 with (fail)
          go_quiet (fail)
          go_wp2
          go_ret
          exact ⟨by rw [HN.out]; rfl, pw_below_drewN HR.out _⟩
      · obtain rfl : k = xs.length := by omega
        have HN : Aside0 (decide (xs = ys) = true) := ⟨by
          have h := HT.out
          rw [List.take_length, HLN.out, List.take_length] at h
          exact decide_eq_true h⟩
        go_wp2
        go_ret
        exact ⟨by rw [HN.out]; rfl, HR.out⟩
  · have HN : Aside0 (decide (xs = ys) = false) := ⟨decide_eq_false (fun e => hlen (by rw [e]))⟩
    have hlb : ((xs.length : Int) != (ys.length : Int)) = true := by
      have : ¬ (xs.length : Int) = (ys.length : Int) := by omega
      simpa using this
    have hlc : ((xs.length : Int) == (ys.length : Int)) = false := by
      have : ¬ (xs.length : Int) = (ys.length : Int) := by omega
      simpa using this
    go_enter Try.func28, Try.ntmps28
    go_wp2
    go_ret
    exact ⟨by rw [HN.out]; rfl, Below.refl _ _⟩
end Cmp
end Go.Proofs.Ytgfjkpnaabiecaa
set_option linter.unusedVariables false
set_option linter.unusedSimpArgs false
namespace Go.Proofs.Ytgfjkpnaabiecaa
open Go.RowKit Go.Proofs.YtgfjkpnaabiecaaW.PrintWords
namespace Tab
theorem own_ints {w : World} {base n : Nat} {v : Value} {xs : List Int} (h : w.ownsRow base 3 1 v n (xs.map (Value.int .i64))) (h0 : 0 < n) :
    ∃ g cap, v = .slice (some ⟨g, 0, none⟩) n cap ∧ base ≤ g ∧ n ≤ cap ∧ n = xs.length ∧ Blk w g (xs.map (Value.int .i64)) ∧ Ty w 3 g := by
  obtain ⟨hl, h⟩ := h
  have hn : n = xs.length := by simpa using hl.symm
  rcases h with ⟨_, h⟩ | ⟨g, cap, cur, rfl, hb, hg, hc, _, hs, ht⟩
  · omega
  · refine ⟨g, cap, rfl, hb, hc, hn, ⟨(Array.getElem?_eq_some_iff.1 hg).1, fun i u hu => ?_⟩, cur, _, hg⟩
    rw [← ht] at hu
    rw [List.getElem?_take] at hu
    split at hu
    · rw [Array.getElem?_toList] at hu
      exact ⟨by unfold World.cell?; rw [hg]; simp [hu], by unfold World.frozen?; rw [hg]; simp⟩
    · cases hu
theorem blk_ints {w : World} {g : Nat} {xs : List Int} (h : Blk w g (xs.map (Value.int .i64))) (hr : ∀ x ∈ xs, InR .i64 x) (hl : xs.length ≤ 1000000) : (kInt .i64).C w (some ⟨g, 0, none⟩) xs.length xs := by
  refine ⟨rfl, by omega, fun _ => ⟨_, rfl, fun j p hj => ⟨[.int .i64 p], rfl, ⟨rfl, hr p (List.mem_of_getElem? hj)⟩, fun i u hu => ?_⟩⟩⟩
  rcases i with _ | i
  · simp at hu
    subst hu
    have := h.cell j (v := .int .i64 p) (by rw [List.getElem?_map, hj]; rfl)
    rw [add_plain]
    simpa [kInt, scalarP] using this
  · simp at hu
/-- What Tokens hands out: a row of its own. -/
def TokTold (w : World) (tok : List Int) (e : Ending) (w' : World) : Prop :=
  ∃ g cap, e = .returned (.slice (some ⟨g, 0, none⟩) tok.length cap) ∧ w.heap.size ≤ g ∧ tok.length ≤ cap ∧ Blk w' g (tok.map (.int .i64)) ∧ Ty w' 3 g ∧ Below w.heap.size w w'
theorem clone_tok (tb cap : Nat) (tok : List Int) (w : World) (h : Blk w tb (tok.map (.int .i64))) (h0 : 0 < tok.length) (hl : tok.length ≤ 1000000) :
    Calls Try.prog 48 #[.slice (some ⟨tb, 0, none⟩) tok.length cap] w (TokTold w tok) := by
  refine (Any.slices_Clone_int Try.cloneI tb 0 tok.length cap tok w (Nat.le_refl _) (by omega) (fun j hj => ?_)).mono ?_
  · have := h.cell j (v := .int .i64 (tok.getD j 0)) (by rw [List.getElem?_map, List.getElem?_eq_getElem hj]; simp [List.getD_eq_getElem?_getD, List.getElem?_eq_getElem hj])
    simpa using this
  · rintro e w' ⟨v, rfl, ho, _, hb⟩
    rw [List.take_length] at ho
    obtain ⟨g, cp, rfl, h1, h2, _, h4, h5⟩ := own_ints ho h0
    exact ⟨g, cp, rfl, h1, h2, h4, h5, hb⟩
set_option maxRecDepth 100000 in
theorem tokens_calls (p mb tb : Nat) (T : Tb) (w : World) (h : TbR w p mb tb T) (h0 : 0 < T.tok.length) (hl : T.tok.length ≤ 1000000) :
    Calls Try.prog 27 #[.pointer (some ⟨p, 0, none⟩)] w (TokTold w T.tok) := by
  obtain ⟨cap, hcap, hB⟩ := h.blk
  have HC := Aside0.mk (clone_tok tb cap T.tok w h.tok h0 hl)
  have p5 := hB.cell 5 rfl
  clear hB h
  go_enter Try.func27, Try.ntmps27
  go_wp2_with (first | ((with_reducible refine HC.out.mono ?_); rintro e w1 ⟨g, cp, rfl, h1⟩; have H1 := Aside0.mk h1; clear h1))
  go_ret
  exact ⟨g, cp, rfl, H1.out⟩
end Tab
end Go.Proofs.Ytgfjkpnaabiecaa
set_option linter.unusedVariables false
set_option linter.unusedSimpArgs false
namespace Go.Proofs.Ytgfjkpnaabiecaa
open Go.RowKit Go.Proofs.YtgfjkpnaabiecaaW.PrintWords
namespace Tab
end Tab
end Go.Proofs.Ytgfjkpnaabiecaa
set_option linter.unusedVariables false
set_option linter.unusedSimpArgs false
namespace Go.Proofs.Ytgfjkpnaabiecaa
open Go.RowKit Go.Proofs.YtgfjkpnaabiecaaW.PrintWords
namespace Tab
open Tags
def tle (a b : Tag) : Prop := a.seq < b.seq ∨ (a.seq = b.seq ∧ (a.who < b.who ∨ (a.who = b.who ∧ a.op ≤ b.op)))
theorem cmp3_cases (x y : Int) : (x < y ∧ cmp3 x y = -1) ∨ (x = y ∧ cmp3 x y = 0) ∨ (y < x ∧ cmp3 x y = 1) := by
  rcases Int.lt_trichotomy x y with h | h | h
  · exact .inl ⟨h, cmp3_lt h⟩
  · exact .inr (.inl ⟨h, by rw [h, cmp3_eq]⟩)
  · exact .inr (.inr ⟨h, cmp3_gt h⟩)
theorem or3_cases (x y z : Int) : (x ≠ 0 ∧ or3 x y z = x) ∨ (x = 0 ∧ y ≠ 0 ∧ or3 x y z = y) ∨ (x = 0 ∧ y = 0 ∧ or3 x y z = z) := by
  unfold or3
  by_cases hx : x = 0
  · by_cases hy : y = 0
    · exact .inr (.inr ⟨hx, hy, by rw [if_neg (by simp [hx]), if_neg (by simp [hy])]⟩)
    · exact .inr (.inl ⟨hx, hy, by rw [if_neg (by simp [hx]), if_pos hy]⟩)
  · exact .inl ⟨hx, if_pos hx⟩
theorem cmpT_ge {a b : Tag} : 0 ≤ cmpT a b ↔ tle b a := by
  unfold cmpT tle
  have h0 := or3_cases (cmp3 a.seq b.seq) (cmp3 a.who b.who) (cmp3 a.op b.op)
  have h1 := cmp3_cases a.seq b.seq
  have h2 := cmp3_cases a.who b.who
  have h3 := cmp3_cases a.op b.op
  omega
theorem cmpT_le {a b : Tag} : ¬ 0 < cmpT a b ↔ tle a b := by
  unfold cmpT tle
  have h0 := or3_cases (cmp3 a.seq b.seq) (cmp3 a.who b.who) (cmp3 a.op b.op)
  have h1 := cmp3_cases a.seq b.seq
  have h2 := cmp3_cases a.who b.who
  have h3 := cmp3_cases a.op b.op
  omega
theorem tle_refl (a : Tag) : tle a a := by unfold tle; omega
theorem tle_tr {a b c : Tag} (h : tle a b) (k : tle b c) : tle a c := by unfold tle at *; omega
theorem find_put {l : List Cell} {c : Cell} (hs : Srt l) (k : ByteArray) : find (put l c) k = if c.e.key = k then some c else find l k := by
  split
  · rename_i h
    subst h
    exact find_of (srt_put hs) ((mem_put hs).2 (.inl rfl))
  · rename_i h
    cases hf : find l k with
    | some d =>
      obtain ⟨h1, rfl⟩ := find_mem hf
      exact find_of (srt_put hs) ((mem_put hs).2 (.inr ⟨h1, fun e => h e.symm⟩))
    | none =>
      refine find_no fun x hx => ?_
      rcases (mem_put hs).1 hx with rfl | ⟨hx, _⟩
      · exact h
      · exact find_none hf x hx
theorem find_del_same (l : List Cell) (k : ByteArray) : find (del l k) k = none := find_no fun x hx => (mem_del.1 hx).2
/-- What is known of the one key. -/
structure KInv (T : Tb) (key : ByteArray) (best : Tag) (kept : Entry) : Prop where
  kk : kept.key = key
  up : ∀ c, find T.l key = some c → tle best kept.tag ∨ tle best c.e.tag
  no : find T.l key = none → tle best kept.tag
  cl : ∀ c, find T.l key = some c → c.clean = true → tle c.e.tag kept.tag
  wh : ∀ c, find T.l key = some c → c.whole = true → tle best c.e.tag
  zr : find T.l key = none → tokAt T key = 0 → best = Tag.z
namespace KInv
variable {T T' : Tb} {n : Int} {key : ByteArray} {best : Tag} {kept : Entry}
theorem same (h : KInv T key best kept) (hf : find T'.l key = find T.l key) (ht : tokAt T' key = 0 → tokAt T key = 0) : KInv T' key best kept :=
  ⟨h.kk, fun c hc => h.up c (hf ▸ hc), fun hc => h.no (hf ▸ hc), fun c hc => h.cl c (hf ▸ hc), fun c hc => h.wh c (hf ▸ hc), fun hc h0 => h.zr (hf ▸ hc) (ht h0)⟩
theorem lay_far (h : KInv T key best kept) (hs : Srt T.l) {c : Cell} (hk : c.e.key ≠ key) : KInv (lay T c) key best kept :=
  h.same (by show find (put T.l _) key = _; rw [find_put hs, if_neg hk]) (fun h => h)
/-- A cell of the key is laid. -/
theorem lay_at (h : KInv T key best kept) (hs : Srt T.l) {c : Cell} {best' : Tag} {kept' : Entry} (hk : c.e.key = key) (hkk : kept'.key = key) (h1 : tle best' kept'.tag ∨ tle best' c.e.tag) (h2 : c.clean = true → tle c.e.tag kept'.tag) (h3 : c.whole = true → tle best' c.e.tag) : KInv (lay T c) key best' kept' := by
  have hf : find (lay T c).l key = some { c with used := T.uses + 1 } := by show find (put T.l _) key = _; rw [find_put hs, if_pos hk]
  refine ⟨hkk, fun d hd => ?_, fun hd => ?_, fun d hd => ?_, fun d hd => ?_, fun hd => ?_⟩ <;> rw [hf] at hd
  · injection hd with hd; subst hd; exact h1
  · cases hd
  · injection hd with hd; subst hd; exact h2
  · injection hd with hd; subst hd; exact h3
  · cases hd
theorem tok_in (w : Wf T n) (k : ByteArray) : (Hash.bkt k T.room.buckets).toNat < T.tok.length := by
  obtain ⟨b0, b1⟩ := Hash.bkt_bd k (n := T.room.buckets) w.rm.2.2.2.2.1
  have := w.tl
  generalize Hash.bkt k T.room.buckets = b at *
  omega
theorem tok_ge (w : Wf T n) (k : ByteArray) : 0 ≤ tokAt T k := by
  unfold tokAt
  have hi := tok_in w k
  generalize (Hash.bkt k T.room.buckets).toNat = i at *
  rw [List.getD_eq_getElem?_getD, List.getElem?_eq_getElem hi]
  exact (w.tk _ (List.getElem_mem hi)).1
theorem tok_drop (w : Wf T n) (j k : ByteArray) : tokAt T k ≤ tokAt (drop T j) k ∧ (j = k → 1 ≤ tokAt (drop T j) k) := by
  have h0 := tok_ge w k
  have hi := tok_in w k
  have hj := tok_in w j
  unfold tokAt at *
  show _ ≤ (bump T.tok (Hash.bkt j T.room.buckets).toNat).getD (Hash.bkt k T.room.buckets).toNat 0 ∧ (j = k → 1 ≤ (bump T.tok (Hash.bkt j T.room.buckets).toNat).getD (Hash.bkt k T.room.buckets).toNat 0)
  have he : j = k → (Hash.bkt j T.room.buckets).toNat = (Hash.bkt k T.room.buckets).toNat := fun e => by rw [e]
  generalize (Hash.bkt k T.room.buckets).toNat = i at *
  generalize (Hash.bkt j T.room.buckets).toNat = i' at *
  rw [bump_get _ _ hj]
  simp only [List.getD_eq_getElem?_getD, List.getElem?_set] at *
  by_cases e : i' = i
  · subst e
    simp only [if_true, hi, List.getElem?_eq_getElem hi, Option.getD_some] at *
    omega
  · rw [if_neg e]
    exact ⟨Int.le_refl _, fun h => absurd (he h) e⟩
/-- What is clean is dropped. -/
theorem drop_ (h : KInv T key best kept) (w : Wf T n) {j : ByteArray} (hc : ∀ c, find T.l j = some c → c.clean = true) : KInv (drop T j) key best kept := by
  obtain ⟨t1, t2⟩ := tok_drop w j key
  have h0 := tok_ge w key
  by_cases e : j = key
  · subst e
    have hf : find (drop T j).l j = none := find_del_same _ _
    have h1 := t2 rfl
    refine ⟨h.kk, fun d hd => ?_, fun _ => ?_, fun d hd => ?_, fun d hd => ?_, fun _ h2 => by omega⟩
    · rw [hf] at hd; cases hd
    · cases hc0 : find T.l j with
      | none => exact h.no hc0
      | some c =>
        rcases h.up c hc0 with h3 | h3
        · exact h3
        · exact tle_tr h3 (h.cl c hc0 (hc c hc0))
    · rw [hf] at hd; cases hd
    · rw [hf] at hd; cases hd
  · exact h.same (find_del (fun e' => e e'.symm)) (fun h2 => by omega)
theorem vict_ (e : Entry) : ∀ (f : Nat) (T : Tb) (n : Int), KInv T key best kept → Wf T n → KInv (drops T (victF f T e).1) key best kept
  | 0, T, n, h, w => h
  | f + 1, T, n, h, w => by
    unfold victF
    split
    · exact h
    · cases hp : pick T.l e.key with
      | none => exact h
      | some c =>
        obtain ⟨p1, p2, p3⟩ := pick_mem hp
        refine vict_ e f (drop T c.e.key) (n + 1) (h.drop_ w (fun d hd => ?_)) (w.drop_ _)
        have := find_of w.srt p1
        rw [this] at hd
        injection hd with hd
        rw [← hd]; exact p2
theorem make_ (h : KInv T key best kept) (w : Wf T n) (e : Entry) : KInv (makeT T e) key best kept := by
  unfold makeT
  split
  · exact vict_ e _ T n h w
  · exact h
end KInv
end Tab
end Go.Proofs.Ytgfjkpnaabiecaa
set_option linter.unusedVariables false
set_option linter.unusedSimpArgs false
namespace Go.Proofs.Ytgfjkpnaabiecaa
open Go.RowKit Go.Proofs.YtgfjkpnaabiecaaW.PrintWords
namespace Tab
open Tags
def bestS (T : Tb) (e : Entry) (key : ByteArray) (best : Tag) : Tag := if storeE T e = 0 ∧ e.key = key ∧ 0 < cmpT e.tag best then e.tag else best
theorem find_off (l : List Cell) (k : ByteArray) : find (l.map off) k = (find l k).map off := by
  unfold find
  rw [List.find?_map]
  rfl
namespace KInv
variable {T : Tb} {n : Int} {key : ByteArray} {best : Tag} {kept : Entry}
theorem start {r : Room} (key : ByteArray) : KInv (newT r) key Tag.z ⟨key, Tag.z, Val.z⟩ :=
  ⟨rfl, fun c hc => (by cases hc), fun _ => tle_refl _, fun c hc => (by cases hc), fun c hc => (by cases hc), fun _ _ => rfl⟩
theorem evict_ (h : KInv T key best kept) (w : Wf T n) (j : ByteArray) : KInv (evictT T j) key best kept := by
  unfold evictT
  split
  · rename_i hc
    exact h.drop_ w (fun c hf => by rw [hf] at hc; exact hc)
  · exact h
theorem query_ (h : KInv T key best kept) (hs : Srt T.l) (k : ByteArray) : KInv (queryT T k) key best kept := by
  unfold queryT
  split
  · split
    · rename_i c hc
      have hk := (find_mem hc).2
      by_cases e : k = key
      · subst e
        exact h.lay_at hs hk h.kk (h.up c hc) (h.cl c hc) (h.wh c hc)
      · exact h.lay_far hs (fun e' => e (hk.symm.trans e'))
    · exact h
  · exact h
theorem forget_ (h : KInv T key best kept) (w : Wf T n) : KInv (forgetT T) key best kept := by
  have hf : find (forgetT T).l key = (find T.l key).map off := find_off _ _
  refine ⟨h.kk, fun c hc => ?_, fun hc => ?_, fun c hc => ?_, fun c hc => ?_, fun hc h0 => ?_⟩ <;> rw [hf] at hc
  · obtain ⟨d, hd, rfl⟩ := Option.map_eq_some_iff.1 hc
    exact h.up d hd
  · exact h.no (Option.map_eq_none_iff.1 hc)
  · obtain ⟨d, hd, rfl⟩ := Option.map_eq_some_iff.1 hc
    exact h.cl d hd
  · obtain ⟨d, hd, rfl⟩ := Option.map_eq_some_iff.1 hc
    exact fun hw => by cases hw
  · have hi := tok_in w key
    have hg := tok_ge w key
    have h1 : tokAt (forgetT T) key = tokAt T key + 1 := by
      unfold tokAt
      show (T.tok.map (· + 1)).getD (Hash.bkt key T.room.buckets).toNat 0 = _
      generalize (Hash.bkt key T.room.buckets).toNat = i at *
      simp [List.getD_eq_getElem?_getD, List.getElem?_eq_getElem hi]
    omega
theorem fill_ (h : KInv T key best kept) (w : Wf T n) (tk : Int) : KInv (fillT T kept tk) key best kept := by
  unfold fillT
  split
  · rename_i ho
    split
    · rename_i c hc
      unfold fillOld at hc
      obtain ⟨d, hd, hc⟩ := Option.bind_eq_some_iff.1 hc
      split at hc
      · rename_i hlt
        injection hc with hc
        subst hc
        rw [h.kk] at hd
        have hkd : tle kept.tag d.e.tag := cmpT_ge.1 (by omega)
        refine h.lay_at w.srt (find_mem hd).2 h.kk (h.up d hd) (h.cl d hd) (fun _ => ?_)
        rcases h.up d hd with h1 | h1
        · exact tle_tr h1 hkd
        · exact h1
      · cases hc
    · rename_i hc
      have hb : tle best kept.tag := by
        unfold fillOld at hc
        rw [h.kk] at hc
        cases hf : find T.l key with
        | none => exact h.no hf
        | some d =>
          rw [hf] at hc
          simp only [Option.bind_some] at hc
          split at hc
          · cases hc
          · rename_i hlt
            rcases h.up d hf with h1 | h1
            · exact h1
            · exact tle_tr h1 (cmpT_le.1 hlt)
      split
      · rename_i h0
        obtain ⟨w1, _, _⟩ := w.make_ ho.1 h0 true true 0
        exact (h.make_ w kept).lay_at w1.srt h.kk h.kk (.inl hb) (fun _ => tle_refl _) (fun _ => hb)
      · exact h
  · exact h
theorem store_ (h : KInv T key best kept) (w : Wf T n) (e : Entry) : KInv (storeT T e) key (bestS T e key best) kept := by
  unfold bestS storeT storeE
  by_cases ho : EntOk e ∧ e.tag.seq ≠ 0
  · rw [if_pos ho, if_pos ho]
    cases hc : storeOld T e with
    | some c =>
      dsimp only
      unfold storeOld at hc
      obtain ⟨d, hd, hc⟩ := Option.bind_eq_some_iff.1 hc
      split at hc
      · rename_i hge
        injection hc with hc
        subst hc
        have hed : tle e.tag d.e.tag := cmpT_ge.1 hge
        have hdk := (find_mem hd).2
        by_cases ek : e.key = key
        · rw [ek] at hd
          have hg := h.up d hd
          have hw := h.wh d hd
          split
          · exact h.lay_at w.srt (hdk.trans ek) h.kk (.inr hed) (h.cl d hd) (fun _ => hed)
          · exact h.lay_at w.srt (hdk.trans ek) h.kk hg (h.cl d hd) hw
        · rw [if_neg (fun hx => ek hx.2.1)]
          exact h.lay_far w.srt (fun e' => ek (hdk.symm.trans e'))
      · cases hc
    | none =>
      dsimp only
      by_cases h0 : makeE T e = 0
      · rw [if_pos h0]
        obtain ⟨w1, _, _⟩ := w.make_ ho.1 h0 true true 0
        have hm := h.make_ w e
        by_cases ek : e.key = key
        · have hold : ∀ d, find T.l key = some d → tle d.e.tag e.tag := fun d hd => by
            unfold storeOld at hc
            rw [ek, hd] at hc
            simp only [Option.bind_some] at hc
            split at hc
            · cases hc
            · exact cmpT_le.1 (by omega)
          have hwh : wholeT T e.key = true → tle best e.tag := fun hw => by
            unfold wholeT at hw
            rw [ek] at hw
            cases hf : find T.l key with
            | some d =>
              rw [hf] at hw
              exact tle_tr (h.wh d hf hw) (hold d hf)
            | none =>
              rw [hf] at hw
              have hz := h.zr hf (by simpa using hw)
              rw [hz]
              obtain ⟨_, _, _, _, ht, _⟩ := ho.1
              obtain ⟨t1, _⟩ := ht
              have := ho.2
              unfold tle Tag.z
              left
              show (0 : Int) < e.tag.seq
              omega
          have hup : tle best kept.tag ∨ tle best e.tag := by
            cases hf : find T.l key with
            | none => exact .inl (h.no hf)
            | some d =>
              rcases h.up d hf with h1 | h1
              · exact .inl h1
              · exact .inr (tle_tr h1 (hold d hf))
          split
          · exact hm.lay_at w1.srt ek h.kk (.inr (tle_refl _)) (fun hx => by cases hx) (fun _ => tle_refl _)
          · exact hm.lay_at w1.srt ek h.kk hup (fun hx => by cases hx) hwh
        · rw [if_neg (fun hx => ek hx.2.1)]
          exact hm.lay_far w1.srt ek
      · rw [if_neg h0, if_neg (fun hx => h0 hx.1)]
        exact h
  · rw [if_neg ho, if_neg ho, if_neg (fun hx => by have := hx.1; omega)]
    exact h
/-- WHAT IS WHOLE TELLS ALL. -/
theorem tells (h : KInv T key best kept) (he : queryE key = 0) (hw : (queryR T key).whole = true) : 0 ≤ cmpT (queryR T key).e.tag best := by
  have hk : KeyOk key := by
    unfold queryE at he
    by_cases hk : KeyOk key
    · exact hk
    · rw [if_neg hk] at he; omega
  unfold queryR at hw ⊢
  rw [if_pos hk] at hw ⊢
  rw [cmpT_ge]
  cases hf : find T.l key with
  | some c =>
    rw [hf] at hw
    exact h.wh c hf hw
  | none =>
    rw [hf] at hw
    have hz := h.zr hf (by simpa using hw)
    rw [hz]
    exact tle_refl _
end KInv
end Tab
end Go.Proofs.Ytgfjkpnaabiecaa
set_option linter.unusedVariables false
set_option linter.unusedSimpArgs false
namespace Go.Proofs.Ytgfjkpnaabiecaa
open Go.RowKit Go.Proofs.YtgfjkpnaabiecaaW.PrintWords
namespace Tab
open Tags
abbrev tcs (t : Tag) : List Value := [.int .i64 t.seq, .int .i64 t.who, .int .i64 t.op]
abbrev ecs (e : Entry) (A : Option Addr) (c : Nat) : List Value := [.string e.key, .int .i64 e.tag.seq, .int .i64 e.tag.who, .int .i64 e.tag.op, .bool e.val.has, .slice A e.val.b.length c]
/-- The loop's things since w: the table, best's box bB, kept's box kB. -/
structure WS (w : World) (p mb tb bB kB : Nat) (T : Tb) (best : Tag) (kept : Entry) (A : Option Addr) (c : Nat) (wr : World) : Prop where
  t : TbR wr p mb tb T
  b : Blk wr bB (tcs best)
  bt : Ty wr 32 bB
  k : Blk wr kB (ecs kept A c)
  kt : Ty wr 37 kB
  f : Kd.FK Entry.k wr (fun i => i ∉ [p, mb, tb, bB, kB]) kept (ecs kept A c)
  bl : Below w.heap.size w wr
  g : w.heap.size ≤ p ∧ w.heap.size ≤ mb ∧ w.heap.size ≤ tb ∧ w.heap.size ≤ bB ∧ w.heap.size ≤ kB
namespace WS
variable {w wr w1 : World} {p mb tb bB kB : Nat} {T T' : Tb} {best : Tag} {kept : Entry} {A : Option Addr} {c : Nat}
theorem ne (h : WS w p mb tb bB kB T best kept A c wr) : bB ∉ [p, mb, tb] ∧ kB ∉ [p, mb, tb] ∧ bB ≠ kB := by
  have n1 := h.t.pty
  have n2 := h.t.tty
  have n3 := h.t.map.noTy
  refine ⟨fun hm => ?_, fun hm => ?_, fun e => ?_⟩
  · simp at hm
    rcases hm with rfl | rfl | rfl
    · exact (h.bt.ne (t' := 83) (by decide)) n1
    · exact n3 _ h.bt
    · exact (h.bt.ne (t' := 3) (by decide)) n2
  · simp at hm
    rcases hm with rfl | rfl | rfl
    · exact (h.kt.ne (t' := 83) (by decide)) n1
    · exact n3 _ h.kt
    · exact (h.kt.ne (t' := 3) (by decide)) n2
  · subst e
    exact (h.bt.ne (t' := 37) (by decide)) h.kt
theorem below (h : WS w p mb tb bB kB T best kept A c wr) (k : Below wr.heap.size wr w1) : WS w p mb tb bB kB T best kept A c w1 :=
  ⟨h.t.below k, h.b.on k, h.bt.below k, h.k.on k, h.kt.below k, Foot.step h.f (fun i _ hlt => k.block i hlt), Below.then_ h.bl k (Nat.le_refl _), h.g⟩
/-- Behind a call on the table. -/
theorem told (h : WS w p mb tb bB kB T best kept A c wr) (ht : TbR w1 p mb tb T') (o : Only [p, mb, tb] wr w1) : WS w p mb tb bB kB T' best kept A c w1 := by
  obtain ⟨n1, n2, n3⟩ := h.ne
  refine ⟨ht, h.b.only o n1, h.bt.only o n1, h.k.only o n2, h.kt.only o n2, Foot.only h.f o (fun i hi hm => hi (by simp at hm ⊢; omega)), ?_, h.g⟩
  exact ((Only.of_below [p, mb, tb] h.bl).trans o).below (by intro i hi; obtain ⟨g1, g2, g3, _⟩ := h.g; simp at hi; rcases hi with rfl | rfl | rfl <;> assumption) (Nat.le_refl _)
end WS
/-- An entry that lies in elder blocks. -/
theorem ent_old {w : World} {e : Entry} {A : Option Addr} {c : Nat} (h : Entry.k.K w e (ecs e A c)) : Kd.FK Entry.k w (fun i => i < w.heap.size) e (ecs e A c) := by
  obtain ⟨A5, c5, he, s0, r1, r2, r3, l5, g5⟩ := Entry.open_ h
  simp only [ecs, List.cons.injEq, Value.slice.injEq, true_and, and_true] at he
  obtain ⟨rfl, rfl⟩ := he
  exact Foot.imp (kU8_old g5) (fun W' g' => Entry.mk_ W' e s0 r1 r2 r3 l5 g')
theorem do_ent {w : World} {x : Do} {A : Option Addr} {c : Nat} (h : Do.k.K w x ([.int .i64 x.kind] ++ ecs x.e A c ++ [.int .i64 x.token])) : Entry.k.K w x.e (ecs x.e A c) := by
  obtain ⟨A6, c6, he, r0, s1, r2, r3, r4, l6, g6, r7⟩ := Do.open_ h
  simp only [ecs, List.cons_append, List.nil_append, List.cons.injEq, Value.slice.injEq, true_and, and_true] at he
  obtain ⟨rfl, rfl⟩ := he
  exact Entry.mk_ w x.e s1 r2 r3 r4 l6 g6
/-- An elder entry may be stored. -/
theorem WS.storeF {w wr : World} {p mb tb bB kB : Nat} {T : Tb} {best : Tag} {kept : Entry} {A A' : Option Addr} {c c' : Nat} {e : Entry} (h : WS w p mb tb bB kB T best kept A c wr) (he : Entry.k.K w e (ecs e A' c')) :
    Kd.FK Entry.k wr (fun i => i ∉ [p, mb, tb]) e (ecs e A' c') := by
  obtain ⟨g1, g2, g3, _⟩ := h.g
  refine Foot.mono (Foot.step (ent_old he) (fun i _ hlt => h.bl.block i hlt)) (fun i hi hm => ?_)
  simp at hm
  omega
end Tab
end Go.Proofs.Ytgfjkpnaabiecaa
set_option linter.unusedVariables false
set_option linter.unusedSimpArgs false
namespace Go.Proofs.Ytgfjkpnaabiecaa
open Go.RowKit Go.Proofs.YtgfjkpnaabiecaaW.PrintWords
namespace Tab
open Tags
def TrueTold (w : World) (e : Ending) (w' : World) : Prop := e = .returned (.bool true) ∧ Below w.heap.size w w'
theorem WS.start {w w1 : World} {p mb tb : Nat} {T : Tb} {key : ByteArray} (hk : key.size ≤ 140737488351232) (h : TbR w1 p mb tb T) (hb : Below w.heap.size w w1) (g : w.heap.size ≤ p ∧ w.heap.size ≤ mb ∧ w.heap.size ≤ tb) :
    WS w p mb tb w1.heap.size (w1.heap.size + 1) T Tag.z ⟨key, Tag.z, Val.z⟩ none 0 ((w1.alloc (.cells #[.int .i64 0, .int .i64 0, .int .i64 0] 32)).alloc (.cells #[.string key, .int .i64 0, .int .i64 0, .int .i64 0, .bool false, .slice none 0 0] 37)) := by
  have hs := hb.size
  refine ⟨(h.below (below_alloc (Below.refl _ _) _)).below (below_alloc (Below.refl _ _) _), (Blk.new_ _ _ _ rfl rfl).alloc _, ty_alloc (ty_new rfl) _, Blk.new_ _ _ _ (by simp) rfl, ty_new (by simp), ?_, below_alloc (below_alloc hb _) _, by omega⟩
  exact fun W' _ => Entry.mk_ W' ⟨key, Tag.z, Val.z⟩ hk izr izr izr (Nat.le_refl _) (Kd.C_nil _ _)
end Tab
end Go.Proofs.Ytgfjkpnaabiecaa
set_option linter.unusedVariables false
set_option linter.unusedSimpArgs false
namespace Go.Proofs.Ytgfjkpnaabiecaa
open Go.RowKit Go.Proofs.YtgfjkpnaabiecaaW.PrintWords
namespace Tab
open Tags
abbrev dcs (x : Do) (A : Option Addr) (c : Nat) : List Value := [.int .i64 x.kind, .string x.e.key, .int .i64 x.e.tag.seq, .int .i64 x.e.tag.who, .int .i64 x.e.tag.op, .bool x.e.val.has, .slice A x.e.val.b.length c, .int .i64 x.token]
/-- A round's things: the loop's, and d's box dB. -/
structure RS (w : World) (p mb tb bB kB dB : Nat) (T : Tb) (best : Tag) (kept : Entry) (A : Option Addr) (c : Nat) (x : Do) (A6 : Option Addr) (c6 : Nat) (wr : World) : Prop where
  s : WS w p mb tb bB kB T best kept A c wr
  d : Blk wr dB (dcs x A6 c6)
  dt : Ty wr 39 dB
  g : w.heap.size ≤ dB
namespace RS
variable {w wr w1 : World} {p mb tb bB kB dB : Nat} {T T' : Tb} {best : Tag} {kept : Entry} {A : Option Addr} {c : Nat} {x : Do} {A6 : Option Addr} {c6 : Nat}
theorem ne (h : RS w p mb tb bB kB dB T best kept A c x A6 c6 wr) : dB ∉ [p, mb, tb] ∧ dB ≠ bB ∧ dB ≠ kB := by
  have n1 := h.s.t.pty
  have n2 := h.s.t.tty
  have n3 := h.s.t.map.noTy
  refine ⟨fun hm => ?_, ?_, ?_⟩
  · simp at hm
    rcases hm with rfl | rfl | rfl
    · exact (h.dt.ne (t' := 83) (by decide)) n1
    · exact n3 _ h.dt
    · exact (h.dt.ne (t' := 3) (by decide)) n2
  · rintro rfl; exact (h.dt.ne (t' := 32) (by decide)) h.s.bt
  · rintro rfl; exact (h.dt.ne (t' := 37) (by decide)) h.s.kt
theorem start (h : WS w p mb tb bB kB T best kept A c wr) (x : Do) (A6 : Option Addr) (c6 : Nat) : RS w p mb tb bB kB wr.heap.size T best kept A c x A6 c6 (wr.alloc (.cells (dcs x A6 c6).toArray 39)) :=
  ⟨h.below (below_alloc (Below.refl _ _) _), Blk.new_ _ _ _ rfl (by simp), ty_new rfl, h.bl.size⟩
theorem below (h : RS w p mb tb bB kB dB T best kept A c x A6 c6 wr) (k : Below wr.heap.size wr w1) : RS w p mb tb bB kB dB T best kept A c x A6 c6 w1 :=
  ⟨h.s.below k, h.d.on k, h.dt.below k, h.g⟩
theorem told (h : RS w p mb tb bB kB dB T best kept A c x A6 c6 wr) (ht : TbR w1 p mb tb T') (o : Only [p, mb, tb] wr w1) : RS w p mb tb bB kB dB T' best kept A c x A6 c6 w1 :=
  ⟨h.s.told ht o, h.d.only o h.ne.1, h.dt.only o h.ne.1, h.g⟩
/-- Its cells, as the walk wants them. -/
theorem cells (h : RS w p mb tb bB kB dB T best kept A c x A6 c6 wr) :
    (wr.cell? ⟨dB, 0, none⟩ = some (.int .i64 x.kind) ∧ wr.cell? ⟨dB, 1, none⟩ = some (.string x.e.key) ∧ wr.cell? ⟨dB, 2, none⟩ = some (.int .i64 x.e.tag.seq) ∧ wr.cell? ⟨dB, 3, none⟩ = some (.int .i64 x.e.tag.who) ∧ wr.cell? ⟨dB, 4, none⟩ = some (.int .i64 x.e.tag.op) ∧ wr.cell? ⟨dB, 5, none⟩ = some (.bool x.e.val.has) ∧ wr.cell? ⟨dB, 6, none⟩ = some (.slice A6 x.e.val.b.length c6) ∧ wr.cell? ⟨dB, 7, none⟩ = some (.int .i64 x.token)) ∧
    (wr.cell? ⟨bB, 0, none⟩ = some (.int .i64 best.seq) ∧ wr.cell? ⟨bB, 1, none⟩ = some (.int .i64 best.who) ∧ wr.cell? ⟨bB, 2, none⟩ = some (.int .i64 best.op)) ∧
    (wr.cell? ⟨kB, 0, none⟩ = some (.string kept.key) ∧ wr.cell? ⟨kB, 1, none⟩ = some (.int .i64 kept.tag.seq) ∧ wr.cell? ⟨kB, 2, none⟩ = some (.int .i64 kept.tag.who) ∧ wr.cell? ⟨kB, 3, none⟩ = some (.int .i64 kept.tag.op) ∧ wr.cell? ⟨kB, 4, none⟩ = some (.bool kept.val.has) ∧ wr.cell? ⟨kB, 5, none⟩ = some (.slice A kept.val.b.length c)) :=
  ⟨h.d.eight.1, ⟨h.s.b.cell 0 rfl, h.s.b.cell 1 rfl, h.s.b.cell 2 rfl⟩, h.s.k.six.1⟩
theorem frozen (h : RS w p mb tb bB kB dB T best kept A c x A6 c6 wr) :
    (wr.frozen? ⟨bB, 0, none⟩ = false ∧ wr.frozen? ⟨bB, 1, none⟩ = false ∧ wr.frozen? ⟨bB, 2, none⟩ = false) ∧
    (wr.frozen? ⟨kB, 0, none⟩ = false ∧ wr.frozen? ⟨kB, 1, none⟩ = false ∧ wr.frozen? ⟨kB, 2, none⟩ = false ∧ wr.frozen? ⟨kB, 3, none⟩ = false ∧ wr.frozen? ⟨kB, 4, none⟩ = false ∧ wr.frozen? ⟨kB, 5, none⟩ = false) :=
  ⟨⟨h.s.b.frozen 0 (v := .int .i64 best.seq) rfl, h.s.b.frozen 1 (v := .int .i64 best.who) rfl, h.s.b.frozen 2 (v := .int .i64 best.op) rfl⟩, h.s.k.six.2⟩
end RS
end Tab
end Go.Proofs.Ytgfjkpnaabiecaa
set_option linter.unusedVariables false
set_option linter.unusedSimpArgs false
namespace Go.Proofs.Ytgfjkpnaabiecaa
open Go.RowKit Go.Proofs.YtgfjkpnaabiecaaW.PrintWords
namespace Tab
open Tags
def stepT (T : Tb) (d : Do) : Tb := if d.kind = 1 then queryT T d.e.key else if d.kind = 2 then storeT T d.e else if d.kind = 3 then fillT T d.e d.token else if d.kind = 4 then cleanT T d.e.key d.e.tag else if d.kind = 6 then forgetT T else evictT T d.e.key
def stepR (T : Tb) (d : Do) : Reply := if d.kind = 1 then queryR T d.e.key else Reply.z
def stepB (T : Tb) (d : Do) : Bool := if d.kind = 1 then false else if d.kind = 2 then false else if d.kind = 3 then fillB T d.e d.token else if d.kind = 4 then (cleanOn T d.e.key d.e.tag).isSome else if d.kind = 6 then false else evictB T d.e.key
def stepE (T : Tb) (d : Do) : Int := if d.kind = 1 then queryE d.e.key else if d.kind = 2 then storeE T d.e else if d.kind = 3 then fillE T d.e d.token else 0
theorem Wf.step {T : Tb} {n : Int} (h : Wf T n) (d : Do) : Wf (stepT T d) (n + 5000) := by
  unfold stepT
  repeat (first | exact h.query_ _ | exact h.store_ _ | exact h.fill_ _ _ | exact h.forget_ | exact h.evict_ _ | exact (h.clean_ _ _).mono (by omega) | split)
def DoneTold (w : World) (p mb tb : Nat) (T : Tb) (d : Do) (e : Ending) (w' : World) : Prop :=
  ∃ cs, e = .returned (.tuple #[.agg cs, .bool (stepB T d), .int .i64 (stepE T d)]) ∧ BK Reply.k w' (stepR T d) cs.toList ∧ TbR w' p mb tb (stepT T d) ∧ Only [p, mb, tb] w w'
/-- Eight cells of a block are written. -/
def set8 (w : World) (b : Nat) (v0 v1 v2 v3 v4 v5 v6 v7 : Value) : World :=
  (((((((w.setCell ⟨b, 0, none⟩ v0).setCell ⟨b, 1, none⟩ v1).setCell ⟨b, 2, none⟩ v2).setCell ⟨b, 3, none⟩ v3).setCell ⟨b, 4, none⟩ v4).setCell ⟨b, 5, none⟩ v5).setCell ⟨b, 6, none⟩ v6).setCell ⟨b, 7, none⟩ v7
theorem set8_only (w : World) (b : Nat) (v0 v1 v2 v3 v4 v5 v6 v7 : Value) : Only [b] w (set8 w b v0 v1 v2 v3 v4 v5 v6 v7) :=
  (((((((((Only.refl [b] w).set (p := ⟨b, 0, none⟩) _ (.inl (by simp))).set (p := ⟨b, 1, none⟩) _ (.inl (by simp))).set (p := ⟨b, 2, none⟩) _ (.inl (by simp))).set (p := ⟨b, 3, none⟩) _ (.inl (by simp))).set (p := ⟨b, 4, none⟩) _ (.inl (by simp))).set (p := ⟨b, 5, none⟩) _ (.inl (by simp))).set (p := ⟨b, 6, none⟩) _ (.inl (by simp))).set (p := ⟨b, 7, none⟩) _ (.inl (by simp)))
theorem set8_blk {w : World} {b : Nat} {u0 u1 u2 u3 u4 u5 u6 u7 : Value} (h : Blk w b [u0, u1, u2, u3, u4, u5, u6, u7]) (v0 v1 v2 v3 v4 v5 v6 v7 : Value) : Blk (set8 w b v0 v1 v2 v3 v4 v5 v6 v7) b [v0, v1, v2, v3, v4, v5, v6, v7] :=
  (((((((h.set 0 v0).set 1 v1).set 2 v2).set 3 v3).set 4 v4).set 5 v5).set 6 v6).set 7 v7
/-- The two boxes of done: d's, and the result's. -/
structure DB (w : World) (d : Do) (A : Option Addr) (c : Nat) (w1 : World) : Prop where
  d : Blk w1 w.heap.size (dcs d A c)
  r : Blk w1 (w.heap.size + 1) [.string ByteArray.empty, .int .i64 0, .int .i64 0, .int .i64 0, .bool false, .slice none 0 0, .bool false, .int .i64 0]
  rt : Ty w1 52 (w.heap.size + 1)
theorem DB.only {w w1 w2 : World} {d : Do} {A : Option Addr} {c : Nat} {S : List Nat} (h : DB w d A c w1) (o : Only S w1 w2) (hS : ∀ i ∈ S, i < w.heap.size) : DB w d A c w2 := by
  have n1 : w.heap.size ∉ S := fun hm => by have := hS _ hm; omega
  have n2 : w.heap.size + 1 ∉ S := fun hm => by have := hS _ hm; omega
  exact ⟨h.d.only o n1, h.r.only o n2, h.rt.only o n2⟩
/-- Behind the call: what is handed out, where the reply is none. -/
theorem done_end {w w1 : World} {p mb tb : Nat} {T' : Tb} {d : Do} {A : Option Addr} {c : Nat} (hD : DB w d A c w1) (hT : TbR w1 p mb tb T') (hlt : ∀ i ∈ [p, mb, tb], i < w.heap.size) (o : Only [p, mb, tb] w w1) :
    BK Reply.k (set8 w1 (w.heap.size + 1) (.string ByteArray.empty) (.int .i64 0) (.int .i64 0) (.int .i64 0) (.bool false) (.slice none 0 0) (.bool false) (.int .i64 0)) Reply.z [.string ByteArray.empty, .int .i64 0, .int .i64 0, .int .i64 0, .bool false, .slice none 0 0, .bool false, .int .i64 0] ∧ TbR (set8 w1 (w.heap.size + 1) (.string ByteArray.empty) (.int .i64 0) (.int .i64 0) (.int .i64 0) (.bool false) (.slice none 0 0) (.bool false) (.int .i64 0)) p mb tb T' ∧ Only [p, mb, tb] w (set8 w1 (w.heap.size + 1) (.string ByteArray.empty) (.int .i64 0) (.int .i64 0) (.int .i64 0) (.bool false) (.slice none 0 0) (.bool false) (.int .i64 0)) := by
  have h8 := set8_only w1 (w.heap.size + 1) (.string ByteArray.empty) (.int .i64 0) (.int .i64 0) (.int .i64 0) (.bool false) (.slice none 0 0) (.bool false) (.int .i64 0)
  have g1 := hlt p (by simp)
  have g2 := hlt mb (by simp)
  have g3 := hlt tb (by simp)
  refine ⟨bk_repz _, hT.only h8 (by simp; omega) (by simp; omega) (by simp; omega) (fun i hi => by simp at hi; subst hi; exact hD.rt.ne (by decide)), o.then_ h8 (fun i hi => by simp at hi; right; omega)⟩
set_option maxRecDepth 100000 in
set_option maxHeartbeats 2000000 in
theorem done_calls (p mb tb : Nat) (T : Tb) (d : Do) (A : Option Addr) (c : Nat) (n : Int) (w : World) (h : TbR w p mb tb T) (hN : Num T n) (hn : n ≤ 2000000000000000000)
    (hF : Kd.FK Entry.k w (fun i => i ∉ [p, mb, tb]) d.e (ecs d.e A c)) (hbl : d.e.val.b.length ≤ 140737488351232) :
    Calls Try.prog 22 #[.pointer (some ⟨p, 0, none⟩), .agg (dcs d A c).toArray] w (DoneTold w p mb tb T d) := by
  have HT := Aside0.mk h
  have HN := Aside0.mk hN
  have HF := Aside0.mk hF
  have HLT : Aside0 (∀ i ∈ [p, mb, tb], i < w.heap.size) := ⟨by
    obtain ⟨l1, l2, l3⟩ := h.lt
    intro i hi
    simp at hi
    rcases hi with rfl | rfl | rfl <;> assumption⟩
  have hks : d.e.key.size ≤ 140737488351232 := by obtain ⟨_, _, _, hks, _⟩ := Entry.open_ (Kd.FK_now hF); exact hks
  have HL := Aside0.mk hbl
  clear h hN hF hbl
  obtain ⟨kd, ⟨xk, ⟨s1, s2, s3⟩, ⟨xh, xb⟩⟩, tk⟩ := d
  dsimp only [dcs] at *
  go_enter Try.func22, Try.ntmps22
  go_upto_region 1 with (fail)
  generalize hX : World.alloc _ _ = W0
  have HW : Aside0 (Below w.heap.size w W0) := ⟨by rw [← hX]; exact below_alloc (below_alloc (Below.refl _ _) _) _⟩
  have HD : Aside0 (DB w ⟨kd, ⟨xk, ⟨s1, s2, s3⟩, ⟨xh, xb⟩⟩, tk⟩ A c W0) := ⟨by rw [← hX]; exact ⟨(Blk.new_ w _ _ rfl (by simp)).alloc _, Blk.new_ _ _ _ (by simp) rfl, ty_new (by simp)⟩⟩
  clear hX
  have HT0 := Aside0.mk (HT.out.below HW.out)
  have HF0 : Aside0 (Kd.FK Entry.k W0 (fun i => i ∉ [p, mb, tb]) ⟨xk, ⟨s1, s2, s3⟩, ⟨xh, xb⟩⟩ (ecs ⟨xk, ⟨s1, s2, s3⟩, ⟨xh, xb⟩⟩ A c)) := ⟨Foot.step HF.out (fun i _ hlt => HW.out.block i hlt)⟩
  have HO := Aside0.mk (Only.of_below [p, mb, tb] HW.out)
  obtain ⟨d0, d1, d2, d3, d4, d5, d6, d7⟩ := HD.out.d.eight.1
  dsimp only at d0 d1 d2 d3 d4 d5 d6 d7
  by_cases h1 : kd = 1
  · subst h1
    have HC := Aside0.mk (query_calls p mb tb T xk n W0 HT0.out HN.out hn hks)
    have HC' : Aside0 (Calls Try.prog 21 #[.pointer (some ⟨p, 0, none⟩), .string xk] W0 fun e w' => ∃ A c, e = .returned (.tuple #[.agg #[.string (queryR T xk).e.key, .int .i64 (queryR T xk).e.tag.seq, .int .i64 (queryR T xk).e.tag.who, .int .i64 (queryR T xk).e.tag.op, .bool (queryR T xk).e.val.has, .slice A (queryR T xk).e.val.b.length c, .bool (queryR T xk).whole, .int .i64 (queryR T xk).token], .int .i64 (queryE xk)]) ∧ BK Reply.k w' (queryR T xk) [.string (queryR T xk).e.key, .int .i64 (queryR T xk).e.tag.seq, .int .i64 (queryR T xk).e.tag.who, .int .i64 (queryR T xk).e.tag.op, .bool (queryR T xk).e.val.has, .slice A (queryR T xk).e.val.b.length c, .bool (queryR T xk).whole, .int .i64 (queryR T xk).token] ∧ TbR w' p mb tb (queryT T xk) ∧ Only [p, mb, tb] W0 w') := ⟨by
      refine HC.out.mono ?_
      rintro e w' ⟨cs, rfl, hbk, ht, ho⟩
      obtain ⟨A', c', he, _⟩ := Reply.open_ hbk.now
      have hcs : cs = cs.toList.toArray := by simp
      rw [he] at hbk
      rw [hcs, he]
      exact ⟨A', c', rfl, hbk, ht, ho⟩⟩
    clear HC
    have HS : Aside0 (∀ (k0 : Int), k0 = 1 → stepT T ⟨k0, ⟨xk, ⟨s1, s2, s3⟩, ⟨xh, xb⟩⟩, tk⟩ = queryT T xk ∧ stepR T ⟨k0, ⟨xk, ⟨s1, s2, s3⟩, ⟨xh, xb⟩⟩, tk⟩ = queryR T xk ∧ stepB T ⟨k0, ⟨xk, ⟨s1, s2, s3⟩, ⟨xh, xb⟩⟩, tk⟩ = false ∧ stepE T ⟨k0, ⟨xk, ⟨s1, s2, s3⟩, ⟨xh, xb⟩⟩, tk⟩ = queryE xk) := ⟨by rintro _ rfl; exact ⟨rfl, rfl, rfl, rfl⟩⟩
    generalize queryR T xk = R at HC' HS
    obtain ⟨⟨rk, ⟨t1, t2, t3⟩, ⟨rh, rb⟩⟩, rw_, rt⟩ := R
    dsimp only at HC'
    go_upto_region 4 with (first | ((with_reducible refine HC'.out.mono ?_); rintro e w1 ⟨A', c', rfl, hbk, h1, o1⟩; have HT1 := Aside0.mk h1; have HBK := Aside0.mk hbk; have HD1 := Aside0.mk (HD.out.only o1 HLT.out); have HO1 := Aside0.mk (HO.out.trans o1); clear hbk h1 o1))
    generalize hX2 : World.alloc _ _ = W2
    have HB2 : Aside0 (Below w1.heap.size w1 W2) := ⟨by rw [← hX2]; exact below_alloc (Below.refl _ _) _⟩
    have hq : Blk W2 w1.heap.size [.string rk, .int .i64 t1, .int .i64 t2, .int .i64 t3, .bool rh, .slice A' rb.length c', .bool rw_, .int .i64 rt] := by rw [← hX2]; exact Blk.new_ _ _ _ rfl rfl
    clear hX2
    have HD2 := Aside0.mk (HD1.out.only (S := []) (Only.of_below [] HB2.out) (by simp))
    obtain ⟨⟨q0, q1, q2, q3, q4, q5, q6, q7⟩, _⟩ := hq.eight
    obtain ⟨⟨r0, r1, r2, r3, r4, r5, r6, r7⟩, f0, f1, f2, f3, f4, f5, f6, f7⟩ := HD2.out.r.eight
    clear hq
    go_wp2
    generalize hW9 : World.setCell _ _ _ = W9
    have h9 := set8_blk HD2.out.r (.string rk) (.int .i64 t1) (.int .i64 t2) (.int .i64 t3) (.bool rh) (.slice A' rb.length c') (.bool rw_) (.int .i64 rt)
    have h8 := set8_only W2 (w.heap.size + 1) (.string rk) (.int .i64 t1) (.int .i64 t2) (.int .i64 t3) (.bool rh) (.slice A' rb.length c') (.bool rw_) (.int .i64 rt)
    rw [show set8 W2 (w.heap.size + 1) (.string rk) (.int .i64 t1) (.int .i64 t2) (.int .i64 t3) (.bool rh) (.slice A' rb.length c') (.bool rw_) (.int .i64 rt) = W9 from hW9] at h9 h8
    clear hW9
    have H8 := Aside0.mk h8
    obtain ⟨⟨z0, z1, z2, z3, z4, z5, z6, z7⟩, _⟩ := h9.eight
    clear h9 h8
    refine bodyPost_ret (v := .tuple #[.agg #[.string rk, .int .i64 t1, .int .i64 t2, .int .i64 t3, .bool rh, .slice A' rb.length c', .bool rw_, .int .i64 rt], .bool false, .int .i64 (queryE xk)]) (by simp [results, Try.results22, go_sem, z0, z1, z2, z3, z4, z5, z6, z7]; try rfl) rfl ?_
    obtain ⟨e1, e2, e3, e4⟩ := HS.out 1 rfl
    have g1 := HLT.out p (by simp)
    have g2 := HLT.out mb (by simp)
    have g3 := HLT.out tb (by simp)
    have hnb : ∀ i ∈ [w.heap.size + 1], ¬ Ty W2 5 i := fun i hi => by simp at hi; subst hi; exact HD2.out.rt.ne (by decide)
    refine ⟨_, by rw [e3, e4], by rw [e2]; exact (HBK.out.below HB2.out).only H8.out hnb, ?_, ?_⟩
    · rw [e1]; exact (HT1.out.below HB2.out).only H8.out (by simp; omega) (by simp; omega) (by simp; omega) hnb
    · exact (HO1.out.on HB2.out).then_ H8.out (fun i hi => by simp at hi; right; omega)
  · have e1 : (kd == 1) = false := by simpa using h1
    by_cases h2 : kd = 2
    · subst h2
      have HC := Aside0.mk (store_calls p mb tb T ⟨xk, ⟨s1, s2, s3⟩, ⟨xh, xb⟩⟩ A c n W0 HT0.out HN.out hn HF0.out HL.out)
      go_wp2_with (first | ((with_reducible refine HC.out.mono ?_); rintro e w1 ⟨rfl, h1, o1⟩; have HT1 := Aside0.mk h1; have HD1 := Aside0.mk (HD.out.only o1 HLT.out); have HO1 := Aside0.mk (HO.out.trans o1); clear h1 o1; obtain ⟨⟨r0, r1, r2, r3, r4, r5, r6, r7⟩, f0, f1, f2, f3, f4, f5, f6, f7⟩ := HD1.out.r.eight))
      generalize hW9 : World.setCell _ _ _ = W9
      have h9 := set8_blk HD1.out.r (.string ByteArray.empty) (.int .i64 0) (.int .i64 0) (.int .i64 0) (.bool false) (.slice none 0 0) (.bool false) (.int .i64 0)
      have hE := done_end HD1.out HT1.out HLT.out HO1.out
      rw [show set8 w1 (w.heap.size + 1) (.string ByteArray.empty) (.int .i64 0) (.int .i64 0) (.int .i64 0) (.bool false) (.slice none 0 0) (.bool false) (.int .i64 0) = W9 from hW9] at h9 hE
      clear hW9
      have HE := Aside0.mk hE
      obtain ⟨⟨z0, z1, z2, z3, z4, z5, z6, z7⟩, _⟩ := h9.eight
      clear h9 hE
      refine bodyPost_ret (v := .tuple #[.agg #[.string ByteArray.empty, .int .i64 0, .int .i64 0, .int .i64 0, .bool false, .slice none 0 0, .bool false, .int .i64 0], .bool false, .int .i64 (storeE T ⟨xk, ⟨s1, s2, s3⟩, ⟨xh, xb⟩⟩)]) (by simp [results, Try.results22, go_sem, z0, z1, z2, z3, z4, z5, z6, z7]; try rfl) rfl ?_
      exact ⟨#[.string ByteArray.empty, .int .i64 0, .int .i64 0, .int .i64 0, .bool false, .slice none 0 0, .bool false, .int .i64 0], by simp [stepB, stepE], by simpa [stepR] using HE.out.1, by simpa [stepT] using HE.out.2.1, HE.out.2.2⟩
    · have e2 : (kd == 2) = false := by simpa using h2
      by_cases h3 : kd = 3
      · subst h3
        have HC := Aside0.mk (fill_calls p mb tb T ⟨xk, ⟨s1, s2, s3⟩, ⟨xh, xb⟩⟩ tk A c n W0 HT0.out HN.out hn HF0.out HL.out)
        go_wp2_with (first | ((with_reducible refine HC.out.mono ?_); rintro e w1 ⟨rfl, h1, o1⟩; have HT1 := Aside0.mk h1; have HD1 := Aside0.mk (HD.out.only o1 HLT.out); have HO1 := Aside0.mk (HO.out.trans o1); clear h1 o1; obtain ⟨⟨r0, r1, r2, r3, r4, r5, r6, r7⟩, f0, f1, f2, f3, f4, f5, f6, f7⟩ := HD1.out.r.eight))
        generalize hW9 : World.setCell _ _ _ = W9
        have h9 := set8_blk HD1.out.r (.string ByteArray.empty) (.int .i64 0) (.int .i64 0) (.int .i64 0) (.bool false) (.slice none 0 0) (.bool false) (.int .i64 0)
        have hE := done_end HD1.out HT1.out HLT.out HO1.out
        rw [show set8 w1 (w.heap.size + 1) (.string ByteArray.empty) (.int .i64 0) (.int .i64 0) (.int .i64 0) (.bool false) (.slice none 0 0) (.bool false) (.int .i64 0) = W9 from hW9] at h9 hE
        clear hW9
        have HE := Aside0.mk hE
        obtain ⟨⟨z0, z1, z2, z3, z4, z5, z6, z7⟩, _⟩ := h9.eight
        clear h9 hE
        refine bodyPost_ret (v := .tuple #[.agg #[.string ByteArray.empty, .int .i64 0, .int .i64 0, .int .i64 0, .bool false, .slice none 0 0, .bool false, .int .i64 0], .bool (fillB T ⟨xk, ⟨s1, s2, s3⟩, ⟨xh, xb⟩⟩ tk), .int .i64 (fillE T ⟨xk, ⟨s1, s2, s3⟩, ⟨xh, xb⟩⟩ tk)]) (by simp [results, Try.results22, go_sem, z0, z1, z2, z3, z4, z5, z6, z7]; try rfl) rfl ?_
        exact ⟨#[.string ByteArray.empty, .int .i64 0, .int .i64 0, .int .i64 0, .bool false, .slice none 0 0, .bool false, .int .i64 0], by simp [stepB, stepE], by simpa [stepR] using HE.out.1, by simpa [stepT] using HE.out.2.1, HE.out.2.2⟩
      · have e3 : (kd == 3) = false := by simpa using h3
        by_cases h4 : kd = 4
        · subst h4
          have HC := Aside0.mk (clean_calls p mb tb T xk s1 s2 s3 W0 HT0.out hks)
          go_wp2_with (first | ((with_reducible refine HC.out.mono ?_); rintro e w1 ⟨rfl, h1, o1⟩; have HT1 := Aside0.mk h1; have HD1 := Aside0.mk (HD.out.only o1 HLT.out); have HO1 := Aside0.mk (HO.out.trans o1); clear h1 o1; obtain ⟨⟨r0, r1, r2, r3, r4, r5, r6, r7⟩, f0, f1, f2, f3, f4, f5, f6, f7⟩ := HD1.out.r.eight))
          generalize hW9 : World.setCell _ _ _ = W9
          have h9 := set8_blk HD1.out.r (.string ByteArray.empty) (.int .i64 0) (.int .i64 0) (.int .i64 0) (.bool false) (.slice none 0 0) (.bool false) (.int .i64 0)
          have hE := done_end HD1.out HT1.out HLT.out HO1.out
          rw [show set8 w1 (w.heap.size + 1) (.string ByteArray.empty) (.int .i64 0) (.int .i64 0) (.int .i64 0) (.bool false) (.slice none 0 0) (.bool false) (.int .i64 0) = W9 from hW9] at h9 hE
          clear hW9
          have HE := Aside0.mk hE
          obtain ⟨⟨z0, z1, z2, z3, z4, z5, z6, z7⟩, _⟩ := h9.eight
          clear h9 hE
          refine bodyPost_ret (v := .tuple #[.agg #[.string ByteArray.empty, .int .i64 0, .int .i64 0, .int .i64 0, .bool false, .slice none 0 0, .bool false, .int .i64 0], .bool (cleanOn T xk ⟨s1, s2, s3⟩).isSome, .int .i64 0]) (by simp [results, Try.results22, go_sem, z0, z1, z2, z3, z4, z5, z6, z7]; try rfl) rfl ?_
          exact ⟨#[.string ByteArray.empty, .int .i64 0, .int .i64 0, .int .i64 0, .bool false, .slice none 0 0, .bool false, .int .i64 0], by simp [stepB, stepE], by simpa [stepR] using HE.out.1, by simpa [stepT] using HE.out.2.1, HE.out.2.2⟩
        · have e4 : (kd == 4) = false := by simpa using h4
          by_cases h6 : kd = 6
          · subst h6
            have HC := Aside0.mk (forget_calls p mb tb T n W0 HT0.out HN.out hn)
            go_wp2_with (first | ((with_reducible refine HC.out.mono ?_); rintro e w1 ⟨rfl, h1, o1⟩; have HT1 := Aside0.mk h1; have HD1 := Aside0.mk (HD.out.only o1 HLT.out); have HO1 := Aside0.mk (HO.out.trans o1); clear h1 o1; obtain ⟨⟨r0, r1, r2, r3, r4, r5, r6, r7⟩, f0, f1, f2, f3, f4, f5, f6, f7⟩ := HD1.out.r.eight))
            generalize hW9 : World.setCell _ _ _ = W9
            have h9 := set8_blk HD1.out.r (.string ByteArray.empty) (.int .i64 0) (.int .i64 0) (.int .i64 0) (.bool false) (.slice none 0 0) (.bool false) (.int .i64 0)
            have hE := done_end HD1.out HT1.out HLT.out HO1.out
            rw [show set8 w1 (w.heap.size + 1) (.string ByteArray.empty) (.int .i64 0) (.int .i64 0) (.int .i64 0) (.bool false) (.slice none 0 0) (.bool false) (.int .i64 0) = W9 from hW9] at h9 hE
            clear hW9
            have HE := Aside0.mk hE
            obtain ⟨⟨z0, z1, z2, z3, z4, z5, z6, z7⟩, _⟩ := h9.eight
            clear h9 hE
            refine bodyPost_ret (v := .tuple #[.agg #[.string ByteArray.empty, .int .i64 0, .int .i64 0, .int .i64 0, .bool false, .slice none 0 0, .bool false, .int .i64 0], .bool false, .int .i64 0]) (by simp [results, Try.results22, go_sem, z0, z1, z2, z3, z4, z5, z6, z7]; try rfl) rfl ?_
            exact ⟨#[.string ByteArray.empty, .int .i64 0, .int .i64 0, .int .i64 0, .bool false, .slice none 0 0, .bool false, .int .i64 0], by simp [stepB, stepE], by simpa [stepR] using HE.out.1, by simpa [stepT] using HE.out.2.1, HE.out.2.2⟩
          · have e6 : (kd == 6) = false := by simpa using h6
            have HH := Aside0.mk (And.intro h1 (And.intro h2 (And.intro h3 (And.intro h4 h6))))
            clear h1 h2 h3 h4 h6
            have HC := Aside0.mk (evict_calls p mb tb T xk n W0 HT0.out HN.out hn hks)
            go_wp2_with (first | ((with_reducible refine HC.out.mono ?_); rintro e w1 ⟨rfl, h1, o1⟩; have HT1 := Aside0.mk h1; have HD1 := Aside0.mk (HD.out.only o1 HLT.out); have HO1 := Aside0.mk (HO.out.trans o1); clear h1 o1; obtain ⟨⟨r0, r1, r2, r3, r4, r5, r6, r7⟩, f0, f1, f2, f3, f4, f5, f6, f7⟩ := HD1.out.r.eight))
            generalize hW9 : World.setCell _ _ _ = W9
            have h9 := set8_blk HD1.out.r (.string ByteArray.empty) (.int .i64 0) (.int .i64 0) (.int .i64 0) (.bool false) (.slice none 0 0) (.bool false) (.int .i64 0)
            have hE := done_end HD1.out HT1.out HLT.out HO1.out
            rw [show set8 w1 (w.heap.size + 1) (.string ByteArray.empty) (.int .i64 0) (.int .i64 0) (.int .i64 0) (.bool false) (.slice none 0 0) (.bool false) (.int .i64 0) = W9 from hW9] at h9 hE
            clear hW9
            have HE := Aside0.mk hE
            obtain ⟨⟨z0, z1, z2, z3, z4, z5, z6, z7⟩, _⟩ := h9.eight
            clear h9 hE
            refine bodyPost_ret (v := .tuple #[.agg #[.string ByteArray.empty, .int .i64 0, .int .i64 0, .int .i64 0, .bool false, .slice none 0 0, .bool false, .int .i64 0], .bool (evictB T xk), .int .i64 0]) (by simp [results, Try.results22, go_sem, z0, z1, z2, z3, z4, z5, z6, z7]; try rfl) rfl ?_
            exact ⟨#[.string ByteArray.empty, .int .i64 0, .int .i64 0, .int .i64 0, .bool false, .slice none 0 0, .bool false, .int .i64 0], by simp [stepB, stepE, HH.out], by simpa [stepR, HH.out] using HE.out.1, by simpa [stepT, HH.out] using HE.out.2.1, HE.out.2.2⟩
end Tab
end Go.Proofs.Ytgfjkpnaabiecaa
set_option linter.unusedVariables false
set_option linter.unusedSimpArgs false
namespace Go.Proofs.Ytgfjkpnaabiecaa
open Go.RowKit Go.Proofs.YtgfjkpnaabiecaaW.PrintWords
namespace Tab
open Tags
/-- A table of the call's own. -/
structure LS (w : World) (p mb tb : Nat) (T : Tb) (wr : World) : Prop where
  t : TbR wr p mb tb T
  bl : Below w.heap.size w wr
  g : w.heap.size ≤ p ∧ w.heap.size ≤ mb ∧ w.heap.size ≤ tb
namespace LS
variable {w wr w1 : World} {p mb tb : Nat} {T T' : Tb}
theorem below (h : LS w p mb tb T wr) (k : Below wr.heap.size wr w1) : LS w p mb tb T w1 := ⟨h.t.below k, Below.then_ h.bl k (Nat.le_refl _), h.g⟩
theorem told (h : LS w p mb tb T wr) (ht : TbR w1 p mb tb T') (o : Only [p, mb, tb] wr w1) : LS w p mb tb T' w1 :=
  ⟨ht, ((Only.of_below [p, mb, tb] h.bl).trans o).below (by intro i hi; obtain ⟨g1, g2, g3⟩ := h.g; simp at hi; rcases hi with rfl | rfl | rfl <;> assumption) (Nat.le_refl _), h.g⟩
theorem only {S : List Nat} (h : LS w p mb tb T wr) (o : Only S wr w1) (h1 : p ∉ S) (h2 : mb ∉ S) (h3 : tb ∉ S) (hn : ∀ i ∈ S, ¬ Ty wr 5 i) (hS : ∀ i ∈ S, w.heap.size ≤ i) : LS w p mb tb T w1 :=
  ⟨h.t.only o h1 h2 h3 hn, ((Only.of_below S h.bl).trans o).below hS (Nat.le_refl _), h.g⟩
/-- An elder entry may be stored. -/
theorem storeF {A : Option Addr} {c : Nat} {e : Entry} (h : LS w p mb tb T wr) (he : Entry.k.K w e (ecs e A c)) : Kd.FK Entry.k wr (fun i => i ∉ [p, mb, tb]) e (ecs e A c) := by
  obtain ⟨g1, g2, g3⟩ := h.g
  refine Foot.mono (Foot.step (ent_old he) (fun i _ hlt => h.bl.block i hlt)) (fun i hi hm => ?_)
  simp at hm
  omega
theorem lt (h : LS w p mb tb T wr) : ∀ i ∈ [p, mb, tb], i < wr.heap.size := by
  obtain ⟨l1, l2, l3⟩ := h.t.lt
  intro i hi
  simp at hi
  rcases hi with rfl | rfl | rfl <;> assumption
end LS
def runT (T : Tb) (xs : List Do) (k : Nat) : Tb := (xs.take k).foldl stepT T
theorem runT_succ {T : Tb} {xs : List Do} {k : Nat} {x : Do} (h : xs[k]? = some x) : runT T xs (k + 1) = stepT (runT T xs k) x := by
  unfold runT
  rw [List.take_add_one, h, List.foldl_append]
  rfl
theorem Wf.run {T : Tb} {n : Int} (h : Wf T n) (xs : List Do) (k : Nat) : Wf (runT T xs k) (n + 5000 * (k : Int)) := by
  induction k with
  | zero => exact h.mono (by simp)
  | succ k ih =>
    cases hx : xs[k]? with
    | none =>
      have : runT T xs (k + 1) = runT T xs k := by
        unfold runT
        rw [List.take_add_one, hx]; simp
      rw [this]
      exact ih.mono (by omega)
    | some x =>
      rw [runT_succ hx]
      exact (ih.step x).mono (by omega)
theorem Wf.tok_len {T : Tb} {n : Int} (h : Wf T n) : 0 < T.tok.length ∧ T.tok.length ≤ 256 := by
  obtain ⟨_, _, _, _, h5, h6⟩ := h.rm
  have := h.tl
  omega
theorem Wf.tok_in {T : Tb} {n : Int} (h : Wf T n) (hn : n ≤ 4000000000000000000) : ∀ x ∈ T.tok, InR .i64 x := fun x hx => by
  have := h.tk x hx
  exact InR.mk64 (by omega) (by omega)
theorem new_ok {r : Room} (hb : RoomOk r) (w' : World) : Calls Try.prog 10 #[.agg #[.int .i64 r.cells, .int .i64 r.bytes, .int .i64 r.buckets, .bool r.fresh]] w' fun e w'' => ∃ p mb tb, e = .returned (.tuple #[.pointer (some ⟨p, 0, none⟩), .int .i64 0]) ∧ LS w' p mb tb (newT r) w'' := by
  refine (new_calls r w').mono ?_
  intro e w'' h
  unfold NewTold at h
  rw [if_pos hb] at h
  obtain ⟨p, mb, tb, rfl, h1, h2, h3, h4, h5⟩ := h
  exact ⟨p, mb, tb, rfl, h1, h5, h2, h3, h4⟩
theorem new_no {r : Room} (hb : ¬ RoomOk r) (w' : World) : Calls Try.prog 10 #[.agg #[.int .i64 r.cells, .int .i64 r.bytes, .int .i64 r.buckets, .bool r.fresh]] w' fun e w'' => e = .returned (.tuple #[.pointer none, .int .i64 2]) ∧ Below w'.heap.size w' w'' := by
  refine (new_calls r w').mono ?_
  intro e w'' h
  unfold NewTold at h
  rw [if_neg hb] at h
  exact h
theorem LS.elder {w w0 : World} {p mb tb : Nat} {T : Tb} {wr : World} (h : LS w0 p mb tb T wr) (hb : Below w.heap.size w w0) : LS w p mb tb T wr := by
  have hs := hb.size
  obtain ⟨g1, g2, g3⟩ := h.g
  exact ⟨h.t, Below.then_ hb h.bl (Nat.le_refl _), by omega, by omega, by omega⟩
abbrev rcs (R : Reply) (A : Option Addr) (c : Nat) : List Value := [.string R.e.key, .int .i64 R.e.tag.seq, .int .i64 R.e.tag.who, .int .i64 R.e.tag.op, .bool R.e.val.has, .slice A R.e.val.b.length c, .bool R.whole, .int .i64 R.token]
/-- A box that holds a reply. -/
structure RB (wr : World) (b : Nat) (R : Reply) (A : Option Addr) (c : Nat) : Prop where
  blk : Blk wr b (rcs R A c)
  ty : Ty wr 52 b
  k : BK Reply.k wr R (rcs R A c)
namespace RB
variable {wr w1 : World} {b : Nat} {R : Reply} {A : Option Addr} {c : Nat}
theorem only {S : List Nat} (h : RB wr b R A c) (o : Only S wr w1) (hb : b ∉ S) (hn : ∀ i ∈ S, ¬ Ty wr 5 i) : RB w1 b R A c := ⟨h.blk.only o hb, h.ty.only o hb, h.k.only o hn⟩
theorem below (h : RB wr b R A c) (k : Below wr.heap.size wr w1) : RB w1 b R A c := h.only (S := []) (Only.of_below [] k) (by simp) (by simp)
theorem new (h : BK Reply.k wr R (rcs R A c)) : RB (wr.alloc (.cells (rcs R A c).toArray 52)) wr.heap.size R A c :=
  ⟨Blk.new_ _ _ _ rfl (by simp), ty_new rfl, h.below (below_alloc (Below.refl _ _) _)⟩
theorem bytes (h : RB wr b R A c) : kU8.C wr A R.e.val.b.length R.e.val.b := by
  obtain ⟨A6, c6, he, _, _, _, _, _, g5, _⟩ := Reply.open_ h.k.now
  simp only [List.cons.injEq, Value.slice.injEq, true_and, and_true] at he
  obtain ⟨rfl, rfl⟩ := he
  exact g5
theorem told {p mb tb : Nat} {T : Tb} (h : RB wr b R A c) (ht : TbR wr p mb tb T) (o : Only [p, mb, tb] wr w1) : RB w1 b R A c := by
  have n1 := ht.pty
  have n2 := ht.tty
  have n3 := ht.map.noTy
  refine h.only o (fun hm => ?_) ht.noB
  simp at hm
  rcases hm with rfl | rfl | rfl
  · exact (h.ty.ne (t' := 83) (by decide)) n1
  · exact n3 _ h.ty
  · exact (h.ty.ne (t' := 3) (by decide)) n2
end RB
end Tab
end Go.Proofs.Ytgfjkpnaabiecaa
set_option linter.unusedVariables false
set_option linter.unusedSimpArgs false
namespace Go.Proofs.Ytgfjkpnaabiecaa
open Go.RowKit Go.Proofs.YtgfjkpnaabiecaaW.PrintWords
namespace Tab
open Tags
end Tab
end Go.Proofs.Ytgfjkpnaabiecaa
set_option linter.unusedVariables false
set_option linter.unusedSimpArgs false
namespace Go.Proofs.Ytgfjkpnaabiecaa
open Go.RowKit Go.Proofs.YtgfjkpnaabiecaaW.PrintWords
namespace Tab
open Tags
theorem blk_keep {w : World} {g : Nat} {cs : List Value} (h : Blk w g cs) (ok : Nat → Prop) (hg : ok g) : Foot (fun W => Blk W g cs) w ok := fun W' hW => by
  have hb := hW g hg h.1
  refine ⟨?_, fun i v e => ⟨?_, ?_⟩⟩
  · rcases Nat.lt_or_ge g W'.heap.size with h1 | h1
    · exact h1
    · exfalso
      rw [Array.getElem?_eq_none h1, Array.getElem?_eq_getElem h.1] at hb
      cases hb
  · exact (World.cell?_of_block (w := w) hb).trans (h.2 i v e).1
  · exact (World.frozen?_of_block (w := w) hb).trans (h.2 i v e).2
end Tab
end Go.Proofs.Ytgfjkpnaabiecaa
set_option linter.unusedVariables false
set_option linter.unusedSimpArgs false
namespace Go.Proofs.Ytgfjkpnaabiecaa
open Go.RowKit Go.Proofs.YtgfjkpnaabiecaaW.PrintWords
namespace RTab
open Tags Tab
/-- A table's cells, as the reference holds it. -/
abbrev rtc (T : Tb) (A : Option Addr) (c : Nat) (B : Option Addr) (d : Nat) : List Value := [.int .i64 T.room.cells, .int .i64 T.room.bytes, .int .i64 T.room.buckets, .bool T.room.fresh, .slice A T.l.length c, .slice B T.tok.length d, .int .i64 T.uses]
/-- What the reference's table leads to lies in ok. -/
structure RT (w : World) (ok : Nat → Prop) (T : Tb) (A : Option Addr) (c : Nat) (B : Option Addr) (d : Nat) : Prop where
  l : Kd.F Cell.k w ok A T.l.length T.l
  k : Kd.F (kInt .i64) w ok B T.tok.length T.tok
  lc : T.l.length ≤ c
  kc : T.tok.length ≤ d
namespace RT
variable {w w1 : World} {ok ok' : Nat → Prop} {T : Tb} {A B : Option Addr} {c d : Nat}
theorem below (h : RT w ok T A c B d) (hb : Below w.heap.size w w1) : RT w1 ok T A c B d := ⟨Kd.F_below h.l hb, Kd.F_below h.k hb, h.lc, h.kc⟩
theorem mono (h : RT w ok T A c B d) (hk : ∀ i, ok i → ok' i) : RT w ok' T A c B d := ⟨Kd.F_mono h.l hk, Kd.F_mono h.k hk, h.lc, h.kc⟩
theorem only {S : List Nat} (h : RT w ok T A c B d) (o : Only S w w1) (hn : ∀ i, ok i → i ∉ S) : RT w1 ok T A c B d := ⟨Foot.only h.l o hn, Foot.only h.k o hn, h.lc, h.kc⟩
theorem bound (h : RT w ok T A c B d) : RT w (fun i => ok i ∧ i < w.heap.size) T A c B d := ⟨Kd.F_bound h.l, Kd.F_bound h.k, h.lc, h.kc⟩
end RT
theorem seven {w : World} {b : Nat} {v0 v1 v2 v3 v4 v5 v6 : Value} (h : Blk w b [v0, v1, v2, v3, v4, v5, v6]) :
    (w.cell? ⟨b, 0, none⟩ = some v0 ∧ w.cell? ⟨b, 1, none⟩ = some v1 ∧ w.cell? ⟨b, 2, none⟩ = some v2 ∧ w.cell? ⟨b, 3, none⟩ = some v3 ∧ w.cell? ⟨b, 4, none⟩ = some v4 ∧ w.cell? ⟨b, 5, none⟩ = some v5 ∧ w.cell? ⟨b, 6, none⟩ = some v6) ∧
    (w.frozen? ⟨b, 0, none⟩ = false ∧ w.frozen? ⟨b, 1, none⟩ = false ∧ w.frozen? ⟨b, 2, none⟩ = false ∧ w.frozen? ⟨b, 3, none⟩ = false ∧ w.frozen? ⟨b, 4, none⟩ = false ∧ w.frozen? ⟨b, 5, none⟩ = false ∧ w.frozen? ⟨b, 6, none⟩ = false) :=
  ⟨⟨h.cell 0 rfl, h.cell 1 rfl, h.cell 2 rfl, h.cell 3 rfl, h.cell 4 rfl, h.cell 5 rfl, h.cell 6 rfl⟩, h.frozen 0 rfl, h.frozen 1 rfl, h.frozen 2 rfl, h.frozen 3 rfl, h.frozen 4 rfl, h.frozen 5 rfl, h.frozen 6 rfl⟩
/-- Where a key's cell is. -/
def idx (l : List Cell) (k : ByteArray) : Nat := l.findIdx (fun c => decide (c.e.key = k))
def findI (l : List Cell) (k : ByteArray) : Int := if idx l k < l.length then (idx l k : Int) else -1
theorem idx_some {l : List Cell} {k : ByteArray} {c : Cell} (h : find l k = some c) : idx l k < l.length ∧ l[idx l k]? = some c := by
  induction l with
  | nil => cases h
  | cons x r ih =>
    unfold find at h
    rw [List.find?_cons] at h
    unfold idx
    rw [List.findIdx_cons]
    by_cases e : x.e.key = k
    · simp only [e, decide_true, cond_true] at h ⊢
      exact ⟨by simp, by simpa using h⟩
    · simp only [e, decide_false, cond_false] at h ⊢
      obtain ⟨h1, h2⟩ := ih h
      exact ⟨by rw [List.length_cons]; exact Nat.succ_lt_succ h1, by rw [List.getElem?_cons_succ]; exact h2⟩
theorem idx_none {l : List Cell} {k : ByteArray} (h : find l k = none) : idx l k = l.length := by
  unfold idx
  rw [List.findIdx_eq_length]
  intro x hx
  simpa using find_none h x hx
theorem findI_some {l : List Cell} {k : ByteArray} {c : Cell} (h : find l k = some c) : findI l k = (idx l k : Int) := if_pos (idx_some h).1
theorem findI_none {l : List Cell} {k : ByteArray} (h : find l k = none) : findI l k = -1 := if_neg (by rw [idx_none h]; omega)
/-- The first of its key. -/
theorem findI_at {l : List Cell} {k : ByteArray} {i : Nat} {c : Cell} (hi : l[i]? = some c) (he : c.e.key = k) (hb : ∀ x ∈ l.take i, x.e.key ≠ k) : findI l k = (i : Int) := by
  have hil := (List.getElem?_eq_some_iff.1 hi).1
  have : idx l k = i := by
    unfold idx
    rw [List.findIdx_eq hil]
    obtain ⟨_, rfl⟩ := List.getElem?_eq_some_iff.1 hi
    refine ⟨by simpa using he, fun j hj => ?_⟩
    have := hb l[j] (List.mem_take_iff_getElem.2 ⟨j, by omega, rfl⟩)
    simpa using this
  unfold findI
  rw [this, if_pos hil]
theorem findI_not {l : List Cell} {k : ByteArray} (hb : ∀ x ∈ l, x.e.key ≠ k) : findI l k = -1 := findI_none (find_no hb)
set_option maxRecDepth 100000 in
theorem find_calls (T : Tb) (A : Option Addr) (c : Nat) (B : Option Addr) (d : Nat) (k : ByteArray) (w : World) (h : Cell.k.C w A T.l.length T.l) :
    Calls Try.prog 67 #[.agg (rtc T A c B d).toArray, .string k] w fun e w' => e = .returned (.int .i64 (findI T.l k)) ∧ Below w.heap.size w w' := by
  have HR := Aside0.mk h
  have hl : T.l.length ≤ 9223372036854775807 := h.2.1
  obtain ⟨⟨ra, rz, rc, rd⟩, l, tok, us⟩ := T
  dsimp only at *
  clear h
  go_enter Try.func67, Try.ntmps67
  go_upto_region 2 with (fail)
  generalize hX : World.alloc _ _ = W0
  have HB0 : Aside0 (Below w.heap.size w W0) := ⟨by rw [← hX]; exact below_alloc (Below.refl _ _) _⟩
  have hx : Blk W0 w.heap.size [.int .i64 ra, .int .i64 rz, .int .i64 rc, .bool rd, .slice A l.length c, .slice B tok.length d, .int .i64 us] := by rw [← hX]; exact Blk.new_ _ _ _ rfl rfl
  obtain ⟨x0, x1, x2, x3, x4, x5, x6⟩ := (seven hx).1
  have HR := Aside0.mk (Kd.C_below HR.out HB0.out)
  clear hX hx
  go_loopg [5] l.length (fun gk v wr => ∃ i : Nat, v = .int .i64 (i : Int) ∧ i ≤ l.length ∧ Aside0 (gk + i = l.length) ∧ W0 = wr ∧ Aside0 (∀ x ∈ l.take i, x.e.key ≠ k))
  case atStart => exact ⟨0, rfl, Nat.zero_le _, ⟨rfl⟩, rfl, ⟨by simp⟩⟩
  case round =>
    obtain ⟨i, rfl, hi, HG, rfl, HN⟩ := hrel
    by_cases hlt : i < l.length
    · obtain ⟨a1, u, A5, c5, rfl, HU, y0, y1, y2, y3, y4, y5, y6, y7, y8, _⟩ := Cell.at_ HR.out i hlt
      have hltI : (i : Int) < (l.length : Int) := by omega
      by_cases he : u.e.key = k
      · have HF : Aside0 (findI l k = (i : Int)) := ⟨findI_at HU.out he HN.out⟩
        have hkb : (u.e.key.toList == k.toList) = true := by rw [he]; simp
        clear he
        go_wp2
        go_ret
        exact ⟨ret_i64 HF.out.symm, HB0.out⟩
      · have hkb : (u.e.key.toList == k.toList) = false := by simpa using StrRow.txt_ne he
        have HN1 : Aside0 (∀ x ∈ l.take (i + 1), x.e.key ≠ k) := ⟨fun x hx => by
          rw [List.take_add_one, HU.out, List.mem_append] at hx
          rcases hx with hx | hx
          · exact HN.out x hx
          · simp at hx; subst hx; exact he⟩
        clear he
        go_wp2
        go_roundg (l.length - (i + 1))
        case measure => have := HG.out; omega
        case rel => exact ⟨i + 1, by go_num, by omega, ⟨by omega⟩, rfl, HN1⟩
    · obtain rfl : i = l.length := by omega
      have HF : Aside0 (findI l k = -1) := ⟨findI_not (by have := HN.out; rwa [List.take_length] at this)⟩
      go_wp2
      go_ret
      exact ⟨ret_i64 HF.out.symm, HB0.out⟩
set_option maxRecDepth 100000 in
theorem bucketR_calls (T : Tb) (A : Option Addr) (c : Nat) (B : Option Addr) (d : Nat) (k : ByteArray) (w : World) (hk : k.size ≤ 140737488351232) (h1 : 1 ≤ T.room.buckets) (h2 : T.room.buckets ≤ 256) :
    Calls Try.prog 66 #[.agg (rtc T A c B d).toArray, .string k] w fun e w' => e = .returned (.int .i64 (Hash.bkt k T.room.buckets)) ∧ Below w.heap.size w w' := by
  have HC := Aside0.mk (fun w' => RHash.bucket_calls k T.room.buckets w' hk h1 (by omega))
  obtain ⟨⟨ra, rz, rc, rd⟩, l, tok, us⟩ := T
  dsimp only at *
  go_enter Try.func66, Try.ntmps66
  go_wp2_with (first | ((with_reducible refine (HC.out _).mono ?_); rintro e w1 ⟨rfl, h⟩; have HB := Aside0.mk (Below.then_ (below_alloc (Below.refl _ w) _) h (Nat.le_refl _)); clear h))
  go_ret
  exact ⟨rfl, HB.out⟩
set_option maxRecDepth 100000 in
theorem sizeR_calls (c : Cell) (A5 : Option Addr) (c5 : Nat) (w : World) (hk : c.e.key.size ≤ 140737488351232) (hb : c.e.val.b.length ≤ 9223372036854775807) (hs : csz c.e ≤ 1000000000000) :
    Calls Try.prog 55 #[.agg (ccs c A5 c5).toArray] w fun e w' => e = .returned (.int .i64 ((csz c.e : Nat) : Int)) ∧ Below w.heap.size w w' := by
  obtain ⟨⟨k, ⟨a1, a2, a3⟩, ⟨h, b⟩⟩, x, y, u⟩ := c
  unfold csz at *
  dsimp only [ccs] at *
  have e1 : IntKind.i64.wrap ((k.size : Int) + (b.length : Int)) = (k.size : Int) + (b.length : Int) := IntWalk.i64_in _ (by omega)
  go_enter Try.func55, Try.ntmps55
  go_wp2
  go_ret
  exact ⟨ret_i64 (by simp), below_alloc (Below.refl _ _) _⟩
theorem szs_take (l : List Cell) (i : Nat) : szs (l.take i) ≤ szs l := by
  induction l generalizing i with
  | nil => simp [szs]
  | cons x r ih =>
    cases i with
    | zero => simp [szs]
    | succ i => rw [List.take_succ_cons, szs_cons, szs_cons]; have := ih i; omega
theorem szs_snoc {l : List Cell} {i : Nat} {c : Cell} (h : l[i]? = some c) : szs (l.take (i + 1)) = szs (l.take i) + csz c.e := by
  rw [List.take_add_one, h]
  unfold szs
  simp
set_option maxRecDepth 100000 in
theorem bytesR_calls (T : Tb) (A : Option Addr) (c : Nat) (B : Option Addr) (d : Nat) (w : World) (h : Cell.k.C w A T.l.length T.l) (hs : szs T.l ≤ 1000000000000) :
    Calls Try.prog 31 #[.agg (rtc T A c B d).toArray] w fun e w' => e = .returned (.int .i64 ((szs T.l : Nat) : Int)) ∧ Below w.heap.size w w' := by
  have HR := Aside0.mk h
  have hl : T.l.length ≤ 9223372036854775807 := h.2.1
  obtain ⟨⟨ra, rz, rc, rd⟩, l, tok, us⟩ := T
  dsimp only at *
  clear h
  go_enter Try.func31, Try.ntmps31
  go_upto_region 3 with (fail)
  generalize hX : World.alloc _ _ = W0
  have HB0 : Aside0 (Below w.heap.size w W0) := ⟨by rw [← hX]; exact below_alloc (Below.refl _ _) _⟩
  have hx : Blk W0 w.heap.size [.int .i64 ra, .int .i64 rz, .int .i64 rc, .bool rd, .slice A l.length c, .slice B tok.length d, .int .i64 us] := by rw [← hX]; exact Blk.new_ _ _ _ rfl rfl
  obtain ⟨x0, x1, x2, x3, x4, x5, x6⟩ := (seven hx).1
  have HR := Aside0.mk (Kd.C_below HR.out HB0.out)
  clear hX hx
  go_loopg [3, 4] l.length (fun gk v3 v wr => ∃ (i n : Nat), v3 = .int .i64 (n : Int) ∧ v = .int .i64 (i : Int) ∧ i ≤ l.length ∧ n ≤ 1000000000000 ∧ Aside0 (gk + i = l.length) ∧ Aside0 (Below W0.heap.size W0 wr) ∧ Aside0 (n = szs (l.take i)))
  case atStart => exact ⟨0, 0, rfl, rfl, Nat.zero_le _, Nat.zero_le _, ⟨rfl⟩, ⟨Below.refl _ _⟩, ⟨by simp [szs]⟩⟩
  case round =>
    obtain ⟨i, n, rfl, rfl, hi, hn, HG, HW, HN⟩ := hrel
    have x4 := pw_cell_below HW.out x4
    by_cases hlt : i < l.length
    · obtain ⟨a1, u, A5, c5, rfl, HU, y0, y1, y2, y3, y4, y5, y6, y7, y8, HK⟩ := Cell.at_ (Kd.C_below HR.out HW.out) i hlt
      have hltI : (i : Int) < (l.length : Int) := by omega
      have hsn := szs_snoc HU.out
      have hst := szs_take l (i + 1)
      have HNN := HN.out
      have hsum : n + csz u.e ≤ 1000000000000 := by omega
      have HZ : Aside0 (n + csz u.e = szs (l.take (i + 1))) := ⟨by omega⟩
      clear hsn hst HNN
      have HC := Aside0.mk (fun w' => sizeR_calls u A5 c5 w' (by obtain ⟨_, _, _, s0, _⟩ := Cell.open_ HK.out; exact s0) (by obtain ⟨_, _, _, _, _, _, _, _, g5, _⟩ := Cell.open_ HK.out; exact g5.2.1) (by omega))
      dsimp only [ccs] at HC
      generalize csz u.e = z at HC hsum HZ
      go_wp2_with (first | ((with_reducible refine (HC.out _).mono ?_); rintro e w1 ⟨rfl, h⟩; have HW1 := Aside0.mk (Below.then_ HW.out h (Nat.le_refl _)); clear h))
      go_roundg (l.length - (i + 1))
      case measure => have := HG.out; omega
      case rel => exact ⟨i + 1, n + z, by go_num, by go_num, by omega, hsum, ⟨by omega⟩, HW1, HZ⟩
    · obtain rfl : i = l.length := by omega
      have HNN : Aside0 (n = szs l) := ⟨by have := HN.out; rwa [List.take_length] at this⟩
      go_wp2
      go_ret
      exact ⟨ret_i64 (by rw [HNN.out]), Below.then_ HB0.out HW.out (Nat.le_refl _)⟩
end RTab
end Go.Proofs.Ytgfjkpnaabiecaa
set_option linter.unusedVariables false
set_option linter.unusedSimpArgs false
namespace Go.Proofs.Ytgfjkpnaabiecaa
open Go.RowKit Go.Proofs.YtgfjkpnaabiecaaW.PrintWords
def RO {α : Type} (d : Kd α) (ok : Nat → Prop) (N : Nat) (W : World) (x : α) (cs : List Value) : Prop := Kd.FK d W (fun i => ok i ∧ i < N) x cs
structure Grow {α : Type} (d : Kd α) (t : TypeId) (ok : Nat → Prop) (N : Nat) (w0 W : World) (v : Value) (ds : List α) : Prop where
  row : OwnRow (RO d ok N W) t d.sz W N v ds
  bl : Below N w0 W
  hN : N ≤ W.heap.size
namespace Grow
variable {α : Type} {d : Kd α} {t : TypeId} {ok : Nat → Prop} {N : Nat} {w0 W W1 : World} {v : Value} {ds : List α} {y : α} {cs : List Value}
theorem ro_step (h : RO d ok N W y cs) (hb : Below N W W1) : RO d ok N W1 y cs := Foot.step h (fun i hi _ => hb.block i hi.2)
theorem start (t : TypeId) (d : Kd α) (ok : Nat → Prop) (w : World) : Grow d t ok w.heap.size w w (.slice none 0 0) [] := ⟨OwnRow.none_ _ _ _ _ _, Below.refl _ _, Nat.le_refl _⟩
theorem below (h : Grow d t ok N w0 W v ds) (hb : Below W.heap.size W W1) : Grow d t ok N w0 W1 v ds :=
  ⟨OwnRow.imp_ (h.row.below hb) (fun _ _ hr => ro_step hr (hb.mono h.hN)), h.bl.trans (hb.mono h.hN), Nat.le_trans h.hN hb.size⟩
/-- An element that was there at first. -/
theorem elem (h : Grow d t ok N w0 W v ds) (hN : N = w0.heap.size) (hy : Kd.FK d w0 ok y cs) : RO d ok N W y cs := by
  subst hN
  exact ro_step (Foot.bound hy) h.bl
theorem slice (h : Grow d t ok N w0 W v ds) : ∃ A c, v = .slice A ds.length c ∧ ds.length ≤ c := h.row.slice_
/-- What it reads as. -/
theorem foot (h : Grow d t ok N w0 W v ds) : ∃ A c, v = .slice A ds.length c ∧ ds.length ≤ c ∧ Kd.F d W (fun i => ok i ∨ N ≤ i) A ds.length ds := by
  obtain ⟨A, c, rfl, hc⟩ := h.row.slice_
  refine ⟨A, c, rfl, hc, fun W' hW => ?_⟩
  obtain ⟨inner, ho, hr⟩ := h.row
  have h' : OwnRow (d.K W') t d.sz W' N (.slice A ds.length c) ds := ⟨inner, own_move ho (fun k hk => hW k (.inr (own_base ho k hk)) (own_lt ho k hk)), hr.imp_ (fun p c hp => hp W' (fun k hk hlt => hW k (.inl hk.1) hlt))⟩
  obtain ⟨A', c', he, _, hr'⟩ := h'.reads
  injection he with h1 h2 h3
  subst h1
  exact hr'
section
variable {P : Program} {ops : Array Oper} {rest : List Oper} {o : Oper} {a : Act} {Q : Exit → Act → World → Prop}
/-- append(v, ys...). -/
theorem cat (hgd : o.guard = none) (s x : Operand) (ts : TypeId) (z : Value) (bytes : Nat)
    (ho : o.op = .call { callee := .builtin .append, args := #[s, x], argTypes := #[ts, ts] })
    (ht : P.underlying ts = some (.slice t)) (hinfo : (P.info? t).map (fun i => (i.zero, i.size, i.bytes)) = some (some z, d.sz, bytes)) (hz : z.cells.size = d.sz) (hs0 : 0 < d.sz) (hb0 : 0 < bytes)
    (G : Grow d t ok N w0 W v ds) (ys : List α) (A : Option Addr) (m c : Nat) (hs : a.eval s = v) (hx : a.eval x = .slice A m c)
    (HR : ReadsRow (RO d ok N W) d.sz W A m ys) (hl : (ds.length + m) * bytes ≤ 140737488355328)
    (h : ∀ v1 w1, Grow d t ok N w0 w1 v1 (ds ++ ys) → wpList P ops Q rest (a.put o.dst v1) w1) :
    wpList P ops Q (o :: rest) a W := by
  refine own_append_rows (w0 := w0) (R := RO d ok N W) N hgd s x ts t z d.sz bytes ho ht hinfo hz hs0 hb0 v ds ys A m c hs hx G.row HR (fun q cs hq => d.K_one (Kd.FK_now hq)) G.bl G.hN hl ?_
  intro v1 w1 hown hB hg hat
  have hb : Below N W w1 := (Below.refl N W).grown hg G.hN (OwnRow.base_ G.row)
  exact h v1 w1 ⟨OwnRow.imp_ hown (fun _ _ hr => ro_step hr hb), hB, Nat.le_trans G.hN hb.size⟩
/-- append(v, y): y lies in a block of its own. -/
theorem push (hgd : o.guard = none) (s x : Operand) (ts : TypeId) (z : Value) (bytes : Nat)
    (ho : o.op = .call { callee := .builtin .append, args := #[s, x], argTypes := #[ts, ts] })
    (ht : P.underlying ts = some (.slice t)) (hinfo : (P.info? t).map (fun i => (i.zero, i.size, i.bytes)) = some (some z, d.sz, bytes)) (hz : z.cells.size = d.sz) (hs0 : 0 < d.sz) (hb0 : 0 < bytes)
    (G : Grow d t ok N w0 W v ds) (cells : Array Value) (hy : RO d ok N W y cells.toList) (hs : a.eval s = v) (hx : a.eval x = .slice (some ⟨W.heap.size, 0, none⟩) 1 1)
    (hl : (ds.length + 1) * bytes ≤ 140737488355328)
    (h : ∀ v1 w1, Grow d t ok N w0 w1 v1 (ds ++ [y]) → wpList P ops Q rest (a.put o.dst v1) w1) :
    wpList P ops Q (o :: rest) a (W.alloc (.cells cells t)) := by
  have hb := below_alloc (Below.refl W.heap.size W) (.cells cells t)
  refine cat hgd s x ts z bytes ho ht hinfo hz hs0 hb0 (G.below hb) [y] (some ⟨W.heap.size, 0, none⟩) 1 1 hs hx ?_ hl h
  have hy' : RO d ok N (W.alloc (.cells cells t)) y cells.toList := ro_step hy (hb.mono G.hN)
  have hB := Blk.new_ W cells t rfl rfl
  refine ⟨rfl, by omega, fun _ => ⟨_, rfl, fun j p hj => ?_⟩⟩
  rcases j with _ | j
  · simp at hj
    subst hj
    exact ⟨cells.toList, d.K_len (Kd.FK_now hy'), hy', fun i u hu => by rw [add_plain]; simpa using hB.cell i hu⟩
  · simp at hj
end
/-- A row's end, as a slice of it. -/
theorem cut_dropF {α : Type} {t e : TypeId} {kl : IntKind} (ht : Try.prog.underlying t = some (.slice e)) {size : Nat} {z : Option Value} {bytes : Nat} (hinfo : (Try.prog.info? e).map (fun i => (i.zero, i.size, i.bytes)) = some (z, size, bytes)) (A : Option Addr) (n c m : Nat) (hm : m ≤ n) :
    ∃ A' : Option Addr, (∀ W : World, (Instr.slice t (.slice A n c) (some (.int kl (m : Int))) none none).run Try.prog W = .ok (.slice A' (n - m) (c - m)) W) ∧
      ∀ (k : Kd α) (w : World) (ok : Nat → Prop) (xs : List α), k.sz = size → n = xs.length → n ≤ c → Kd.F k w ok A xs.length xs → Kd.F k w ok A' (n - m) (xs.drop m) := by
  obtain ⟨i, hi, hzz⟩ := Option.map_eq_some_iff.1 hinfo
  simp only [Prod.mk.injEq] at hzz
  refine ⟨if c = m then A else A.map (·.add (m * size)), fun W => ?_, fun k w ok xs hs hn hc h => ?_⟩
  · have hel : Try.prog.elem t = e := by simp [Program.elem, ht]
    have hu : Try.prog.underlying t = some (.slice (Try.prog.elem t)) := by rw [hel]; exact ht
    rw [run_slice_l W t A n c hu kl (m : Int) (Int.natCast_nonneg _) (by omega), hel]
    simp [sizeOf, typeInfo, hi, hzz.2.1, sliced, Result.andThen]
  · subst hn
    subst hs
    have := Kd.F_cut (c := c) h hm hc
    rwa [List.length_drop] at this
/-- A row that was there at first, to be appended. -/
theorem rowR {α : Type} {d : Kd α} {t : TypeId} {ok : Nat → Prop} {N : Nat} {w0 W : World} {v : Value} {ds : List α} {A : Option Addr} {n : Nat} {xs : List α} (h : Grow d t ok N w0 W v ds) (hN : N = w0.heap.size) (hF : Kd.F d w0 ok A n xs) : ReadsRow (RO d ok N W) d.sz W A n xs := by
  subst hN
  have h1 := Kd.F_rows (Kd.F_mono (ok' := fun i => ok i ∧ i < w0.heap.size) (Kd.F_bound hF) (fun i hi => hi))
  refine ⟨h1.1, h1.2.1, fun hp => ?_⟩
  obtain ⟨ad, e, hc⟩ := h1.2.2 hp
  refine ⟨ad, e, fun j p hj => ?_⟩
  obtain ⟨cs, c1, c2, c3⟩ := hc j p hj
  exact ⟨cs, c1, ro_step c2 h.bl, fun i u hu => pw_cell_below h.bl (c3 i u hu)⟩
end Grow
end Go.Proofs.Ytgfjkpnaabiecaa
