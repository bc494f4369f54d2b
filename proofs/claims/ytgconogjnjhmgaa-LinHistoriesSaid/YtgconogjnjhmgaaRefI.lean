/- The reference of layer 18: Keys. -/
import Derived.Test.YtgconogjnjhmgaaKeysP
import Derived.Test.YtgconogjnjhmgaaTake
import Derived.Test.YtgconogjnjhmgaaLinearA
import Derived.Sort.Walk0
namespace Go.Proofs.Ytgconogjnjhmgaa
open Go.RowKit Go.Proofs.YtgconogjnjhmgaaW.PrintWords
namespace RefI
open LinA LinB LinG LinH RightA KeysA KeysP LinearA
attribute [local go_sem ↓] Go.wp_at_zero Go.wp_at_succ
abbrev SRow (W : World) (base : Nat) (v : Value) (o : List Key) : Prop := W.ownsRow base 9 1 v o.length (o.map encStr)
theorem bl_lt (q : Key) (cy : ByteArray) : Op.bytesLess (toB q).toList cy.toList = decide (q < cy.data.toList) := by
  rw [bytesLess_eq, ByteArray.toList_eq, ByteArray.toList_eq]; rfl
theorem rawKeys_take {xs : List Note} {k : Nat} {y : Key} (h : y ∈ rawKeys (xs.take k)) : y ∈ rawKeys xs := by
  unfold rawKeys at *
  obtain ⟨x, hx, rfl⟩ := List.mem_map.1 h
  rw [List.mem_filter] at hx
  exact List.mem_map.2 ⟨x, List.mem_filter.2 ⟨List.mem_of_mem_take hx.1, hx.2⟩, rfl⟩
set_option maxRecDepth 100000 in
set_option maxHeartbeats 4000000 in
theorem refKeys_calls (A : Option Addr) (c : Nat) (xs : List Note) (w : World) (hr : Note.k.C w A xs.length xs) (hn : xs.length ≤ 1300000000000) :
    Calls Try.prog 18 #[.slice A xs.length c] w (KeysTold xs w) := by
  have HR := Aside0.mk hr
  clear hr
  go_enter Try.func18, Try.ntmps18
  go_wp2_with fail
  go_loopw [3, 4] (fun v3 v4 wr => ∃ (k : Nat) (o : List Key), v4 = .int .i64 k ∧ k ≤ xs.length ∧ o.length ≤ k ∧ Aside0 (Below w.heap.size w wr) ∧ Aside0 (SRow wr w.heap.size v3 o) ∧ Aside0 (SS o ∧ ∀ y, y ∈ o ↔ y ∈ rawKeys (xs.take k))) (fun _ v4 _ => xs.length - (intOf v4).toNat)
  case atStart => exact ⟨0, [], rfl, Nat.zero_le _, Nat.le_refl _, ⟨Below.refl _ _⟩, ⟨own_nil _ _ _ _⟩, ⟨List.Pairwise.nil, fun y => Iff.rfl⟩⟩
  case round =>
    obtain ⟨k, o, rfl, hk, hol, HB, HO, HS⟩ := hrel
    by_cases hlt : k < xs.length
    · obtain ⟨ad, x, A4, c4, A8, c8, rfl, HE, hx0, hx1, hx2, hx3, hx4, hx5, hx6, hx7, hx8, HMM⟩ := Note.at_ (Kd.C_below HR.out HB.out) k hlt
      have HSN : Aside0 (rawKeys (xs.take (k + 1)) = rawKeys (xs.take k) ++ (if x.isAnswer then [] else [keyL x])) := ⟨by rw [List.take_add_one, HE.out]; exact rawKeys_snoc _ _⟩
      have h0 : (0 : Int) ≤ (k : Int) := by omega
      have h1 : (k : Int) < (xs.length : Int) := by omega
      have x3 : wr.cell? ⟨(ad.add (k * 9)).block, (ad.add (k * 9)).off + 1 + 2, none⟩ = _ := hx3
      clear hx1 hx2 hx3 hx4 hx5 hx6 hx7 hx8 HMM
      obtain ⟨xa, ⟨ci, ck, cy, cb⟩, ⟨ai, ae, av⟩⟩ := x
      simp only at *
      cases xa with
      | true =>
        go_wp2_with fail
        go_roundw
        case rel => exact ⟨k + 1, o, by go_num, by omega, by omega, HB, HO, ⟨HS.out.1, fun y => by rw [HSN.out]; simpa using HS.out.2 y⟩⟩
        case measure => simp [intOf]; omega
      | false =>
        have hsz : ∀ y ∈ o, y.length ≤ 140737488351232 := fun y hy => raw_size HR.out y (rawKeys_take (HS.out.2 y |>.1 hy))
        obtain ⟨A3, c3, rfl, hl3, hC3⟩ := strs_C HO.out hsz
        have HC3 := Aside0.mk hC3
        clear hC3 hsz
        go_upto_block 2 with fail
        go_cut [5] (fun s5 wx => ∃ p : Nat, s5 = .int .i64 p ∧ p ≤ o.length ∧ Aside0 (Below wr.heap.size wr wx) ∧ Aside0 (∀ j y, j < p → o[j]? = some y → y < keyL ⟨false, ⟨ci, ck, cy, cb⟩, ⟨ai, ae, av⟩⟩) ∧ Aside0 (∀ y, o[p]? = some y → ¬ y < keyL ⟨false, ⟨ci, ck, cy, cb⟩, ⟨ai, ae, av⟩⟩))
        case first =>
         go_wp2_with fail
         go_loopw [5] (fun v5 w5 => ∃ p : Nat, v5 = .int .i64 p ∧ p ≤ o.length ∧ Aside0 (Below wr.heap.size wr w5) ∧ Aside0 (∀ j y, j < p → o[j]? = some y → y < keyL ⟨false, ⟨ci, ck, cy, cb⟩, ⟨ai, ae, av⟩⟩)) (fun v5 _ => o.length - (intOf v5).toNat)
         case atStart => exact ⟨0, rfl, Nat.zero_le _, ⟨Below.refl _ _⟩, ⟨fun j y h => absurd h (Nat.not_lt_zero _)⟩⟩
         case round =>
           obtain ⟨p, rfl, hp, HB5, HP⟩ := hrel
           have z3 := pw_cell_below HB5.out x3
           by_cases hpl : p < o.length
           · obtain ⟨ad3, y, rfl, HY, hy0⟩ := kStr_at (Kd.C_below HC3.out HB5.out) p hpl
             have p0 : (0 : Int) ≤ (p : Int) := by omega
             have p1 : (p : Int) < ((o.length : Nat) : Int) := by omega
             obtain ⟨q, hq, rfl⟩ : ∃ q, o[p]? = some q ∧ toB q = y := by
               have := HY.out
               rw [List.getElem?_map] at this
               obtain ⟨q, h1, h2⟩ := Option.map_eq_some_iff.1 this
               exact ⟨q, h1, h2⟩
             cases hbl : Op.bytesLess (toB q).toList cy.toList with
             | true =>
               go_wp2_with fail
               refine wp_region_held_drew (S := fun w' => w'.cell? (ad3.add p) = some (.string (toB q)) ∧ w'.cell? ⟨(ad.add (k * 9)).block, (ad.add (k * 9)).off + 1 + 2, none⟩ = some (.string cy)) (by kernel_rfl) ⟨hy0, z3⟩ (fun hHeld => ?_)
               (first | (refine takeH 0 18 (v := ?_) rfl rfl (by kernel_rfl) (by kernel_rfl) (by kernel_rfl) (fun _ _ _ h => h) hHeld rfl ?_ ?_; rotate_left; (focus (intro w hSw; (try dsimp only at hSw); go_simp; try with_reducible rfl))) | refine skipH 0 18 rfl rfl (by kernel_rfl) (by kernel_rfl) (by kernel_rfl) (fun _ _ _ h => h) hHeld rfl ?_ | fail)
               (try simp only [Act.put, List.setIfInBounds_toArray, List.set_cons_zero, List.set_cons_succ])
               (first | (refine takeH 1 19 (v := ?_) rfl rfl (by kernel_rfl) (by kernel_rfl) (by kernel_rfl) (fun _ _ _ h => h) hHeld rfl ?_ ?_; rotate_left; (focus (intro w hSw; (try dsimp only at hSw); go_simp; try with_reducible rfl))) | refine skipH 1 19 rfl rfl (by kernel_rfl) (by kernel_rfl) (by kernel_rfl) (fun _ _ _ h => h) hHeld rfl ?_ | fail)
               (try simp only [Act.put, List.setIfInBounds_toArray, List.set_cons_zero, List.set_cons_succ])
               (first | (refine takeH 2 20 (v := ?_) rfl rfl (by kernel_rfl) (by kernel_rfl) (by kernel_rfl) (fun _ _ _ h => h) hHeld rfl ?_ ?_; rotate_left; (focus (intro w hSw; (try dsimp only at hSw); go_simp; try with_reducible rfl))) | refine skipH 2 20 rfl rfl (by kernel_rfl) (by kernel_rfl) (by kernel_rfl) (fun _ _ _ h => h) hHeld rfl ?_ | fail)
               (try simp only [Act.put, List.setIfInBounds_toArray, List.set_cons_zero, List.set_cons_succ])
               (first | (refine takeH 3 21 (v := ?_) rfl rfl (by kernel_rfl) (by kernel_rfl) (by kernel_rfl) (fun _ _ _ h => h) hHeld rfl ?_ ?_; rotate_left; (focus (intro w hSw; (try dsimp only at hSw); go_simp; try with_reducible rfl))) | refine skipH 3 21 rfl rfl (by kernel_rfl) (by kernel_rfl) (by kernel_rfl) (fun _ _ _ h => h) hHeld rfl ?_ | fail)
               (try simp only [Act.put, List.setIfInBounds_toArray, List.set_cons_zero, List.set_cons_succ])
               (first | (refine takeH 4 22 (v := ?_) rfl rfl (by kernel_rfl) (by kernel_rfl) (by kernel_rfl) (fun _ _ _ h => h) hHeld rfl ?_ ?_; rotate_left; (focus (intro w hSw; (try dsimp only at hSw); go_simp; try with_reducible rfl))) | refine skipH 4 22 rfl rfl (by kernel_rfl) (by kernel_rfl) (by kernel_rfl) (fun _ _ _ h => h) hHeld rfl ?_ | fail)
               (try simp only [Act.put, List.setIfInBounds_toArray, List.set_cons_zero, List.set_cons_succ])
               (first | (refine takeH 5 23 (v := ?_) rfl rfl (by kernel_rfl) (by kernel_rfl) (by kernel_rfl) (fun _ _ _ h => h) hHeld rfl ?_ ?_; rotate_left; (focus (intro w hSw; (try dsimp only at hSw); go_simp; try with_reducible rfl))) | refine skipH 5 23 rfl rfl (by kernel_rfl) (by kernel_rfl) (by kernel_rfl) (fun _ _ _ h => h) hHeld rfl ?_ | fail)
               (try simp only [Act.put, List.setIfInBounds_toArray, List.set_cons_zero, List.set_cons_succ])
               (first | (refine takeH 6 24 (v := ?_) rfl rfl (by kernel_rfl) (by kernel_rfl) (by kernel_rfl) (fun _ _ _ h => h) hHeld rfl ?_ ?_; rotate_left; (focus (intro w hSw; (try dsimp only at hSw); go_simp; try with_reducible rfl))) | refine skipH 6 24 rfl rfl (by kernel_rfl) (by kernel_rfl) (by kernel_rfl) (fun _ _ _ h => h) hHeld rfl ?_ | fail)
               (try simp only [Act.put, List.setIfInBounds_toArray, List.set_cons_zero, List.set_cons_succ])
               (first | (refine takeH 7 25 (v := ?_) rfl rfl (by kernel_rfl) (by kernel_rfl) (by kernel_rfl) (fun _ _ _ h => h) hHeld rfl ?_ ?_; rotate_left; (focus (intro w hSw; (try dsimp only at hSw); go_simp; try with_reducible rfl))) | refine skipH 7 25 rfl rfl (by kernel_rfl) (by kernel_rfl) (by kernel_rfl) (fun _ _ _ h => h) hHeld rfl ?_ | fail)
               (try simp only [Act.put, List.setIfInBounds_toArray, List.set_cons_zero, List.set_cons_succ])
               (first | (refine takeH 8 26 (v := ?_) rfl rfl (by kernel_rfl) (by kernel_rfl) (by kernel_rfl) (fun _ _ _ h => h) hHeld rfl ?_ ?_; rotate_left; (focus (intro w hSw; (try dsimp only at hSw); go_simp; try with_reducible rfl))) | refine skipH 8 26 rfl rfl (by kernel_rfl) (by kernel_rfl) (by kernel_rfl) (fun _ _ _ h => h) hHeld rfl ?_ | fail)
               (try simp only [Act.put, List.setIfInBounds_toArray, List.set_cons_zero, List.set_cons_succ])
               (first | (refine takeH 9 27 (v := ?_) rfl rfl (by kernel_rfl) (by kernel_rfl) (by kernel_rfl) (fun _ _ _ h => h) hHeld rfl ?_ ?_; rotate_left; (focus (intro w hSw; (try dsimp only at hSw); go_simp; try with_reducible rfl))) | refine skipH 9 27 rfl rfl (by kernel_rfl) (by kernel_rfl) (by kernel_rfl) (fun _ _ _ h => h) hHeld rfl ?_ | fail)
               (try simp only [Act.put, List.setIfInBounds_toArray, List.set_cons_zero, List.set_cons_succ])
               (first | (refine takeH 10 28 (v := ?_) rfl rfl (by kernel_rfl) (by kernel_rfl) (by kernel_rfl) (fun _ _ _ h => h) hHeld rfl ?_ ?_; rotate_left; (focus (intro w hSw; (try dsimp only at hSw); go_simp; try with_reducible rfl))) | refine skipH 10 28 rfl rfl (by kernel_rfl) (by kernel_rfl) (by kernel_rfl) (fun _ _ _ h => h) hHeld rfl ?_ | fail)
               (try simp only [Act.put, List.setIfInBounds_toArray, List.set_cons_zero, List.set_cons_succ])
               (first | (refine takeH 11 29 (v := ?_) rfl rfl (by kernel_rfl) (by kernel_rfl) (by kernel_rfl) (fun _ _ _ h => h) hHeld rfl ?_ ?_; rotate_left; (focus (intro w hSw; (try dsimp only at hSw); go_simp; try with_reducible rfl))) | refine skipH 11 29 rfl rfl (by kernel_rfl) (by kernel_rfl) (by kernel_rfl) (fun _ _ _ h => h) hHeld rfl ?_ | fail)
               (try simp only [Act.put, List.setIfInBounds_toArray, List.set_cons_zero, List.set_cons_succ])
               (first | (refine takeH 12 30 (v := ?_) rfl rfl (by kernel_rfl) (by kernel_rfl) (by kernel_rfl) (fun _ _ _ h => h) hHeld rfl ?_ ?_; rotate_left; (focus (intro w hSw; (try dsimp only at hSw); go_simp; try with_reducible rfl))) | refine skipH 12 30 rfl rfl (by kernel_rfl) (by kernel_rfl) (by kernel_rfl) (fun _ _ _ h => h) hHeld rfl ?_ | fail)
               (try simp only [Act.put, List.setIfInBounds_toArray, List.set_cons_zero, List.set_cons_succ])
               (first | (refine takeH 13 31 (v := ?_) rfl rfl (by kernel_rfl) (by kernel_rfl) (by kernel_rfl) (fun _ _ _ h => h) hHeld rfl ?_ ?_; rotate_left; (focus (intro w hSw; (try dsimp only at hSw); go_simp; try with_reducible rfl))) | refine skipH 13 31 rfl rfl (by kernel_rfl) (by kernel_rfl) (by kernel_rfl) (fun _ _ _ h => h) hHeld rfl ?_ | fail)
               (try simp only [Act.put, List.setIfInBounds_toArray, List.set_cons_zero, List.set_cons_succ])
               (first | (refine takeH 14 32 (v := ?_) rfl rfl (by kernel_rfl) (by kernel_rfl) (by kernel_rfl) (fun _ _ _ h => h) hHeld rfl ?_ ?_; rotate_left; (focus (intro w hSw; (try dsimp only at hSw); go_simp; try with_reducible rfl))) | refine skipH 14 32 rfl rfl (by kernel_rfl) (by kernel_rfl) (by kernel_rfl) (fun _ _ _ h => h) hHeld rfl ?_ | fail)
               (try simp only [Act.put, List.setIfInBounds_toArray, List.set_cons_zero, List.set_cons_succ])
               (first | (refine takeH 15 33 (v := ?_) rfl rfl (by kernel_rfl) (by kernel_rfl) (by kernel_rfl) (fun _ _ _ h => h) hHeld rfl ?_ ?_; rotate_left; (focus (intro w hSw; (try dsimp only at hSw); go_simp; try with_reducible rfl))) | refine skipH 15 33 rfl rfl (by kernel_rfl) (by kernel_rfl) (by kernel_rfl) (fun _ _ _ h => h) hHeld rfl ?_ | fail)
               (try simp only [Act.put, List.setIfInBounds_toArray, List.set_cons_zero, List.set_cons_succ])
               (first | (refine takeH 16 34 (v := ?_) rfl rfl (by kernel_rfl) (by kernel_rfl) (by kernel_rfl) (fun _ _ _ h => h) hHeld rfl ?_ ?_; rotate_left; (focus (intro w hSw; (try dsimp only at hSw); go_simp; try with_reducible rfl))) | refine skipH 16 34 rfl rfl (by kernel_rfl) (by kernel_rfl) (by kernel_rfl) (fun _ _ _ h => h) hHeld rfl ?_ | fail)
               (try simp only [Act.put, List.setIfInBounds_toArray, List.set_cons_zero, List.set_cons_succ])
               refine wpAnyH_done (by kernel_rfl) ?_ _
               go_wp2
               go_roundw
               case rel => exact ⟨p + 1, by go_num, by omega, ⟨below_drew HB5.out⟩, ⟨fun j y hj hy => by
                 rcases Nat.lt_or_ge j p with h | h
                 · exact HP.out j y h hy
                 · obtain rfl : j = p := by omega
                   rw [hq] at hy
                   injection hy with hy
                   subst hy
                   rw [bl_lt] at hbl
                   exact of_decide_eq_true hbl⟩⟩
               case measure => simp [intOf]; omega
             | false =>
               go_wp2_with fail
               refine wp_region_held_drew (S := fun w' => w'.cell? (ad3.add p) = some (.string (toB q)) ∧ w'.cell? ⟨(ad.add (k * 9)).block, (ad.add (k * 9)).off + 1 + 2, none⟩ = some (.string cy)) (by kernel_rfl) ⟨hy0, z3⟩ (fun hHeld => ?_)
               (first | (refine takeH 0 18 (v := ?_) rfl rfl (by kernel_rfl) (by kernel_rfl) (by kernel_rfl) (fun _ _ _ h => h) hHeld rfl ?_ ?_; rotate_left; (focus (intro w hSw; (try dsimp only at hSw); go_simp; try with_reducible rfl))) | refine skipH 0 18 rfl rfl (by kernel_rfl) (by kernel_rfl) (by kernel_rfl) (fun _ _ _ h => h) hHeld rfl ?_ | fail)
               (try simp only [Act.put, List.setIfInBounds_toArray, List.set_cons_zero, List.set_cons_succ])
               (first | (refine takeH 1 19 (v := ?_) rfl rfl (by kernel_rfl) (by kernel_rfl) (by kernel_rfl) (fun _ _ _ h => h) hHeld rfl ?_ ?_; rotate_left; (focus (intro w hSw; (try dsimp only at hSw); go_simp; try with_reducible rfl))) | refine skipH 1 19 rfl rfl (by kernel_rfl) (by kernel_rfl) (by kernel_rfl) (fun _ _ _ h => h) hHeld rfl ?_ | fail)
               (try simp only [Act.put, List.setIfInBounds_toArray, List.set_cons_zero, List.set_cons_succ])
               (first | (refine takeH 2 20 (v := ?_) rfl rfl (by kernel_rfl) (by kernel_rfl) (by kernel_rfl) (fun _ _ _ h => h) hHeld rfl ?_ ?_; rotate_left; (focus (intro w hSw; (try dsimp only at hSw); go_simp; try with_reducible rfl))) | refine skipH 2 20 rfl rfl (by kernel_rfl) (by kernel_rfl) (by kernel_rfl) (fun _ _ _ h => h) hHeld rfl ?_ | fail)
               (try simp only [Act.put, List.setIfInBounds_toArray, List.set_cons_zero, List.set_cons_succ])
               (first | (refine takeH 3 21 (v := ?_) rfl rfl (by kernel_rfl) (by kernel_rfl) (by kernel_rfl) (fun _ _ _ h => h) hHeld rfl ?_ ?_; rotate_left; (focus (intro w hSw; (try dsimp only at hSw); go_simp; try with_reducible rfl))) | refine skipH 3 21 rfl rfl (by kernel_rfl) (by kernel_rfl) (by kernel_rfl) (fun _ _ _ h => h) hHeld rfl ?_ | fail)
               (try simp only [Act.put, List.setIfInBounds_toArray, List.set_cons_zero, List.set_cons_succ])
               (first | (refine takeH 4 22 (v := ?_) rfl rfl (by kernel_rfl) (by kernel_rfl) (by kernel_rfl) (fun _ _ _ h => h) hHeld rfl ?_ ?_; rotate_left; (focus (intro w hSw; (try dsimp only at hSw); go_simp; try with_reducible rfl))) | refine skipH 4 22 rfl rfl (by kernel_rfl) (by kernel_rfl) (by kernel_rfl) (fun _ _ _ h => h) hHeld rfl ?_ | fail)
               (try simp only [Act.put, List.setIfInBounds_toArray, List.set_cons_zero, List.set_cons_succ])
               (first | (refine takeH 5 23 (v := ?_) rfl rfl (by kernel_rfl) (by kernel_rfl) (by kernel_rfl) (fun _ _ _ h => h) hHeld rfl ?_ ?_; rotate_left; (focus (intro w hSw; (try dsimp only at hSw); go_simp; try with_reducible rfl))) | refine skipH 5 23 rfl rfl (by kernel_rfl) (by kernel_rfl) (by kernel_rfl) (fun _ _ _ h => h) hHeld rfl ?_ | fail)
               (try simp only [Act.put, List.setIfInBounds_toArray, List.set_cons_zero, List.set_cons_succ])
               (first | (refine takeH 6 24 (v := ?_) rfl rfl (by kernel_rfl) (by kernel_rfl) (by kernel_rfl) (fun _ _ _ h => h) hHeld rfl ?_ ?_; rotate_left; (focus (intro w hSw; (try dsimp only at hSw); go_simp; try with_reducible rfl))) | refine skipH 6 24 rfl rfl (by kernel_rfl) (by kernel_rfl) (by kernel_rfl) (fun _ _ _ h => h) hHeld rfl ?_ | fail)
               (try simp only [Act.put, List.setIfInBounds_toArray, List.set_cons_zero, List.set_cons_succ])
               (first | (refine takeH 7 25 (v := ?_) rfl rfl (by kernel_rfl) (by kernel_rfl) (by kernel_rfl) (fun _ _ _ h => h) hHeld rfl ?_ ?_; rotate_left; (focus (intro w hSw; (try dsimp only at hSw); go_simp; try with_reducible rfl))) | refine skipH 7 25 rfl rfl (by kernel_rfl) (by kernel_rfl) (by kernel_rfl) (fun _ _ _ h => h) hHeld rfl ?_ | fail)
               (try simp only [Act.put, List.setIfInBounds_toArray, List.set_cons_zero, List.set_cons_succ])
               (first | (refine takeH 8 26 (v := ?_) rfl rfl (by kernel_rfl) (by kernel_rfl) (by kernel_rfl) (fun _ _ _ h => h) hHeld rfl ?_ ?_; rotate_left; (focus (intro w hSw; (try dsimp only at hSw); go_simp; try with_reducible rfl))) | refine skipH 8 26 rfl rfl (by kernel_rfl) (by kernel_rfl) (by kernel_rfl) (fun _ _ _ h => h) hHeld rfl ?_ | fail)
               (try simp only [Act.put, List.setIfInBounds_toArray, List.set_cons_zero, List.set_cons_succ])
               (first | (refine takeH 9 27 (v := ?_) rfl rfl (by kernel_rfl) (by kernel_rfl) (by kernel_rfl) (fun _ _ _ h => h) hHeld rfl ?_ ?_; rotate_left; (focus (intro w hSw; (try dsimp only at hSw); go_simp; try with_reducible rfl))) | refine skipH 9 27 rfl rfl (by kernel_rfl) (by kernel_rfl) (by kernel_rfl) (fun _ _ _ h => h) hHeld rfl ?_ | fail)
               (try simp only [Act.put, List.setIfInBounds_toArray, List.set_cons_zero, List.set_cons_succ])
               (first | (refine takeH 10 28 (v := ?_) rfl rfl (by kernel_rfl) (by kernel_rfl) (by kernel_rfl) (fun _ _ _ h => h) hHeld rfl ?_ ?_; rotate_left; (focus (intro w hSw; (try dsimp only at hSw); go_simp; try with_reducible rfl))) | refine skipH 10 28 rfl rfl (by kernel_rfl) (by kernel_rfl) (by kernel_rfl) (fun _ _ _ h => h) hHeld rfl ?_ | fail)
               (try simp only [Act.put, List.setIfInBounds_toArray, List.set_cons_zero, List.set_cons_succ])
               (first | (refine takeH 11 29 (v := ?_) rfl rfl (by kernel_rfl) (by kernel_rfl) (by kernel_rfl) (fun _ _ _ h => h) hHeld rfl ?_ ?_; rotate_left; (focus (intro w hSw; (try dsimp only at hSw); go_simp; try with_reducible rfl))) | refine skipH 11 29 rfl rfl (by kernel_rfl) (by kernel_rfl) (by kernel_rfl) (fun _ _ _ h => h) hHeld rfl ?_ | fail)
               (try simp only [Act.put, List.setIfInBounds_toArray, List.set_cons_zero, List.set_cons_succ])
               (first | (refine takeH 12 30 (v := ?_) rfl rfl (by kernel_rfl) (by kernel_rfl) (by kernel_rfl) (fun _ _ _ h => h) hHeld rfl ?_ ?_; rotate_left; (focus (intro w hSw; (try dsimp only at hSw); go_simp; try with_reducible rfl))) | refine skipH 12 30 rfl rfl (by kernel_rfl) (by kernel_rfl) (by kernel_rfl) (fun _ _ _ h => h) hHeld rfl ?_ | fail)
               (try simp only [Act.put, List.setIfInBounds_toArray, List.set_cons_zero, List.set_cons_succ])
               (first | (refine takeH 13 31 (v := ?_) rfl rfl (by kernel_rfl) (by kernel_rfl) (by kernel_rfl) (fun _ _ _ h => h) hHeld rfl ?_ ?_; rotate_left; (focus (intro w hSw; (try dsimp only at hSw); go_simp; try with_reducible rfl))) | refine skipH 13 31 rfl rfl (by kernel_rfl) (by kernel_rfl) (by kernel_rfl) (fun _ _ _ h => h) hHeld rfl ?_ | fail)
               (try simp only [Act.put, List.setIfInBounds_toArray, List.set_cons_zero, List.set_cons_succ])
               (first | (refine takeH 14 32 (v := ?_) rfl rfl (by kernel_rfl) (by kernel_rfl) (by kernel_rfl) (fun _ _ _ h => h) hHeld rfl ?_ ?_; rotate_left; (focus (intro w hSw; (try dsimp only at hSw); go_simp; try with_reducible rfl))) | refine skipH 14 32 rfl rfl (by kernel_rfl) (by kernel_rfl) (by kernel_rfl) (fun _ _ _ h => h) hHeld rfl ?_ | fail)
               (try simp only [Act.put, List.setIfInBounds_toArray, List.set_cons_zero, List.set_cons_succ])
               (first | (refine takeH 15 33 (v := ?_) rfl rfl (by kernel_rfl) (by kernel_rfl) (by kernel_rfl) (fun _ _ _ h => h) hHeld rfl ?_ ?_; rotate_left; (focus (intro w hSw; (try dsimp only at hSw); go_simp; try with_reducible rfl))) | refine skipH 15 33 rfl rfl (by kernel_rfl) (by kernel_rfl) (by kernel_rfl) (fun _ _ _ h => h) hHeld rfl ?_ | fail)
               (try simp only [Act.put, List.setIfInBounds_toArray, List.set_cons_zero, List.set_cons_succ])
               (first | (refine takeH 16 34 (v := ?_) rfl rfl (by kernel_rfl) (by kernel_rfl) (by kernel_rfl) (fun _ _ _ h => h) hHeld rfl ?_ ?_; rotate_left; (focus (intro w hSw; (try dsimp only at hSw); go_simp; try with_reducible rfl))) | refine skipH 16 34 rfl rfl (by kernel_rfl) (by kernel_rfl) (by kernel_rfl) (fun _ _ _ h => h) hHeld rfl ?_ | fail)
               (try simp only [Act.put, List.setIfInBounds_toArray, List.set_cons_zero, List.set_cons_succ])
               refine wpAnyH_done (by kernel_rfl) ?_ _
               go_wp2
               go_meet
               case rel => exact ⟨p, rfl, hp, ⟨below_drew HB5.out⟩, HP, ⟨fun y hy hlt => by
                 rw [hq] at hy
                 injection hy with hy
                 subst hy
                 rw [bl_lt] at hbl
                 exact of_decide_eq_false hbl hlt⟩⟩
           · obtain rfl : p = o.length := by omega
             have p1 : ¬ ((o.length : Nat) : Int) < ((o.length : Nat) : Int) := by omega
             go_wp2_with fail
             refine wp_region_held_drew (S := fun w' => w'.cell? ⟨(ad.add (k * 9)).block, (ad.add (k * 9)).off + 1 + 2, none⟩ = some (.string cy)) (by kernel_rfl) z3 (fun hHeld => ?_)
             (first | (refine takeH 0 18 (v := ?_) rfl rfl (by kernel_rfl) (by kernel_rfl) (by kernel_rfl) (fun _ _ _ h => h) hHeld rfl ?_ ?_; rotate_left; (focus (intro w hSw; (try dsimp only at hSw); go_simp; try with_reducible rfl))) | refine skipH 0 18 rfl rfl (by kernel_rfl) (by kernel_rfl) (by kernel_rfl) (fun _ _ _ h => h) hHeld rfl ?_ | fail)
             (try simp only [Act.put, List.setIfInBounds_toArray, List.set_cons_zero, List.set_cons_succ])
             (first | (refine takeH 1 19 (v := ?_) rfl rfl (by kernel_rfl) (by kernel_rfl) (by kernel_rfl) (fun _ _ _ h => h) hHeld rfl ?_ ?_; rotate_left; (focus (intro w hSw; (try dsimp only at hSw); go_simp; try with_reducible rfl))) | refine skipH 1 19 rfl rfl (by kernel_rfl) (by kernel_rfl) (by kernel_rfl) (fun _ _ _ h => h) hHeld rfl ?_ | fail)
             (try simp only [Act.put, List.setIfInBounds_toArray, List.set_cons_zero, List.set_cons_succ])
             (first | (refine takeH 2 20 (v := ?_) rfl rfl (by kernel_rfl) (by kernel_rfl) (by kernel_rfl) (fun _ _ _ h => h) hHeld rfl ?_ ?_; rotate_left; (focus (intro w hSw; (try dsimp only at hSw); go_simp; try with_reducible rfl))) | refine skipH 2 20 rfl rfl (by kernel_rfl) (by kernel_rfl) (by kernel_rfl) (fun _ _ _ h => h) hHeld rfl ?_ | fail)
             (try simp only [Act.put, List.setIfInBounds_toArray, List.set_cons_zero, List.set_cons_succ])
             (first | (refine takeH 3 21 (v := ?_) rfl rfl (by kernel_rfl) (by kernel_rfl) (by kernel_rfl) (fun _ _ _ h => h) hHeld rfl ?_ ?_; rotate_left; (focus (intro w hSw; (try dsimp only at hSw); go_simp; try with_reducible rfl))) | refine skipH 3 21 rfl rfl (by kernel_rfl) (by kernel_rfl) (by kernel_rfl) (fun _ _ _ h => h) hHeld rfl ?_ | fail)
             (try simp only [Act.put, List.setIfInBounds_toArray, List.set_cons_zero, List.set_cons_succ])
             (first | (refine takeH 4 22 (v := ?_) rfl rfl (by kernel_rfl) (by kernel_rfl) (by kernel_rfl) (fun _ _ _ h => h) hHeld rfl ?_ ?_; rotate_left; (focus (intro w hSw; (try dsimp only at hSw); go_simp; try with_reducible rfl))) | refine skipH 4 22 rfl rfl (by kernel_rfl) (by kernel_rfl) (by kernel_rfl) (fun _ _ _ h => h) hHeld rfl ?_ | fail)
             (try simp only [Act.put, List.setIfInBounds_toArray, List.set_cons_zero, List.set_cons_succ])
             (first | (refine takeH 5 23 (v := ?_) rfl rfl (by kernel_rfl) (by kernel_rfl) (by kernel_rfl) (fun _ _ _ h => h) hHeld rfl ?_ ?_; rotate_left; (focus (intro w hSw; (try dsimp only at hSw); go_simp; try with_reducible rfl))) | refine skipH 5 23 rfl rfl (by kernel_rfl) (by kernel_rfl) (by kernel_rfl) (fun _ _ _ h => h) hHeld rfl ?_ | fail)
             (try simp only [Act.put, List.setIfInBounds_toArray, List.set_cons_zero, List.set_cons_succ])
             (first | (refine takeH 6 24 (v := ?_) rfl rfl (by kernel_rfl) (by kernel_rfl) (by kernel_rfl) (fun _ _ _ h => h) hHeld rfl ?_ ?_; rotate_left; (focus (intro w hSw; (try dsimp only at hSw); go_simp; try with_reducible rfl))) | refine skipH 6 24 rfl rfl (by kernel_rfl) (by kernel_rfl) (by kernel_rfl) (fun _ _ _ h => h) hHeld rfl ?_ | fail)
             (try simp only [Act.put, List.setIfInBounds_toArray, List.set_cons_zero, List.set_cons_succ])
             (first | (refine takeH 7 25 (v := ?_) rfl rfl (by kernel_rfl) (by kernel_rfl) (by kernel_rfl) (fun _ _ _ h => h) hHeld rfl ?_ ?_; rotate_left; (focus (intro w hSw; (try dsimp only at hSw); go_simp; try with_reducible rfl))) | refine skipH 7 25 rfl rfl (by kernel_rfl) (by kernel_rfl) (by kernel_rfl) (fun _ _ _ h => h) hHeld rfl ?_ | fail)
             (try simp only [Act.put, List.setIfInBounds_toArray, List.set_cons_zero, List.set_cons_succ])
             (first | (refine takeH 8 26 (v := ?_) rfl rfl (by kernel_rfl) (by kernel_rfl) (by kernel_rfl) (fun _ _ _ h => h) hHeld rfl ?_ ?_; rotate_left; (focus (intro w hSw; (try dsimp only at hSw); go_simp; try with_reducible rfl))) | refine skipH 8 26 rfl rfl (by kernel_rfl) (by kernel_rfl) (by kernel_rfl) (fun _ _ _ h => h) hHeld rfl ?_ | fail)
             (try simp only [Act.put, List.setIfInBounds_toArray, List.set_cons_zero, List.set_cons_succ])
             (first | (refine takeH 9 27 (v := ?_) rfl rfl (by kernel_rfl) (by kernel_rfl) (by kernel_rfl) (fun _ _ _ h => h) hHeld rfl ?_ ?_; rotate_left; (focus (intro w hSw; (try dsimp only at hSw); go_simp; try with_reducible rfl))) | refine skipH 9 27 rfl rfl (by kernel_rfl) (by kernel_rfl) (by kernel_rfl) (fun _ _ _ h => h) hHeld rfl ?_ | fail)
             (try simp only [Act.put, List.setIfInBounds_toArray, List.set_cons_zero, List.set_cons_succ])
             (first | (refine takeH 10 28 (v := ?_) rfl rfl (by kernel_rfl) (by kernel_rfl) (by kernel_rfl) (fun _ _ _ h => h) hHeld rfl ?_ ?_; rotate_left; (focus (intro w hSw; (try dsimp only at hSw); go_simp; try with_reducible rfl))) | refine skipH 10 28 rfl rfl (by kernel_rfl) (by kernel_rfl) (by kernel_rfl) (fun _ _ _ h => h) hHeld rfl ?_ | fail)
             (try simp only [Act.put, List.setIfInBounds_toArray, List.set_cons_zero, List.set_cons_succ])
             (first | (refine takeH 11 29 (v := ?_) rfl rfl (by kernel_rfl) (by kernel_rfl) (by kernel_rfl) (fun _ _ _ h => h) hHeld rfl ?_ ?_; rotate_left; (focus (intro w hSw; (try dsimp only at hSw); go_simp; try with_reducible rfl))) | refine skipH 11 29 rfl rfl (by kernel_rfl) (by kernel_rfl) (by kernel_rfl) (fun _ _ _ h => h) hHeld rfl ?_ | fail)
             (try simp only [Act.put, List.setIfInBounds_toArray, List.set_cons_zero, List.set_cons_succ])
             (first | (refine takeH 12 30 (v := ?_) rfl rfl (by kernel_rfl) (by kernel_rfl) (by kernel_rfl) (fun _ _ _ h => h) hHeld rfl ?_ ?_; rotate_left; (focus (intro w hSw; (try dsimp only at hSw); go_simp; try with_reducible rfl))) | refine skipH 12 30 rfl rfl (by kernel_rfl) (by kernel_rfl) (by kernel_rfl) (fun _ _ _ h => h) hHeld rfl ?_ | fail)
             (try simp only [Act.put, List.setIfInBounds_toArray, List.set_cons_zero, List.set_cons_succ])
             (first | (refine takeH 13 31 (v := ?_) rfl rfl (by kernel_rfl) (by kernel_rfl) (by kernel_rfl) (fun _ _ _ h => h) hHeld rfl ?_ ?_; rotate_left; (focus (intro w hSw; (try dsimp only at hSw); go_simp; try with_reducible rfl))) | refine skipH 13 31 rfl rfl (by kernel_rfl) (by kernel_rfl) (by kernel_rfl) (fun _ _ _ h => h) hHeld rfl ?_ | fail)
             (try simp only [Act.put, List.setIfInBounds_toArray, List.set_cons_zero, List.set_cons_succ])
             (first | (refine takeH 14 32 (v := ?_) rfl rfl (by kernel_rfl) (by kernel_rfl) (by kernel_rfl) (fun _ _ _ h => h) hHeld rfl ?_ ?_; rotate_left; (focus (intro w hSw; (try dsimp only at hSw); go_simp; try with_reducible rfl))) | refine skipH 14 32 rfl rfl (by kernel_rfl) (by kernel_rfl) (by kernel_rfl) (fun _ _ _ h => h) hHeld rfl ?_ | fail)
             (try simp only [Act.put, List.setIfInBounds_toArray, List.set_cons_zero, List.set_cons_succ])
             (first | (refine takeH 15 33 (v := ?_) rfl rfl (by kernel_rfl) (by kernel_rfl) (by kernel_rfl) (fun _ _ _ h => h) hHeld rfl ?_ ?_; rotate_left; (focus (intro w hSw; (try dsimp only at hSw); go_simp; try with_reducible rfl))) | refine skipH 15 33 rfl rfl (by kernel_rfl) (by kernel_rfl) (by kernel_rfl) (fun _ _ _ h => h) hHeld rfl ?_ | fail)
             (try simp only [Act.put, List.setIfInBounds_toArray, List.set_cons_zero, List.set_cons_succ])
             (first | (refine takeH 16 34 (v := ?_) rfl rfl (by kernel_rfl) (by kernel_rfl) (by kernel_rfl) (fun _ _ _ h => h) hHeld rfl ?_ ?_; rotate_left; (focus (intro w hSw; (try dsimp only at hSw); go_simp; try with_reducible rfl))) | refine skipH 16 34 rfl rfl (by kernel_rfl) (by kernel_rfl) (by kernel_rfl) (fun _ _ _ h => h) hHeld rfl ?_ | fail)
             (try simp only [Act.put, List.setIfInBounds_toArray, List.set_cons_zero, List.set_cons_succ])
             refine wpAnyH_done (by kernel_rfl) ?_ _
             go_wp2
             go_meet
             case rel => exact ⟨o.length, rfl, Nat.le_refl _, ⟨below_drew HB5.out⟩, HP, ⟨fun y hy => by rw [List.getElem?_eq_none (Nat.le_refl _)] at hy; cases hy⟩⟩
        case rest =>
          obtain ⟨p, rfl, hp, HB5, HP, HQ⟩ := hcut
          have z3 := pw_cell_below HB5.out x3
          have HIN := Aside0.mk (ins_ok (o := o) (x := keyL ⟨false, ⟨ci, ck, cy, cb⟩, ⟨ai, ae, av⟩⟩) (k := p) HS.out.1 HP.out HQ.out hp)
          have HRW := Aside0.mk (below_step HB.out HB5.out)
          by_cases hpl : p < o.length
          · obtain ⟨ad3, y, rfl, HY, hy0⟩ := kStr_at (Kd.C_below HC3.out HB5.out) p hpl
            have p0 : (0 : Int) ≤ (p : Int) := by omega
            have p1 : (p : Int) < ((o.length : Nat) : Int) := by omega
            obtain ⟨q, hq, rfl⟩ : ∃ q, o[p]? = some q ∧ toB q = y := by
              have := HY.out
              rw [List.getElem?_map] at this
              obtain ⟨q, h1, h2⟩ := Option.map_eq_some_iff.1 this
              exact ⟨q, h1, h2⟩
            cases hbe : ((toB q).toList == cy.toList) with
            | true =>
              have HXQ : Aside0 (q = keyL ⟨false, ⟨ci, ck, cy, cb⟩, ⟨ai, ae, av⟩⟩) := ⟨by
                have := eq_of_beq hbe
                rw [ByteArray.toList_eq, ByteArray.toList_eq] at this
                exact this⟩
              go_wp2_with fail
              refine wp_region_held_drew (S := fun w' => w'.cell? (ad3.add p) = some (.string (toB q)) ∧ w'.cell? ⟨(ad.add (k * 9)).block, (ad.add (k * 9)).off + 1 + 2, none⟩ = some (.string cy)) (by kernel_rfl) ⟨hy0, z3⟩ (fun hHeld => ?_)
              (first | (refine takeH 0 37 (v := ?_) rfl rfl (by kernel_rfl) (by kernel_rfl) (by kernel_rfl) (fun _ _ _ h => h) hHeld rfl ?_ ?_; rotate_left; (focus (intro w hSw; (try dsimp only at hSw); go_simp; try with_reducible rfl))) | refine skipH 0 37 rfl rfl (by kernel_rfl) (by kernel_rfl) (by kernel_rfl) (fun _ _ _ h => h) hHeld rfl ?_ | fail)
              (try simp only [Act.put, List.setIfInBounds_toArray, List.set_cons_zero, List.set_cons_succ])
              (first | (refine takeH 1 38 (v := ?_) rfl rfl (by kernel_rfl) (by kernel_rfl) (by kernel_rfl) (fun _ _ _ h => h) hHeld rfl ?_ ?_; rotate_left; (focus (intro w hSw; (try dsimp only at hSw); go_simp; try with_reducible rfl))) | refine skipH 1 38 rfl rfl (by kernel_rfl) (by kernel_rfl) (by kernel_rfl) (fun _ _ _ h => h) hHeld rfl ?_ | fail)
              (try simp only [Act.put, List.setIfInBounds_toArray, List.set_cons_zero, List.set_cons_succ])
              (first | (refine takeH 2 39 (v := ?_) rfl rfl (by kernel_rfl) (by kernel_rfl) (by kernel_rfl) (fun _ _ _ h => h) hHeld rfl ?_ ?_; rotate_left; (focus (intro w hSw; (try dsimp only at hSw); go_simp; try with_reducible rfl))) | refine skipH 2 39 rfl rfl (by kernel_rfl) (by kernel_rfl) (by kernel_rfl) (fun _ _ _ h => h) hHeld rfl ?_ | fail)
              (try simp only [Act.put, List.setIfInBounds_toArray, List.set_cons_zero, List.set_cons_succ])
              (first | (refine takeH 3 40 (v := ?_) rfl rfl (by kernel_rfl) (by kernel_rfl) (by kernel_rfl) (fun _ _ _ h => h) hHeld rfl ?_ ?_; rotate_left; (focus (intro w hSw; (try dsimp only at hSw); go_simp; try with_reducible rfl))) | refine skipH 3 40 rfl rfl (by kernel_rfl) (by kernel_rfl) (by kernel_rfl) (fun _ _ _ h => h) hHeld rfl ?_ | fail)
              (try simp only [Act.put, List.setIfInBounds_toArray, List.set_cons_zero, List.set_cons_succ])
              (first | (refine takeH 4 41 (v := ?_) rfl rfl (by kernel_rfl) (by kernel_rfl) (by kernel_rfl) (fun _ _ _ h => h) hHeld rfl ?_ ?_; rotate_left; (focus (intro w hSw; (try dsimp only at hSw); go_simp; try with_reducible rfl))) | refine skipH 4 41 rfl rfl (by kernel_rfl) (by kernel_rfl) (by kernel_rfl) (fun _ _ _ h => h) hHeld rfl ?_ | fail)
              (try simp only [Act.put, List.setIfInBounds_toArray, List.set_cons_zero, List.set_cons_succ])
              (first | (refine takeH 5 42 (v := ?_) rfl rfl (by kernel_rfl) (by kernel_rfl) (by kernel_rfl) (fun _ _ _ h => h) hHeld rfl ?_ ?_; rotate_left; (focus (intro w hSw; (try dsimp only at hSw); go_simp; try with_reducible rfl))) | refine skipH 5 42 rfl rfl (by kernel_rfl) (by kernel_rfl) (by kernel_rfl) (fun _ _ _ h => h) hHeld rfl ?_ | fail)
              (try simp only [Act.put, List.setIfInBounds_toArray, List.set_cons_zero, List.set_cons_succ])
              (first | (refine takeH 6 43 (v := ?_) rfl rfl (by kernel_rfl) (by kernel_rfl) (by kernel_rfl) (fun _ _ _ h => h) hHeld rfl ?_ ?_; rotate_left; (focus (intro w hSw; (try dsimp only at hSw); go_simp; try with_reducible rfl))) | refine skipH 6 43 rfl rfl (by kernel_rfl) (by kernel_rfl) (by kernel_rfl) (fun _ _ _ h => h) hHeld rfl ?_ | fail)
              (try simp only [Act.put, List.setIfInBounds_toArray, List.set_cons_zero, List.set_cons_succ])
              (first | (refine takeH 7 44 (v := ?_) rfl rfl (by kernel_rfl) (by kernel_rfl) (by kernel_rfl) (fun _ _ _ h => h) hHeld rfl ?_ ?_; rotate_left; (focus (intro w hSw; (try dsimp only at hSw); go_simp; try with_reducible rfl))) | refine skipH 7 44 rfl rfl (by kernel_rfl) (by kernel_rfl) (by kernel_rfl) (fun _ _ _ h => h) hHeld rfl ?_ | fail)
              (try simp only [Act.put, List.setIfInBounds_toArray, List.set_cons_zero, List.set_cons_succ])
              (first | (refine takeH 8 45 (v := ?_) rfl rfl (by kernel_rfl) (by kernel_rfl) (by kernel_rfl) (fun _ _ _ h => h) hHeld rfl ?_ ?_; rotate_left; (focus (intro w hSw; (try dsimp only at hSw); go_simp; try with_reducible rfl))) | refine skipH 8 45 rfl rfl (by kernel_rfl) (by kernel_rfl) (by kernel_rfl) (fun _ _ _ h => h) hHeld rfl ?_ | fail)
              (try simp only [Act.put, List.setIfInBounds_toArray, List.set_cons_zero, List.set_cons_succ])
              (first | (refine takeH 9 46 (v := ?_) rfl rfl (by kernel_rfl) (by kernel_rfl) (by kernel_rfl) (fun _ _ _ h => h) hHeld rfl ?_ ?_; rotate_left; (focus (intro w hSw; (try dsimp only at hSw); go_simp; try with_reducible rfl))) | refine skipH 9 46 rfl rfl (by kernel_rfl) (by kernel_rfl) (by kernel_rfl) (fun _ _ _ h => h) hHeld rfl ?_ | fail)
              (try simp only [Act.put, List.setIfInBounds_toArray, List.set_cons_zero, List.set_cons_succ])
              (first | (refine takeH 10 47 (v := ?_) rfl rfl (by kernel_rfl) (by kernel_rfl) (by kernel_rfl) (fun _ _ _ h => h) hHeld rfl ?_ ?_; rotate_left; (focus (intro w hSw; (try dsimp only at hSw); go_simp; try with_reducible rfl))) | refine skipH 10 47 rfl rfl (by kernel_rfl) (by kernel_rfl) (by kernel_rfl) (fun _ _ _ h => h) hHeld rfl ?_ | fail)
              (try simp only [Act.put, List.setIfInBounds_toArray, List.set_cons_zero, List.set_cons_succ])
              (first | (refine takeH 11 48 (v := ?_) rfl rfl (by kernel_rfl) (by kernel_rfl) (by kernel_rfl) (fun _ _ _ h => h) hHeld rfl ?_ ?_; rotate_left; (focus (intro w hSw; (try dsimp only at hSw); go_simp; try with_reducible rfl))) | refine skipH 11 48 rfl rfl (by kernel_rfl) (by kernel_rfl) (by kernel_rfl) (fun _ _ _ h => h) hHeld rfl ?_ | fail)
              (try simp only [Act.put, List.setIfInBounds_toArray, List.set_cons_zero, List.set_cons_succ])
              (first | (refine takeH 12 49 (v := ?_) rfl rfl (by kernel_rfl) (by kernel_rfl) (by kernel_rfl) (fun _ _ _ h => h) hHeld rfl ?_ ?_; rotate_left; (focus (intro w hSw; (try dsimp only at hSw); go_simp; try with_reducible rfl))) | refine skipH 12 49 rfl rfl (by kernel_rfl) (by kernel_rfl) (by kernel_rfl) (fun _ _ _ h => h) hHeld rfl ?_ | fail)
              (try simp only [Act.put, List.setIfInBounds_toArray, List.set_cons_zero, List.set_cons_succ])
              (first | (refine takeH 13 50 (v := ?_) rfl rfl (by kernel_rfl) (by kernel_rfl) (by kernel_rfl) (fun _ _ _ h => h) hHeld rfl ?_ ?_; rotate_left; (focus (intro w hSw; (try dsimp only at hSw); go_simp; try with_reducible rfl))) | refine skipH 13 50 rfl rfl (by kernel_rfl) (by kernel_rfl) (by kernel_rfl) (fun _ _ _ h => h) hHeld rfl ?_ | fail)
              (try simp only [Act.put, List.setIfInBounds_toArray, List.set_cons_zero, List.set_cons_succ])
              (first | (refine takeH 14 51 (v := ?_) rfl rfl (by kernel_rfl) (by kernel_rfl) (by kernel_rfl) (fun _ _ _ h => h) hHeld rfl ?_ ?_; rotate_left; (focus (intro w hSw; (try dsimp only at hSw); go_simp; try with_reducible rfl))) | refine skipH 14 51 rfl rfl (by kernel_rfl) (by kernel_rfl) (by kernel_rfl) (fun _ _ _ h => h) hHeld rfl ?_ | fail)
              (try simp only [Act.put, List.setIfInBounds_toArray, List.set_cons_zero, List.set_cons_succ])
              (first | (refine takeH 15 52 (v := ?_) rfl rfl (by kernel_rfl) (by kernel_rfl) (by kernel_rfl) (fun _ _ _ h => h) hHeld rfl ?_ ?_; rotate_left; (focus (intro w hSw; (try dsimp only at hSw); go_simp; try with_reducible rfl))) | refine skipH 15 52 rfl rfl (by kernel_rfl) (by kernel_rfl) (by kernel_rfl) (fun _ _ _ h => h) hHeld rfl ?_ | fail)
              (try simp only [Act.put, List.setIfInBounds_toArray, List.set_cons_zero, List.set_cons_succ])
              (first | (refine takeH 16 53 (v := ?_) rfl rfl (by kernel_rfl) (by kernel_rfl) (by kernel_rfl) (fun _ _ _ h => h) hHeld rfl ?_ ?_; rotate_left; (focus (intro w hSw; (try dsimp only at hSw); go_simp; try with_reducible rfl))) | refine skipH 16 53 rfl rfl (by kernel_rfl) (by kernel_rfl) (by kernel_rfl) (fun _ _ _ h => h) hHeld rfl ?_ | fail)
              (try simp only [Act.put, List.setIfInBounds_toArray, List.set_cons_zero, List.set_cons_succ])
              refine wpAnyH_done (by kernel_rfl) ?_ _
              go_wp2
              go_roundw
              case rel => exact ⟨k + 1, o, by go_num, by omega, by omega, ⟨below_drew HRW.out⟩, ⟨pw_own_below HO.out (below_drew HB5.out)⟩, ⟨HS.out.1, fun y => by
                have h1 := HIN.out.2 y
                unfold insAt at h1
                rw [if_pos (by rw [hq, HXQ.out])] at h1
                rw [HSN.out, List.mem_append, ← HS.out.2 y]
                simpa using h1⟩⟩
              case measure => simp [intOf]; omega
            | false =>
              have HI : Aside0 (insAt o (keyL ⟨false, ⟨ci, ck, cy, cb⟩, ⟨ai, ae, av⟩⟩) p = o.take p ++ keyL ⟨false, ⟨ci, ck, cy, cb⟩, ⟨ai, ae, av⟩⟩ :: o.drop p) := ⟨by
                unfold insAt
                rw [if_neg (fun h => by
                  rw [hq] at h
                  injection h with h
                  rw [h, ByteArray.toList_eq, ByteArray.toList_eq] at hbe
                  have h2 : ((keyL ⟨false, ⟨ci, ck, cy, cb⟩, ⟨ai, ae, av⟩⟩ : Key) == keyL ⟨false, ⟨ci, ck, cy, cb⟩, ⟨ai, ae, av⟩⟩) = false := hbe
                  simp at h2)]⟩
              go_wp2_with fail
              refine wp_region_held_drew (S := fun w' => w'.cell? (ad3.add p) = some (.string (toB q)) ∧ w'.cell? ⟨(ad.add (k * 9)).block, (ad.add (k * 9)).off + 1 + 2, none⟩ = some (.string cy)) (by kernel_rfl) ⟨hy0, z3⟩ (fun hHeld => ?_)
              (first | (refine takeH 0 37 (v := ?_) rfl rfl (by kernel_rfl) (by kernel_rfl) (by kernel_rfl) (fun _ _ _ h => h) hHeld rfl ?_ ?_; rotate_left; (focus (intro w hSw; (try dsimp only at hSw); go_simp; try with_reducible rfl))) | refine skipH 0 37 rfl rfl (by kernel_rfl) (by kernel_rfl) (by kernel_rfl) (fun _ _ _ h => h) hHeld rfl ?_ | fail)
              (try simp only [Act.put, List.setIfInBounds_toArray, List.set_cons_zero, List.set_cons_succ])
              (first | (refine takeH 1 38 (v := ?_) rfl rfl (by kernel_rfl) (by kernel_rfl) (by kernel_rfl) (fun _ _ _ h => h) hHeld rfl ?_ ?_; rotate_left; (focus (intro w hSw; (try dsimp only at hSw); go_simp; try with_reducible rfl))) | refine skipH 1 38 rfl rfl (by kernel_rfl) (by kernel_rfl) (by kernel_rfl) (fun _ _ _ h => h) hHeld rfl ?_ | fail)
              (try simp only [Act.put, List.setIfInBounds_toArray, List.set_cons_zero, List.set_cons_succ])
              (first | (refine takeH 2 39 (v := ?_) rfl rfl (by kernel_rfl) (by kernel_rfl) (by kernel_rfl) (fun _ _ _ h => h) hHeld rfl ?_ ?_; rotate_left; (focus (intro w hSw; (try dsimp only at hSw); go_simp; try with_reducible rfl))) | refine skipH 2 39 rfl rfl (by kernel_rfl) (by kernel_rfl) (by kernel_rfl) (fun _ _ _ h => h) hHeld rfl ?_ | fail)
              (try simp only [Act.put, List.setIfInBounds_toArray, List.set_cons_zero, List.set_cons_succ])
              (first | (refine takeH 3 40 (v := ?_) rfl rfl (by kernel_rfl) (by kernel_rfl) (by kernel_rfl) (fun _ _ _ h => h) hHeld rfl ?_ ?_; rotate_left; (focus (intro w hSw; (try dsimp only at hSw); go_simp; try with_reducible rfl))) | refine skipH 3 40 rfl rfl (by kernel_rfl) (by kernel_rfl) (by kernel_rfl) (fun _ _ _ h => h) hHeld rfl ?_ | fail)
              (try simp only [Act.put, List.setIfInBounds_toArray, List.set_cons_zero, List.set_cons_succ])
              (first | (refine takeH 4 41 (v := ?_) rfl rfl (by kernel_rfl) (by kernel_rfl) (by kernel_rfl) (fun _ _ _ h => h) hHeld rfl ?_ ?_; rotate_left; (focus (intro w hSw; (try dsimp only at hSw); go_simp; try with_reducible rfl))) | refine skipH 4 41 rfl rfl (by kernel_rfl) (by kernel_rfl) (by kernel_rfl) (fun _ _ _ h => h) hHeld rfl ?_ | fail)
              (try simp only [Act.put, List.setIfInBounds_toArray, List.set_cons_zero, List.set_cons_succ])
              (first | (refine takeH 5 42 (v := ?_) rfl rfl (by kernel_rfl) (by kernel_rfl) (by kernel_rfl) (fun _ _ _ h => h) hHeld rfl ?_ ?_; rotate_left; (focus (intro w hSw; (try dsimp only at hSw); go_simp; try with_reducible rfl))) | refine skipH 5 42 rfl rfl (by kernel_rfl) (by kernel_rfl) (by kernel_rfl) (fun _ _ _ h => h) hHeld rfl ?_ | fail)
              (try simp only [Act.put, List.setIfInBounds_toArray, List.set_cons_zero, List.set_cons_succ])
              (first | (refine takeH 6 43 (v := ?_) rfl rfl (by kernel_rfl) (by kernel_rfl) (by kernel_rfl) (fun _ _ _ h => h) hHeld rfl ?_ ?_; rotate_left; (focus (intro w hSw; (try dsimp only at hSw); go_simp; try with_reducible rfl))) | refine skipH 6 43 rfl rfl (by kernel_rfl) (by kernel_rfl) (by kernel_rfl) (fun _ _ _ h => h) hHeld rfl ?_ | fail)
              (try simp only [Act.put, List.setIfInBounds_toArray, List.set_cons_zero, List.set_cons_succ])
              (first | (refine takeH 7 44 (v := ?_) rfl rfl (by kernel_rfl) (by kernel_rfl) (by kernel_rfl) (fun _ _ _ h => h) hHeld rfl ?_ ?_; rotate_left; (focus (intro w hSw; (try dsimp only at hSw); go_simp; try with_reducible rfl))) | refine skipH 7 44 rfl rfl (by kernel_rfl) (by kernel_rfl) (by kernel_rfl) (fun _ _ _ h => h) hHeld rfl ?_ | fail)
              (try simp only [Act.put, List.setIfInBounds_toArray, List.set_cons_zero, List.set_cons_succ])
              (first | (refine takeH 8 45 (v := ?_) rfl rfl (by kernel_rfl) (by kernel_rfl) (by kernel_rfl) (fun _ _ _ h => h) hHeld rfl ?_ ?_; rotate_left; (focus (intro w hSw; (try dsimp only at hSw); go_simp; try with_reducible rfl))) | refine skipH 8 45 rfl rfl (by kernel_rfl) (by kernel_rfl) (by kernel_rfl) (fun _ _ _ h => h) hHeld rfl ?_ | fail)
              (try simp only [Act.put, List.setIfInBounds_toArray, List.set_cons_zero, List.set_cons_succ])
              (first | (refine takeH 9 46 (v := ?_) rfl rfl (by kernel_rfl) (by kernel_rfl) (by kernel_rfl) (fun _ _ _ h => h) hHeld rfl ?_ ?_; rotate_left; (focus (intro w hSw; (try dsimp only at hSw); go_simp; try with_reducible rfl))) | refine skipH 9 46 rfl rfl (by kernel_rfl) (by kernel_rfl) (by kernel_rfl) (fun _ _ _ h => h) hHeld rfl ?_ | fail)
              (try simp only [Act.put, List.setIfInBounds_toArray, List.set_cons_zero, List.set_cons_succ])
              (first | (refine takeH 10 47 (v := ?_) rfl rfl (by kernel_rfl) (by kernel_rfl) (by kernel_rfl) (fun _ _ _ h => h) hHeld rfl ?_ ?_; rotate_left; (focus (intro w hSw; (try dsimp only at hSw); go_simp; try with_reducible rfl))) | refine skipH 10 47 rfl rfl (by kernel_rfl) (by kernel_rfl) (by kernel_rfl) (fun _ _ _ h => h) hHeld rfl ?_ | fail)
              (try simp only [Act.put, List.setIfInBounds_toArray, List.set_cons_zero, List.set_cons_succ])
              (first | (refine takeH 11 48 (v := ?_) rfl rfl (by kernel_rfl) (by kernel_rfl) (by kernel_rfl) (fun _ _ _ h => h) hHeld rfl ?_ ?_; rotate_left; (focus (intro w hSw; (try dsimp only at hSw); go_simp; try with_reducible rfl))) | refine skipH 11 48 rfl rfl (by kernel_rfl) (by kernel_rfl) (by kernel_rfl) (fun _ _ _ h => h) hHeld rfl ?_ | fail)
              (try simp only [Act.put, List.setIfInBounds_toArray, List.set_cons_zero, List.set_cons_succ])
              (first | (refine takeH 12 49 (v := ?_) rfl rfl (by kernel_rfl) (by kernel_rfl) (by kernel_rfl) (fun _ _ _ h => h) hHeld rfl ?_ ?_; rotate_left; (focus (intro w hSw; (try dsimp only at hSw); go_simp; try with_reducible rfl))) | refine skipH 12 49 rfl rfl (by kernel_rfl) (by kernel_rfl) (by kernel_rfl) (fun _ _ _ h => h) hHeld rfl ?_ | fail)
              (try simp only [Act.put, List.setIfInBounds_toArray, List.set_cons_zero, List.set_cons_succ])
              (first | (refine takeH 13 50 (v := ?_) rfl rfl (by kernel_rfl) (by kernel_rfl) (by kernel_rfl) (fun _ _ _ h => h) hHeld rfl ?_ ?_; rotate_left; (focus (intro w hSw; (try dsimp only at hSw); go_simp; try with_reducible rfl))) | refine skipH 13 50 rfl rfl (by kernel_rfl) (by kernel_rfl) (by kernel_rfl) (fun _ _ _ h => h) hHeld rfl ?_ | fail)
              (try simp only [Act.put, List.setIfInBounds_toArray, List.set_cons_zero, List.set_cons_succ])
              (first | (refine takeH 14 51 (v := ?_) rfl rfl (by kernel_rfl) (by kernel_rfl) (by kernel_rfl) (fun _ _ _ h => h) hHeld rfl ?_ ?_; rotate_left; (focus (intro w hSw; (try dsimp only at hSw); go_simp; try with_reducible rfl))) | refine skipH 14 51 rfl rfl (by kernel_rfl) (by kernel_rfl) (by kernel_rfl) (fun _ _ _ h => h) hHeld rfl ?_ | fail)
              (try simp only [Act.put, List.setIfInBounds_toArray, List.set_cons_zero, List.set_cons_succ])
              (first | (refine takeH 15 52 (v := ?_) rfl rfl (by kernel_rfl) (by kernel_rfl) (by kernel_rfl) (fun _ _ _ h => h) hHeld rfl ?_ ?_; rotate_left; (focus (intro w hSw; (try dsimp only at hSw); go_simp; try with_reducible rfl))) | refine skipH 15 52 rfl rfl (by kernel_rfl) (by kernel_rfl) (by kernel_rfl) (fun _ _ _ h => h) hHeld rfl ?_ | fail)
              (try simp only [Act.put, List.setIfInBounds_toArray, List.set_cons_zero, List.set_cons_succ])
              (first | (refine takeH 16 53 (v := ?_) rfl rfl (by kernel_rfl) (by kernel_rfl) (by kernel_rfl) (fun _ _ _ h => h) hHeld rfl ?_ ?_; rotate_left; (focus (intro w hSw; (try dsimp only at hSw); go_simp; try with_reducible rfl))) | refine skipH 16 53 rfl rfl (by kernel_rfl) (by kernel_rfl) (by kernel_rfl) (fun _ _ _ h => h) hHeld rfl ?_ | fail)
              (try simp only [Act.put, List.setIfInBounds_toArray, List.set_cons_zero, List.set_cons_succ])
              refine wpAnyH_done (by kernel_rfl) ?_ _
              obtain ⟨A', hcd, hcr⟩ := cut_drop (α := ByteArray) (kl := .i64) Try.underlying40 infoS (some ad3) o.length c3 p (by omega)
              have HDR : Aside0 (∀ W, Below wr.heap.size wr W → ReadsRow RS 1 W A' (o.length - p) (o.drop p)) := ⟨fun W hW => drop_str (by have := hcr kStr W (o.map toB) rfl (by rw [List.length_map]) hl3 (by rw [List.length_map]; exact Kd.C_below HC3.out hW); exact this)⟩
              have HTR : Aside0 (∀ W, Below wr.heap.size wr W → ReadsRow RS 1 W (some ad3) p (o.take p)) := ⟨fun W hW => take_str (Kd.C_below HC3.out hW) (by omega)⟩
              have HWD := Aside0.mk (below_drew HB5.out)
              have hcd' : ∀ W : World, (Instr.slice 40 (.slice (some ad3) o.length c3) (some (.int .i64 (p : Nat))) none none).run Try.prog W = .ok (.slice A' (o.length - p) (c3 - p)) W := hcd
              have x3d : ∀ W, Below wr.heap.size wr W → W.cell? ⟨(ad.add (k * 9)).block, (ad.add (k * 9)).off + 1 + 2, none⟩ = some (.string cy) := fun W hW => pw_cell_below hW x3
              have HX3 := Aside0.mk x3d
              clear hcd hcr x3d
              go_wp2_with (first | (at_builtin; refine own_append_rows (w0 := wr) (R := RS) wr.heap.size rfl _ _ 40 9 (.string ByteArray.empty) 1 16 rfl Try.underlying40 infoS rfl (by omega) (by omega) (.slice none 0 0) [] (o.take p) (some ad3) p c3 rfl rfl (OwnRow.none_ _ _ _ _ _) (HTR.out _ HWD.out) RS.one HWD.out HWD.out.size (by simp; omega) ?_; intro v1 w3 hown hB3 hg3 hat3; have HO1 := Aside0.mk hown; have HB3 := Aside0.mk hB3; have xk := HX3.out w3 hB3; clear hown hB3 hg3 hat3) | (at_builtin; refine own_append_rows (w0 := wr) (R := RS) wr.heap.size rfl _ _ 40 9 (.string ByteArray.empty) 1 16 rfl Try.underlying40 infoS rfl (by omega) (by omega) v1 ([] ++ o.take p) [keyL ⟨false, ⟨ci, ck, cy, cb⟩, ⟨ai, ae, av⟩⟩] (some ⟨w3.heap.size, 0, none⟩) 1 1 rfl (by show Value.slice _ 1 1 = _; simp) (OwnRow.below HO1.out (below_alloc (Below.refl _ _) _)) (one_str rfl) RS.one (below_alloc HB3.out _) (below_alloc HB3.out _).size (by simp; omega) ?_; intro v2 w4 hown4 hB4 hg4 hat4; have HO2 := Aside0.mk hown4; have HB4 := Aside0.mk hB4; clear hown4 hB4 hg4 hat4) | (at_builtin; refine own_append_rows (w0 := wr) (R := RS) wr.heap.size rfl _ _ 40 9 (.string ByteArray.empty) 1 16 rfl Try.underlying40 infoS rfl (by omega) (by omega) v2 ([] ++ o.take p ++ [keyL ⟨false, ⟨ci, ck, cy, cb⟩, ⟨ai, ae, av⟩⟩]) (o.drop p) A' (o.length - p) (c3 - p) rfl rfl HO2.out (HDR.out _ HB4.out) RS.one HB4.out HB4.out.size (by simp; omega) ?_; intro v3 w5 hown5 hB5 hg5 hat5; have HO3 := Aside0.mk hown5; have HBF := Aside0.mk hB5; clear hown5 hB5 hg5 hat5))
              go_roundw
              case rel =>
                have e : [] ++ o.take p ++ [keyL ⟨false, ⟨ci, ck, cy, cb⟩, ⟨ai, ae, av⟩⟩] ++ o.drop p = o.take p ++ keyL ⟨false, ⟨ci, ck, cy, cb⟩, ⟨ai, ae, av⟩⟩ :: o.drop p := by simp
                rw [e] at HO3
                exact ⟨k + 1, insAt o (keyL ⟨false, ⟨ci, ck, cy, cb⟩, ⟨ai, ae, av⟩⟩) p, by go_num, by omega, by rw [HI.out, List.length_append, List.length_cons, List.length_take, List.length_drop]; omega, ⟨below_step HB.out HBF.out⟩, ⟨by rw [HI.out]; exact of_row (OwnRow.lower HO3.out HB.out.size)⟩, ⟨HIN.out.1, fun y => by rw [HIN.out.2 y, HSN.out, List.mem_append, ← HS.out.2 y]; simp⟩⟩
              case measure => simp [intOf]; omega
          · have p1 : ¬ (p : Int) < ((o.length : Nat) : Int) := by omega
            have p0 : (0 : Int) ≤ (p : Int) := by omega
            have hpn : o[p]? = none := List.getElem?_eq_none (by omega)
            have HI : Aside0 (insAt o (keyL ⟨false, ⟨ci, ck, cy, cb⟩, ⟨ai, ae, av⟩⟩) p = o.take p ++ keyL ⟨false, ⟨ci, ck, cy, cb⟩, ⟨ai, ae, av⟩⟩ :: o.drop p) := ⟨by unfold insAt; rw [if_neg (by rw [hpn]; intro h; cases h)]⟩
            clear hpn
            go_wp2_with fail
            refine wp_region_held_drew (S := fun w' => w'.cell? ⟨(ad.add (k * 9)).block, (ad.add (k * 9)).off + 1 + 2, none⟩ = some (.string cy)) (by kernel_rfl) z3 (fun hHeld => ?_)
            (first | (refine takeH 0 37 (v := ?_) rfl rfl (by kernel_rfl) (by kernel_rfl) (by kernel_rfl) (fun _ _ _ h => h) hHeld rfl ?_ ?_; rotate_left; (focus (intro w hSw; (try dsimp only at hSw); go_simp; try with_reducible rfl))) | refine skipH 0 37 rfl rfl (by kernel_rfl) (by kernel_rfl) (by kernel_rfl) (fun _ _ _ h => h) hHeld rfl ?_ | fail)
            (try simp only [Act.put, List.setIfInBounds_toArray, List.set_cons_zero, List.set_cons_succ])
            (first | (refine takeH 1 38 (v := ?_) rfl rfl (by kernel_rfl) (by kernel_rfl) (by kernel_rfl) (fun _ _ _ h => h) hHeld rfl ?_ ?_; rotate_left; (focus (intro w hSw; (try dsimp only at hSw); go_simp; try with_reducible rfl))) | refine skipH 1 38 rfl rfl (by kernel_rfl) (by kernel_rfl) (by kernel_rfl) (fun _ _ _ h => h) hHeld rfl ?_ | fail)
            (try simp only [Act.put, List.setIfInBounds_toArray, List.set_cons_zero, List.set_cons_succ])
            (first | (refine takeH 2 39 (v := ?_) rfl rfl (by kernel_rfl) (by kernel_rfl) (by kernel_rfl) (fun _ _ _ h => h) hHeld rfl ?_ ?_; rotate_left; (focus (intro w hSw; (try dsimp only at hSw); go_simp; try with_reducible rfl))) | refine skipH 2 39 rfl rfl (by kernel_rfl) (by kernel_rfl) (by kernel_rfl) (fun _ _ _ h => h) hHeld rfl ?_ | fail)
            (try simp only [Act.put, List.setIfInBounds_toArray, List.set_cons_zero, List.set_cons_succ])
            (first | (refine takeH 3 40 (v := ?_) rfl rfl (by kernel_rfl) (by kernel_rfl) (by kernel_rfl) (fun _ _ _ h => h) hHeld rfl ?_ ?_; rotate_left; (focus (intro w hSw; (try dsimp only at hSw); go_simp; try with_reducible rfl))) | refine skipH 3 40 rfl rfl (by kernel_rfl) (by kernel_rfl) (by kernel_rfl) (fun _ _ _ h => h) hHeld rfl ?_ | fail)
            (try simp only [Act.put, List.setIfInBounds_toArray, List.set_cons_zero, List.set_cons_succ])
            (first | (refine takeH 4 41 (v := ?_) rfl rfl (by kernel_rfl) (by kernel_rfl) (by kernel_rfl) (fun _ _ _ h => h) hHeld rfl ?_ ?_; rotate_left; (focus (intro w hSw; (try dsimp only at hSw); go_simp; try with_reducible rfl))) | refine skipH 4 41 rfl rfl (by kernel_rfl) (by kernel_rfl) (by kernel_rfl) (fun _ _ _ h => h) hHeld rfl ?_ | fail)
            (try simp only [Act.put, List.setIfInBounds_toArray, List.set_cons_zero, List.set_cons_succ])
            (first | (refine takeH 5 42 (v := ?_) rfl rfl (by kernel_rfl) (by kernel_rfl) (by kernel_rfl) (fun _ _ _ h => h) hHeld rfl ?_ ?_; rotate_left; (focus (intro w hSw; (try dsimp only at hSw); go_simp; try with_reducible rfl))) | refine skipH 5 42 rfl rfl (by kernel_rfl) (by kernel_rfl) (by kernel_rfl) (fun _ _ _ h => h) hHeld rfl ?_ | fail)
            (try simp only [Act.put, List.setIfInBounds_toArray, List.set_cons_zero, List.set_cons_succ])
            (first | (refine takeH 6 43 (v := ?_) rfl rfl (by kernel_rfl) (by kernel_rfl) (by kernel_rfl) (fun _ _ _ h => h) hHeld rfl ?_ ?_; rotate_left; (focus (intro w hSw; (try dsimp only at hSw); go_simp; try with_reducible rfl))) | refine skipH 6 43 rfl rfl (by kernel_rfl) (by kernel_rfl) (by kernel_rfl) (fun _ _ _ h => h) hHeld rfl ?_ | fail)
            (try simp only [Act.put, List.setIfInBounds_toArray, List.set_cons_zero, List.set_cons_succ])
            (first | (refine takeH 7 44 (v := ?_) rfl rfl (by kernel_rfl) (by kernel_rfl) (by kernel_rfl) (fun _ _ _ h => h) hHeld rfl ?_ ?_; rotate_left; (focus (intro w hSw; (try dsimp only at hSw); go_simp; try with_reducible rfl))) | refine skipH 7 44 rfl rfl (by kernel_rfl) (by kernel_rfl) (by kernel_rfl) (fun _ _ _ h => h) hHeld rfl ?_ | fail)
            (try simp only [Act.put, List.setIfInBounds_toArray, List.set_cons_zero, List.set_cons_succ])
            (first | (refine takeH 8 45 (v := ?_) rfl rfl (by kernel_rfl) (by kernel_rfl) (by kernel_rfl) (fun _ _ _ h => h) hHeld rfl ?_ ?_; rotate_left; (focus (intro w hSw; (try dsimp only at hSw); go_simp; try with_reducible rfl))) | refine skipH 8 45 rfl rfl (by kernel_rfl) (by kernel_rfl) (by kernel_rfl) (fun _ _ _ h => h) hHeld rfl ?_ | fail)
            (try simp only [Act.put, List.setIfInBounds_toArray, List.set_cons_zero, List.set_cons_succ])
            (first | (refine takeH 9 46 (v := ?_) rfl rfl (by kernel_rfl) (by kernel_rfl) (by kernel_rfl) (fun _ _ _ h => h) hHeld rfl ?_ ?_; rotate_left; (focus (intro w hSw; (try dsimp only at hSw); go_simp; try with_reducible rfl))) | refine skipH 9 46 rfl rfl (by kernel_rfl) (by kernel_rfl) (by kernel_rfl) (fun _ _ _ h => h) hHeld rfl ?_ | fail)
            (try simp only [Act.put, List.setIfInBounds_toArray, List.set_cons_zero, List.set_cons_succ])
            (first | (refine takeH 10 47 (v := ?_) rfl rfl (by kernel_rfl) (by kernel_rfl) (by kernel_rfl) (fun _ _ _ h => h) hHeld rfl ?_ ?_; rotate_left; (focus (intro w hSw; (try dsimp only at hSw); go_simp; try with_reducible rfl))) | refine skipH 10 47 rfl rfl (by kernel_rfl) (by kernel_rfl) (by kernel_rfl) (fun _ _ _ h => h) hHeld rfl ?_ | fail)
            (try simp only [Act.put, List.setIfInBounds_toArray, List.set_cons_zero, List.set_cons_succ])
            (first | (refine takeH 11 48 (v := ?_) rfl rfl (by kernel_rfl) (by kernel_rfl) (by kernel_rfl) (fun _ _ _ h => h) hHeld rfl ?_ ?_; rotate_left; (focus (intro w hSw; (try dsimp only at hSw); go_simp; try with_reducible rfl))) | refine skipH 11 48 rfl rfl (by kernel_rfl) (by kernel_rfl) (by kernel_rfl) (fun _ _ _ h => h) hHeld rfl ?_ | fail)
            (try simp only [Act.put, List.setIfInBounds_toArray, List.set_cons_zero, List.set_cons_succ])
            (first | (refine takeH 12 49 (v := ?_) rfl rfl (by kernel_rfl) (by kernel_rfl) (by kernel_rfl) (fun _ _ _ h => h) hHeld rfl ?_ ?_; rotate_left; (focus (intro w hSw; (try dsimp only at hSw); go_simp; try with_reducible rfl))) | refine skipH 12 49 rfl rfl (by kernel_rfl) (by kernel_rfl) (by kernel_rfl) (fun _ _ _ h => h) hHeld rfl ?_ | fail)
            (try simp only [Act.put, List.setIfInBounds_toArray, List.set_cons_zero, List.set_cons_succ])
            (first | (refine takeH 13 50 (v := ?_) rfl rfl (by kernel_rfl) (by kernel_rfl) (by kernel_rfl) (fun _ _ _ h => h) hHeld rfl ?_ ?_; rotate_left; (focus (intro w hSw; (try dsimp only at hSw); go_simp; try with_reducible rfl))) | refine skipH 13 50 rfl rfl (by kernel_rfl) (by kernel_rfl) (by kernel_rfl) (fun _ _ _ h => h) hHeld rfl ?_ | fail)
            (try simp only [Act.put, List.setIfInBounds_toArray, List.set_cons_zero, List.set_cons_succ])
            (first | (refine takeH 14 51 (v := ?_) rfl rfl (by kernel_rfl) (by kernel_rfl) (by kernel_rfl) (fun _ _ _ h => h) hHeld rfl ?_ ?_; rotate_left; (focus (intro w hSw; (try dsimp only at hSw); go_simp; try with_reducible rfl))) | refine skipH 14 51 rfl rfl (by kernel_rfl) (by kernel_rfl) (by kernel_rfl) (fun _ _ _ h => h) hHeld rfl ?_ | fail)
            (try simp only [Act.put, List.setIfInBounds_toArray, List.set_cons_zero, List.set_cons_succ])
            (first | (refine takeH 15 52 (v := ?_) rfl rfl (by kernel_rfl) (by kernel_rfl) (by kernel_rfl) (fun _ _ _ h => h) hHeld rfl ?_ ?_; rotate_left; (focus (intro w hSw; (try dsimp only at hSw); go_simp; try with_reducible rfl))) | refine skipH 15 52 rfl rfl (by kernel_rfl) (by kernel_rfl) (by kernel_rfl) (fun _ _ _ h => h) hHeld rfl ?_ | fail)
            (try simp only [Act.put, List.setIfInBounds_toArray, List.set_cons_zero, List.set_cons_succ])
            (first | (refine takeH 16 53 (v := ?_) rfl rfl (by kernel_rfl) (by kernel_rfl) (by kernel_rfl) (fun _ _ _ h => h) hHeld rfl ?_ ?_; rotate_left; (focus (intro w hSw; (try dsimp only at hSw); go_simp; try with_reducible rfl))) | refine skipH 16 53 rfl rfl (by kernel_rfl) (by kernel_rfl) (by kernel_rfl) (fun _ _ _ h => h) hHeld rfl ?_ | fail)
            (try simp only [Act.put, List.setIfInBounds_toArray, List.set_cons_zero, List.set_cons_succ])
            refine wpAnyH_done (by kernel_rfl) ?_ _
            obtain ⟨A', hcd, hcr⟩ := cut_drop (α := ByteArray) (kl := .i64) Try.underlying40 infoS (A3) o.length c3 p (by omega)
            have HDR : Aside0 (∀ W, Below wr.heap.size wr W → ReadsRow RS 1 W A' (o.length - p) (o.drop p)) := ⟨fun W hW => drop_str (by have := hcr kStr W (o.map toB) rfl (by rw [List.length_map]) hl3 (by rw [List.length_map]; exact Kd.C_below HC3.out hW); exact this)⟩
            have HTR : Aside0 (∀ W, Below wr.heap.size wr W → ReadsRow RS 1 W (A3) p (o.take p)) := ⟨fun W hW => take_str (Kd.C_below HC3.out hW) (by omega)⟩
            have HWD := Aside0.mk (below_drew HB5.out)
            have hcd' : ∀ W : World, (Instr.slice 40 (.slice (A3) o.length c3) (some (.int .i64 (p : Nat))) none none).run Try.prog W = .ok (.slice A' (o.length - p) (c3 - p)) W := hcd
            have x3d : ∀ W, Below wr.heap.size wr W → W.cell? ⟨(ad.add (k * 9)).block, (ad.add (k * 9)).off + 1 + 2, none⟩ = some (.string cy) := fun W hW => pw_cell_below hW x3
            have HX3 := Aside0.mk x3d
            clear hcd hcr x3d
            go_wp2_with (first | (at_builtin; refine own_append_rows (w0 := wr) (R := RS) wr.heap.size rfl _ _ 40 9 (.string ByteArray.empty) 1 16 rfl Try.underlying40 infoS rfl (by omega) (by omega) (.slice none 0 0) [] (o.take p) (A3) p c3 rfl rfl (OwnRow.none_ _ _ _ _ _) (HTR.out _ HWD.out) RS.one HWD.out HWD.out.size (by simp; omega) ?_; intro v1 w3 hown hB3 hg3 hat3; have HO1 := Aside0.mk hown; have HB3 := Aside0.mk hB3; have xk := HX3.out w3 hB3; clear hown hB3 hg3 hat3) | (at_builtin; refine own_append_rows (w0 := wr) (R := RS) wr.heap.size rfl _ _ 40 9 (.string ByteArray.empty) 1 16 rfl Try.underlying40 infoS rfl (by omega) (by omega) v1 ([] ++ o.take p) [keyL ⟨false, ⟨ci, ck, cy, cb⟩, ⟨ai, ae, av⟩⟩] (some ⟨w3.heap.size, 0, none⟩) 1 1 rfl (by show Value.slice _ 1 1 = _; simp) (OwnRow.below HO1.out (below_alloc (Below.refl _ _) _)) (one_str rfl) RS.one (below_alloc HB3.out _) (below_alloc HB3.out _).size (by simp; omega) ?_; intro v2 w4 hown4 hB4 hg4 hat4; have HO2 := Aside0.mk hown4; have HB4 := Aside0.mk hB4; clear hown4 hB4 hg4 hat4) | (at_builtin; refine own_append_rows (w0 := wr) (R := RS) wr.heap.size rfl _ _ 40 9 (.string ByteArray.empty) 1 16 rfl Try.underlying40 infoS rfl (by omega) (by omega) v2 ([] ++ o.take p ++ [keyL ⟨false, ⟨ci, ck, cy, cb⟩, ⟨ai, ae, av⟩⟩]) (o.drop p) A' (o.length - p) (c3 - p) rfl rfl HO2.out (HDR.out _ HB4.out) RS.one HB4.out HB4.out.size (by simp; omega) ?_; intro v3 w5 hown5 hB5 hg5 hat5; have HO3 := Aside0.mk hown5; have HBF := Aside0.mk hB5; clear hown5 hB5 hg5 hat5))
            go_roundw
            case rel =>
              have e : [] ++ o.take p ++ [keyL ⟨false, ⟨ci, ck, cy, cb⟩, ⟨ai, ae, av⟩⟩] ++ o.drop p = o.take p ++ keyL ⟨false, ⟨ci, ck, cy, cb⟩, ⟨ai, ae, av⟩⟩ :: o.drop p := by simp
              rw [e] at HO3
              exact ⟨k + 1, insAt o (keyL ⟨false, ⟨ci, ck, cy, cb⟩, ⟨ai, ae, av⟩⟩) p, by go_num, by omega, by rw [HI.out, List.length_append, List.length_cons, List.length_take, List.length_drop]; omega, ⟨below_step HB.out HBF.out⟩, ⟨by rw [HI.out]; exact of_row (OwnRow.lower HO3.out HB.out.size)⟩, ⟨HIN.out.1, fun y => by rw [HIN.out.2 y, HSN.out, List.mem_append, ← HS.out.2 y]; simp⟩⟩
            case measure => simp [intOf]; omega
    · obtain rfl : k = xs.length := by omega
      go_wp2_with fail
      go_ret
      have e : o = keysL xs := keys_one HS.out.1 (fun y => by have := HS.out.2 y; rwa [List.take_length] at this)
      subst e
      obtain ⟨A', c', rfl, h1, h2⟩ := strs_C HO.out (fun y hy => raw_size HR.out y (mem_sortKeys hy))
      exact ⟨A', c', rfl, h1, h2, HB.out⟩
end RefI
end Go.Proofs.Ytgconogjnjhmgaa
