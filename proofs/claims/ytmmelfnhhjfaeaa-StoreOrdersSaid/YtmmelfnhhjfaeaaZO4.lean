/- Lemmas for the row (words on memory, contracts of the program's functions): StoH, StoI, StoJ, StoK, StoL, Bridge, KindsCR. -/
import Derived.Deep.QuietTactic
import Derived.BigQuiet
import Derived.Deep.Slices
import Derived.ChangeArms
import Derived.SizedLaws
import Derived.Test.YtmmelfnhhjfaeaaZO3
set_option linter.unusedVariables false
set_option linter.unusedSimpArgs false
namespace Go.Proofs.Ytmmelfnhhjfaeaa
open Go.RowKit Go.Proofs.YtmmelfnhhjfaeaaW.PrintWords
namespace Cmp
/-- True, and nothing that was there has turned. -/
def Yes (w : World) (e : Ending) (w' : World) : Prop := e = .returned (.bool true) ∧ Below w.heap.size w w'
set_option maxRecDepth 100000 in
theorem sameVal_refl (v : Val) (A B : Option Addr) (c d : Nat) (w : World) (ha : kU8.C w A v.b.length v.b) (hb : kU8.C w B v.b.length v.b) :
    Calls Try.prog 39 #[.agg #[.bool v.has, .slice A v.b.length c], .agg #[.bool v.has, .slice B v.b.length d]] w (Yes w) := by
  have HA := Aside0.mk ha
  have HB := Aside0.mk hb
  have hl : v.b.length ≤ 9223372036854775807 := ha.2.1
  obtain ⟨h, b⟩ := v
  dsimp only at *
  clear ha hb
  cases h with
  | false =>
    go_enter Try.func39, Try.ntmps39
    go_wp2
    go_ret
    exact ⟨rfl, below_alloc (below_alloc (Below.refl _ _) _) _⟩
  | true =>
    go_enter Try.func39, Try.ntmps39
    go_upto_region 8 with (fail)
    obtain ⟨W0, hW0⟩ : ∃ W, W = (w.alloc (.cells #[.bool true, .slice A b.length c] 26)).alloc (.cells #[.bool true, .slice B b.length d] 26) := ⟨_, rfl⟩
    rw [← hW0]
    have HW : Aside0 (Below w.heap.size w W0) := ⟨by rw [hW0]; exact below_alloc (below_alloc (Below.refl _ _) _) _⟩
    have hx : Blk W0 w.heap.size [.bool true, .slice A b.length c] := by rw [hW0]; exact (Blk.new_ w _ _ rfl rfl).alloc _
    have hy : Blk W0 (w.heap.size + 1) [.bool true, .slice B b.length d] := by rw [hW0]; exact Blk.new_ _ _ _ (by simp) rfl
    have HA : Aside0 (kU8.C W0 A b.length b) := ⟨Kd.C_below HA.out HW.out⟩
    have HB : Aside0 (kU8.C W0 B b.length b) := ⟨Kd.C_below HB.out HW.out⟩
    have x1 := hx.cell 1 rfl
    have y1 := hy.cell 1 rfl
    clear hx hy hW0
    go_loopg [5] b.length (fun gk v wr => ∃ k : Nat, v = .int .i64 (k : Int) ∧ k ≤ b.length ∧ Aside0 (gk + k = b.length) ∧ Aside0 (Below W0.heap.size W0 wr))
    case atStart => exact ⟨0, rfl, Nat.zero_le _, ⟨rfl⟩, ⟨Below.refl _ _⟩⟩
    case round =>
      obtain ⟨k, rfl, hk, HG, HR⟩ := hrel
      have x1 := pw_cell_below HR.out x1
      have y1 := pw_cell_below HR.out y1
      by_cases hlt : k < b.length
      · obtain ⟨a1, u, rfl, HU, z⟩ := Hash.u8_at (Kd.C_below HA.out HR.out) k hlt
        obtain ⟨a2, u', rfl, HU', z'⟩ := Hash.u8_at (Kd.C_below HB.out HR.out) k hlt
        obtain rfl : u' = u := Option.some.inj (HU'.out.symm.trans HU.out)
        have hltI : (k : Int) < (b.length : Int) := by omega
        go_upto_region 10 with (fail)
        go_quiet (fail)
        go_wp2
        go_roundg (b.length - (k + 1))
        case measure => have := HG.out; omega
        case rel => exact ⟨k + 1, by go_num, by omega, ⟨by omega⟩, ⟨pw_below_drewN HR.out _⟩⟩
      · obtain rfl : k = b.length := by omega
        go_wp2
        go_ret
        exact ⟨rfl, Below.then_ HW.out HR.out (Nat.le_refl _)⟩
theorem txt_refl (a : ByteArray) : (a.toList == a.toList) = true := by simp
set_option maxRecDepth 100000 in
theorem same_refl (e : Entry) (A B : Option Addr) (c d : Nat) (w : World) (ha : kU8.C w A e.val.b.length e.val.b) (hb : kU8.C w B e.val.b.length e.val.b) :
    Calls Try.prog 23 #[.agg #[.string e.key, .int .i64 e.tag.seq, .int .i64 e.tag.who, .int .i64 e.tag.op, .bool e.val.has, .slice A e.val.b.length c], .agg #[.string e.key, .int .i64 e.tag.seq, .int .i64 e.tag.who, .int .i64 e.tag.op, .bool e.val.has, .slice B e.val.b.length d]] w (Yes w) := by
  have HC := Aside0.mk (fun w' (hb' : Below w.heap.size w w') => sameVal_refl e.val A B c d w' (Kd.C_below ha hb') (Kd.C_below hb hb'))
  obtain ⟨k, ⟨s1, s2, s3⟩, ⟨h, b⟩⟩ := e
  dsimp only at *
  clear ha hb
  have hk := txt_refl k
  go_enter Try.func23, Try.ntmps23
  go_wp2_with (first | ((with_reducible refine (HC.out _ (below_alloc (below_alloc (Below.refl _ _) _) _)).mono ?_); rintro e w1 ⟨rfl, h1⟩; have H1 := Aside0.mk h1; clear h1))
  go_ret
  exact ⟨rfl, Below.then_ (below_alloc (below_alloc (Below.refl _ _) _) _) H1.out (Nat.le_refl _)⟩
set_option maxRecDepth 100000 in
set_option maxHeartbeats 1000000 in
theorem sameAll_refl (l : List Entry) (A B : Option Addr) (c d : Nat) (w : World) (ha : Entry.k.C w A l.length l) (hb : Entry.k.C w B l.length l) :
    Calls Try.prog 8 #[.slice A l.length c, .slice B l.length d] w (Yes w) := by
  have HA := Aside0.mk ha
  have HB := Aside0.mk hb
  have hl : l.length ≤ 9223372036854775807 := ha.2.1
  clear ha hb
  go_enter Try.func8, Try.ntmps8
  go_wp2
  go_loopg [5] l.length (fun gk v wr => ∃ k : Nat, v = .int .i64 (k : Int) ∧ k ≤ l.length ∧ Aside0 (gk + k = l.length) ∧ Aside0 (Below w.heap.size w wr))
  case atStart => exact ⟨0, rfl, Nat.zero_le _, ⟨rfl⟩, ⟨Below.refl _ _⟩⟩
  case round =>
    obtain ⟨k, rfl, hk, HG, HR⟩ := hrel
    by_cases hlt : k < l.length
    · obtain ⟨a1, u, A5, c5, rfl, HU, x0, x1, x2, x3, x4, x5, HK⟩ := Entry.at_ (Kd.C_below HA.out HR.out) k hlt
      obtain ⟨a2, u', B5, d5, rfl, HU', y0, y1, y2, y3, y4, y5, HK'⟩ := Entry.at_ (Kd.C_below HB.out HR.out) k hlt
      obtain rfl : u' = u := Option.some.inj (HU'.out.symm.trans HU.out)
      have hltI : (k : Int) < (l.length : Int) := by omega
      have HSM : Aside0 (∀ w', Below wr.heap.size wr w' → Calls Try.prog 23 #[.agg #[.string u'.key, .int .i64 u'.tag.seq, .int .i64 u'.tag.who, .int .i64 u'.tag.op, .bool u'.val.has, .slice A5 u'.val.b.length c5], .agg #[.string u'.key, .int .i64 u'.tag.seq, .int .i64 u'.tag.who, .int .i64 u'.tag.op, .bool u'.val.has, .slice B5 u'.val.b.length d5]] w' (Yes w')) := ⟨fun w' hb => by
        obtain ⟨A6, c6, he, _, _, _, _, _, g5⟩ := Entry.open_ HK.out
        obtain ⟨B6, d6, he', _, _, _, _, _, g5'⟩ := Entry.open_ HK'.out
        simp only [List.cons.injEq, Value.slice.injEq, true_and, and_true] at he he'
        obtain ⟨rfl, rfl⟩ := he
        obtain ⟨rfl, rfl⟩ := he'
        exact same_refl u' A5 B5 c5 d5 w' (Kd.C_below g5 hb) (Kd.C_below g5' hb)⟩
      obtain ⟨uk, ⟨t1, t2, t3⟩, ⟨uh, ub⟩⟩ := u'
      dsimp only at x0 x1 x2 x3 x4 x5 y0 y1 y2 y3 y4 y5 HSM
      have x0 := fun w' (h : Below wr.heap.size wr w') => pw_cell_below h x0
      have x1 := fun w' (h : Below wr.heap.size wr w') => pw_cell_below h x1
      have x2 := fun w' (h : Below wr.heap.size wr w') => pw_cell_below h x2
      have x3 := fun w' (h : Below wr.heap.size wr w') => pw_cell_below h x3
      have x4 := fun w' (h : Below wr.heap.size wr w') => pw_cell_below h x4
      have x5 := fun w' (h : Below wr.heap.size wr w') => pw_cell_below h x5
      have y0 := fun w' (h : Below wr.heap.size wr w') => pw_cell_below h y0
      have y1 := fun w' (h : Below wr.heap.size wr w') => pw_cell_below h y1
      have y2 := fun w' (h : Below wr.heap.size wr w') => pw_cell_below h y2
      have y3 := fun w' (h : Below wr.heap.size wr w') => pw_cell_below h y3
      have y4 := fun w' (h : Below wr.heap.size wr w') => pw_cell_below h y4
      have y5 := fun w' (h : Below wr.heap.size wr w') => pw_cell_below h y5
      go_upto_region 6 with (fail)
      refine wp_region_noPanic ?_
      refine wp_region_held_drew (S := Below wr.heap.size wr) (by kernel_rfl) (below_drew (Below.refl _ _)) (fun hHeld => ?_)
      (refine takeH 0 17 (v := ?_) rfl rfl (by kernel_rfl) (by kernel_rfl) (by kernel_rfl) (fun _ _ _ h => h) hHeld rfl ?_ ?_; rotate_left; (focus (intro w' hSw; go_simp; try with_reducible rfl)))
      (try simp only [Act.put, List.setIfInBounds_toArray, List.set_cons_zero, List.set_cons_succ])
      (refine takeH 1 18 (v := ?_) rfl rfl (by kernel_rfl) (by kernel_rfl) (by kernel_rfl) (fun _ _ _ h => h) hHeld rfl ?_ ?_; rotate_left; (focus (intro w' hSw; go_simp; try with_reducible rfl)))
      (try simp only [Act.put, List.setIfInBounds_toArray, List.set_cons_zero, List.set_cons_succ])
      (refine takeH 2 19 (v := ?_) rfl rfl (by kernel_rfl) (by kernel_rfl) (by kernel_rfl) (fun _ _ _ h => h) hHeld rfl ?_ ?_; rotate_left; (focus (intro w' hSw; go_simp; try with_reducible rfl)))
      (try simp only [Act.put, List.setIfInBounds_toArray, List.set_cons_zero, List.set_cons_succ])
      (refine takeH 3 20 (v := ?_) rfl rfl (by kernel_rfl) (by kernel_rfl) (by kernel_rfl) (fun _ _ _ h => h) hHeld rfl ?_ ?_; rotate_left; (focus (intro w' hSw; go_simp; try with_reducible rfl)))
      (try simp only [Act.put, List.setIfInBounds_toArray, List.set_cons_zero, List.set_cons_succ])
      (refine takeH 4 21 (v := ?_) rfl rfl (by kernel_rfl) (by kernel_rfl) (by kernel_rfl) (fun _ _ _ h => h) hHeld rfl ?_ ?_; rotate_left; (focus (intro w' hSw; go_simp; try with_reducible rfl)))
      (try simp only [Act.put, List.setIfInBounds_toArray, List.set_cons_zero, List.set_cons_succ])
      (refine takeH 5 22 (v := ?_) rfl rfl (by kernel_rfl) (by kernel_rfl) (by kernel_rfl) (fun _ _ _ h => h) hHeld rfl ?_ ?_; rotate_left; (focus (intro w' hSw; go_simp; try with_reducible rfl)))
      (try simp only [Act.put, List.setIfInBounds_toArray, List.set_cons_zero, List.set_cons_succ])
      (refine takeH 6 23 (v := ?_) rfl rfl (by kernel_rfl) (by kernel_rfl) (by kernel_rfl) (fun _ _ _ h => h) hHeld rfl ?_ ?_; rotate_left; (focus (intro w' hSw; go_simp; try with_reducible rfl)))
      (try simp only [Act.put, List.setIfInBounds_toArray, List.set_cons_zero, List.set_cons_succ])
      (refine takeH 7 24 (v := ?_) rfl rfl (by kernel_rfl) (by kernel_rfl) (by kernel_rfl) (fun _ _ _ h => h) hHeld rfl ?_ ?_; rotate_left; (focus (intro w' hSw; go_simp; try with_reducible rfl)))
      (try simp only [Act.put, List.setIfInBounds_toArray, List.set_cons_zero, List.set_cons_succ])
      refine wpAnyH_ready (rs := [8]) (by kernel_rfl) (by simp) ?_
      refine AllReadyH.cons rfl (fun K hK => ?_) AllReadyH.nil
      go_simp
      refine (HSM.out _ (below_drew (Below.refl _ _))).mono ?_
      rintro e w1 ⟨rfl, h1⟩
      have H1 := Aside0.mk (Below.then_ (below_drew (Below.refl wr.heap.size wr)) h1 (Nat.le_refl _))
      clear h1
      refine hK.out _ _ (H1.out) (fun hHeld => ?_)
      clear hK K
      (try simp only [Act.put, List.setIfInBounds_toArray, List.set_cons_zero, List.set_cons_succ])
      (refine takeH 9 26 (v := ?_) rfl rfl (by kernel_rfl) (by kernel_rfl) (by kernel_rfl) (fun _ _ _ h => h) hHeld rfl ?_ ?_; rotate_left; (focus (intro w' hSw; go_simp; try with_reducible rfl)))
      (try simp only [Act.put, List.setIfInBounds_toArray, List.set_cons_zero, List.set_cons_succ])
      refine wpAnyH_done (by kernel_rfl) ?_ _
      refine NoPanic.normal ?_
      go_wp2
      go_roundg (l.length - (k + 1))
      case measure => have := HG.out; omega
      case rel => exact ⟨k + 1, by go_num, by omega, ⟨by omega⟩, ⟨Below.then_ HR.out H1.out (Nat.le_refl _)⟩⟩
    · obtain rfl : k = l.length := by omega
      go_wp2
      go_ret
      exact ⟨rfl, HR.out⟩
set_option maxRecDepth 100000 in
set_option maxHeartbeats 1000000 in
theorem sameAcks_refl (l : List Ack) (A B : Option Addr) (c d : Nat) (w : World) (ha : Ack.k.C w A l.length l) (hb : Ack.k.C w B l.length l) :
    Calls Try.prog 11 #[.slice A l.length c, .slice B l.length d] w (Yes w) := by
  have HA := Aside0.mk ha
  have HB := Aside0.mk hb
  have hl : l.length ≤ 9223372036854775807 := ha.2.1
  clear ha hb
  go_enter Try.func11, Try.ntmps11
  go_wp2
  go_loopg [5] l.length (fun gk v wr => ∃ k : Nat, v = .int .i64 (k : Int) ∧ k ≤ l.length ∧ Aside0 (gk + k = l.length) ∧ Aside0 (Below w.heap.size w wr))
  case atStart => exact ⟨0, rfl, Nat.zero_le _, ⟨rfl⟩, ⟨Below.refl _ _⟩⟩
  case round =>
    obtain ⟨k, rfl, hk, HG, HR⟩ := hrel
    by_cases hlt : k < l.length
    · obtain ⟨a1, u, rfl, HU, x0, x1, x2, x3, x4, HK⟩ := Ack.at_ (Kd.C_below HA.out HR.out) k hlt
      obtain ⟨a2, u', rfl, HU', y0, y1, y2, y3, y4, HK'⟩ := Ack.at_ (Kd.C_below HB.out HR.out) k hlt
      obtain rfl : u' = u := Option.some.inj (HU'.out.symm.trans HU.out)
      have hltI : (k : Int) < (l.length : Int) := by omega
      obtain ⟨uw, uk, ⟨t1, t2, t3⟩⟩ := u'
      dsimp only at x0 x1 x2 x3 x4 y0 y1 y2 y3 y4
      have x0 := fun w' (h : Below wr.heap.size wr w') => pw_cell_below h x0
      have x1 := fun w' (h : Below wr.heap.size wr w') => pw_cell_below h x1
      have x2 := fun w' (h : Below wr.heap.size wr w') => pw_cell_below h x2
      have x3 := fun w' (h : Below wr.heap.size wr w') => pw_cell_below h x3
      have x4 := fun w' (h : Below wr.heap.size wr w') => pw_cell_below h x4
      have y0 := fun w' (h : Below wr.heap.size wr w') => pw_cell_below h y0
      have y1 := fun w' (h : Below wr.heap.size wr w') => pw_cell_below h y1
      have y2 := fun w' (h : Below wr.heap.size wr w') => pw_cell_below h y2
      have y3 := fun w' (h : Below wr.heap.size wr w') => pw_cell_below h y3
      have y4 := fun w' (h : Below wr.heap.size wr w') => pw_cell_below h y4
      have hsr := txt_refl uk
      go_upto_region 6 with (fail)
      refine wp_region_noPanic ?_
      refine wp_region_held_drew (S := Below wr.heap.size wr) (by kernel_rfl) (below_drew (Below.refl _ _)) (fun hHeld => ?_)
      (refine takeH 0 17 (v := ?_) rfl rfl (by kernel_rfl) (by kernel_rfl) (by kernel_rfl) (fun _ _ _ h => h) hHeld rfl ?_ ?_; rotate_left; (focus (intro w' hSw; go_simp; try with_reducible rfl)))
      (try simp only [Act.put, List.setIfInBounds_toArray, List.set_cons_zero, List.set_cons_succ])
      (refine takeH 1 18 (v := ?_) rfl rfl (by kernel_rfl) (by kernel_rfl) (by kernel_rfl) (fun _ _ _ h => h) hHeld rfl ?_ ?_; rotate_left; (focus (intro w' hSw; go_simp; try with_reducible rfl)))
      (try simp only [Act.put, List.setIfInBounds_toArray, List.set_cons_zero, List.set_cons_succ])
      (refine takeH 2 19 (v := ?_) rfl rfl (by kernel_rfl) (by kernel_rfl) (by kernel_rfl) (fun _ _ _ h => h) hHeld rfl ?_ ?_; rotate_left; (focus (intro w' hSw; go_simp; try with_reducible rfl)))
      (try simp only [Act.put, List.setIfInBounds_toArray, List.set_cons_zero, List.set_cons_succ])
      (refine takeH 3 20 (v := ?_) rfl rfl (by kernel_rfl) (by kernel_rfl) (by kernel_rfl) (fun _ _ _ h => h) hHeld rfl ?_ ?_; rotate_left; (focus (intro w' hSw; go_simp; try with_reducible rfl)))
      (try simp only [Act.put, List.setIfInBounds_toArray, List.set_cons_zero, List.set_cons_succ])
      (refine takeH 4 21 (v := ?_) rfl rfl (by kernel_rfl) (by kernel_rfl) (by kernel_rfl) (fun _ _ _ h => h) hHeld rfl ?_ ?_; rotate_left; (focus (intro w' hSw; go_simp; try with_reducible rfl)))
      (try simp only [Act.put, List.setIfInBounds_toArray, List.set_cons_zero, List.set_cons_succ])
      (refine takeH 5 22 (v := ?_) rfl rfl (by kernel_rfl) (by kernel_rfl) (by kernel_rfl) (fun _ _ _ h => h) hHeld rfl ?_ ?_; rotate_left; (focus (intro w' hSw; go_simp; try with_reducible rfl)))
      (try simp only [Act.put, List.setIfInBounds_toArray, List.set_cons_zero, List.set_cons_succ])
      (refine takeH 6 23 (v := ?_) rfl rfl (by kernel_rfl) (by kernel_rfl) (by kernel_rfl) (fun _ _ _ h => h) hHeld rfl ?_ ?_; rotate_left; (focus (intro w' hSw; go_simp; try with_reducible rfl)))
      (try simp only [Act.put, List.setIfInBounds_toArray, List.set_cons_zero, List.set_cons_succ])
      (refine takeH 7 24 (v := ?_) rfl rfl (by kernel_rfl) (by kernel_rfl) (by kernel_rfl) (fun _ _ _ h => h) hHeld rfl ?_ ?_; rotate_left; (focus (intro w' hSw; go_simp; try with_reducible rfl)))
      (try simp only [Act.put, List.setIfInBounds_toArray, List.set_cons_zero, List.set_cons_succ])
      (refine takeH 8 25 (v := ?_) rfl rfl (by kernel_rfl) (by kernel_rfl) (by kernel_rfl) (fun _ _ _ h => h) hHeld rfl ?_ ?_; rotate_left; (focus (intro w' hSw; go_simp; try with_reducible rfl)))
      (try simp only [Act.put, List.setIfInBounds_toArray, List.set_cons_zero, List.set_cons_succ])
      refine wpAnyH_done (by kernel_rfl) ?_ _
      refine NoPanic.normal ?_
      go_wp2
      go_roundg (l.length - (k + 1))
      case measure => have := HG.out; omega
      case rel => exact ⟨k + 1, by go_num, by omega, ⟨by omega⟩, ⟨Below.then_ HR.out (below_drew (Below.refl _ _)) (Nat.le_refl _)⟩⟩
    · obtain rfl : k = l.length := by omega
      go_wp2
      go_ret
      exact ⟨rfl, HR.out⟩
end Cmp
end Go.Proofs.Ytmmelfnhhjfaeaa
set_option linter.unusedVariables false
set_option linter.unusedSimpArgs false
namespace Go.Proofs.Ytmmelfnhhjfaeaa
open Go.RowKit Go.Proofs.YtmmelfnhhjfaeaaW.PrintWords
open Tags
namespace Sto
/-- Put, of whatever entry. -/
theorem put_calls (e : Entry) (who : Int) (A : Option Addr) (cp : Nat) (w : World) (ok : Nat → Prop) (own : List Nat) (s : Nat) (c : Int) (S : St) (h : StoR w ok own s c S) (hc : c ≤ 1000000) (hE : Kd.FK Entry.k w (fun i => i ∉ own) e (ecs e A cp)) (hb : e.val.b.length ≤ 140737488351232) (hl : S.l.length + S.t.length ≤ 4000000) (hrs : S.rs.length ≤ 1000000) (hak : S.acks.length ≤ 1000000) :
    Calls Try.prog 6 #[.pointer (some ⟨s, 0, none⟩), .agg (ecs e A cp).toArray, .int .i64 who] w (StoTold ok own s c (S.put e who) (.int .i64 (putC e who)) w) := by
  by_cases hg : PutAll e who
  · have := put_good e who A cp w ok own s c S h hc hE hl hrs hak hg
    rw [show putC e who = 0 from if_pos hg]
    exact this
  · exact put_bad e who A cp w ok own s c S h (Kd.FK_now hE) hb hg
/-- A store that was made since w. -/
def KSt (w : World) (s : Nat) (c : Int) (S : St) (w' : World) : Prop := ∃ ok own, StoR w' ok own s c S ∧ (∀ k ∈ own, w.heap.size ≤ k) ∧ (∀ i, ok i → w.heap.size ≤ i) ∧ Below w.heap.size w w'
theorem KSt.below {w w1 w2 : World} {s : Nat} {c : Int} {S : St} (h : KSt w s c S w1) (k : Below w1.heap.size w1 w2) : KSt w s c S w2 := by
  obtain ⟨ok, own, h1, h2, h3, h4⟩ := h
  exact ⟨ok, own, h1.on k, h2, h3, Below.then_ h4 k (Nat.le_refl _)⟩
theorem KSt.bl {w w1 : World} {s : Nat} {c : Int} {S : St} (h : KSt w s c S w1) : Below w.heap.size w w1 := by
  obtain ⟨ok, own, h1, h2, h3, h4⟩ := h
  exact h4
theorem KSt.next {w w1 w2 : World} {s : Nat} {c' : Int} {S' : St} {ok ok' : Nat → Prop} {own own' : List Nat} (h2 : ∀ k ∈ own, w.heap.size ≤ k) (h3 : ∀ i, ok i → w.heap.size ≤ i) (h4 : Below w.heap.size w w1) (k1 : StoR w2 ok' own' s c' S') (k2 : Next own own' w1 w2) (k3 : ∀ i, ok' i → ok i ∨ w1.heap.size ≤ i) : KSt w s c' S' w2 := by
  have hs := h4.size
  refine ⟨ok', own', k1, fun k hk => ?_, fun i hi => ?_, h4.trans (k2.only.below h2 hs)⟩
  · rcases k2.own k hk with h | h
    · exact h2 k h
    · omega
  · rcases k3 i hi with h | h
    · exact h3 i h
    · omega
namespace Kn
def kB : ByteArray := ⟨#[107]⟩
def e1 : Entry := ⟨kB, ⟨3, 0, 0⟩, ⟨false, []⟩⟩
def e2 : Entry := ⟨kB, ⟨2, 0, 0⟩, ⟨false, []⟩⟩
def a1 : Ack := ⟨7, kB, ⟨3, 0, 0⟩⟩
def a2 : Ack := ⟨8, kB, ⟨2, 0, 0⟩⟩
def t1 : List UInt8 := Pack.frameB 1 (Pack.entB e1)
def S1 : St := { l := [], t := [] ++ t1, rs := [] ++ [⟨1, Pack.entB e1⟩], last := 0, n := [e1], z := [], acks := [] ++ [a1] }
def S2 : St := { S1 with acks := S1.acks ++ [a2] }
theorem p1 : PutAll e1 7 := by decide
theorem p2 : PutAll e2 8 := by decide
theorem s1 : St.new.put e1 7 = S1 := by
  unfold St.put
  rw [if_pos p1, if_pos (by decide)]
  rfl
theorem s2 : S1.put e2 8 = S2 := by
  unfold St.put
  rw [if_pos p2, if_neg (by decide)]
  rfl
theorem t1_le : t1.length ≤ 200 := by
  unfold t1
  rw [Pack.frameB_len]
  have := Pack.entB_le e1
  have h1 : e1.key.size = 1 := rfl
  have h2 : e1.val.b.length = 0 := rfl
  omega
theorem fk (w : World) (ok : Nat → Prop) (n : Int) (hn : InR .i64 n) : Kd.FK Entry.k w ok ⟨kB, ⟨n, 0, 0⟩, ⟨false, []⟩⟩ (ecs ⟨kB, ⟨n, 0, 0⟩, ⟨false, []⟩⟩ none 0) :=
  fun W' _ => Entry.mk_ W' ⟨kB, ⟨n, 0, 0⟩, ⟨false, []⟩⟩ (by dsimp only; decide) hn izr izr (Nat.le_refl _) (Kd.C_nil _ _)
theorem new_c (w : World) : Calls Try.prog 5 #[] w fun e w' => ∃ s, e = .returned (.pointer (some ⟨s, 0, none⟩)) ∧ KSt w s 0 St.new w' := by
  refine (new_calls w).mono ?_
  rintro e w' ⟨s, own, rfl, h1, h2, h3⟩
  exact ⟨s, rfl, _, own, h1, h2, fun i hi => hi.elim, h3⟩
theorem pu1 {w w1 : World} {s : Nat} (h : KSt w s 0 St.new w1) : Calls Try.prog 6 #[.pointer (some ⟨s, 0, none⟩), .agg #[.string ⟨#[107]⟩, .int .i64 3, .int .i64 0, .int .i64 0, .bool false, .slice none 0 0], .int .i64 7] w1 fun e w' => e = .returned (.int .i64 0) ∧ KSt w s 0 S1 w' := by
  obtain ⟨ok, own, h1, h2, h3, h4⟩ := h
  refine (put_calls e1 7 none 0 w1 ok own s 0 St.new h1 (by decide) (fk _ _ 3 (InR.mk64 (by decide) (by decide))) (by decide) (by decide) (by decide) (by decide)).mono ?_
  rintro e w' ⟨ok', own', rfl, k1, k2, k3⟩
  rw [s1] at k1
  exact ⟨by rw [show putC e1 7 = 0 from if_pos p1], KSt.next h2 h3 h4 k1 k2 k3⟩
theorem pu2 {w w1 : World} {s : Nat} (h : KSt w s 0 S1 w1) : Calls Try.prog 6 #[.pointer (some ⟨s, 0, none⟩), .agg #[.string ⟨#[107]⟩, .int .i64 2, .int .i64 0, .int .i64 0, .bool false, .slice none 0 0], .int .i64 8] w1 fun e w' => e = .returned (.int .i64 0) ∧ KSt w s 0 S2 w' := by
  obtain ⟨ok, own, h1, h2, h3, h4⟩ := h
  have hl := t1_le
  refine (put_calls e2 8 none 0 w1 ok own s 0 S1 h1 (by decide) (fk _ _ 2 (InR.mk64 (by decide) (by decide))) (by decide) (by show 0 + ([] ++ t1).length ≤ 4000000; simp; omega) (by decide) (by decide)).mono ?_
  rintro e w' ⟨ok', own', rfl, k1, k2, k3⟩
  rw [s2] at k1
  exact ⟨by rw [show putC e2 8 = 0 from if_pos p2], KSt.next h2 h3 h4 k1 k2 k3⟩
theorem ge1 {w w1 : World} {s : Nat} (h : KSt w s 0 S2 w1) : Calls Try.prog 10 #[.pointer (some ⟨s, 0, none⟩), .string ⟨#[107]⟩] w1 fun e w' => ∃ A c, e = .returned (.agg #[.string ⟨#[107]⟩, .int .i64 0, .int .i64 0, .int .i64 0, .bool false, .slice A 0 c]) ∧ Below w1.heap.size w1 w' := by
  obtain ⟨ok, own, h1, h2, h3, h4⟩ := h
  refine (get_calls w1 ok own s 0 S2 kB h1 (by decide) (fun c hc => by cases hc)).mono ?_
  rintro e w' ⟨A, c, rfl, _, hb⟩
  exact ⟨A, c, rfl, hb⟩
theorem ti1 {w W w1 : World} {s : Nat} (h : KSt w s 0 S2 W) (hW : Below W.heap.size W w1) : Calls Try.prog 7 #[.pointer (some ⟨s, 0, none⟩)] w1 fun e w' => ∃ A c, e = .returned (.tuple #[.slice A 2 c, .int .i64 0]) ∧ Ack.k.C w' A 2 [a1, a2] ∧ KSt w s 1 S2.tick w' ∧ ∃ own, Only own w1 w' ∧ ∀ k ∈ own, k < W.heap.size := by
  obtain ⟨ok, own, h1, h2, h3, h4⟩ := h
  have hl := t1_le
  refine (tick_calls w1 ok own s 0 S2 (h1.on hW) (by decide) (by show 0 + ([] ++ t1).length ≤ _; simp; omega)).mono ?_
  rintro e w' ⟨ok', own', A, c, rfl, hc, hf, k1, k2, k3⟩
  exact ⟨A, c, rfl, Kd.F_now hf, KSt.next h2 h3 (Below.then_ h4 hW (Nat.le_refl _)) k1 k2 k3, own, k2.only, StoR.lt h1⟩
theorem ge2 {w w1 : World} {s : Nat} (h : KSt w s 1 S2.tick w1) : Calls Try.prog 10 #[.pointer (some ⟨s, 0, none⟩), .string ⟨#[107]⟩] w1 fun e w' => ∃ A c, e = .returned (.agg #[.string ⟨#[107]⟩, .int .i64 3, .int .i64 0, .int .i64 0, .bool false, .slice A 0 c]) ∧ Below w1.heap.size w1 w' := by
  obtain ⟨ok, own, h1, h2, h3, h4⟩ := h
  refine (get_calls w1 ok own s 1 S2.tick kB h1 (by decide) (fun c hc => by
    have hc' : c ∈ [e1] := hc
    simp at hc'
    subst hc'
    decide)).mono ?_
  have he : ofE S2.tick.z kB = e1 := by
    show (find [e1] kB).getD _ = e1
    unfold find
    rw [List.find?_cons, decide_eq_true (show e1.key = kB from rfl)]
    rfl
  rw [he]
  rintro e w' ⟨A, c, rfl, _, hb⟩
  exact ⟨A, c, rfl, hb⟩
theorem lit2 (W : World) : Ack.k.C (W.alloc (.cells #[.int .i64 7, .string ⟨#[107]⟩, .int .i64 3, .int .i64 0, .int .i64 0, .int .i64 8, .string ⟨#[107]⟩, .int .i64 2, .int .i64 0, .int .i64 0] 44)) (some ⟨W.heap.size, 0, none⟩) 2 [a1, a2] := by
  have hB := Blk.new_ W #[.int .i64 7, .string ⟨#[107]⟩, .int .i64 3, .int .i64 0, .int .i64 0, .int .i64 8, .string ⟨#[107]⟩, .int .i64 2, .int .i64 0, .int .i64 0] 44 rfl rfl
  have i7 : InR .i64 7 := InR.mk64 (by decide) (by decide)
  have i8 : InR .i64 8 := InR.mk64 (by decide) (by decide)
  have i3 : InR .i64 3 := InR.mk64 (by decide) (by decide)
  have i2 : InR .i64 2 := InR.mk64 (by decide) (by decide)
  refine ⟨rfl, by omega, fun _ => ⟨_, rfl, fun j p hj => ?_⟩⟩
  rcases j with _ | _ | j
  · simp at hj
    subst hj
    refine ⟨_, rfl, Ack.mk_ _ a1 i7 (by decide) i3 izr izr, fun q u hq => ?_⟩
    rw [add_plain]
    refine hB.cell _ ?_
    rcases q with _ | _ | _ | _ | _ | q <;> simp_all [a1, kB, Ack.k_sz]
  · simp at hj
    subst hj
    refine ⟨_, rfl, Ack.mk_ _ a2 i8 (by decide) i2 izr izr, fun q u hq => ?_⟩
    rw [add_plain]
    refine hB.cell _ ?_
    rcases q with _ | _ | _ | _ | _ | q <;> simp_all [a2, kB, Ack.k_sz]
  · simp at hj
end Kn
open Cmp
set_option maxRecDepth 100000 in
theorem field_S (a1 a2 a3 : Int) (w : World) : (Instr.field 28 (.agg #[.int .i64 a1, .int .i64 a2, .int .i64 a3]) 0).run Try.prog w = .ok (.int .i64 a1) w := by
  rfl
set_option maxRecDepth 100000 in
set_option maxHeartbeats 1000000 in
theorem known_true (w : World) : Calls Try.prog 4 #[] w (Yes w) := by
  have HN := Aside0.mk (Kn.new_c w)
  have HRS := fun (n : Int) w' => field_S n 0 0 w'
  have HRF := fun (n : Int) (k : ByteArray) (v : Value) w' => field_T k n 0 0 false v w'
  go_enter Try.func4, Try.ntmps4
  go_upto_region 5 with (first
    | ((with_reducible refine HN.out.mono ?_); rintro r w1 ⟨s, rfl, h1⟩; have H1 := Aside0.mk h1; clear h1)
    | ((with_reducible refine (Kn.pu1 H1.out).mono ?_); rintro r w2 ⟨rfl, h2⟩; have H2 := Aside0.mk h2; clear h2)
    | ((with_reducible refine (Kn.pu2 H2.out).mono ?_); rintro r w3 ⟨rfl, h3⟩; have H3 := Aside0.mk h3; clear h3)
    | ((with_reducible refine (Kn.ge1 H3.out).mono ?_); rintro r w4 ⟨A4, c4, rfl, hb4⟩; have H4 := Aside0.mk (KSt.below H3.out hb4); clear hb4))
  generalize hX : World.alloc _ _ = W5
  have HB5 : Aside0 (Below w4.heap.size w4 W5) := ⟨by rw [← hX]; exact below_alloc (Below.refl _ _) _⟩
  have HX5 : Aside0 (Blk W5 w4.heap.size [.string ⟨#[107]⟩, .int .i64 0, .int .i64 0, .int .i64 0, .bool false, .slice A4 0 c4]) := ⟨by rw [← hX]; exact Blk.new_ _ _ _ rfl rfl⟩
  clear hX
  go_upto_region 7 with (first
    | ((with_reducible refine (Kn.ti1 H4.out HB5.out).mono ?_); rintro r w5 ⟨A5, c5, rfl, hk5, h5, own5, ho5, hl5⟩; have HK5 := Aside0.mk hk5; have H5 := Aside0.mk h5; have HX6 := Aside0.mk (HX5.out.only ho5 (fun hm => by have := hl5 _ hm; omega)); clear hk5 h5 ho5 hl5))
  obtain ⟨⟨x0, x1, x2, x3, x4, x5⟩, _⟩ := HX6.out.six
  have HL : Aside0 (∀ W : World, Ack.k.C (W.alloc (.cells #[.int .i64 7, .string ⟨#[107]⟩, .int .i64 3, .int .i64 0, .int .i64 0, .int .i64 8, .string ⟨#[107]⟩, .int .i64 2, .int .i64 0, .int .i64 0] 44)) (some ⟨W.heap.size, 0, none⟩) 2 [Kn.a1, Kn.a2]) := ⟨Kn.lit2⟩
  have HSA : Aside0 (∀ (A B : Option Addr) (c d : Nat) (W : World), Ack.k.C W A 2 [Kn.a1, Kn.a2] → Ack.k.C W B 2 [Kn.a1, Kn.a2] → Calls Try.prog 11 #[.slice A 2 c, .slice B 2 d] W (Yes W)) := ⟨fun A B c d W h1 h2 => sameAcks_refl [Kn.a1, Kn.a2] A B c d W h1 h2⟩
  have HBA : Aside0 (∀ ob, Below w5.heap.size w5 (w5.alloc ob)) := ⟨fun ob => below_alloc (Below.refl _ _) ob⟩
  go_wp2_with (first
    | ((with_reducible refine (HSA.out A5 _ c5 _ _ (Kd.C_below HK5.out (HBA.out _)) (HL.out _)).mono ?_); rintro r w6 ⟨rfl, h6⟩; have H6 := Aside0.mk (KSt.below H5.out (Below.then_ (HBA.out _) h6 (Nat.le_refl _))); clear h6)
    | ((with_reducible refine (Kn.ge2 H6.out).mono ?_); rintro r w7 ⟨A7, c7, rfl, hb7⟩; have H7 := Aside0.mk (KSt.below H6.out hb7); clear hb7)
    | ((with_reducible refine (compact_none _).mono ?_); rintro r w8 ⟨rfl, rfl⟩))
  go_ret
  exact ⟨rfl, KSt.bl H7.out⟩
end Sto
end Go.Proofs.Ytmmelfnhhjfaeaa
set_option linter.unusedVariables false
set_option linter.unusedSimpArgs false
namespace Go.Proofs.Ytmmelfnhhjfaeaa
open Go.RowKit Go.Proofs.YtmmelfnhhjfaeaaW.PrintWords
open Tags Cmp
namespace Sto
/-- Two stores that were made since w, apart from one another. -/
def Two (w : World) (a : Nat) (c : Int) (A : St) (b : Nat) (d : Int) (B : St) (w' : World) : Prop := ∃ oka owna okb ownb, StoR w' oka owna a c A ∧ StoR w' okb ownb b d B ∧ (∀ k ∈ owna, w.heap.size ≤ k ∧ k ∉ ownb ∧ ¬ okb k) ∧ (∀ k ∈ ownb, w.heap.size ≤ k ∧ k ∉ owna ∧ ¬ oka k) ∧ Below w.heap.size w w'
namespace Two
variable {w w1 w2 : World} {a b : Nat} {c d c' : Int} {A B A' : St}
theorem swap (h : Two w a c A b d B w1) : Two w b d B a c A w1 := by
  obtain ⟨oka, owna, okb, ownb, h1, h2, h3, h4, h5⟩ := h
  exact ⟨okb, ownb, oka, owna, h2, h1, h4, h3, h5⟩
theorem below (h : Two w a c A b d B w1) (k : Below w1.heap.size w1 w2) : Two w a c A b d B w2 := by
  obtain ⟨oka, owna, okb, ownb, h1, h2, h3, h4, h5⟩ := h
  exact ⟨oka, owna, okb, ownb, h1.on k, h2.on k, h3, h4, Below.then_ h5 k (Nat.le_refl _)⟩
theorem bl (h : Two w a c A b d B w1) : Below w.heap.size w w1 := by
  obtain ⟨_, _, _, _, _, _, _, _, h5⟩ := h
  exact h5
theorem next {oka okb ok' : Nat → Prop} {owna ownb own' : List Nat} (h2 : StoR w1 okb ownb b d B) (h3 : ∀ k ∈ owna, w.heap.size ≤ k ∧ k ∉ ownb ∧ ¬ okb k) (h4 : ∀ k ∈ ownb, w.heap.size ≤ k ∧ k ∉ owna ∧ ¬ oka k) (h5 : Below w.heap.size w w1) (k1 : StoR w2 ok' own' a c' A') (k2 : Next owna own' w1 w2) (k3 : ∀ i, ok' i → oka i ∨ w1.heap.size ≤ i) : Two w a c' A' b d B w2 := by
  have hs := h5.size
  have hlt := h2.lt
  refine ⟨ok', own', fun i => okb i ∧ i < w1.heap.size, ownb, k1, h2.bound.only k2.only (fun k hk hm => (h3 k hm).2.1 hk) (fun i hi hm => (h3 i hm).2.2 hi.1), fun k hk => ?_, fun k hk => ?_, h5.trans (k2.only.below (fun i hi => (h3 i hi).1) hs)⟩
  · rcases k2.own k hk with h | h
    · exact ⟨(h3 k h).1, (h3 k h).2.1, fun hh => (h3 k h).2.2 hh.1⟩
    · exact ⟨by omega, fun hm => by have := hlt k hm; omega, fun hh => by have := hh.2; omega⟩
  · have hk' := hlt k hk
    refine ⟨(h4 k hk).1, fun hm => ?_, fun hm => ?_⟩
    · rcases k2.own k hm with h | h
      · exact (h4 k hk).2.1 h
      · omega
    · rcases k3 k hm with h | h
      · exact (h4 k hk).2.2 h
      · omega
end Two
/-- The bounds of a store after k puts. -/
structure StWf (S : St) (k : Nat) : Prop where
  l : S.l = []
  t : S.t.length ≤ 500 * k
  rs : S.rs.length ≤ k
  acks : S.acks.length ≤ k
  n : S.n.length ≤ k
  ents : ∀ c ∈ S.n, c.key.size ≤ 250 ∧ c.val.b.length ≤ 100
  srt : Srt S.n
theorem len_put {l : List Entry} {c : Entry} (hs : Srt l) : (put l c).length ≤ l.length + 1 := by
  rw [(put_perm hs).length_eq, List.length_cons]
  unfold del
  have := List.length_filter_le (fun x : Entry => decide (x.key ≠ c.key)) l
  omega
theorem StWf.new : StWf St.new 0 := ⟨rfl, by simp [St.new], by simp [St.new], by simp [St.new], by simp [St.new], (fun c hc => by cases hc), List.Pairwise.nil⟩
theorem StWf.put {S : St} {k : Nat} {e : Entry} {who : Int} (h : StWf S k) (hb : e.val.b.length ≤ 100) : StWf (S.put e who) (k + 1) := by
  obtain ⟨h1, h2, h3, h4, h5, h6, h7⟩ := h
  unfold St.put
  by_cases hg : PutAll e who
  · rw [if_pos hg]
    have hks : e.key.size ≤ 250 := hg.1.1.2.1
    split
    · refine ⟨h1, ?_, ?_, ?_, ?_, fun c hc => ?_, srt_put h7⟩
      · have := Pack.entB_le e
        simp only [List.length_append, Pack.frameB_len]
        omega
      · simp; omega
      · simp; omega
      · have := len_put (c := e) h7
        show (Sto.put S.n e).length ≤ k + 1
        omega
      · rcases (mem_put h7).1 hc with rfl | ⟨hc, _⟩
        · exact ⟨hks, hb⟩
        · exact h6 c hc
    · exact ⟨h1, by show S.t.length ≤ _; omega, by show S.rs.length ≤ _; omega, by simp; omega, by show S.n.length ≤ _; omega, h6, h7⟩
  · rw [if_neg hg]
    exact ⟨h1, by omega, by omega, by omega, by omega, h6, h7⟩
theorem put_n (S : St) (e : Entry) (who : Int) (h : 0 ≤ who ∧ who ≤ 1048575) : (S.put e who).n = putE S.n e := by
  unfold St.put putE
  by_cases hg : PutOk e
  · rw [if_pos (show PutAll e who from ⟨hg, h⟩), if_pos hg]
    split <;> rfl
  · rw [if_neg (show ¬ PutAll e who from fun hh => hg hh.1), if_neg hg]
/-- The entries, put one behind the other. -/
def runP (f : Nat → Entry) : Nat → St
  | 0 => St.new
  | i + 1 => (runP f i).put (f i) (i : Int)
theorem runP_wf {f : Nat → Entry} {n : Nat} (h : ∀ i, i < n → (f i).val.b.length ≤ 100) : ∀ i, i ≤ n → StWf (runP f i) i
  | 0, _ => StWf.new
  | i + 1, hi => (runP_wf h i (by omega)).put (h i (by omega))
theorem runP_n (f : Nat → Entry) : ∀ i, i ≤ 1000 → (runP f i).n = ((List.range i).map f).foldl putE []
  | 0, _ => rfl
  | i + 1, hi => by
    show ((runP f i).put (f i) (i : Int)).n = _
    rw [put_n _ _ _ (by omega), runP_n f i (by omega), List.range_succ, List.map_append, List.foldl_append]
    rfl
theorem range_get (l : List Entry) : (List.range l.length).map (fun i => l.getD i Entry.z) = l := by
  apply List.ext_getElem
  · simp
  · intro i h1 h2
    simp at h1
    simp [List.getD_eq_getElem?_getD, List.getElem?_eq_getElem h1]
/-- Of no two the same key and tag; values of a hundred bytes at most: below i. -/
def Fine (l : List Entry) (i : Nat) : Prop := ∀ j x, j < i → l[j]? = some x → x.val.b.length ≤ 100 ∧ ∀ k y, k < j → l[k]? = some y → ¬ (x.key = y.key ∧ x.tag = y.tag)
theorem putC_or (e : Entry) (who : Int) : putC e who = 0 ∨ putC e who = 2 := by
  unfold putC
  split <;> simp
/-- An element of a row that is read lies in blocks that are there. -/
theorem fk_old {w : World} {e : Entry} {cs : List Value} (h : Entry.k.K w e cs) : Kd.FK Entry.k w (fun i => i < w.heap.size) e cs := by
  obtain ⟨A, c, rfl, s0, r1, r2, r3, l5, g5⟩ := Entry.open_ h
  exact fun W' hW => Entry.mk_ W' e s0 r1 r2 r3 l5 (kU8_old g5 W' hW)
set_option maxRecDepth 100000 in
theorem Two.put {w w1 : World} {a b : Nat} {A B : St} {k : Nat} {e : Entry} {Ae : Option Addr} {cp : Nat} (h : Two w a 0 A b 0 B w1) (hA : StWf A k) (hk : k ≤ 1000) (hK : Entry.k.K w e (ecs e Ae cp)) (hb : e.val.b.length ≤ 100) (who : Int) :
    Calls Try.prog 6 #[.pointer (some ⟨a, 0, none⟩), .agg (ecs e Ae cp).toArray, .int .i64 who] w1 fun r w' => r = .returned (.int .i64 (putC e who)) ∧ Two w a 0 (A.put e who) b 0 B w' := by
  obtain ⟨oka, owna, okb, ownb, h1, h2, h3, h4, h5⟩ := h
  have hE : Kd.FK Entry.k w1 (fun i => i ∉ owna) e (ecs e Ae cp) := Foot.mono (Foot.step (Foot.bound (fk_old hK)) (fun i hi hl => h5.block i hl)) (fun i hi hm => by have := (h3 i hm).1; have := hi.2; omega)
  refine (put_calls e who Ae cp w1 oka owna a 0 A h1 (by decide) hE (by omega) (by rw [hA.l]; have := hA.t; simp; omega) (by have := hA.rs; omega) (by have := hA.acks; omega)).mono ?_
  rintro r w' ⟨ok', own', rfl, k1, k2, k3⟩
  exact ⟨rfl, Two.next h2 h3 h4 h5 k1 k2 k3⟩
theorem Two.tick {w w1 : World} {a b : Nat} {d : Int} {A B : St} {k : Nat} (h : Two w a 0 A b d B w1) (hA : StWf A k) (hk : k ≤ 1000) :
    Calls Try.prog 7 #[.pointer (some ⟨a, 0, none⟩)] w1 fun r w' => (∃ v, r = .returned v) ∧ Two w a (0 + 1) A.tick b d B w' := by
  obtain ⟨oka, owna, okb, ownb, h1, h2, h3, h4, h5⟩ := h
  refine (tick_calls w1 oka owna a 0 A h1 (by decide) (by rw [hA.l]; have := hA.t; simp; omega)).mono ?_
  rintro r w' ⟨ok', own', A1, c1, rfl, _, _, k1, k2, k3⟩
  exact ⟨⟨_, rfl⟩, Two.next h2 h3 h4 h5 k1 k2 k3⟩
theorem Two.all {w w1 : World} {a b : Nat} {c d : Int} {A B : St} {k : Nat} (h : Two w a c A.tick b d B w1) (hA : StWf A k) (hk : k ≤ 1000) :
    Calls Try.prog 9 #[.pointer (some ⟨a, 0, none⟩)] w1 (AllTold w1 A.n) := by
  obtain ⟨oka, owna, okb, ownb, h1, h2, h3, h4, h5⟩ := h
  exact all_calls w1 oka owna a c A.tick h1 (by have := hA.n; show A.n.length ≤ _; omega) (fun x hx => by have := hA.ents x hx; omega)
theorem Two.start {w w0 w1 w2 : World} {a b : Nat} {owna ownb : List Nat} (hb : Below w.heap.size w w0) (h1 : StoR w1 (fun _ => False) owna a 0 St.new) (g1 : ∀ k ∈ owna, w0.heap.size ≤ k) (b1 : Below w0.heap.size w0 w1) (h2 : StoR w2 (fun _ => False) ownb b 0 St.new) (g2 : ∀ k ∈ ownb, w1.heap.size ≤ k) (b2 : Below w1.heap.size w1 w2) : Two w a 0 St.new b 0 St.new w2 := by
  have s0 := hb.size
  have s1 := b1.size
  have l1 := h1.lt
  exact ⟨_, owna, _, ownb, h1.on b2, h2, fun k hk => ⟨by have := g1 k hk; omega, fun hm => by have := g2 k hm; have := l1 k hk; omega, id⟩, fun k hk => ⟨by have := g2 k hk; omega, fun hm => by have := g2 k hk; have := l1 k hm; omega, id⟩, Below.then_ hb (Below.then_ b1 b2 (Nat.le_refl _)) (Nat.le_refl _)⟩
end Sto
end Go.Proofs.Ytmmelfnhhjfaeaa
set_option linter.unusedVariables false
set_option linter.unusedSimpArgs false
namespace Go.Proofs.Ytmmelfnhhjfaeaa
open Go.RowKit Go.Proofs.YtmmelfnhhjfaeaaW.PrintWords
open Tags Cmp
namespace Sto
theorem txt_no {a b : ByteArray} (h : a ≠ b) : (a.toList == b.toList) = false := by
  have := StrRow.txt_ne h
  simpa using this
theorem txt_yes (a : ByteArray) : (a.toList == a.toList) = true := by simp
set_option maxRecDepth 100000 in
set_option maxHeartbeats 1000000 in
theorem orders_walk (xs : List Entry) (A : Option Addr) (c : Nat) (n : Nat) (w : World) (hC : Entry.k.C w A xs.length xs) (hn : n < 256) :
    Calls Try.prog 3 #[.slice A xs.length c, .int .u8 (n : Int)] w (Yes w) := by
  have HC := Aside0.mk hC
  have HKN := Aside0.mk (fun W => known_true W)
  have hl : xs.length ≤ 9223372036854775807 := hC.2.1
  clear hC
  by_cases hlen : 20 < xs.length
  · have hlI : (20 : Int) < (xs.length : Int) := by omega
    go_enter Try.func3, Try.ntmps3
    go_wp2_with (first | ((with_reducible refine (HKN.out _).mono ?_); rintro r w1 ⟨rfl, h1⟩; have H1 := Aside0.mk h1; clear h1))
    go_ret
    exact ⟨rfl, H1.out⟩
  · have hlI : ¬ (20 : Int) < (xs.length : Int) := by omega
    go_enter Try.func3, Try.ntmps3
    go_wp2
    go_loopg [5] xs.length (fun gk v wr => ∃ i : Nat, v = .int .i64 (i : Int) ∧ i ≤ xs.length ∧ Aside0 (gk + i = xs.length) ∧ Aside0 (Below w.heap.size w wr) ∧ Aside0 (Fine xs i))
    case atStart => exact ⟨0, rfl, Nat.zero_le _, ⟨rfl⟩, ⟨Below.refl _ _⟩, ⟨fun j x hj => by omega⟩⟩
    case round =>
      obtain ⟨i, rfl, hi, HG, HB, HF⟩ := hrel
      by_cases hlt : i < xs.length
      · obtain ⟨a1, x, A5, c5, rfl, HU, x0, x1, x2, x3, x4, x5, HK⟩ := Entry.at_ (Kd.C_below HC.out HB.out) i hlt
        have hltI : (i : Int) < (xs.length : Int) := by omega
        by_cases hbig : 100 < x.val.b.length
        · have hbI : (100 : Int) < (x.val.b.length : Int) := by omega
          go_wp2_with (first | ((with_reducible refine (HKN.out _).mono ?_); rintro r w1 ⟨rfl, h1⟩; have H1 := Aside0.mk h1; clear h1))
          go_ret
          exact ⟨rfl, Below.then_ HB.out H1.out (Nat.le_refl _)⟩
        · have hbI : ¬ (100 : Int) < (x.val.b.length : Int) := by omega
          go_wp2
          obtain ⟨w1, rfl⟩ : ∃ w1, w1 = wr := ⟨_, rfl⟩
          have HG1 := HG
          clear HG
          go_loopg [6] i (fun gk v wr => ∃ k : Nat, v = .int .i64 (k : Int) ∧ k ≤ i ∧ Aside0 (gk + k = i) ∧ Aside0 (Below w1.heap.size w1 wr) ∧ Aside0 (∀ k' y, k' < k → xs[k']? = some y → ¬ (x.key = y.key ∧ x.tag = y.tag)))
          case atStart => exact ⟨0, rfl, Nat.zero_le _, ⟨rfl⟩, ⟨Below.refl _ _⟩, ⟨fun k' y hk => by omega⟩⟩
          case round =>
            obtain ⟨k, rfl, hk, HG, HBR, HD⟩ := hrel
            by_cases hlk : k < i
            · have hlkI : (k : Int) < (i : Int) := by omega
              obtain ⟨a2, y, B5, d5, ha2, HV, y0, y1, y2, y3, y4, y5, HK'⟩ := Entry.at_ (Kd.C_below HC.out (Below.then_ HB.out HBR.out (Nat.le_refl _))) k (by omega)
              injection ha2 with ha2
              subst ha2
              have x0 := pw_cell_below HBR.out x0
              have x1 := pw_cell_below HBR.out x1
              have x2 := pw_cell_below HBR.out x2
              have x3 := pw_cell_below HBR.out x3
              have HD' : Aside0 (¬ (x.key = y.key ∧ x.tag = y.tag) → ∀ k' z, k' < k + 1 → xs[k']? = some z → ¬ (x.key = z.key ∧ x.tag = z.tag)) := ⟨fun hn k' z hk' hz => by
                by_cases e : k' = k
                · subst e
                  obtain rfl : y = z := Option.some.inj (HV.out.symm.trans hz)
                  exact hn
                · exact HD.out k' z (by omega) hz⟩
              obtain ⟨xk, ⟨t1, t2, t3⟩, ⟨xh, xb⟩⟩ := x
              obtain ⟨yk, ⟨u1, u2, u3⟩, ⟨yh, yb⟩⟩ := y
              dsimp only at x0 x1 x2 x3 x4 x5 y0 y1 y2 y3 y4 y5 HD'
              simp only [Tag.mk.injEq] at HD'
              by_cases hkey : xk = yk
              · subst hkey
                have hkb := txt_yes xk
                have hcase : (t1 == u1) = false ∨ ((t1 == u1) = true ∧ (t2 == u2) = false) ∨ ((t1 == u1) = true ∧ (t2 == u2) = true ∧ (t3 == u3) = false) ∨ (t1 = u1 ∧ t2 = u2 ∧ t3 = u3) := by
                  simp only [beq_eq_false_iff_ne, beq_iff_eq]
                  omega
                rcases hcase with h1 | ⟨h1, h2⟩ | ⟨h1, h2, h3⟩ | ⟨rfl, rfl, rfl⟩
                · go_wp2
                  go_quiet (fail)
                  go_wp2
                  go_roundg (i - (k + 1))
                  case measure => have := HG.out; omega
                  case rel => exact ⟨k + 1, by go_num, by omega, ⟨by omega⟩, ⟨pw_below_drewN HBR.out _⟩, ⟨HD'.out (fun h => absurd h.2.1 (by simpa using h1))⟩⟩
                · go_wp2
                  go_quiet (fail)
                  go_wp2
                  go_roundg (i - (k + 1))
                  case measure => have := HG.out; omega
                  case rel => exact ⟨k + 1, by go_num, by omega, ⟨by omega⟩, ⟨pw_below_drewN HBR.out _⟩, ⟨HD'.out (fun h => absurd h.2.2.1 (by simpa using h2))⟩⟩
                · go_wp2
                  go_quiet (fail)
                  go_wp2
                  go_roundg (i - (k + 1))
                  case measure => have := HG.out; omega
                  case rel => exact ⟨k + 1, by go_num, by omega, ⟨by omega⟩, ⟨pw_below_drewN HBR.out _⟩, ⟨HD'.out (fun h => absurd h.2.2.2 (by simpa using h3))⟩⟩
                · go_wp2
                  go_quiet (fail)
                  go_wp2_with (first | ((with_reducible refine (HKN.out _).mono ?_); rintro r w2 ⟨rfl, h1⟩; have H1 := Aside0.mk h1; clear h1))
                  go_ret
                  exact ⟨rfl, Below.then_ (Below.then_ HB.out (pw_below_drewN HBR.out _) (Nat.le_refl _)) H1.out (Nat.le_refl _)⟩
              · have hkb := txt_no hkey
                go_wp2
                go_quiet (fail)
                go_wp2
                go_roundg (i - (k + 1))
                case measure => have := HG.out; omega
                case rel => exact ⟨k + 1, by go_num, by omega, ⟨by omega⟩, ⟨pw_below_drewN HBR.out _⟩, ⟨HD'.out (fun h => hkey h.1)⟩⟩
            · obtain rfl : k = i := by omega
              have HFN : Aside0 (Fine xs (k + 1)) := ⟨fun j z hj hz => by
                by_cases e : j = k
                · subst e
                  obtain rfl : x = z := Option.some.inj (HU.out.symm.trans hz)
                  exact ⟨by omega, HD.out⟩
                · exact HF.out j z (by omega) hz⟩
              go_wp2
              go_roundg (xs.length - (k + 1))
              case measure => have := HG1.out; omega
              case rel => exact ⟨k + 1, by go_num, by omega, ⟨by omega⟩, ⟨Below.then_ HB.out HBR.out (Nat.le_refl _)⟩, HFN⟩
      · obtain rfl : i = xs.length := by omega
        obtain ⟨w0, rfl⟩ : ∃ w0, w0 = wr := ⟨_, rfl⟩
        have HNA := Aside0.mk (fun W => new_calls W)
        go_upto_region 15 with (first
          | ((with_reducible refine (HNA.out w0).mono ?_); rintro r w1 ⟨a, owna, rfl, g1, g2, g3⟩; have H1 := Aside0.mk (And.intro g1 (And.intro g2 g3)); clear g1 g2 g3)
          | ((with_reducible refine (HNA.out w1).mono ?_); rintro r w2 ⟨b, ownb, rfl, g1, g2, g3⟩; have HT := Aside0.mk (Two.start HB.out H1.out.1 H1.out.2.1 H1.out.2.2 g1 g2 g3); clear g1 g2 g3))
        clear HB H1
        go_wp2
        obtain ⟨f, hf⟩ : ∃ f : Nat → Entry, f = fun i => xs.getD i Entry.z := ⟨_, rfl⟩
        obtain ⟨g, hg⟩ : ∃ g : Nat → Entry, g = fun i => xs.getD ((xs.length - 1 - i + n) % xs.length) Entry.z := ⟨_, rfl⟩
        have HFG := Aside0.mk (And.intro hf hg)
        have HWF : Aside0 (∀ j, j ≤ xs.length → StWf (runP f j) j ∧ StWf (runP g j) j) := ⟨fun j hj => by
          have hx : ∀ m, m < xs.length → (xs.getD m Entry.z).val.b.length ≤ 100 := fun m hm => by
            have e : xs[m]? = some (xs.getD m Entry.z) := by simp [List.getD_eq_getElem?_getD, hm]
            exact (HF.out m _ hm e).1
          exact ⟨runP_wf (n := xs.length) (fun m hm => by rw [hf]; exact hx m hm) j hj, runP_wf (n := xs.length) (fun m hm => by rw [hg]; exact hx _ (Nat.mod_lt _ (by omega))) j hj⟩⟩
        clear hf hg
        go_loopg [9] xs.length (fun gk v wr => ∃ j : Nat, v = .int .i64 (j : Int) ∧ j ≤ xs.length ∧ Aside0 (gk + j = xs.length) ∧ Aside0 (Two w a 0 (runP f j) b 0 (runP g j) wr))
        case atStart => exact ⟨0, rfl, Nat.zero_le _, ⟨rfl⟩, HT⟩
        case round =>
          obtain ⟨j, rfl, hj, HG, HT1⟩ := hrel
          by_cases hlt : j < xs.length
          · have hltI : (j : Int) < (xs.length : Int) := by omega
            obtain ⟨a1, x, A5, c5, rfl, HU, x0, x1, x2, x3, x4, x5, HK⟩ := Entry.at_ HC.out j hlt
            obtain ⟨m, hm⟩ : ∃ m, m = (xs.length - 1 - j + n) % xs.length := ⟨_, rfl⟩
            have hml : m < xs.length := by rw [hm]; exact Nat.mod_lt _ (by omega)
            obtain ⟨a2, y, B5, d5, ha2, HV, y0, y1, y2, y3, y4, y5, HK'⟩ := Entry.at_ HC.out m hml
            injection ha2 with ha2
            subst ha2
            have HFX : Aside0 (f j = x ∧ g j = y) := ⟨by
              constructor
              · rw [HFG.out.1]
                simp [List.getD_eq_getElem?_getD, HU.out]
              · rw [HFG.out.2]
                dsimp only
                rw [← hm]
                simp [List.getD_eq_getElem?_getD, HV.out]⟩
            have hbx : x.val.b.length ≤ 100 := (HF.out j x hlt HU.out).1
            have hby : y.val.b.length ≤ 100 := (HF.out m y hml HV.out).1
            have hmi : ((xs.length : Int) - 1 - (j : Int) + (n : Int)) % (xs.length : Int) = (m : Int) := by
              rw [hm]
              have : ((xs.length : Int) - 1 - (j : Int) + (n : Int)) = ((xs.length - 1 - j + n : Nat) : Int) := by omega
              rw [this]
              simp
            have hb1 := HT1.out.bl
            have x0 := pw_cell_below hb1 x0
            have x1 := pw_cell_below hb1 x1
            have x2 := pw_cell_below hb1 x2
            have x3 := pw_cell_below hb1 x3
            have x4 := pw_cell_below hb1 x4
            have x5 := pw_cell_below hb1 x5
            have HP1 := Aside0.mk (Two.put HT1.out (HWF.out j hj).1 (by omega) HK.out hbx (j : Int))
            dsimp only [ecs] at HP1
            have HM := Aside0.mk hm
            clear hm hb1
            go_upto_region 19 with (first
              | ((with_reducible refine HP1.out.mono ?_); rintro r w3 ⟨rfl, h3⟩; have HT3 := Aside0.mk h3; clear h3))
            have HP2 := Aside0.mk (Two.put HT3.out.swap (HWF.out j hj).2 (by omega) HK'.out hby (j : Int))
            dsimp only [ecs] at HP2
            clear x0 x1 x2 x3 x4 x5
            have hb3 := HT3.out.bl
            have y0 := pw_cell_below hb3 y0
            have y1 := pw_cell_below hb3 y1
            have y2 := pw_cell_below hb3 y2
            have y3 := pw_cell_below hb3 y3
            have y4 := pw_cell_below hb3 y4
            have y5 := pw_cell_below hb3 y5
            clear hb3
            go_upto_region 20 with (first
              | ((with_reducible refine HP2.out.mono ?_); rintro r w4 ⟨rfl, h4⟩; have HT4 := Aside0.mk h4.swap; clear h4))
            obtain ⟨p1, hp1⟩ : ∃ p, p = putC x (j : Int) := ⟨_, rfl⟩
            obtain ⟨p2, hp2⟩ : ∃ p, p = putC y (j : Int) := ⟨_, rfl⟩
            have hq1 : p1 = 0 ∨ p1 = 2 := hp1 ▸ putC_or x (j : Int)
            have hq2 : p2 = 0 ∨ p2 = 2 := hp2 ▸ putC_or y (j : Int)
            rw [← hp1, ← hp2]
            have HT5 : Aside0 (Two w a 0 (runP f (j + 1)) b 0 (runP g (j + 1)) w4) := ⟨by
              show Two w a 0 ((runP f j).put (f j) (j : Int)) b 0 ((runP g j).put (g j) (j : Int)) w4
              rw [HFX.out.1, HFX.out.2]
              exact HT4.out⟩
            clear hp1 hp2 y0 y1 y2 y3 y4 y5
            rcases hq1 with rfl | rfl <;> rcases hq2 with rfl | rfl <;>
            · go_wp2
              go_roundg (xs.length - (j + 1))
              case measure => have := HG.out; omega
              case rel => exact ⟨j + 1, by go_num, by omega, ⟨by omega⟩, HT5⟩
          · obtain rfl : j = xs.length := by omega
            have HEQ : Aside0 ((runP g xs.length).n = (runP f xs.length).n) := ⟨by
              rw [runP_n g _ (by omega), runP_n f _ (by omega), HFG.out.1, HFG.out.2, range_get]
              rcases Nat.eq_zero_or_pos xs.length with h0 | h0
              · obtain rfl : xs = [] := List.eq_nil_of_length_eq_zero h0
                rfl
              · exact (orders_same xs n (fun i k hk x y hx hy => (HF.out i x (List.getElem?_eq_some_iff.1 hx).1 hx).2 k y hk hy) h0).symm⟩
            have HW1 := Aside0.mk (HWF.out xs.length (Nat.le_refl _))
            go_upto_region 24 with (first
              | ((with_reducible refine (Two.tick HT1.out HW1.out.1 (by omega)).mono ?_); rintro r w5 ⟨⟨v5, rfl⟩, h5⟩; have HT5 := Aside0.mk h5; clear h5)
              | ((with_reducible refine (Two.tick HT5.out.swap HW1.out.2 (by omega)).mono ?_); rintro r w6 ⟨⟨v6, rfl⟩, h6⟩; have HT6 := Aside0.mk h6.swap; clear h6))
            have HA1 := Aside0.mk (Two.all HT6.out HW1.out.1 (by omega))
            have HA2 : Aside0 (∀ W, Below w6.heap.size w6 W → Calls Try.prog 9 #[.pointer (some ⟨b, 0, none⟩)] W (AllTold W (runP f xs.length).n)) := ⟨fun W hb => by
              have := Two.all (HT6.out.below hb).swap HW1.out.2 (by omega)
              rw [HEQ.out] at this
              exact this⟩
            obtain ⟨L, hL⟩ : ∃ L, L = (runP f xs.length).n := ⟨_, rfl⟩
            rw [← hL] at HA1 HA2
            have HBW := Aside0.mk HT6.out.bl
            clear hL
            go_wp2_with (first
              | ((with_reducible refine HA1.out.mono ?_); rintro r w7 ⟨A7, c7, rfl, q1, q2, q3⟩; have HQ7 := Aside0.mk (And.intro (Kd.F_now q2) q3); clear q1 q2 q3)
              | ((with_reducible refine (HA2.out _ HQ7.out.2).mono ?_); rintro r w8 ⟨A8, c8, rfl, q1, q2, q3⟩; have HQ8 := Aside0.mk (And.intro (Kd.F_now q2) q3); clear q1 q2 q3)
              | ((with_reducible refine (sameAll_refl L A7 A8 c7 c8 w8 (Kd.C_below HQ7.out.1 HQ8.out.2) HQ8.out.1).mono ?_); rintro r w9 ⟨rfl, h9⟩; have HB9 := Aside0.mk (Below.then_ (Below.then_ (Below.then_ HBW.out HQ7.out.2 (Nat.le_refl _)) HQ8.out.2 (Nat.le_refl _)) h9 (Nat.le_refl _)); clear h9)
              | ((with_reducible refine (HKN.out _).mono ?_); rintro r w10 ⟨rfl, h10⟩; have HB10 := Aside0.mk (Below.then_ HB9.out h10 (Nat.le_refl _)); clear h10))
            go_ret
            exact ⟨rfl, HB10.out⟩
end Sto
end Go.Proofs.Ytmmelfnhhjfaeaa
set_option linter.unusedVariables false
set_option linter.unusedSimpArgs false
namespace Go.Proofs.Ytmmelfnhhjfaeaa
open Go.RowKit Go.Proofs.YtmmelfnhhjfaeaaW.PrintWords
namespace Sto
theorem orders_row (xs : List Entry) (A : Option Addr) (c : Nat) (z : Int) (w : World) (hC : Entry.k.C w A xs.length xs) (hz : (Lit.int .u8 z).wf = true) :
    Calls Try.prog 3 #[.slice A xs.length c, .int .u8 z] w (Cmp.Yes w) := by
  obtain ⟨n, rfl, hn⟩ : ∃ n : Nat, z = (n : Int) ∧ n < 256 := by
    simp [Lit.wf, IntKind.wrap, IntKind.bits, IntKind.signed] at hz
    have e1 : IntKind.u8.min = 0 := rfl
    have e2 : IntKind.u8.max = 255 := rfl
    exact ⟨z.toNat, by omega, by omega⟩
  exact orders_walk xs A c n w hC hn
end Sto
end Go.Proofs.Ytmmelfnhhjfaeaa
namespace Go.Proofs.Ytmmelfnhhjfaeaa
open Go.RowKit Go.Proofs.YtmmelfnhhjfaeaaW.PrintWords
def BdT {α : Type} : α → Prop := fun _ => True
def BdS {α : Type} (B : Nat) (Bd : α → Prop) (l : List α) : Prop := l.length * B ≤ 140737488351232 ∧ ∀ x ∈ l, Bd x
def WOk {H : Type} (t : TypeId) (d : DataW H) : Prop := ∀ n ∈ DataW.weights Try.prog t d, n ≤ reachBytes
/-- What reads at type t is of kind k, within bounds. -/
structure Reads {α : Type} (t : TypeId) (k : Kd α) (Bd : α → Prop) : Prop where
  sz : Try.prog.cellsOf t = k.sz
  get : ∀ {H : Type} {enc : TypeId × Value → H} {w : World} {base : Nat} {spare : Nat → Bool} {held : Bool} {fuel : Nat} {cs : List Value} {x : DataW H × List MemPlace},
    DataW.trod enc Try.prog w base spare held fuel t cs = some x → WOk t x.1 → ∃ a, k.K w a cs ∧ Bd a
theorem Reads.int {t : TypeId} {q : IntKind} (ht : Try.prog.underlying t = some (.int q)) (hs : Try.prog.cellsOf t = 1) : Reads t (kInt q) BdT where
  sz := hs
  get := by
    intro H enc w base spare held fuel cs x h _
    obtain ⟨n, rfl, _, hw⟩ := DataW.trod_int ht h
    exact ⟨n, ⟨rfl, hw⟩, trivial⟩
theorem Reads.u8 {t : TypeId} (ht : Try.prog.underlying t = some (.int .u8)) (hs : Try.prog.cellsOf t = 1) : Reads t kU8 BdT where
  sz := hs
  get := by
    intro H enc w base spare held fuel cs x h _
    obtain ⟨n, rfl, _, hw⟩ := DataW.trod_int ht h
    obtain ⟨h0, h1⟩ := _root_.Go.bounds_u8 hw
    refine ⟨UInt8.ofNat n.toNat, ?_, trivial⟩
    show [Value.int .u8 n] = [Value.int .u8 ((UInt8.ofNat n.toNat).toNat : Int)]
    have : ((UInt8.ofNat n.toNat).toNat : Int) = n := by
      rw [UInt8.toNat_ofNat']
      omega
    rw [this]
theorem Reads.bool {t : TypeId} (ht : Try.prog.underlying t = some .bool) (hs : Try.prog.cellsOf t = 1) : Reads t Kd.bool BdT where
  sz := hs
  get := by
    intro H enc w base spare held fuel cs x h _
    obtain ⟨b, rfl, _⟩ := DataW.trod_bool ht h
    exact ⟨b, rfl, trivial⟩
theorem Reads.str {t : TypeId} (ht : Try.prog.underlying t = some .string) (hs : Try.prog.cellsOf t = 1) : Reads t kStr BdT where
  sz := hs
  get := by
    intro H enc w base spare held fuel cs x h hw
    obtain ⟨s, rfl, hx, _⟩ := DataW.trod_string ht h
    subst hx
    refine ⟨s, ⟨rfl, ?_⟩, trivial⟩
    have h2 : s.data.toList.length ≤ reachBytes := hw s.data.toList.length (List.mem_singleton.2 rfl)
    have e : s.data.toList.length = s.size := Array.length_toList
    rw [e] at h2
    exact h2
theorem cells_get {w : World} {base : Nat} {a : Addr} {n : Nat} {cs : List Value} (h : w.cells? base a n = some cs) : cs.length = n ∧ ∀ i u, cs[i]? = some u → w.cell? (a.add i) = some u := by
  unfold World.cells? at h
  split at h
  · refine ⟨by simpa using mapM_some_length h, fun i u hu => ?_⟩
    have hi : i < n := by
      have h1 := mapM_some_length h
      have h2 := (List.getElem?_eq_some_iff.1 hu).1
      simp at h1
      omega
    have h3 := mapM_some_get h i i (by simp [hi])
    rw [h3]
    exact hu
  · cases h
theorem weightsAll_mem {H : Type} {e : TypeId} : ∀ {l : List (DataW H)} {d : DataW H} {n : Nat}, d ∈ l → n ∈ d.weights Try.prog e → n ∈ DataW.weightsAll Try.prog e l
  | a :: r, d, n, hd, hn => by
    unfold DataW.weightsAll
    rcases List.mem_cons.1 hd with rfl | hd
    · exact List.mem_append_left _ hn
    · exact List.mem_append_right _ (weightsAll_mem hd hn)
theorem choose_list {α : Type} {n : Nat} {p : Nat → α → Prop} (h : ∀ i, i < n → ∃ x, p i x) : ∃ l : List α, l.length = n ∧ ∀ i x, l[i]? = some x → p i x := by
  induction n with
  | zero => exact ⟨[], rfl, fun i x hx => by simp at hx⟩
  | succ n ih =>
    obtain ⟨l, hl, hp⟩ := ih (fun i hi => h i (by omega))
    obtain ⟨x, hx⟩ := h n (by omega)
    refine ⟨l ++ [x], by simp [hl], fun i y hy => ?_⟩
    rcases Nat.lt_or_ge i n with hi | hi
    · rw [List.getElem?_append_left (by omega)] at hy
      exact hp i y hy
    · rw [List.getElem?_append_right (by omega)] at hy
      have : i = n := by
        have := (List.getElem?_eq_some_iff.1 hy).1
        simp at this
        omega
      subst this
      simp [hl] at hy
      subst hy
      exact hx
theorem Reads.slice {α : Type} {t e : TypeId} {k : Kd α} {Bd : α → Prop} {B : Nat} (ht : Try.prog.underlying t = some (.slice e)) (hs : Try.prog.cellsOf t = 1) (hB : Try.prog.bytesOf e = B) (R : Reads e k Bd) : Reads t (Kd.slice e k) (BdS B Bd) where
  sz := hs
  get := by
    intro H enc w base spare held fuel cs x h hw
    rcases Deep.open_slice ht h with ⟨rfl, rfl⟩ | ⟨a, len, cap, m, n, D, Pl, rfl, hb, hl, hm, hmm, rfl, hel⟩
    · exact ⟨[], ⟨none, 0, rfl, Nat.le_refl _, Kd.C_nil _ _⟩, by rw [List.length_nil, Nat.zero_mul]; exact Nat.zero_le _, fun _ h => by cases h⟩
    · have hlm : len ≤ m := by rw [hmm]; split <;> omega
      have hwe : ∀ i, i < len → WOk e (D i) := fun i hi n hn => hw n (by
        simp only [DataW.weights, ht]
        exact List.mem_cons_of_mem _ (List.mem_append_left _ (weightsAll_mem (List.mem_map.2 ⟨i, List.mem_range.2 hi, rfl⟩) hn)))
      have hk : ∀ i, i < len → ∃ z, Bd z ∧ ∃ c, w.cells? base (a.add (i * Try.prog.cellsOf e)) (Try.prog.cellsOf e) = some c ∧ k.K w z c := fun i hi => by
        obtain ⟨c, h1, h2⟩ := hel i (by omega)
        obtain ⟨z, h3, h4⟩ := R.get h2 (hwe i hi)
        exact ⟨z, h4, c, h1, h3⟩
      obtain ⟨zs, hzl, hz⟩ := choose_list hk
      have hm' : cap ≤ 9223372036854775807 := by simpa [maxLen] using hm
      subst hzl
      refine ⟨zs, ⟨_, cap, rfl, hl, rfl, by omega, fun _ => ⟨a, rfl, fun j p hj => ?_⟩⟩, ?_, fun z hzm => ?_⟩
      · obtain ⟨_, c, h1, h2⟩ := hz j p hj
        obtain ⟨h3, h4⟩ := cells_get h1
        refine ⟨c, by rw [h3, R.sz], h2, fun i u hu => ?_⟩
        have := h4 i u hu
        rwa [Go.Proofs.YtmmelfnhhjfaeaaW.PrintWords.add_add, R.sz] at this
      · have hh := hw ((zs.length + (m - zs.length)) * B) (by
          simp only [DataW.weights, ht, hB]
          refine List.mem_cons.2 (.inl ?_)
          simp)
        refine Nat.le_trans (Nat.mul_le_mul_right _ ?_) hh
        omega
      · obtain ⟨j, hj, rfl⟩ := List.getElem_of_mem hzm
        exact (hz j _ (List.getElem?_eq_getElem hj)).1
end Go.Proofs.Ytmmelfnhhjfaeaa
namespace Go.Proofs.Ytmmelfnhhjfaeaa
open Go.RowKit Go.Proofs.YtmmelfnhhjfaeaaW.PrintWords
theorem len2 {α : Type} {l : List α} (h : l.length = 2) : ∃ a0 a1, l = [a0, a1] := by
  match l, h with
  | [a0, a1], _ => exact ⟨a0, a1, rfl⟩
theorem len3 {α : Type} {l : List α} (h : l.length = 3) : ∃ a0 a1 a2, l = [a0, a1, a2] := by
  match l, h with
  | [a0, a1, a2], _ => exact ⟨a0, a1, a2, rfl⟩
theorem len6 {α : Type} {l : List α} (h : l.length = 6) : ∃ a0 a1 a2 a3 a4 a5, l = [a0, a1, a2, a3, a4, a5] := by
  match l, h with
  | [a0, a1, a2, a3, a4, a5], _ => exact ⟨a0, a1, a2, a3, a4, a5, rfl⟩
def Tag.Bd (x : Tag) : Prop := BdT x.seq ∧ BdT x.who ∧ BdT x.op
theorem Tag.reads : Reads 28 Tag.k Tag.Bd where
  sz := by kernel_rfl
  get := by
    intro H enc w base spare held fuel cs x h hw
    obtain ⟨xs, n, rfl, hx, hl, hxl, hf⟩ := DataW.trod_struct Try.underlying28 h
    have hz : Try.prog.cellsOf 28 = 3 := by kernel_rfl
    rw [hz] at hl
    obtain ⟨c0, c1, c2, rfl⟩ := len3 hl
    have hxl' : xs.length = 3 := hxl
    obtain ⟨x0, x1, x2, rfl⟩ := len3 hxl'
    subst hx
    have f0 : DataW.trod enc Try.prog w base spare held n 3 (([c0, c1, c2].drop 0).take (Try.prog.cellsOf 3)) = some x0 := hf 0 _ rfl
    have g0 : DataW.trod enc Try.prog w base spare held n 3 [c0] = some x0 := by
      have hc : Try.prog.cellsOf 3 = 1 := by kernel_rfl
      rw [hc] at f0
      exact f0
    obtain ⟨a0, k0, b0⟩ := (Reads.int Try.underlying3 (by kernel_rfl)).get g0 (fun z hz => hw z (by simp only [DataW.weights, Try.underlying28]; simp only [DataW.weightsEach, List.map_cons, List.map_nil, List.mem_append]; exact .inl hz))
    have f1 : DataW.trod enc Try.prog w base spare held n 3 (([c0, c1, c2].drop 1).take (Try.prog.cellsOf 3)) = some x1 := hf 1 _ rfl
    have g1 : DataW.trod enc Try.prog w base spare held n 3 [c1] = some x1 := by
      have hc : Try.prog.cellsOf 3 = 1 := by kernel_rfl
      rw [hc] at f1
      exact f1
    obtain ⟨a1, k1, b1⟩ := (Reads.int Try.underlying3 (by kernel_rfl)).get g1 (fun z hz => hw z (by simp only [DataW.weights, Try.underlying28]; simp only [DataW.weightsEach, List.map_cons, List.map_nil, List.mem_append]; exact .inr (.inl hz)))
    have f2 : DataW.trod enc Try.prog w base spare held n 3 (([c0, c1, c2].drop 2).take (Try.prog.cellsOf 3)) = some x2 := hf 2 _ rfl
    have g2 : DataW.trod enc Try.prog w base spare held n 3 [c2] = some x2 := by
      have hc : Try.prog.cellsOf 3 = 1 := by kernel_rfl
      rw [hc] at f2
      exact f2
    obtain ⟨a2, k2, b2⟩ := (Reads.int Try.underlying3 (by kernel_rfl)).get g2 (fun z hz => hw z (by simp only [DataW.weights, Try.underlying28]; simp only [DataW.weightsEach, List.map_cons, List.map_nil, List.mem_append]; exact .inr (.inr (.inl hz))))
    exact ⟨⟨a0, a1, a2⟩, ⟨_, _, rfl, k0, ⟨_, _, rfl, k1, k2⟩⟩, ⟨b0, b1, b2⟩⟩

def Val.Bd (x : Val) : Prop := BdT x.has ∧ (BdS 1 BdT) x.b
theorem Val.reads : Reads 26 Val.k Val.Bd where
  sz := by kernel_rfl
  get := by
    intro H enc w base spare held fuel cs x h hw
    obtain ⟨xs, n, rfl, hx, hl, hxl, hf⟩ := DataW.trod_struct Try.underlying26 h
    have hz : Try.prog.cellsOf 26 = 2 := by kernel_rfl
    rw [hz] at hl
    obtain ⟨c0, c1, rfl⟩ := len2 hl
    have hxl' : xs.length = 2 := hxl
    obtain ⟨x0, x1, rfl⟩ := len2 hxl'
    subst hx
    have f0 : DataW.trod enc Try.prog w base spare held n 4 (([c0, c1].drop 0).take (Try.prog.cellsOf 4)) = some x0 := hf 0 _ rfl
    have g0 : DataW.trod enc Try.prog w base spare held n 4 [c0] = some x0 := by
      have hc : Try.prog.cellsOf 4 = 1 := by kernel_rfl
      rw [hc] at f0
      exact f0
    obtain ⟨a0, k0, b0⟩ := (Reads.bool Try.underlying4 (by kernel_rfl)).get g0 (fun z hz => hw z (by simp only [DataW.weights, Try.underlying26]; simp only [DataW.weightsEach, List.map_cons, List.map_nil, List.mem_append]; exact .inl hz))
    have f1 : DataW.trod enc Try.prog w base spare held n 24 (([c0, c1].drop 1).take (Try.prog.cellsOf 24)) = some x1 := hf 1 _ rfl
    have g1 : DataW.trod enc Try.prog w base spare held n 24 [c1] = some x1 := by
      have hc : Try.prog.cellsOf 24 = 1 := by kernel_rfl
      rw [hc] at f1
      exact f1
    obtain ⟨a1, k1, b1⟩ := (Reads.slice (B := 1) Try.underlying24 (by kernel_rfl) (by kernel_rfl) (Reads.u8 Try.underlying5 (by kernel_rfl))).get g1 (fun z hz => hw z (by simp only [DataW.weights, Try.underlying26]; simp only [DataW.weightsEach, List.map_cons, List.map_nil, List.mem_append]; exact .inr (.inl hz)))
    exact ⟨⟨a0, a1⟩, ⟨_, _, rfl, k0, k1⟩, ⟨b0, b1⟩⟩

def Entry.Bd (x : Entry) : Prop := BdT x.key ∧ Tag.Bd x.tag ∧ Val.Bd x.val
theorem Entry.reads : Reads 30 Entry.k Entry.Bd where
  sz := by kernel_rfl
  get := by
    intro H enc w base spare held fuel cs x h hw
    obtain ⟨xs, n, rfl, hx, hl, hxl, hf⟩ := DataW.trod_struct Try.underlying30 h
    have hz : Try.prog.cellsOf 30 = 6 := by kernel_rfl
    rw [hz] at hl
    obtain ⟨c0, c1, c2, c3, c4, c5, rfl⟩ := len6 hl
    have hxl' : xs.length = 3 := hxl
    obtain ⟨x0, x1, x2, rfl⟩ := len3 hxl'
    subst hx
    have f0 : DataW.trod enc Try.prog w base spare held n 9 (([c0, c1, c2, c3, c4, c5].drop 0).take (Try.prog.cellsOf 9)) = some x0 := hf 0 _ rfl
    have g0 : DataW.trod enc Try.prog w base spare held n 9 [c0] = some x0 := by
      have hc : Try.prog.cellsOf 9 = 1 := by kernel_rfl
      rw [hc] at f0
      exact f0
    obtain ⟨a0, k0, b0⟩ := (Reads.str Try.underlying9 (by kernel_rfl)).get g0 (fun z hz => hw z (by simp only [DataW.weights, Try.underlying30]; simp only [DataW.weightsEach, List.map_cons, List.map_nil, List.mem_append]; exact .inl hz))
    have f1 : DataW.trod enc Try.prog w base spare held n 28 (([c0, c1, c2, c3, c4, c5].drop 1).take (Try.prog.cellsOf 28)) = some x1 := hf 1 _ rfl
    have g1 : DataW.trod enc Try.prog w base spare held n 28 [c1, c2, c3] = some x1 := by
      have hc : Try.prog.cellsOf 28 = 3 := by kernel_rfl
      rw [hc] at f1
      exact f1
    obtain ⟨a1, k1, b1⟩ := Tag.reads.get g1 (fun z hz => hw z (by simp only [DataW.weights, Try.underlying30]; simp only [DataW.weightsEach, List.map_cons, List.map_nil, List.mem_append]; exact .inr (.inl hz)))
    have f2 : DataW.trod enc Try.prog w base spare held n 26 (([c0, c1, c2, c3, c4, c5].drop 4).take (Try.prog.cellsOf 26)) = some x2 := hf 2 _ rfl
    have g2 : DataW.trod enc Try.prog w base spare held n 26 [c4, c5] = some x2 := by
      have hc : Try.prog.cellsOf 26 = 2 := by kernel_rfl
      rw [hc] at f2
      exact f2
    obtain ⟨a2, k2, b2⟩ := Val.reads.get g2 (fun z hz => hw z (by simp only [DataW.weights, Try.underlying30]; simp only [DataW.weightsEach, List.map_cons, List.map_nil, List.mem_append]; exact .inr (.inr (.inl hz))))
    exact ⟨⟨a0, a1, a2⟩, ⟨_, _, rfl, k0, ⟨_, _, rfl, k1, k2⟩⟩, ⟨b0, b1, b2⟩⟩

end Go.Proofs.Ytmmelfnhhjfaeaa
