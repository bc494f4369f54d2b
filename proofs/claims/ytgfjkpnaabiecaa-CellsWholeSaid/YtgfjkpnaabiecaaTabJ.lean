/- Layer cells: New, Size, walked. -/
import Derived.Test.YtgfjkpnaabiecaaTabG
import Derived.Deep.DeepCutAuto
import Derived.Deep.LoopGhost
set_option linter.unusedVariables false
set_option linter.unusedSimpArgs false
namespace Go.Proofs.Ytgfjkpnaabiecaa
open Go.RowKit Go.Proofs.YtgfjkpnaabiecaaW.PrintWords
namespace Tab
def RoomOk (r : Room) : Prop := 1 ≤ r.cells ∧ r.cells ≤ 4096 ∧ 1 ≤ r.bytes ∧ r.bytes ≤ 4194304 ∧ 1 ≤ r.buckets ∧ r.buckets ≤ 256
instance (r : Room) : Decidable (RoomOk r) := by unfold RoomOk; infer_instance
def newT (r : Room) : Tb := ⟨r, [], List.replicate r.buckets.toNat (if r.fresh then 0 else 1), 0⟩
def NewTold (w : World) (r : Room) (e : Ending) (w' : World) : Prop :=
  if RoomOk r then ∃ p mb tb, e = .returned (.tuple #[.pointer (some ⟨p, 0, none⟩), .int .i64 0]) ∧ TbR w' p mb tb (newT r) ∧ w.heap.size ≤ p ∧ w.heap.size ≤ mb ∧ w.heap.size ≤ tb ∧ Below w.heap.size w w'
  else e = .returned (.tuple #[.pointer none, .int .i64 2]) ∧ Below w.heap.size w w'
set_option maxRecDepth 100000 in
set_option maxHeartbeats 1000000 in
theorem new_bad (r : Room) (w : World) (h : ¬ RoomOk r) : Calls Try.prog 10 #[.agg #[.int .i64 r.cells, .int .i64 r.bytes, .int .i64 r.buckets, .bool r.fresh]] w (NewTold w r) := by
  have HH := Aside0.mk h
  have fin : ∀ w', Below w.heap.size w w' → NewTold w r (.returned (.tuple #[.pointer none, .int .i64 2])) w' := fun w' hb => by unfold NewTold; rw [if_neg HH.out]; exact ⟨rfl, hb⟩
  have FIN := Aside0.mk fin
  have hor : r.cells < 1 ∨ (1 ≤ r.cells ∧ 4096 < r.cells) ∨ (1 ≤ r.cells ∧ r.cells ≤ 4096 ∧ r.bytes < 1) ∨ (1 ≤ r.cells ∧ r.cells ≤ 4096 ∧ 1 ≤ r.bytes ∧ 4194304 < r.bytes) ∨ (1 ≤ r.cells ∧ r.cells ≤ 4096 ∧ 1 ≤ r.bytes ∧ r.bytes ≤ 4194304 ∧ r.buckets < 1) ∨ (1 ≤ r.cells ∧ r.cells ≤ 4096 ∧ 1 ≤ r.bytes ∧ r.bytes ≤ 4194304 ∧ 1 ≤ r.buckets ∧ 256 < r.buckets) := by
    unfold RoomOk at h; omega
  obtain ⟨a, b, c, d⟩ := r
  dsimp only at *
  clear h fin
  rcases hor with h | ⟨h1, h⟩ | ⟨h1, h2, h⟩ | ⟨h1, h2, h3, h⟩ | ⟨h1, h2, h3, h4, h⟩ | ⟨h1, h2, h3, h4, h5, h⟩ <;>
  · go_enter Try.func10, Try.ntmps10
    go_wp2
    go_ret2
    exact FIN.out _ (below_alloc (Below.refl _ _) _)
set_option maxRecDepth 100000 in
set_option maxHeartbeats 1000000 in
theorem size_calls (p mb tb : Nat) (T : Tb) (w : World) (h : TbR w p mb tb T) (hl : T.l.length ≤ 1000000) :
    Calls Try.prog 24 #[.pointer (some ⟨p, 0, none⟩)] w fun e w' => e = .returned (.tuple #[.int .i64 (T.l.length : Int), .int .i64 ((szs T.l : Nat) : Int)]) ∧ Below w.heap.size w w' := by
  have HT := Aside0.mk h
  obtain ⟨cap, hcap, hB⟩ := h.blk
  have hpl := h.lt.1
  have hml := h.lt.2.1
  have p4 := hB.cell 4 rfl
  have p7 := hB.cell 7 rfl
  obtain ⟨n0, hn0⟩ : ∃ n, n = szs T.l := ⟨_, rfl⟩
  obtain ⟨m0, hm0⟩ : ∃ n, n = T.l.length := ⟨_, rfl⟩
  rw [← hn0] at p7
  have hlen := fun w' (hb : Below w.heap.size w w') => h.map.len 3 w' (hb.block mb hml)
  rw [← hm0] at hlen
  have r4 : ∀ w', Below w.heap.size w w' → w'.cell? ⟨p, 4, none⟩ = some (.map (some mb)) := fun w' h => pw_cell_below h p4
  have r7 : ∀ w', Below w.heap.size w w' → w'.cell? ⟨p, 7, none⟩ = some (.int .i64 (n0 : Int)) := fun w' h => pw_cell_below h p7
  have HN := Aside0.mk (And.intro hn0 hm0)
  clear hB h hl hn0 hm0
  rw [← HN.out.1, ← HN.out.2]
  go_enter Try.func24, Try.ntmps24
  go_wp2
  refine wp_region_noPanic ?_
  refine wp_region_held_drew (S := Below w.heap.size w) (by kernel_rfl) (below_drew (Below.refl _ _)) (fun hHeld => ?_)
  (refine takeH 0 6 (v := ?_) rfl rfl (by kernel_rfl) (by kernel_rfl) (by kernel_rfl) (fun _ _ _ h => h) hHeld rfl ?_ ?_; rotate_left; (focus (intro w' hSw; go_simp; try with_reducible rfl)))
  (try simp only [Act.put, List.setIfInBounds_toArray, List.set_cons_zero, List.set_cons_succ])
  (refine takeH 1 7 (v := ?_) rfl rfl (by kernel_rfl) (by kernel_rfl) (by kernel_rfl) (fun _ _ _ h => h) hHeld rfl ?_ ?_; rotate_left; (focus (intro w' hSw; go_simp; try with_reducible rfl)))
  (try simp only [Act.put, List.setIfInBounds_toArray, List.set_cons_zero, List.set_cons_succ])
  (refine takeH 2 8 (v := ?_) rfl rfl (by kernel_rfl) (by kernel_rfl) (by kernel_rfl) (fun _ _ _ h => h) hHeld rfl ?_ ?_; rotate_left; (focus (intro w' hSw; go_simp; try with_reducible rfl)))
  (try simp only [Act.put, List.setIfInBounds_toArray, List.set_cons_zero, List.set_cons_succ])
  (refine takeH 3 9 (v := ?_) rfl rfl (by kernel_rfl) (by kernel_rfl) (by kernel_rfl) (fun _ _ _ h => h) hHeld rfl ?_ ?_; rotate_left; (focus (intro w' hSw; go_simp; try with_reducible rfl)))
  (try simp only [Act.put, List.setIfInBounds_toArray, List.set_cons_zero, List.set_cons_succ])
  (refine takeH 4 10 (v := ?_) rfl rfl (by kernel_rfl) (by kernel_rfl) (by kernel_rfl) (fun _ _ _ h => h) hHeld rfl ?_ ?_; rotate_left; (focus (intro w' hSw; go_simp; try with_reducible rfl)))
  (try simp only [Act.put, List.setIfInBounds_toArray, List.set_cons_zero, List.set_cons_succ])
  (refine takeH 5 11 (v := ?_) rfl rfl (by kernel_rfl) (by kernel_rfl) (by kernel_rfl) (fun _ _ _ h => h) hHeld rfl ?_ ?_; rotate_left; (focus (intro w' hSw; go_simp; try with_reducible rfl)))
  (try simp only [Act.put, List.setIfInBounds_toArray, List.set_cons_zero, List.set_cons_succ])
  (refine takeH 6 12 (v := ?_) rfl rfl (by kernel_rfl) (by kernel_rfl) (by kernel_rfl) (fun _ _ _ h => h) hHeld rfl ?_ ?_; rotate_left; (focus (intro w' hSw; go_simp; try with_reducible rfl)))
  (try simp only [Act.put, List.setIfInBounds_toArray, List.set_cons_zero, List.set_cons_succ])
  (refine takeH 7 13 (v := ?_) rfl rfl (by kernel_rfl) (by kernel_rfl) (by kernel_rfl) (fun _ _ _ h => h) hHeld rfl ?_ ?_; rotate_left; (focus (intro w' hSw; go_simp; try with_reducible rfl)))
  (try simp only [Act.put, List.setIfInBounds_toArray, List.set_cons_zero, List.set_cons_succ])
  (refine takeH 8 14 (v := ?_) rfl rfl (by kernel_rfl) (by kernel_rfl) (by kernel_rfl) (fun _ _ _ h => h) hHeld rfl ?_ ?_; rotate_left; (focus (intro w' hSw; go_simp; try with_reducible rfl)))
  (try simp only [Act.put, List.setIfInBounds_toArray, List.set_cons_zero, List.set_cons_succ])
  (refine takeH 9 2 (v := ?_) rfl rfl (by kernel_rfl) (by kernel_rfl) (by kernel_rfl) (fun _ _ _ h => h) hHeld rfl ?_ ?_; rotate_left; (focus (intro w' hSw; go_simp; try with_reducible rfl)))
  (try simp only [Act.put, List.setIfInBounds_toArray, List.set_cons_zero, List.set_cons_succ])
  (refine takeH 10 3 (v := ?_) rfl rfl (by kernel_rfl) (by kernel_rfl) (by kernel_rfl) (fun _ _ _ h => h) hHeld rfl ?_ ?_; rotate_left; (focus (intro w' hSw; go_simp; try with_reducible rfl)))
  (try simp only [Act.put, List.setIfInBounds_toArray, List.set_cons_zero, List.set_cons_succ])
  refine wpAnyH_done (by kernel_rfl) ?_ _
  refine NoPanic.normal ?_
  go_wp2
  go_ret2
  exact ⟨rfl, below_drew (Below.refl _ _)⟩
theorem infoI : (Try.prog.info? 3).map (fun i => (i.zero, i.size, i.bytes)) = some (some (.int .i64 0), 1, 8) := by kernel_rfl
/-- What New has made ahead of its loop. -/
def Made (W : World) (r : Room) (p mb tb : Nat) (xs : List Int) (w' : World) : Prop := TbR w' p mb tb ⟨r, [], xs, 0⟩ ∧ W.heap.size ≤ p ∧ W.heap.size ≤ mb ∧ W.heap.size ≤ tb ∧ Below W.heap.size W w'
theorem Made.mk_ {W w' : World} {ra rb : Int} {nb : Nat} {rd : Bool} {p mb tb : Nat} (hm : MapL w' 9 mb []) (ht : Blk w' tb (List.replicate nb (.int .i64 0))) (hty : Ty w' 3 tb)
    (hp : Blk w' p [.int .i64 ra, .int .i64 rb, .int .i64 (nb : Int), .bool rd, .map (some mb), .slice (some ⟨tb, 0, none⟩) nb nb, .int .i64 0, .int .i64 0]) (hpt : Ty w' 83 p)
    (h1 : W.heap.size ≤ p) (h2 : W.heap.size ≤ mb) (h3 : W.heap.size ≤ tb) (hb : Below W.heap.size W w') : Made W ⟨ra, rb, nb, rd⟩ p mb tb (List.replicate nb 0) w' := by
  refine ⟨⟨⟨nb, by simp, ?_⟩, hpt, ?_, hty, ⟨fun _ => (.map none, .map none), hm, by simp⟩, List.Pairwise.nil⟩, h1, h2, h3, hb⟩
  · simpa [szs] using hp
  · simpa using ht
def oneK (nb k : Nat) : List Value := (List.replicate k (1 : Int) ++ List.replicate (nb - k) 0).map (.int .i64)
theorem oneK_at {nb k : Nat} (h : k < nb) : (oneK nb k)[k]? = some (.int .i64 0) := by
  unfold oneK
  rw [List.getElem?_map, List.getElem?_append_right (by simp)]
  simp only [List.length_replicate, Nat.sub_self]
  rw [List.getElem?_replicate, if_pos (by omega)]
  rfl
theorem oneK_set {nb k : Nat} (h : k < nb) : (oneK nb k).set k (.int .i64 1) = oneK nb (k + 1) := by
  unfold oneK
  rw [← List.map_set, List.set_append_right _ _ (by simp)]
  simp only [List.length_replicate, Nat.sub_self]
  rw [show nb - k = (nb - (k + 1)) + 1 by omega, List.replicate_succ, List.set_cons_zero, List.replicate_succ', List.append_assoc]
  rfl
theorem ty_new {W : World} {cs : Array Value} {t : TypeId} {k : Nat} (h : k = W.heap.size) : Ty (W.alloc (.cells cs t)) t k := by subst h; exact Ty.new _ _ _ _
theorem ty_alloc {W : World} {t : TypeId} {k : Nat} (h : Ty W t k) (o : Obj) : Ty (W.alloc o) t k := h.below (below_alloc (Below.refl _ _) o)
theorem map_new {W : World} {k : Nat} (h : k = W.heap.size) : MapL (W.alloc (.map #[] 0)) 9 k [] := by subst h; exact MapL.made _ _
theorem map_alloc {W : World} {k : Nat} (h : MapL W 9 k []) (o : Obj) : MapL (W.alloc o) 9 k [] := h.only (Only.of_below [] (below_alloc (Below.refl _ _) o)) (by simp)
theorem made1 (W : World) (ra rb : Int) (nb : Nat) (rd : Bool) : Made W ⟨ra, rb, nb, rd⟩ (W.heap.size + 1 + 1) W.heap.size (W.heap.size + 1) (List.replicate nb 0)
    (((W.drew.alloc (.map #[] 0)).alloc (.cells (madeCells #[.int .i64 0] nb) 3)).alloc (.cells #[.int .i64 ra, .int .i64 rb, .int .i64 (nb : Int), .bool rd, .map (some W.heap.size), .slice (some ⟨W.heap.size + 1, 0, none⟩) nb nb, .int .i64 0, .int .i64 0] 83)) := by
  have e0 : W.drew.heap.size = W.heap.size := rfl
  refine Made.mk_ (map_alloc (map_alloc (map_new rfl) _) _) ((Blk.new_ _ _ _ (by simp [e0]) (toList_madeCells_one _ _)).alloc _) (ty_alloc (ty_new (by simp [e0])) _) (Blk.new_ _ _ _ (by simp [e0]) rfl) (ty_new (by simp [e0])) (by omega) (Nat.le_refl _) (by omega) (below_alloc (below_alloc (below_alloc (below_drew (Below.refl _ _)) _) _) _)
theorem made2 (W : World) (ra rb : Int) (nb : Nat) (rd : Bool) : Made W ⟨ra, rb, nb, rd⟩ (W.heap.size + 1 + 1) (W.heap.size + 1) W.heap.size (List.replicate nb 0)
    (((W.drew.alloc (.cells (madeCells #[.int .i64 0] nb) 3)).alloc (.map #[] 0)).alloc (.cells #[.int .i64 ra, .int .i64 rb, .int .i64 (nb : Int), .bool rd, .map (some (W.heap.size + 1)), .slice (some ⟨W.heap.size, 0, none⟩) nb nb, .int .i64 0, .int .i64 0] 83)) := by
  have e0 : W.drew.heap.size = W.heap.size := rfl
  refine Made.mk_ (map_alloc (map_new (by simp [e0])) _) (((Blk.new_ _ _ _ (by simp [e0]) (toList_madeCells_one _ _)).alloc _).alloc _) (ty_alloc (ty_alloc (ty_new (by simp [e0])) _) _) (Blk.new_ _ _ _ (by simp [e0]) rfl) (ty_new (by simp [e0])) (by omega) (by omega) (Nat.le_refl _) (below_alloc (below_alloc (below_alloc (below_drew (Below.refl _ _)) _) _) _)
set_option maxRecDepth 100000 in
set_option maxHeartbeats 1000000 in
theorem new_good (r : Room) (w : World) (h : RoomOk r) : Calls Try.prog 10 #[.agg #[.int .i64 r.cells, .int .i64 r.bytes, .int .i64 r.buckets, .bool r.fresh]] w (NewTold w r) := by
  have HH := Aside0.mk h
  obtain ⟨ra, rb, rc, rd⟩ := r
  obtain ⟨h1, h2, h3, h4, h5, h6⟩ := h
  dsimp only at *
  obtain ⟨nb, hnb⟩ : ∃ n : Nat, rc = (n : Int) := ⟨_, (Int.toNat_of_nonneg (by omega)).symm⟩
  subst hnb
  have hmm : ∀ W : World, (Instr.makeMap 81 none).run Try.prog W = .ok (.map (some W.heap.size)) (W.alloc (.map #[] 0)) := fun W => run_makeMap _ W
  have hms : ∀ W : World, (Instr.makeSlice 64 (.int .i64 (nb : Int)) (.int .i64 (nb : Int))).run Try.prog W = .ok (.slice (some ⟨W.heap.size, 0, none⟩) nb nb) (W.alloc (.cells (madeCells #[.int .i64 0] nb) 3)) :=
    fun W => run_make_row' 64 3 (.int .i64 0) 8 Try.underlying64 infoI rfl .i64 .i64 nb (by omega) (by omega) W
  go_enter Try.func10, Try.ntmps10
  go_upto_region 3 with (fail)
  obtain ⟨W0, hW0⟩ : ∃ W0 : World, W0 = w.alloc (.cells #[.int .i64 ra, .int .i64 rb, .int .i64 (nb : Int), .bool rd] 23) := ⟨_, rfl⟩
  rw [← hW0]
  have HX0 : Aside0 (Blk W0 w.heap.size [.int .i64 ra, .int .i64 rb, .int .i64 (nb : Int), .bool rd] ∧ Below w.heap.size w W0) := ⟨by rw [hW0]; exact ⟨Blk.new_ _ _ _ rfl rfl, below_alloc (Below.refl _ _) _⟩⟩
  clear hW0
  go_cut [4] (fun v4 wx => ∃ p mb tb, v4 = .pointer (some ⟨p, 0, none⟩) ∧ Aside0 (Made W0 ⟨ra, rb, (nb : Int), rd⟩ p mb tb (List.replicate nb 0) wx))
  case first =>
    have x0 := HX0.out.1.cell 0 rfl
    have x1 := HX0.out.1.cell 1 rfl
    have x2 := HX0.out.1.cell 2 rfl
    have x3 := HX0.out.1.cell 3 rfl
    have r0 : ∀ w', Below W0.heap.size W0 w' → w'.cell? ⟨w.heap.size, 0, none⟩ = some (.int .i64 ra) := fun w' h => pw_cell_below h x0
    have r1 : ∀ w', Below W0.heap.size W0 w' → w'.cell? ⟨w.heap.size, 1, none⟩ = some (.int .i64 rb) := fun w' h => pw_cell_below h x1
    have r2 : ∀ w', Below W0.heap.size W0 w' → w'.cell? ⟨w.heap.size, 2, none⟩ = some (.int .i64 (nb : Int)) := fun w' h => pw_cell_below h x2
    have r3 : ∀ w', Below W0.heap.size W0 w' → w'.cell? ⟨w.heap.size, 3, none⟩ = some (.bool rd) := fun w' h => pw_cell_below h x3
    refine wp_region_noPanic ?_
    refine wp_region_held_drew (S := Below W0.heap.size W0) (by kernel_rfl) (below_drew (Below.refl _ _)) (fun hHeld => ?_)
    (refine takeH 0 34 (v := ?_) rfl rfl (by kernel_rfl) (by kernel_rfl) (by kernel_rfl) (fun _ _ _ h => h) hHeld rfl ?_ ?_; rotate_left; (focus (intro w' hSw; go_simp; try with_reducible rfl)))
    (try simp only [Act.put, List.setIfInBounds_toArray, List.set_cons_zero, List.set_cons_succ])
    (refine takeH 2 36 (v := ?_) rfl rfl (by kernel_rfl) (by kernel_rfl) (by kernel_rfl) (fun _ _ _ h => h) hHeld rfl ?_ ?_; rotate_left; (focus (intro w' hSw; go_simp; try with_reducible rfl)))
    (try simp only [Act.put, List.setIfInBounds_toArray, List.set_cons_zero, List.set_cons_succ])
    (refine takeH 3 37 (v := ?_) rfl rfl (by kernel_rfl) (by kernel_rfl) (by kernel_rfl) (fun _ _ _ h => h) hHeld rfl ?_ ?_; rotate_left; (focus (intro w' hSw; go_simp; try with_reducible rfl)))
    (try simp only [Act.put, List.setIfInBounds_toArray, List.set_cons_zero, List.set_cons_succ])
    refine wpAnyH_ready (rs := [1, 4]) (by kernel_rfl) (by simp) ?_
    refine AllReadyH.cons rfl (fun K hK => ?_) (AllReadyH.cons rfl (fun K hK => ?_) AllReadyH.nil)
    · go_simp
      refine hK.out _ _ (below_alloc (below_drew (Below.refl _ _)) _) (fun hHeld => ?_)
      clear hK K
      (try simp only [Act.put, List.setIfInBounds_toArray, List.set_cons_zero, List.set_cons_succ])
      refine wpAnyH_ready (rs := [4]) (by kernel_rfl) (by simp) ?_
      refine AllReadyH.cons rfl (fun K hK => ?_) AllReadyH.nil
      go_simp
      refine hK.out _ _ (below_alloc (below_alloc (below_drew (Below.refl _ _)) _) _) (fun hHeld => ?_)
      clear hK K
      (try simp only [Act.put, List.setIfInBounds_toArray, List.set_cons_zero, List.set_cons_succ])
      (refine takeH 5 39 (v := ?_) rfl rfl (by kernel_rfl) (by kernel_rfl) (by kernel_rfl) (fun _ _ _ h => h) hHeld rfl ?_ ?_; rotate_left; (focus (intro w' hSw; go_simp; try with_reducible rfl)))
      (try simp only [Act.put, List.setIfInBounds_toArray, List.set_cons_zero, List.set_cons_succ])
      refine wpAnyH_ready (rs := [6]) (by kernel_rfl) (by simp) ?_
      refine AllReadyH.cons rfl (fun K hK => ?_) AllReadyH.nil
      go_simp
      refine hK.out _ _ (below_alloc (below_alloc (below_alloc (below_drew (Below.refl _ _)) _) _) _) (fun hHeld => ?_)
      clear hK K
      (try simp only [Act.put, List.setIfInBounds_toArray, List.set_cons_zero, List.set_cons_succ])
      (refine takeH 7 4 (v := ?_) rfl rfl (by kernel_rfl) (by kernel_rfl) (by kernel_rfl) (fun _ _ _ h => h) hHeld rfl ?_ ?_; rotate_left; (focus (intro w' hSw; go_simp; try with_reducible rfl)))
      (try simp only [Act.put, List.setIfInBounds_toArray, List.set_cons_zero, List.set_cons_succ])
      refine wpAnyH_done (by kernel_rfl) ?_ _
      refine NoPanic.normal ?_
      go_wp2
      go_meet
      exact ⟨_, _, _, rfl, ⟨made1 W0 ra rb nb rd⟩⟩
    · go_simp
      refine hK.out _ _ (below_alloc (below_drew (Below.refl _ _)) _) (fun hHeld => ?_)
      clear hK K
      (try simp only [Act.put, List.setIfInBounds_toArray, List.set_cons_zero, List.set_cons_succ])
      refine wpAnyH_ready (rs := [1]) (by kernel_rfl) (by simp) ?_
      refine AllReadyH.cons rfl (fun K hK => ?_) AllReadyH.nil
      go_simp
      refine hK.out _ _ (below_alloc (below_alloc (below_drew (Below.refl _ _)) _) _) (fun hHeld => ?_)
      clear hK K
      (try simp only [Act.put, List.setIfInBounds_toArray, List.set_cons_zero, List.set_cons_succ])
      (refine takeH 5 39 (v := ?_) rfl rfl (by kernel_rfl) (by kernel_rfl) (by kernel_rfl) (fun _ _ _ h => h) hHeld rfl ?_ ?_; rotate_left; (focus (intro w' hSw; go_simp; try with_reducible rfl)))
      (try simp only [Act.put, List.setIfInBounds_toArray, List.set_cons_zero, List.set_cons_succ])
      refine wpAnyH_ready (rs := [6]) (by kernel_rfl) (by simp) ?_
      refine AllReadyH.cons rfl (fun K hK => ?_) AllReadyH.nil
      go_simp
      refine hK.out _ _ (below_alloc (below_alloc (below_alloc (below_drew (Below.refl _ _)) _) _) _) (fun hHeld => ?_)
      clear hK K
      (try simp only [Act.put, List.setIfInBounds_toArray, List.set_cons_zero, List.set_cons_succ])
      (refine takeH 7 4 (v := ?_) rfl rfl (by kernel_rfl) (by kernel_rfl) (by kernel_rfl) (fun _ _ _ h => h) hHeld rfl ?_ ?_; rotate_left; (focus (intro w' hSw; go_simp; try with_reducible rfl)))
      (try simp only [Act.put, List.setIfInBounds_toArray, List.set_cons_zero, List.set_cons_succ])
      refine wpAnyH_done (by kernel_rfl) ?_ _
      refine NoPanic.normal ?_
      go_wp2
      go_meet
      exact ⟨_, _, _, rfl, ⟨made2 W0 ra rb nb rd⟩⟩
  case rest =>
    obtain ⟨p, mb, tb, rfl, HM⟩ := hcut
    obtain ⟨w4, rfl⟩ : ∃ w4, w4 = wc := ⟨_, rfl⟩
    have hb4 := HM.out.2.2.2.2
    have y3 := pw_cell_below hb4 (HX0.out.1.cell 3 rfl)
    have hpl := HM.out.1.lt.1
    obtain ⟨cap, hcap, hB⟩ := HM.out.1.blk
    have y5 := hB.cell 5 rfl
    simp only [List.length_replicate] at y5
    clear hb4 hB
    have FIN : Aside0 (∀ w', TbR w' p mb tb (newT ⟨ra, rb, (nb : Int), rd⟩) → Below w4.heap.size w4 w' ∨ Only [tb] w4 w' → NewTold w ⟨ra, rb, (nb : Int), rd⟩ (.returned (.tuple #[.pointer (some ⟨p, 0, none⟩), .int .i64 0])) w') := ⟨fun w' hT hb => by
      unfold NewTold
      rw [if_pos HH.out]
      obtain ⟨_, g1, g2, g3, g4⟩ := HM.out
      have g0 := HX0.out.2.size
      have hw4 : Below w.heap.size w w4 := Below.then_ HX0.out.2 g4 (Nat.le_refl _)
      refine ⟨p, mb, tb, rfl, hT, by omega, by omega, by omega, ?_⟩
      rcases hb with hb | hb
      · exact Below.then_ hw4 hb (Nat.le_refl _)
      · exact ((Only.of_below [tb] hw4).trans hb).below (by simp; omega) (Nat.le_refl _)⟩
    cases rd with
    | true =>
      go_wp2
      go_ret2
      exact FIN.out _ HM.out.1 (.inl (Below.refl _ _))
    | false =>
      go_wp2
      go_loopg [5, 49] nb (fun gk _ v49 wr => ∃ k : Nat, v49 = .int .i64 (k : Int) ∧ k ≤ nb ∧ Aside0 (gk + k = nb) ∧ Aside0 (Blk wr tb (oneK nb k) ∧ Ty wr 3 tb) ∧ Aside0 (Only [tb] w4 wr))
      case atStart => exact ⟨0, rfl, Nat.zero_le _, ⟨rfl⟩, ⟨by have := HM.out.1.tok; simpa [oneK] using this, HM.out.1.tty⟩, ⟨Only.refl _ _⟩⟩
      case round =>
        obtain ⟨k, rfl, hkl, HGK, HBK, HOW⟩ := hrel
        have r5 := (HOW.out.cell (p := ⟨p, 5, none⟩) hpl (by simp; exact HM.out.1.ne.2.1)).trans y5
        by_cases hlt : k < nb
        · have hc := HBK.out.1.cell k (oneK_at hlt)
          have hf := HBK.out.1.frozen k (oneK_at hlt)
          go_wp2
          go_roundg (nb - (k + 1))
          case measure => have := HGK.out; omega
          case rel => exact ⟨k + 1, by go_num, by omega, ⟨by omega⟩, ⟨by rw [← oneK_set hlt]; exact HBK.out.1.set k (.int .i64 1), HBK.out.2.set _ _⟩, ⟨HOW.out.set (p := ⟨tb, k, none⟩) _ (.inl (by simp))⟩⟩
        · obtain rfl : k = nb := by omega
          go_wp2
          go_ret2
          refine FIN.out _ ?_ (.inr HOW.out)
          obtain ⟨n1, n2, n3⟩ := HM.out.1.ne
          obtain ⟨cap', hcap', hB'⟩ := HM.out.1.blk
          refine ⟨⟨cap', by simpa [newT] using hcap', ?_⟩, HM.out.1.pty.only HOW.out (by simp; exact n2), ?_, HBK.out.2, HM.out.1.map.only HOW.out (by simp; exact n3) (by simp; exact HM.out.1.tty.ne (by decide)), List.Pairwise.nil⟩
          · have hB2 := hB'.only HOW.out (by simp; exact n2)
            simpa [newT] using hB2
          · have := HBK.out.1
            simpa [newT, oneK] using this
theorem new_calls (r : Room) (w : World) : Calls Try.prog 10 #[.agg #[.int .i64 r.cells, .int .i64 r.bytes, .int .i64 r.buckets, .bool r.fresh]] w (NewTold w r) := by
  by_cases h : RoomOk r
  · exact new_good r w h
  · exact new_bad r w h
end Tab
end Go.Proofs.Ytgfjkpnaabiecaa
