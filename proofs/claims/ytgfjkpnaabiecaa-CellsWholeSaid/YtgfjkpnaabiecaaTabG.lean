/- Layer cells: Query, walked. -/
import Derived.Test.YtgfjkpnaabiecaaTabF
set_option linter.unusedVariables false
set_option linter.unusedSimpArgs false
namespace Go.Proofs.Ytgfjkpnaabiecaa
open Go.RowKit Go.Proofs.YtgfjkpnaabiecaaW.PrintWords
namespace Tab
open Tags
def KeyOk (k : ByteArray) : Prop := 1 ≤ k.size ∧ k.size ≤ 250
instance (k : ByteArray) : Decidable (KeyOk k) := by unfold KeyOk; infer_instance
def queryT (T : Tb) (k : ByteArray) : Tb := if KeyOk k then match find T.l k with
  | some c => lay T c
  | none => T else T
def queryR (T : Tb) (k : ByteArray) : Reply := if KeyOk k then match find T.l k with
  | some c => ⟨c.e, c.whole, tokAt T k⟩
  | none => ⟨⟨k, Tag.z, Val.z⟩, tokAt T k == 0, tokAt T k⟩ else Reply.z
def queryE (k : ByteArray) : Int := if KeyOk k then 0 else 2
def QueryTold (w : World) (p mb tb : Nat) (T : Tb) (k : ByteArray) (e : Ending) (w' : World) : Prop :=
  ∃ cs, e = .returned (.tuple #[.agg cs, .int .i64 (queryE k)]) ∧ BK Reply.k w' (queryR T k) cs.toList ∧ TbR w' p mb tb (queryT T k) ∧ Only [p, mb, tb] w w'
theorem bk_reply {w : World} {e : Entry} {A : Option Addr} {c : Nat} {x : Bool} {u : Int} (h : BK Entry.k w e [.string e.key, .int .i64 e.tag.seq, .int .i64 e.tag.who, .int .i64 e.tag.op, .bool e.val.has, .slice A e.val.b.length c]) (hu : InR .i64 u) :
    BK Reply.k w ⟨e, x, u⟩ [.string e.key, .int .i64 e.tag.seq, .int .i64 e.tag.who, .int .i64 e.tag.op, .bool e.val.has, .slice A e.val.b.length c, .bool x, .int .i64 u] := by
  refine Foot.imp h (fun W' hK => ?_)
  obtain ⟨A5, c5, he, s0, r1, r2, r3, l5, g5⟩ := Entry.open_ hK
  simp only [List.cons.injEq, Value.slice.injEq, true_and, and_true] at he
  obtain ⟨rfl, rfl⟩ := he
  exact Reply.mk_ W' ⟨e, x, u⟩ s0 r1 r2 r3 l5 g5 hu
theorem izr : InR .i64 0 := InR.mk64 (by decide) (by decide)
theorem bk_entz (w : World) (k : ByteArray) (hk : k.size ≤ 140737488351232) : BK Entry.k w ⟨k, Tag.z, Val.z⟩ [.string k, .int .i64 0, .int .i64 0, .int .i64 0, .bool false, .slice none 0 0] :=
  fun W' _ => Entry.mk_ W' ⟨k, Tag.z, Val.z⟩ hk izr izr izr (Nat.le_refl _) (Kd.C_nil _ _)
theorem bk_repz (w : World) : BK Reply.k w Reply.z [.string ByteArray.empty, .int .i64 0, .int .i64 0, .int .i64 0, .bool false, .slice none 0 0, .bool false, .int .i64 0] :=
  fun W' _ => Reply.mk_ W' Reply.z (by decide) izr izr izr (Nat.le_refl _) (Kd.C_nil _ _) izr
theorem bk_ce {w : World} {c : Cell} {A : Option Addr} {cp : Nat} (h : BK Cell.k w c (ccs c A cp)) : BK Entry.k w c.e [.string c.e.key, .int .i64 c.e.tag.seq, .int .i64 c.e.tag.who, .int .i64 c.e.tag.op, .bool c.e.val.has, .slice A c.e.val.b.length cp] := by
  refine Foot.imp h (fun W' hK => ?_)
  obtain ⟨A5, c5, he, s0, r1, r2, r3, l5, g5, r8⟩ := Cell.open_ hK
  simp only [ccs, List.cons.injEq, Value.slice.injEq, true_and, and_true] at he
  obtain ⟨rfl, rfl⟩ := he
  exact Entry.mk_ W' c.e s0 r1 r2 r3 l5 g5
set_option maxRecDepth 100000 in
set_option maxHeartbeats 1000000 in
theorem query_calls (p mb tb : Nat) (T : Tb) (k : ByteArray) (n : Int) (w : World) (h : TbR w p mb tb T) (hN : Num T n) (hn : n ≤ 2000000000000000000) (hk : k.size ≤ 140737488351232) :
    Calls Try.prog 21 #[.pointer (some ⟨p, 0, none⟩), .string k] w (QueryTold w p mb tb T k) := by
  have HT := Aside0.mk h
  have HN := Aside0.mk hN
  obtain ⟨cap, hcap, hB⟩ := h.blk
  have hpl := h.lt.1
  have hml := h.lt.2.1
  have htl := h.lt.2.2
  have hzn : k.size = 0 ↔ k = ByteArray.empty := (size_zero k).symm
  by_cases hok : KeyOk k
  · have p2 := hB.cell 2 rfl
    have p4 := hB.cell 4 rfl
    have p5 := hB.cell 5 rfl
    obtain ⟨o, Ao, co, hoe, hbo, hlk⟩ := h.map.look_or k hk
    obtain ⟨hasB, hhas⟩ : ∃ b, b = (find T.l k).isSome := ⟨_, rfl⟩
    have rl : ∀ w', Below w.heap.size w w' → (Instr.lookup 81 (.map (some mb)) (.string k) true).run Try.prog w' = .ok (.tuple #[.agg #[.string o.e.key, .int .i64 o.e.tag.seq, .int .i64 o.e.tag.who, .int .i64 o.e.tag.op, .bool o.e.val.has, .slice Ao o.e.val.b.length co, .bool o.whole, .bool o.clean, .int .i64 o.used], .bool hasB]) w' := fun w' h => by
      have := hlk true w' (h.block mb hml)
      rw [← hhas] at this
      exact this
    have HO := Aside0.mk (And.intro hoe (And.intro hbo hhas))
    clear hlk hoe hbo hhas
    obtain ⟨b0, b1⟩ := Hash.bkt_bd k HN.out.bk.1
    obtain ⟨i, hi⟩ : ∃ i : Nat, Hash.bkt k T.room.buckets = (i : Int) := ⟨_, (Int.toNat_of_nonneg b0).symm⟩
    rw [hi] at b1
    have HI := Aside0.mk hi
    clear hi b0
    have hil : i < T.tok.length := by have := HN.out.tl; omega
    obtain ⟨x, hx⟩ : ∃ x, x = T.tok[i] := ⟨_, rfl⟩
    have hxi : T.tok[i]? = some x := by rw [List.getElem?_eq_getElem hil, hx]
    have HTA : Aside0 (tokAt T k = x) := ⟨by unfold tokAt; rw [HI.out, Int.toNat_natCast, List.getD_eq_getElem?_getD, hxi]; rfl⟩
    have HXR : Aside0 (InR .i64 x) := ⟨by
      have h1 := HN.out.tk x (List.mem_of_getElem? hxi)
      have h2 := HN.out.pos
      exact InR.mk64 (by omega) (by omega)⟩
    have hcx : w.cell? ⟨tb, i, none⟩ = some (.int .i64 x) := HT.out.tok.cell i (by rw [List.getElem?_map, hxi]; rfl)
    have Z3 : Aside0 (∀ w', Below w.heap.size w w' → Calls Try.prog 41 #[.pointer (some ⟨p, 0, none⟩), .string k] w' fun e w'' => e = .returned (.int .i64 (i : Int)) ∧ Below w'.heap.size w' w'') := ⟨fun w' hb => by
      have := bucketT_calls p k T.room.buckets w' (pw_cell_below hb p2) hk HN.out.bk.1 HN.out.bk.2
      rw [HI.out] at this
      exact this⟩
    have i0 : (0 : Int) ≤ (i : Int) := by omega
    have i1 : (i : Int) < (T.tok.length : Int) := by omega
    have HOK := Aside0.mk hok
    obtain ⟨hok1, hok2⟩ := hok
    have hk0 : ((k.size : Int) == 0) = false := by
      have : ¬ (k.size : Int) = 0 := by omega
      simpa using this
    have hk1 : decide ((250 : Int) < (k.size : Int)) = false := by
      have : ¬ (250 : Int) < (k.size : Int) := by omega
      simpa using this
    clear hx hxi b1 hB hzn h hN hok1 hok2
    go_enter Try.func21, Try.ntmps21
    go_wp2
    obtain ⟨W1, hW1⟩ : ∃ W1 : World, W1 = w.alloc (.cells #[.string ByteArray.empty, .int .i64 0, .int .i64 0, .int .i64 0, .bool false, .slice none 0 0, .bool false, .int .i64 0] 52) := ⟨_, rfl⟩
    have HX1 : Aside0 (Blk W1 w.heap.size (#[.string ByteArray.empty, .int .i64 0, .int .i64 0, .int .i64 0, .bool false, .slice none 0 0, .bool false, .int .i64 0] : Array Value).toList ∧ Below w.heap.size w W1 ∧ Ty W1 52 w.heap.size) := ⟨by rw [hW1]; exact ⟨Blk.new_ w _ _ rfl rfl, below_alloc (Below.refl _ _) _, Ty.new _ _ _ _⟩⟩
    have hww : W1 = w.alloc (.cells #[.string ⟨#[]⟩, .int .i64 0, .int .i64 0, .int .i64 0, .bool false, .slice none 0 0, .bool false, .int .i64 0] 52) := hW1
    rw [← hww]
    clear hW1 hww
    have W1B : ∀ w', Below W1.heap.size W1 w' → Below w.heap.size w w' := fun w' h => Below.then_ HX1.out.2.1 h (Nat.le_refl _)
    have r5 : ∀ w', Below W1.heap.size W1 w' → w'.cell? ⟨p, 5, none⟩ = some (.slice (some ⟨tb, 0, none⟩) T.tok.length cap) := fun w' h => pw_cell_below (W1B w' h) p5
    have rx : ∀ w', Below W1.heap.size W1 w' → w'.cell? ⟨tb, i, none⟩ = some (.int .i64 x) := fun w' h => pw_cell_below (W1B w' h) hcx
    refine region_calm 9 (Below W1.heap.size W1) (by kernel_rfl) (by kernel_rfl) (below_drew (Below.refl _ _)) ?_
    simp only [List.take_succ_cons, List.take_zero, List.drop_succ_cons, List.drop_zero]
    (refine wpCalm_val (v := ?_) rfl ?_ ?_; rotate_left; (focus (intro w' hSw; go_simp; try with_reducible rfl)))
    (try simp only [Act.put, List.setIfInBounds_toArray, List.set_cons_zero, List.set_cons_succ])
    (refine wpCalm_val (v := ?_) rfl ?_ ?_; rotate_left; (focus (intro w' hSw; go_simp; try with_reducible rfl)))
    (try simp only [Act.put, List.setIfInBounds_toArray, List.set_cons_zero, List.set_cons_succ])
    (refine wpCalm_val (v := ?_) rfl ?_ ?_; rotate_left; (focus (intro w' hSw; go_simp; try with_reducible rfl)))
    (try simp only [Act.put, List.setIfInBounds_toArray, List.set_cons_zero, List.set_cons_succ])
    (refine wpCalm_val (v := ?_) rfl ?_ ?_; rotate_left; (focus (intro w' hSw; go_simp; try with_reducible rfl)))
    (try simp only [Act.put, List.setIfInBounds_toArray, List.set_cons_zero, List.set_cons_succ])
    (refine wpCalm_val (v := ?_) rfl ?_ ?_; rotate_left; (focus (intro w' hSw; go_simp; try with_reducible rfl)))
    (try simp only [Act.put, List.setIfInBounds_toArray, List.set_cons_zero, List.set_cons_succ])
    (refine wpCalm_val (v := ?_) rfl ?_ ?_; rotate_left; (focus (intro w' hSw; go_simp; try with_reducible rfl)))
    (try simp only [Act.put, List.setIfInBounds_toArray, List.set_cons_zero, List.set_cons_succ])
    (refine wpCalm_call (v := .int .i64 (i : Int)) (f := ?_) (args := ?_) rfl ?_ ?_ ?_; rotate_left 2; (focus (intro w' hSw; go_simp; constructor <;> with_reducible rfl)); (focus (intro w' hSw; exact (Z3.out w' (W1B w' hSw)).mono fun e w1 ⟨h1, h2⟩ => ⟨h1, Below.then_ hSw h2 (Nat.le_refl _)⟩)))
    (try simp only [Act.put, List.setIfInBounds_toArray, List.set_cons_zero, List.set_cons_succ])
    (refine wpCalm_val (v := ?_) rfl ?_ ?_; rotate_left; (focus (intro w' hSw; go_simp; try with_reducible rfl)))
    (try simp only [Act.put, List.setIfInBounds_toArray, List.set_cons_zero, List.set_cons_succ])
    (refine wpCalm_val (v := ?_) rfl ?_ ?_; rotate_left; (focus (intro w' hSw; go_simp; try with_reducible rfl)))
    (try simp only [Act.put, List.setIfInBounds_toArray, List.set_cons_zero, List.set_cons_succ])
    refine wpCalm_nil ?_
    intro w2 hS2
    have HW2 : Aside0 (Below w.heap.size w w2 ∧ Ty w2 52 w.heap.size) := ⟨W1B w2 hS2, HX1.out.2.2.below hS2⟩
    have rl2 := rl w2 (W1B w2 hS2)
    have q4 := pw_cell_below (W1B w2 hS2) p4
    have hzl : w.heap.size < w2.heap.size := Nat.lt_of_lt_of_le HX1.out.1.lt hS2.size
    have hR2 := HX1.out.1.on hS2
    obtain ⟨⟨r0, r1, r2, r3, r4, r5', r6, r7⟩, g0, g1, g2, g3, g4, g5, g6, g7⟩ := hR2.eight
    have HR2 := Aside0.mk hR2
    clear hS2 r5 rx p2 p4 p5 rl hR2 hcx W1B
    cases hasB with
    | false =>
      have HS : Aside0 (queryE k = 0 ∧ queryR T k = ⟨⟨k, Tag.z, Val.z⟩, x == 0, x⟩ ∧ queryT T k = T) := ⟨by
        have hf : find T.l k = none := by
          cases hf : find T.l k with
          | none => rfl
          | some c => have h2 := HO.out.2.2; rw [hf] at h2; cases h2
        unfold queryE queryR queryT; rw [if_pos HOK.out, if_pos HOK.out, if_pos HOK.out, hf, HTA.out]; exact ⟨rfl, rfl, rfl⟩⟩
      go_wp2
      obtain ⟨W9, hW9⟩ : ∃ W9 : World, W9 = ((((((((w2.setCell ⟨w.heap.size, 0, none⟩ (.string k)).setCell ⟨w.heap.size, 1, none⟩ (.int .i64 0)).setCell ⟨w.heap.size, 2, none⟩ (.int .i64 0)).setCell ⟨w.heap.size, 3, none⟩ (.int .i64 0)).setCell ⟨w.heap.size, 4, none⟩ (.bool false)).setCell ⟨w.heap.size, 5, none⟩ (.slice none 0 0)).setCell ⟨w.heap.size, 6, none⟩ (.bool (x == 0))).setCell ⟨w.heap.size, 7, none⟩ (.int .i64 x)).alloc (.cells #[.string o.e.key, .int .i64 o.e.tag.seq, .int .i64 o.e.tag.who, .int .i64 o.e.tag.op, .bool o.e.val.has, .slice Ao o.e.val.b.length co, .bool o.whole, .bool o.clean, .int .i64 o.used] 47) := ⟨_, rfl⟩
      rw [← hW9]
      have h9 : Blk W9 w.heap.size [.string k, .int .i64 0, .int .i64 0, .int .i64 0, .bool false, .slice none 0 0, .bool (x == 0), .int .i64 x] := by rw [hW9]; exact (((((((((HR2.out.set 0 (.string k)).set 1 (.int .i64 0)).set 2 (.int .i64 0)).set 3 (.int .i64 0)).set 4 (.bool false)).set 5 (.slice none 0 0)).set 6 (.bool (x == 0))).set 7 (.int .i64 x)).alloc _).cast rfl
      have hb : Below w.heap.size w W9 := by rw [hW9]; exact below_alloc ((((((((HW2.out.1.setCell (p := ⟨w.heap.size, 0, none⟩) (Nat.le_refl _) (.string k)).setCell (p := ⟨w.heap.size, 1, none⟩) (Nat.le_refl _) (.int .i64 0)).setCell (p := ⟨w.heap.size, 2, none⟩) (Nat.le_refl _) (.int .i64 0)).setCell (p := ⟨w.heap.size, 3, none⟩) (Nat.le_refl _) (.int .i64 0)).setCell (p := ⟨w.heap.size, 4, none⟩) (Nat.le_refl _) (.bool false)).setCell (p := ⟨w.heap.size, 5, none⟩) (Nat.le_refl _) (.slice none 0 0)).setCell (p := ⟨w.heap.size, 6, none⟩) (Nat.le_refl _) (.bool (x == 0))).setCell (p := ⟨w.heap.size, 7, none⟩) (Nat.le_refl _) (.int .i64 x)) _
      clear hW9
      obtain ⟨⟨z0, z1, z2, z3, z4, z5, z6, z7⟩, _⟩ := h9.eight
      refine bodyPost_ret (v := .tuple #[.agg #[.string k, .int .i64 0, .int .i64 0, .int .i64 0, .bool false, .slice none 0 0, .bool (x == 0), .int .i64 x], .int .i64 0]) (by simp [results, Try.results21, go_sem, z0, z1, z2, z3, z4, z5, z6, z7]; try rfl) rfl ?_
      exact ⟨_, by rw [HS.out.1], by rw [HS.out.2.1]; exact bk_reply (bk_entz _ k hk) HXR.out, by rw [HS.out.2.2]; exact HT.out.below hb, Only.of_below _ hb⟩
    | true =>
      have HFD : Aside0 (find T.l k = some o) := ⟨by
        have h1 := HO.out.1
        cases hf : find T.l k with
        | none => have h2 := HO.out.2.2; rw [hf] at h2; cases h2
        | some c => rw [hf] at h1; rw [h1]; rfl⟩
      have HS : Aside0 (queryE k = 0 ∧ queryR T k = ⟨o.e, o.whole, x⟩ ∧ queryT T k = lay T o) := ⟨by
        unfold queryE queryR queryT; rw [if_pos HOK.out, if_pos HOK.out, if_pos HOK.out, HFD.out, HTA.out]; exact ⟨rfl, rfl, rfl⟩⟩
      have hoT := (find_mem HFD.out).1
      have hky := HN.out.ky o hoT
      have hus := HN.out.us
      have hps := HN.out.pos
      have HLY := Aside0.mk (fun w' (hb' : Below w.heap.size w w') => lay_calls p mb tb T o Ao co w' (HT.out.below hb') (HO.out.2.1.below hb') (by omega) (by have := HN.out.sz; omega) hky.1 hky.2)
      have hX3 := Blk.new_ w2 #[.string o.e.key, .int .i64 o.e.tag.seq, .int .i64 o.e.tag.who, .int .i64 o.e.tag.op, .bool o.e.val.has, .slice Ao o.e.val.b.length co, .bool o.whole, .bool o.clean, .int .i64 o.used] 47 rfl rfl
      have HX3 := Aside0.mk hX3
      have HNE : Aside0 (w.heap.size ∉ [p, mb, tb] ∧ w2.heap.size ∉ [p, mb, tb] ∧ w2.heap.size ≠ w.heap.size) := ⟨by
        refine ⟨by simp; omega, by simp; omega, by omega⟩⟩
      have HBW := Aside0.mk (below_alloc HW2.out.1 (.cells #[.string o.e.key, .int .i64 o.e.tag.seq, .int .i64 o.e.tag.who, .int .i64 o.e.tag.op, .bool o.e.val.has, .slice Ao o.e.val.b.length co, .bool o.whole, .bool o.clean, .int .i64 o.used] 47))
      clear hoT hX3
      go_wp2_with (first | ((with_reducible refine (HLY.out _ HBW.out).mono ?_); rintro e w5 ⟨rfl, h5, o5⟩; have H5 := Aside0.mk (And.intro h5 o5); clear h5 o5))
      have hX5 := HX3.out.only H5.out.2 HNE.out.2.1
      have hR5 := (HR2.out.alloc (.cells #[.string o.e.key, .int .i64 o.e.tag.seq, .int .i64 o.e.tag.who, .int .i64 o.e.tag.op, .bool o.e.val.has, .slice Ao o.e.val.b.length co, .bool o.whole, .bool o.clean, .int .i64 o.used] 47)).only H5.out.2 HNE.out.1
      have HR5 := Aside0.mk hR5
      clear r0 r1 r2 r3 r4 r5' r6 r7 g0 g1 g2 g3 g4 g5 g6 g7
      obtain ⟨⟨r0, r1, r2, r3, r4, r5', r6, r7⟩, g0, g1, g2, g3, g4, g5, g6, g7⟩ := hR5.eight
      obtain ⟨⟨x0, x1, x2, x3, x4, x5, x6, x7, x8⟩, fx⟩ := hX5.nine
      have rx : ∀ j v w', w5.cell? ⟨w2.heap.size, j, none⟩ = some v → Only [w.heap.size] w5 w' → w'.cell? ⟨w2.heap.size, j, none⟩ = some v := fun j v w' hv h => (h.cell (p := ⟨w2.heap.size, j, none⟩) (World.block_lt_of_cell? _ _ hv) (by simp; exact HNE.out.2.2)).trans hv
      have rx0 := fun w' h => rx 0 _ w' x0 h
      have rx1 := fun w' h => rx 1 _ w' x1 h
      have rx2 := fun w' h => rx 2 _ w' x2 h
      have rx3 := fun w' h => rx 3 _ w' x3 h
      have rx4 := fun w' h => rx 4 _ w' x4 h
      have rx5 := fun w' h => rx 5 _ w' x5 h
      have rx6 := fun w' h => rx 6 _ w' x6 h
      have HBE : Aside0 (BK Entry.k w5.drew o.e [.string o.e.key, .int .i64 o.e.tag.seq, .int .i64 o.e.tag.who, .int .i64 o.e.tag.op, .bool o.e.val.has, .slice Ao o.e.val.b.length co]) := ⟨((bk_ce (HO.out.2.1.below HBW.out)).only H5.out.2 (HT.out.below HBW.out).noB).below (below_drew (Below.refl _ w5))⟩
      have HCP := Aside0.mk (copy_calls o.e Ao co w5.drew HBE.out.now (by omega))
      clear hX5 hR5 fx rx x0 x1 x2 x3 x4 x5 x6 x7 x8
      refine wp_region_noPanic ?_
      refine wp_region_held_drew (S := Only [w.heap.size] w5) (by kernel_rfl) ((Only.refl [w.heap.size] w5).drew) (fun hHeld => ?_)
      (refine takeH 0 52 (v := ?_) rfl rfl (by kernel_rfl) (by kernel_rfl) (by kernel_rfl) (fun _ _ _ h => h) hHeld rfl ?_ ?_; rotate_left; (focus (intro w' hSw; go_simp; try with_reducible rfl)))
      (try simp only [Act.put, List.setIfInBounds_toArray, List.set_cons_zero, List.set_cons_succ])
      (refine takeH 1 53 (v := ?_) rfl rfl (by kernel_rfl) (by kernel_rfl) (by kernel_rfl) (fun _ _ _ h => h) hHeld rfl ?_ ?_; rotate_left; (focus (intro w' hSw; go_simp; try with_reducible rfl)))
      (try simp only [Act.put, List.setIfInBounds_toArray, List.set_cons_zero, List.set_cons_succ])
      (refine takeH 3 55 (v := ?_) rfl rfl (by kernel_rfl) (by kernel_rfl) (by kernel_rfl) (fun _ _ _ h => h) hHeld rfl ?_ ?_; rotate_left; (focus (intro w' hSw; go_simp; try with_reducible rfl)))
      (try simp only [Act.put, List.setIfInBounds_toArray, List.set_cons_zero, List.set_cons_succ])
      (refine takeH 4 56 (v := ?_) rfl rfl (by kernel_rfl) (by kernel_rfl) (by kernel_rfl) (fun _ _ _ h => h) hHeld rfl ?_ ?_; rotate_left; (focus (intro w' hSw; go_simp; try with_reducible rfl)))
      (try simp only [Act.put, List.setIfInBounds_toArray, List.set_cons_zero, List.set_cons_succ])
      (refine takeH 5 57 (v := ?_) rfl rfl (by kernel_rfl) (by kernel_rfl) (by kernel_rfl) (fun _ _ _ h => h) hHeld rfl ?_ ?_; rotate_left; (focus (intro w' hSw; go_simp; try with_reducible rfl)))
      (try simp only [Act.put, List.setIfInBounds_toArray, List.set_cons_zero, List.set_cons_succ])
      refine wpAnyH_ready (rs := [2]) (by kernel_rfl) (by simp) ?_
      refine AllReadyH.cons rfl (fun K hK => ?_) AllReadyH.nil
      go_simp
      refine HCP.out.mono ?_
      rintro e w6 ⟨cs, rfl, hbk, hfk, hb6⟩
      obtain ⟨A', c', he, _⟩ := Entry.open_ hbk.now
      have hcs : cs = #[.string o.e.key, .int .i64 o.e.tag.seq, .int .i64 o.e.tag.who, .int .i64 o.e.tag.op, .bool o.e.val.has, .slice A' o.e.val.b.length c'] := by
        have : cs = cs.toList.toArray := by simp
        rw [this, he]
      rw [hcs] at hbk
      subst hcs
      have H6 := Aside0.mk (And.intro hbk hb6)
      clear he hfk hbk
      refine hK.out _ _ ((Only.refl [w.heap.size] w5).drew.on hb6) (fun hHeld => ?_)
      clear hK K
      (try simp only [Act.put, List.setIfInBounds_toArray, List.set_cons_zero, List.set_cons_succ])
      (refine takeH 6 58 (v := ?_) rfl rfl (by kernel_rfl) (by kernel_rfl) (by kernel_rfl) (fun _ _ _ h => h) hHeld rfl ?_ ?_; rotate_left; (focus (intro w' hSw; go_simp; try with_reducible rfl)))
      (try simp only [Act.put, List.setIfInBounds_toArray, List.set_cons_zero, List.set_cons_succ])
      have hR6 := (HR5.out.drew).on hb6
      have HR6 := Aside0.mk hR6
      clear r0 r1 r2 r3 r4 r5' r6 r7 g0 g1 g2 g3 g4 g5 g6 g7
      obtain ⟨⟨r0, r1, r2, r3, r4, r5', r6, r7⟩, g0, g1, g2, g3, g4, g5, g6, g7⟩ := hR6.eight
      have HO9 : Aside0 (Only [w.heap.size] w5 ((((((((w6.setCell ⟨w.heap.size, 0, none⟩ (.string o.e.key)).setCell ⟨w.heap.size, 1, none⟩ (.int .i64 o.e.tag.seq)).setCell ⟨w.heap.size, 2, none⟩ (.int .i64 o.e.tag.who)).setCell ⟨w.heap.size, 3, none⟩ (.int .i64 o.e.tag.op)).setCell ⟨w.heap.size, 4, none⟩ (.bool o.e.val.has)).setCell ⟨w.heap.size, 5, none⟩ (.slice A' o.e.val.b.length c')).setCell ⟨w.heap.size, 6, none⟩ (.bool o.whole)).setCell ⟨w.heap.size, 7, none⟩ (.int .i64 x))) := ⟨((((((((((Only.refl [w.heap.size] w5).drew.on hb6).set (p := ⟨w.heap.size, 0, none⟩) (.string o.e.key) (.inl (by simp))).set (p := ⟨w.heap.size, 1, none⟩) (.int .i64 o.e.tag.seq) (.inl (by simp))).set (p := ⟨w.heap.size, 2, none⟩) (.int .i64 o.e.tag.who) (.inl (by simp))).set (p := ⟨w.heap.size, 3, none⟩) (.int .i64 o.e.tag.op) (.inl (by simp))).set (p := ⟨w.heap.size, 4, none⟩) (.bool o.e.val.has) (.inl (by simp))).set (p := ⟨w.heap.size, 5, none⟩) (.slice A' o.e.val.b.length c') (.inl (by simp))).set (p := ⟨w.heap.size, 6, none⟩) (.bool o.whole) (.inl (by simp))).set (p := ⟨w.heap.size, 7, none⟩) (.int .i64 x) (.inl (by simp)))⟩
      clear hR6 hb6
      refine wpAnyH_ready (rs := [7]) (by kernel_rfl) (by simp) ?_
      refine AllReadyH.cons rfl (fun K hK => ?_) AllReadyH.nil
      go_simp
      refine hK.out _ _ (HO9.out) (fun hHeld => ?_)
      clear hK K
      (try simp only [Act.put, List.setIfInBounds_toArray, List.set_cons_zero, List.set_cons_succ])
      (refine takeH 8 5 (v := ?_) rfl rfl (by kernel_rfl) (by kernel_rfl) (by kernel_rfl) (fun _ _ _ h => h) hHeld rfl ?_ ?_; rotate_left; (focus (intro w' hSw; go_simp; try with_reducible rfl)))
      (try simp only [Act.put, List.setIfInBounds_toArray, List.set_cons_zero, List.set_cons_succ])
      refine wpAnyH_done (by kernel_rfl) ?_ _
      refine NoPanic.normal ?_
      obtain ⟨W9, hW9⟩ : ∃ W9 : World, W9 = ((((((((w6.setCell ⟨w.heap.size, 0, none⟩ (.string o.e.key)).setCell ⟨w.heap.size, 1, none⟩ (.int .i64 o.e.tag.seq)).setCell ⟨w.heap.size, 2, none⟩ (.int .i64 o.e.tag.who)).setCell ⟨w.heap.size, 3, none⟩ (.int .i64 o.e.tag.op)).setCell ⟨w.heap.size, 4, none⟩ (.bool o.e.val.has)).setCell ⟨w.heap.size, 5, none⟩ (.slice A' o.e.val.b.length c')).setCell ⟨w.heap.size, 6, none⟩ (.bool o.whole)).setCell ⟨w.heap.size, 7, none⟩ (.int .i64 x)) := ⟨_, rfl⟩
      go_wp2
      rw [← hW9]
      have h9 : Blk W9 w.heap.size [.string o.e.key, .int .i64 o.e.tag.seq, .int .i64 o.e.tag.who, .int .i64 o.e.tag.op, .bool o.e.val.has, .slice A' o.e.val.b.length c', .bool o.whole, .int .i64 x] := by rw [hW9]; exact (((((((((HR6.out.set 0 (.string o.e.key)).set 1 (.int .i64 o.e.tag.seq)).set 2 (.int .i64 o.e.tag.who)).set 3 (.int .i64 o.e.tag.op)).set 4 (.bool o.e.val.has)).set 5 (.slice A' o.e.val.b.length c')).set 6 (.bool o.whole)).set 7 (.int .i64 x))).cast rfl
      have ho9 : Only [w.heap.size] w5 W9 := by rw [hW9]; exact HO9.out
      have ho69 : Only [w.heap.size] w6 W9 := by rw [hW9]; exact (((((((((Only.refl [w.heap.size] w6).set (p := ⟨w.heap.size, 0, none⟩) (.string o.e.key) (.inl (by simp))).set (p := ⟨w.heap.size, 1, none⟩) (.int .i64 o.e.tag.seq) (.inl (by simp))).set (p := ⟨w.heap.size, 2, none⟩) (.int .i64 o.e.tag.who) (.inl (by simp))).set (p := ⟨w.heap.size, 3, none⟩) (.int .i64 o.e.tag.op) (.inl (by simp))).set (p := ⟨w.heap.size, 4, none⟩) (.bool o.e.val.has) (.inl (by simp))).set (p := ⟨w.heap.size, 5, none⟩) (.slice A' o.e.val.b.length c') (.inl (by simp))).set (p := ⟨w.heap.size, 6, none⟩) (.bool o.whole) (.inl (by simp))).set (p := ⟨w.heap.size, 7, none⟩) (.int .i64 x) (.inl (by simp)))
      have hty5 : Ty w5 52 w.heap.size := (HW2.out.2.below (below_alloc (Below.refl _ _) _)).only H5.out.2 HNE.out.1
      have hty6 : Ty w6 52 w.heap.size := (Ty.drew hty5).below H6.out.2
      have hbr : BK Entry.k W9 o.e [.string o.e.key, .int .i64 o.e.tag.seq, .int .i64 o.e.tag.who, .int .i64 o.e.tag.op, .bool o.e.val.has, .slice A' o.e.val.b.length c'] := H6.out.1.only ho69 (fun i hi => by simp at hi; subst hi; exact hty6.ne (by decide))
      clear hW9
      obtain ⟨⟨z0, z1, z2, z3, z4, z5, z6, z7⟩, _⟩ := h9.eight
      refine bodyPost_ret (v := .tuple #[.agg #[.string o.e.key, .int .i64 o.e.tag.seq, .int .i64 o.e.tag.who, .int .i64 o.e.tag.op, .bool o.e.val.has, .slice A' o.e.val.b.length c', .bool o.whole, .int .i64 x], .int .i64 0]) (by simp [results, Try.results21, go_sem, z0, z1, z2, z3, z4, z5, z6, z7]; try rfl) rfl ?_
      refine ⟨_, by rw [HS.out.1], by rw [HS.out.2.1]; exact bk_reply hbr HXR.out, ?_, ?_⟩
      · rw [HS.out.2.2]
        obtain ⟨l1, l2, l3⟩ := HT.out.lt
        exact H5.out.1.only ho9 (by simp; omega) (by simp; omega) (by simp; omega) (fun i hi => by simp at hi; subst hi; exact hty5.ne (by decide))
      · exact ((Only.of_below _ HBW.out).trans H5.out.2).then_ ho9 (fun i hi => by simp at hi; right; omega)
  · have HS : Aside0 (queryE k = 2 ∧ queryR T k = Reply.z ∧ queryT T k = T) := ⟨by unfold queryE queryR queryT; rw [if_neg hok, if_neg hok, if_neg hok]; exact ⟨rfl, rfl, rfl⟩⟩
    by_cases h0 : k.size = 0
    · have hk0 : ((k.size : Int) == 0) = true := by simp [h0]
      clear h0 hzn hok hB
      go_enter Try.func21, Try.ntmps21
      go_wp2
      refine bodyPost_ret (v := .tuple #[.agg #[.string ByteArray.empty, .int .i64 0, .int .i64 0, .int .i64 0, .bool false, .slice none 0 0, .bool false, .int .i64 0], .int .i64 2]) (by simp [results, Try.results21, go_sem]; try rfl) rfl ?_
      have hb := below_alloc (Below.refl w.heap.size w) (.cells #[.string ByteArray.empty, .int .i64 0, .int .i64 0, .int .i64 0, .bool false, .slice none 0 0, .bool false, .int .i64 0] 52)
      exact ⟨_, by rw [HS.out.1], by rw [HS.out.2.1]; exact bk_repz _, by rw [HS.out.2.2]; exact HT.out.below hb, Only.of_below _ hb⟩
    · have hk0 : ((k.size : Int) == 0) = false := by simpa using h0
      have hk1 : decide ((250 : Int) < (k.size : Int)) = true := by
        have h1 : ¬ k.size ≤ 250 := fun h => hok ⟨by omega, h⟩
        have : (250 : Int) < (k.size : Int) := by omega
        simpa using this
      clear h0 hzn hok hB
      go_enter Try.func21, Try.ntmps21
      go_wp2
      refine bodyPost_ret (v := .tuple #[.agg #[.string ByteArray.empty, .int .i64 0, .int .i64 0, .int .i64 0, .bool false, .slice none 0 0, .bool false, .int .i64 0], .int .i64 2]) (by simp [results, Try.results21, go_sem]; try rfl) rfl ?_
      have hb := below_alloc (Below.refl w.heap.size w) (.cells #[.string ByteArray.empty, .int .i64 0, .int .i64 0, .int .i64 0, .bool false, .slice none 0 0, .bool false, .int .i64 0] 52)
      exact ⟨_, by rw [HS.out.1], by rw [HS.out.2.1]; exact bk_repz _, by rw [HS.out.2.2]; exact HT.out.below hb, Only.of_below _ hb⟩
end Tab
end Go.Proofs.Ytgfjkpnaabiecaa
