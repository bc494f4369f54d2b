/- Layer cells: Cells, walked. -/
import Derived.Test.YtgfjkpnaabiecaaTabG
import Derived.Test.YtgfjkpnaabiecaaRowB
import Derived.Test.YtgfjkpnaabiecaaIter
import Derived.Deep.LoopGhost
set_option linter.unusedVariables false
set_option linter.unusedSimpArgs false
namespace Go.Proofs.Ytgfjkpnaabiecaa
open Go.RowKit Go.Proofs.YtgfjkpnaabiecaaW.PrintWords
namespace Tab
open Tags
def nilR (v : Value) : Option (DataW Nat × List MemPlace) := some (.nil, [])
def keyB (v : Value) : List UInt8 := match v with
  | .string s => s.data.toList
  | _ => []
theorem keyB_of {v : Value} {kl : Lit} (h : keyOf Try.prog 9 v = some kl) : strOf kl = keyB v := by
  obtain ⟨x, rfl, rfl, _⟩ := Maps.keyOf_str Try.underlying9 h
  simp [strOf, keyB, encStr]
/-- A map block in the words of the kit. -/
theorem map_owns {w : World} {b : Nat} {E : List (Value × Value)} (h : MapL w 9 b E) (hE : E.length ≤ 1000000) :
    ∃ D : DataW Nat, w.ownsMap Try.prog 9 nilR b E.length D ∧ Maps.size D = E.length ∧ (strKeys D).Perm (E.map fun x => keyB x.1) := by
  obtain ⟨es, clock, hb, hs, hk, hp⟩ := h
  have hsz : es.size = E.length := by have := hp.length_eq; unfold ents at this; simpa using this
  have hrd : ∀ x ∈ es.toList, ∃ y, WideElems.rd Try.prog 9 nilR x = some y ∧ strOf y.1 = keyB x.key := by
    intro x hx
    obtain ⟨l, hl⟩ := hk x hx
    exact ⟨(l, .nil), by simp [WideElems.rd, hl, nilR], keyB_of hl⟩
  refine ⟨_, ⟨es, clock, hb, ⟨by unfold maxLen; omega, hs, fun x hx => let ⟨y, hy, _⟩ := hrd x hx; ⟨y, hy⟩⟩, Nat.le_of_eq hsz, rfl⟩, ?_, ?_⟩
  · rw [Maps.size_eq, length_sorted, List.length_map, Array.length_toList]
    exact hsz
  · show ((_ : List (Lit × DataW Nat)).map fun p => strOf p.1).Perm _
    refine ((WideShapes.sorted_perm _).map _).trans ?_
    rw [List.map_map]
    refine List.Perm.trans ?_ (hp.map _)
    unfold ents
    rw [List.map_map]
    rw [List.map_congr_left (f := (fun p : Lit × DataW Nat => strOf p.1) ∘ WideElems.rg Try.prog 9 nilR) (g := (fun x : Value × Value => keyB x.1) ∘ fun e : MapEntry => (e.key, e.val))]
    intro x hx
    obtain ⟨y, h1, h2⟩ := hrd x hx
    simp [WideElems.rg, h1, h2]
theorem kl_sorted {l : List Cell} (h : Srt l) : (l.map kl).mergeSort (fun x y => decide (x ≤ y)) = l.map kl := by
  refine List.mergeSort_of_pairwise ?_
  unfold Srt at h
  rw [List.pairwise_map]
  exact h.imp fun h => by simpa using List.le_of_lt h
/-- slices.Sorted(maps.Keys(m)): the keys, in order. -/
theorem sorted_c {w : World} {mb : Nat} {l : List Cell} (h : MapT w mb l) (hs : Srt l) (hl : l.length ≤ 1000000) :
    Calls Try.prog 45 #[.map (some mb)] w fun e w1 => e = .returned (.func (.func 65) #[] #[.pointer (some ⟨w.heap.size, 0, none⟩)]) ∧ Below w.heap.size w w1 ∧
      Calls Try.prog 44 #[.func (.func 65) #[] #[.pointer (some ⟨w.heap.size, 0, none⟩)]] w1 fun e w2 => ∃ v, e = .returned v ∧ w2.ownsRow w1.heap.size 9 1 v l.length ((l.map fun c => c.e.key).map Value.string) ∧ Below w1.heap.size w1 w2 := by
  obtain ⟨g, hm, hg⟩ := h
  obtain ⟨D, hown, hsz, hk⟩ := map_owns hm (by rw [List.length_map]; exact hl)
  rw [List.length_map] at hsz
  refine ((callsIn_wide (n := 5)).1 (Try.maps_Keys_45 (some mb) w)).mono ?_
  rintro e w1 ⟨rfl, rfl⟩
  refine ⟨rfl, below_alloc (Below.refl _ _) _, ?_⟩
  refine ((callsIn_wide (n := 5)).1 (Try.slices_Sorted_keys_44_45 mb _ D nilR w hown (by rw [hsz]; unfold maxLen; omega) (by rw [hsz]; omega))).mono ?_
  rintro e w2 ⟨v, ss, rfl, hp, hr, _, hb⟩
  have hkk : (l.map g).map (fun x => keyB x.1) = l.map kl := by
    rw [List.map_map]
    exact List.map_congr_left fun c hc => by show keyB (g c).1 = kl c; rw [(hg c hc).1]; rfl
  rw [hkk] at hk
  have hpp := hp.trans hk
  have hlen : ss.length = l.length := by rw [hpp.length_eq, List.length_map]
  have hms : ss.mergeSort (fun x y => decide (x ≤ y)) = l.map kl := (mergeSort_of_perm hpp).trans (kl_sorted hs)
  rw [hlen, hms, List.map_map] at hr
  refine ⟨v, rfl, ?_, hb⟩
  rw [List.map_map]
  rw [List.map_congr_left (f := Value.string ∘ fun c : Cell => c.e.key) (g := encStr ∘ kl)]
  · exact hr
  · intro c _
    simp [encStr, kl]
/-- What Cells tells: a row of its own. -/
def CellsTold (w : World) (l : List Cell) (r : Ending) (w' : World) : Prop :=
  ∃ A c, r = .returned (.slice A l.length c) ∧ l.length ≤ c ∧ Kd.F Cell.k w' (fun k => w.heap.size ≤ k) A l.length l ∧ Below w.heap.size w w'
theorem infoCell : (Try.prog.info? 47).map (fun i => (i.zero, i.size, i.bytes)) = some (some (.agg #[.string ByteArray.empty, .int .i64 0, .int .i64 0, .int .i64 0, .bool false, .slice none 0 0, .bool false, .bool false, .int .i64 0]), 9, 88) := by kernel_rfl
theorem fk_ce {w : World} {ok : Nat → Prop} {c : Cell} {A : Option Addr} {cp : Nat} (h : Kd.FK Entry.k w ok c.e [.string c.e.key, .int .i64 c.e.tag.seq, .int .i64 c.e.tag.who, .int .i64 c.e.tag.op, .bool c.e.val.has, .slice A c.e.val.b.length cp]) (hu : InR .i64 c.used) : Kd.FK Cell.k w ok c (ccs c A cp) := by
  refine Foot.imp h (fun W' hK => ?_)
  obtain ⟨A5, c5, he, s0, r1, r2, r3, l5, g5⟩ := Entry.open_ hK
  simp only [List.cons.injEq, Value.slice.injEq, true_and, and_true] at he
  obtain ⟨rfl, rfl⟩ := he
  exact Cell.mk_ W' c s0 r1 r2 r3 l5 g5 hu
set_option maxRecDepth 100000 in
set_option maxHeartbeats 1000000 in
theorem cells_calls (p mb tb : Nat) (T : Tb) (n : Int) (w : World) (h : TbR w p mb tb T) (hN : Num T n) :
    Calls Try.prog 16 #[.pointer (some ⟨p, 0, none⟩)] w (CellsTold w T.l) := by
  have HT := Aside0.mk h
  have HN := Aside0.mk hN
  obtain ⟨cap, hcap, hB⟩ := h.blk
  have hpl := h.lt.1
  have hml := h.lt.2.1
  have p4 := hB.cell 4 rfl
  have HS := Aside0.mk (sorted_c h.map h.srt hN.len)
  have hlen := hN.len
  clear hB h hN
  go_enter Try.func16, Try.ntmps16
  go_wp2_with (first | ((with_reducible refine HS.out.mono ?_); rintro e w1 ⟨rfl, hb1, hc1⟩; have HB1 := Aside0.mk hb1; have HC1 := Aside0.mk hc1; clear hb1 hc1) | ((with_reducible refine HC1.out.mono ?_); rintro e w2 ⟨v, rfl, ho2, hb2⟩; obtain ⟨A1, c1, rfl, hn1, hC2, hA2⟩ := StrRow.own_C (l := T.l.map fun c => c.e.key) (by rw [List.length_map]; exact ho2) (fun x hx => by obtain ⟨c, hc, rfl⟩ := List.mem_map.1 hx; have := (HN.out.ky c hc).1; omega); rw [List.length_map] at hn1 hC2 ⊢; have HB2 := Aside0.mk (Below.then_ HB1.out hb2 (Nat.le_refl _)); have HC2 := Aside0.mk hC2; clear hb2 ho2 hC2 hA2))
  go_loopg [3, 16] T.l.length (fun gk v3 v16 wr => ∃ k : Nat, v16 = .int .i64 (k : Int) ∧ k ≤ T.l.length ∧ Aside0 (gk + k = T.l.length) ∧ Aside0 (Below w2.heap.size w2 wr) ∧ Aside0 (OwnRow (RFB Cell.k w2.heap.size wr v3.ownBlock) 47 9 wr w2.heap.size v3 (T.l.take k)))
  case atStart => exact ⟨0, rfl, Nat.zero_le _, ⟨rfl⟩, ⟨Below.refl _ _⟩, ⟨OwnRow.none_ _ _ _ _ _⟩⟩
  case round =>
    obtain ⟨k, rfl, hk, HGK, HBR, HO⟩ := hrel
    have HB : Aside0 (Below w.heap.size w wr) := ⟨Below.then_ HB2.out HBR.out (Nat.le_refl _)⟩
    by_cases hlt : k < T.l.length
    · obtain ⟨ad, x, rfl, HX, hcx, hxs⟩ := StrRow.str_at (Kd.C_below HC2.out HBR.out) k hlt
      obtain ⟨c, hc⟩ : ∃ c, T.l[k]? = some c := ⟨_, List.getElem?_eq_getElem hlt⟩
      have hcm : c ∈ T.l := List.mem_of_getElem? hc
      have hxc : c.e.key = x := by have := HX.out; rw [List.getElem?_map, hc] at this; simpa using this
      have hky := HN.out.ky c hcm
      subst hxc
      have HTK : Aside0 (T.l.take (k + 1) = T.l.take k ++ [c]) := ⟨by rw [List.take_add_one, hc]; rfl⟩
      have HFD : Aside0 (find T.l c.e.key = some c) := ⟨find_of HT.out.srt hcm⟩
      have hbk0 := (HT.out.below HB.out).map
      obtain ⟨o, Ao, co, hoe, hbo, hlk⟩ := hbk0.look_or c.e.key (by omega)
      rw [HFD.out] at hoe hlk
      obtain rfl : o = c := hoe
      have rl := hlk false wr rfl
      have q4 := pw_cell_below HB.out p4
      have hpl2 : p < wr.heap.size := Nat.lt_of_lt_of_le hpl HB.out.size
      have HBO := Aside0.mk hbo
      have HIU : Aside0 (InR .i64 o.used) := ⟨by obtain ⟨A5, c5, he, s0, r1, r2, r3, l5, g5, r8⟩ := Cell.open_ hbo.now; exact r8⟩
      have HCP : Aside0 (∀ w', Below wr.heap.size wr w' → Calls Try.prog 43 #[.agg #[.string o.e.key, .int .i64 o.e.tag.seq, .int .i64 o.e.tag.who, .int .i64 o.e.tag.op, .bool o.e.val.has, .slice Ao o.e.val.b.length co]] w' (CopyTold w' o.e)) := ⟨fun w' hb => copy_calls o.e Ao co w' ((bk_ce HBO.out).below hb).now (by omega)⟩
      have HX3 := Aside0.mk (Blk.new_ wr #[.string o.e.key, .int .i64 o.e.tag.seq, .int .i64 o.e.tag.who, .int .i64 o.e.tag.op, .bool o.e.val.has, .slice Ao o.e.val.b.length co, .bool o.whole, .bool o.clean, .int .i64 o.used] 47 rfl rfl)
      clear hbo hlk hbk0 hcm hky
      simp only [ccs, Bool.false_eq_true, if_false] at rl
      go_upto_region 9 with (first | ((with_reducible refine (HCP.out _ (below_alloc (Below.refl _ _) _)).mono ?_); rintro e w6 ⟨cs, rfl, hbk, hfk, hb6⟩; obtain ⟨A', c', he, hn0⟩ := Entry.open_ hbk.now; clear hn0; rw [he] at hbk hfk; obtain rfl : cs = _ := (Array.toArray_toList).symm.trans (congrArg List.toArray he); clear he; have HFK := Aside0.mk hfk; have HB6 := Aside0.mk hb6; have hX6 := HX3.out.on hb6; have HX6 := Aside0.mk hX6; obtain ⟨⟨x0, x1, x2, x3, x4, x5, x6, x7, x8⟩, f0, f1, f2, f3, f4, f5, f6, f7, f8⟩ := hX6.nine; clear hfk hbk hb6 hX6))
      obtain ⟨W7, hW7⟩ : ∃ W7 : World, W7 = (((((w6.setCell ⟨wr.heap.size, 0, none⟩ (.string o.e.key)).setCell ⟨wr.heap.size, 1, none⟩ (.int .i64 o.e.tag.seq)).setCell ⟨wr.heap.size, 2, none⟩ (.int .i64 o.e.tag.who)).setCell ⟨wr.heap.size, 3, none⟩ (.int .i64 o.e.tag.op)).setCell ⟨wr.heap.size, 4, none⟩ (.bool o.e.val.has)).setCell ⟨wr.heap.size, 5, none⟩ (.slice A' o.e.val.b.length c') := ⟨_, rfl⟩
      rw [← hW7]
      have hX7 : Blk W7 wr.heap.size (ccs o A' c') := by rw [hW7]; exact ((((((HX6.out.set 0 (.string o.e.key)).set 1 (.int .i64 o.e.tag.seq)).set 2 (.int .i64 o.e.tag.who)).set 3 (.int .i64 o.e.tag.op)).set 4 (.bool o.e.val.has)).set 5 (.slice A' o.e.val.b.length c')).cast rfl
      have ho67 : Only [wr.heap.size] w6 W7 := by rw [hW7]; exact ((((((Only.refl [wr.heap.size] w6).set (p := ⟨wr.heap.size, 0, none⟩) (.string o.e.key) (.inl (by simp))).set (p := ⟨wr.heap.size, 1, none⟩) (.int .i64 o.e.tag.seq) (.inl (by simp))).set (p := ⟨wr.heap.size, 2, none⟩) (.int .i64 o.e.tag.who) (.inl (by simp))).set (p := ⟨wr.heap.size, 3, none⟩) (.int .i64 o.e.tag.op) (.inl (by simp))).set (p := ⟨wr.heap.size, 4, none⟩) (.bool o.e.val.has) (.inl (by simp))).set (p := ⟨wr.heap.size, 5, none⟩) (.slice A' o.e.val.b.length c') (.inl (by simp))
      clear hW7 x0 x1 x2 x3 x4 x5 x6 x7 x8 f0 f1 f2 f3 f4 f5 f6 f7 f8 rl q4 hcx
      obtain ⟨⟨x0, x1, x2, x3, x4, x5, x6, x7, x8⟩, fx⟩ := hX7.nine
      clear fx
      have HB7 : Aside0 (Below wr.heap.size wr W7) := ⟨((Only.of_below [wr.heap.size] (Below.then_ (below_alloc (Below.refl _ _) _) HB6.out (Nat.le_refl _))).trans ho67).below (by simp) (Nat.le_refl _)⟩
      have hfe : Kd.FK Entry.k W7 (fun k => wr.heap.size + 1 ≤ k) o.e [.string o.e.key, .int .i64 o.e.tag.seq, .int .i64 o.e.tag.who, .int .i64 o.e.tag.op, .bool o.e.val.has, .slice A' o.e.val.b.length c'] := Foot.only (Foot.mono HFK.out (fun k hk => by simpa using hk)) ho67 (fun i hi => by simp; omega)
      have HFC := Aside0.mk (fk_ce hfe HIU.out)
      have HB8 : Aside0 (∀ ob, Below wr.heap.size wr (W7.alloc ob)) := ⟨fun ob => below_alloc HB7.out ob⟩
      have hsz : w2.heap.size ≤ wr.heap.size := HBR.out.size
      have hlk : (T.l.take k).length = k := by rw [List.length_take]; omega
      have HLK := Aside0.mk hlk
      clear hlk hfe ho67 hX7
      go_wp2_with (first | (at_builtin; refine own_append_rows (w0 := w2) (R := RFB Cell.k w2.heap.size _ u3.ownBlock) w2.heap.size rfl _ _ 44 47 _ 9 88 rfl Try.underlying44 infoCell rfl (by omega) (by omega) u3 (T.l.take k) [o] (some ⟨W7.heap.size, 0, none⟩) 1 1 rfl (by show Value.slice _ 1 1 = _; simp) (RFB.row_ HO.out (HB8.out _)) (RFB.reads_one (RFB.below (RFB.new_ HFC.out (by omega) (fun b hb => by have := RFB.row_lt HO.out b hb; omega)) (below_alloc (Below.refl _ _) _)) rfl (Blk.new_ _ _ _ rfl rfl)) (fun _ _ h => h.one) (Below.then_ HBR.out (HB8.out _) (Nat.le_refl _)) (Below.then_ HBR.out (HB8.out _) (Nat.le_refl _)).size (by rw [HLK.out]; omega) ?_; intro v1 w9 hown hB9 hg9 hat9; have HOW := Aside0.mk (OwnRow.imp_ hown (fun _ _ h => RFB.grown h hg9 hat9)); have HB9 := Aside0.mk hB9; have HG9 := Aside0.mk hg9; clear hown hB9 hg9 hat9))
      go_roundg (T.l.length - (k + 1))
      case measure => have := HGK.out; omega
      case rel => exact ⟨k + 1, by go_num, by omega, ⟨by omega⟩, HB9, ⟨by rw [HTK.out]; exact HOW.out⟩⟩
    · obtain rfl : k = T.l.length := by omega
      go_wp2
      obtain ⟨A, c, rfl, h1, h2⟩ := RFB.foot (d := Cell.k) HO.out
      rw [List.take_length] at h1 h2 ⊢
      go_ret
      exact ⟨A, c, rfl, h1, Foot.mono h2 (fun i hi => Nat.le_trans HB2.out.size hi), HB.out⟩
end Tab
end Go.Proofs.Ytgfjkpnaabiecaa
