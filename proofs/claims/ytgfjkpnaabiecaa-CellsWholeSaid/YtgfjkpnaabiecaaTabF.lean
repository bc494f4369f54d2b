/- Layer cells: Evict, Clean, walked. -/
import Derived.Test.YtgfjkpnaabiecaaTabE
set_option linter.unusedVariables false
set_option linter.unusedSimpArgs false
namespace Go.Proofs.Ytgfjkpnaabiecaa
open Go.RowKit Go.Proofs.YtgfjkpnaabiecaaW.PrintWords
namespace Tab
open Tags
def evictT (T : Tb) (k : ByteArray) : Tb := if ((find T.l k).getD Cell.z).clean then drop T k else T
def evictB (T : Tb) (k : ByteArray) : Bool := ((find T.l k).getD Cell.z).clean
set_option maxRecDepth 100000 in
theorem field_C (k : ByteArray) (a1 a2 a3 : Int) (h : Bool) (v : Value) (x y : Bool) (u : Int) (w : World) : (Instr.field 47 (.agg #[.string k, .int .i64 a1, .int .i64 a2, .int .i64 a3, .bool h, v, .bool x, .bool y, .int .i64 u]) 2).run Try.prog w = .ok (.bool y) w := by
  rfl
theorem getD_z {T : Tb} {k : ByteArray} (h : ((find T.l k).getD Cell.z).clean = true) : ∃ c, find T.l k = some c := by
  cases hf : find T.l k with
  | none => rw [hf] at h; cases h
  | some c => exact ⟨c, rfl⟩
set_option maxRecDepth 100000 in
theorem evict_calls (p mb tb : Nat) (T : Tb) (k : ByteArray) (n : Int) (w : World) (h : TbR w p mb tb T) (hN : Num T n) (hn : n ≤ 2000000000000000000) (hk : k.size ≤ 140737488351232) :
    Calls Try.prog 20 #[.pointer (some ⟨p, 0, none⟩), .string k] w (TabTold w p mb tb (evictT T k) (.bool (evictB T k))) := by
  have HT := Aside0.mk h
  have HN := Aside0.mk hN
  obtain ⟨cap, hcap, hB⟩ := h.blk
  have hml := h.lt.2.1
  have hpl := h.lt.1
  have p4 := hB.cell 4 rfl
  obtain ⟨o, Ao, co, hoe, hbo, hlk⟩ := h.map.look_or k hk
  have HO := Aside0.mk hoe
  have rl := hlk false w rfl
  simp only [ccs, Bool.false_eq_true, if_false, if_true] at rl
  clear hB h hN hoe hbo hlk
  by_cases hc : o.clean = true
  · have rf := fun w' => field_C o.e.key o.e.tag.seq o.e.tag.who o.e.tag.op o.e.val.has (.slice Ao o.e.val.b.length co) o.whole true o.used w'
    rw [hc] at rl
    have HS : Aside0 (evictT T k = drop T k ∧ evictB T k = true) := ⟨by unfold evictT evictB; rw [← HO.out, hc]; exact ⟨rfl, rfl⟩⟩
    have hD : k.size ≤ 1000000 := by
      obtain ⟨c, hf⟩ := getD_z (T := T) (k := k) (by rw [← HO.out]; exact hc)
      obtain ⟨h1, rfl⟩ := find_mem hf
      exact (HN.out.ky c h1).1
    clear hc
    have HD := Aside0.mk (drop_calls p mb tb T k w HT.out hD (by have := HN.out.sz; omega) HN.out.bk HN.out.tl (fun y hy => by have := HN.out.tk y hy; have := HN.out.pos; omega))
    go_enter Try.func20, Try.ntmps20
    go_wp2_with (first | ((with_reducible refine HD.out.mono ?_); rintro e w5 ⟨rfl, g1, g2⟩; have H5 := Aside0.mk (And.intro g1 g2); clear g1 g2))
    go_ret
    exact ⟨by rw [HS.out.2]; rfl, by rw [HS.out.1]; exact H5.out.1, H5.out.2⟩
  · have hc' : o.clean = false := by simpa using hc
    have HS : Aside0 (evictT T k = T ∧ evictB T k = false) := ⟨by unfold evictT evictB; rw [← HO.out, hc']; exact ⟨rfl, rfl⟩⟩
    have rf := fun w' => field_C o.e.key o.e.tag.seq o.e.tag.who o.e.tag.op o.e.val.has (.slice Ao o.e.val.b.length co) o.whole false o.used w'
    rw [hc'] at rl
    clear hc hc'
    go_enter Try.func20, Try.ntmps20
    go_wp2
    go_ret
    exact ⟨by rw [HS.out.2]; rfl, by rw [HS.out.1]; exact HT.out, Only.refl _ _⟩
def cleanOn (T : Tb) (k : ByteArray) (t : Tag) : Option Cell := (find T.l k).bind fun c => if 0 < cmpT c.e.tag t then none else some c
def cleanT (T : Tb) (k : ByteArray) (t : Tag) : Tb := match cleanOn T k t with
  | some c => { T with l := put T.l { c with clean := true } }
  | none => T
theorem szs_same {l : List Cell} {c d : Cell} (hs : Srt l) (hf : find l c.e.key = some c) (hd : d.e = c.e) : szs (put l d) = szs l := by
  rw [szs_put d hs, hd]
  have := szs_del' (l := l) c.e.key hs
  unfold szk at this
  rw [hf] at this
  exact this.symm
set_option maxRecDepth 100000 in
theorem clean_calls (p mb tb : Nat) (T : Tb) (k : ByteArray) (t1 t2 t3 : Int) (w : World) (h : TbR w p mb tb T) (hk : k.size ≤ 140737488351232) :
    Calls Try.prog 18 #[.pointer (some ⟨p, 0, none⟩), .string k, .agg #[.int .i64 t1, .int .i64 t2, .int .i64 t3]] w (TabTold w p mb tb (cleanT T k ⟨t1, t2, t3⟩) (.bool (cleanOn T k ⟨t1, t2, t3⟩).isSome)) := by
  have HT := Aside0.mk h
  obtain ⟨cap, hcap, hB⟩ := h.blk
  have hml := h.lt.2.1
  have hpl := h.lt.1
  have p4 := hB.cell 4 rfl
  obtain ⟨o, Ao, co, hoe, hbo, hlk⟩ := h.map.look_or k hk
  have HO := Aside0.mk (And.intro hoe hbo)
  obtain ⟨hasB, hhas⟩ : ∃ b, b = (find T.l k).isSome := ⟨_, rfl⟩
  have rl := hlk true (w.alloc (.cells #[.int .i64 t1, .int .i64 t2, .int .i64 t3] 32)) ((below_alloc (Below.refl _ w) _).block mb hml)
  rw [← hhas] at rl
  simp only [ccs, Bool.false_eq_true, if_false, if_true] at rl
  have HH := Aside0.mk hhas
  have hc0 := fun w' => compareT_calls o.e.tag ⟨t1, t2, t3⟩ w'
  dsimp only at hc0
  have HC := Aside0.mk hc0
  clear hB h hoe hbo hlk hhas hc0
  cases hasB with
  | false =>
    have HS : Aside0 (cleanOn T k ⟨t1, t2, t3⟩ = none) := ⟨by
      have h2 := HH.out
      unfold cleanOn
      cases hf : find T.l k with
      | none => rfl
      | some c => rw [hf] at h2; cases h2⟩
    go_enter Try.func18, Try.ntmps18
    go_wp2
    go_ret
    have hb := below_alloc (below_alloc (Below.refl w.heap.size w) (.cells #[.int .i64 t1, .int .i64 t2, .int .i64 t3] 32)) (.cells #[.string o.e.key, .int .i64 o.e.tag.seq, .int .i64 o.e.tag.who, .int .i64 o.e.tag.op, .bool o.e.val.has, .slice Ao o.e.val.b.length co, .bool o.whole, .bool o.clean, .int .i64 o.used] 47)
    exact ⟨by rw [HS.out]; rfl, by unfold cleanT; rw [HS.out]; exact HT.out.below hb, Only.of_below _ hb⟩
  | true =>
    have HFD : Aside0 (find T.l k = some o) := ⟨by
      have h1 := HO.out.1
      cases hf : find T.l k with
      | none => have h2 := HH.out; rw [hf] at h2; cases h2
      | some c => rw [hf] at h1; rw [h1]; rfl⟩
    by_cases hcm : 0 < cmpT o.e.tag ⟨t1, t2, t3⟩
    · have hcb : decide (0 < cmpT o.e.tag ⟨t1, t2, t3⟩) = true := by simpa using hcm
      have HS : Aside0 (cleanOn T k ⟨t1, t2, t3⟩ = none) := ⟨by unfold cleanOn; rw [HFD.out]; show (if 0 < cmpT o.e.tag ⟨t1, t2, t3⟩ then none else some o) = none; rw [if_pos hcm]⟩
      clear hcm
      go_enter Try.func18, Try.ntmps18
      go_wp2_with (first | ((with_reducible refine (HC.out _).mono ?_); rintro e w4 ⟨rfl, hb4⟩; have HB4 := Aside0.mk hb4; clear hb4))
      go_ret
      have hb := Below.then_ (below_alloc (below_alloc (Below.refl w.heap.size w) _) _) HB4.out (Nat.le_refl _)
      exact ⟨by rw [HS.out]; rfl, by unfold cleanT; rw [HS.out]; exact HT.out.below hb, Only.of_below _ hb⟩
    · have hcb : decide (0 < cmpT o.e.tag ⟨t1, t2, t3⟩) = false := by simpa using hcm
      have HS : Aside0 (cleanOn T k ⟨t1, t2, t3⟩ = some o) := ⟨by unfold cleanOn; rw [HFD.out]; show (if 0 < cmpT o.e.tag ⟨t1, t2, t3⟩ then none else some o) = some o; rw [if_neg hcm]⟩
      clear hcm
      go_enter Try.func18, Try.ntmps18
      go_upto_region 6 with (first | ((with_reducible refine (HC.out _).mono ?_); rintro e w4 ⟨rfl, hb4⟩; have HB4 := Aside0.mk hb4; clear hb4))
      have hX := (Blk.new_ (w.alloc (.cells #[.int .i64 t1, .int .i64 t2, .int .i64 t3] 32)) #[.string o.e.key, .int .i64 o.e.tag.seq, .int .i64 o.e.tag.who, .int .i64 o.e.tag.op, .bool o.e.val.has, .slice Ao o.e.val.b.length co, .bool o.whole, .bool o.clean, .int .i64 o.used] 47 (g := w.heap.size + 1) (by simp) rfl).on HB4.out
      have HW4 : Aside0 (Below w.heap.size w w4) := ⟨Below.then_ (below_alloc (below_alloc (Below.refl w.heap.size w) _) _) HB4.out (Nat.le_refl _)⟩
      have HX4 := Aside0.mk hX
      have y7 := hX.cell 7 rfl
      have f7 := hX.frozen 7 rfl
      clear hX
      go_upto_region 7 with (fail)
      obtain ⟨W5, hW5⟩ : ∃ W5 : World, W5 = w4.setCell ⟨w.heap.size + 1, 7, none⟩ (.bool true) := ⟨_, rfl⟩
      rw [← hW5]
      have HB5 : Aside0 (Below w.heap.size w W5) := ⟨by rw [hW5]; exact HW4.out.setCell (p := ⟨w.heap.size + 1, 7, none⟩) (by simp) _⟩
      have hX5 : Blk W5 (w.heap.size + 1) [.string o.e.key, .int .i64 o.e.tag.seq, .int .i64 o.e.tag.who, .int .i64 o.e.tag.op, .bool o.e.val.has, .slice Ao o.e.val.b.length co, .bool o.whole, .bool true, .int .i64 o.used] := by rw [hW5]; exact HX4.out.set 7 (.bool true)
      obtain ⟨⟨x0, x1, x2, x3, x4, x5, x6, x7, x8⟩, fx⟩ := hX5.nine
      have q4 := pw_cell_below HB5.out p4
      have hR5 := (HT.out.below HB5.out).below (below_drew (Below.refl _ W5))
      have hbk : BK Cell.k W5.drew { o with clean := true } (ccs { o with clean := true } Ao co) := bk_clean true ((HO.out.2.below HB5.out).below (below_drew (Below.refl _ W5)))
      have hko : o.e.key = k := (find_mem HFD.out).2
      obtain ⟨w6, hput, hM6, hg6⟩ := hR5.map.put hR5.srt (c := { o with clean := true }) (cs := (ccs { o with clean := true } Ao co).toArray) (by dsimp only; rw [hko]; exact hk) (by simpa using hbk)
      dsimp only [ccs] at hput
      rw [hko] at hput
      have hput2 : (Instr.mapUpdate 81 (.map (some mb)) (.string k) (.agg #[.string o.e.key, .int .i64 o.e.tag.seq, .int .i64 o.e.tag.who, .int .i64 o.e.tag.op, .bool o.e.val.has, .slice Ao o.e.val.b.length co, .bool o.whole, .bool true, .int .i64 o.used])).run Try.prog W5.drew = .ok () w6 := by rw [hko]; exact hput
      have H6 := Aside0.mk (And.intro hM6 (And.intro hg6 (And.intro hR5 hko)))
      clear hW5 hX5 fx y7 f7 hR5 hbk hko hput hM6 hg6
      refine Tags.region_tail 6 (by kernel_rfl) (by kernel_rfl) ?_
      simp only [List.take_succ_cons, List.take_zero, List.drop_succ_cons, List.drop_zero]
      still_step
      still_step
      still_step
      still_step
      still_step
      still_step
      refine wpStill_nil ?_
      go_wp2
      go_ret
      obtain ⟨hM6, hg6, hR5, hko⟩ := H6.out
      have o6 : Only [mb] W5.drew w6 := only_grown hg6 (by simp)
      obtain ⟨n1, n2, n3⟩ := hR5.ne
      refine ⟨by rw [HS.out]; rfl, ?_, (Only.of_below _ (Below.then_ HB5.out (below_drew (Below.refl _ W5)) (Nat.le_refl _))).trans (o6.mono (by simp))⟩
      have hct : cleanT T k ⟨t1, t2, t3⟩ = { T with l := put T.l { o with clean := true } } := by unfold cleanT; rw [HS.out]
      rw [hct]
      obtain ⟨cap', hcap', hb'⟩ := hR5.blk
      have hsz := szs_same (l := T.l) (c := o) (d := { o with clean := true }) HT.out.srt (by rw [hko]; exact HFD.out) rfl
      refine ⟨⟨cap', hcap', ?_⟩, hR5.pty.only o6 (by simp; exact n1), hR5.tok.only o6 (by simp; exact n3.symm), hR5.tty.only o6 (by simp; exact n3.symm), hM6, srt_put HT.out.srt⟩
      show Blk w6 p [_, _, _, _, _, _, _, .int .i64 ((szs (put T.l { o with clean := true }) : Nat) : Int)]
      rw [hsz]
      exact hb'.only o6 (by simp; exact n1)
end Tab
end Go.Proofs.Ytgfjkpnaabiecaa
