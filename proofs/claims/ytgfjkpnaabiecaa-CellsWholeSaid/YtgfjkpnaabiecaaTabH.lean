/- Layer cells: Forget, walked: a range that puts in place of what has come. -/
import Derived.Test.YtgfjkpnaabiecaaTabG
set_option linter.unusedVariables false
set_option linter.unusedSimpArgs false
namespace Go.Proofs.Ytgfjkpnaabiecaa
open Go.RowKit Go.Proofs.YtgfjkpnaabiecaaW.PrintWords
open Go.Maps (Keyed)
open Go.ChangeMaps (setBlock heap_setBlock_same heap_setBlock_other)
open Go.MapKept
theorem one_by {α β : Type} {f : α → β} {l : List α} (h : l.Pairwise (fun x y => f x ≠ f y)) {x y : α} (hx : x ∈ l) (hy : y ∈ l) (e : f x = f y) : x = y := by
  induction l with
  | nil => cases hx
  | cons a r ih =>
    obtain ⟨h1, h2⟩ := List.pairwise_cons.1 h
    rcases List.mem_cons.1 hx with rfl | hx' <;> rcases List.mem_cons.1 hy with rfl | hy'
    · rfl
    · exact absurd e (h1 _ hy')
    · exact absurd e.symm (h1 _ hx')
    · exact ih h2 hx' hy'
/-- m[key] = val, of a key that has come. -/
theorem Rng.put {w : World} {k : TypeId} {b r : Nat} {D L : List (Value × Value)} (h : Rng w k b r D L) (K : Keyed Try.prog k) {t e : TypeId} (ht : Try.prog.underlying t = some (.map k e)) {key v0 : Value} (val : Value) (hkey : IsKey k key) {R : List (Value × Value)} (hR : D.Perm ((key, v0) :: R)) :
    ∃ w', (Instr.mapUpdate t (.map (some b)) key val).run Try.prog w = .ok () w' ∧ Rng w' k b r ((key, val) :: R) L ∧ w.grownBy w' (some b) := by
  have hne := h.ne
  obtain ⟨es, cl, since, seen, c0, hb, hs, hk, hr, hold, hsc, hsk, hD, hL⟩ := h
  have hkey' := hkey
  obtain ⟨l, hl⟩ := hkey
  have hmD : (key, v0) ∈ kvs (es.toList.filter fun e => seen.contains e.born) := (hD.trans hR).mem_iff.2 List.mem_cons_self
  obtain ⟨x, hx, hxe⟩ := List.mem_map.1 hmD
  obtain ⟨hx1, hx2⟩ := List.mem_filter.1 hx
  simp only [Prod.mk.injEq] at hxe
  rcases K.find w hl es.toList hk with ⟨h1, h2⟩ | ⟨j, e0, h1, h2, h3⟩
  · exact absurd hxe.1 (h2 x hx1)
  · obtain rfl : x = e0 := one_by (f := MapEntry.key) ((stamped_iff es cl).1 hs).2.2 hx1 (List.mem_of_getElem? h2) (hxe.1.trans h3.symm)
    have hj : es[j]? = some x := by simpa using h2
    have hlist := modify_list h2 (fun e' => { e' with key := key, val := val })
    obtain ⟨hjl, hje⟩ := List.getElem?_eq_some_iff.1 h2
    obtain ⟨s, t', hst, hsl⟩ : ∃ s t, es.toList = s ++ x :: t ∧ s.length = j := ⟨es.toList.take j, es.toList.drop (j + 1), by rw [← hje, ← List.drop_eq_getElem_cons hjl, List.take_append_drop], by rw [List.length_take]; omega⟩
    have hset : (es.modify j (fun e' => { e' with key := key, val := val })).toList = s ++ { x with key := key, val := val } :: t' := by
      rw [hlist, hst, ← hsl]
      simp
    refine ⟨setBlock w b (.map (es.modify j (fun e' => { e' with key := key, val := val })) cl), ?_, ⟨_, cl, since, seen, c0, heap_setBlock_same hb _, stamped_modify hs _ _ (fun _ _ => rfl) (fun e' _ he' => by rw [hj] at he'; cases he'; exact h3.symm), ?_, (heap_setBlock_other hb _ hne).trans hr, ?_, hsc, hsk, ?_, ?_⟩, grown_setBlock hb _⟩
    · simp [Instr.mapUpdate, run_underlying ht, MapKept.run_getObj_map hb, K.check w false hl, h1, hj, h3, K.stays w hl, MapKept.run_setObj_map _ hb, Result.andThen, setBlock]
    · intro y hy
      rw [hlist] at hy
      rcases List.mem_or_eq_of_mem_set hy with hy | rfl
      · exact hk y hy
      · exact hkey'
    · intro y hy
      rw [hlist] at hy
      rcases List.mem_or_eq_of_mem_set hy with hy | rfl
      · exact hold y hy
      · exact hold x hx1
    · rw [hset]
      have h0 := hD.trans hR
      rw [hst] at h0
      simp only [kvs, List.filter_append, List.filter_cons, hx2, if_true, List.map_append, List.map_cons] at h0 ⊢
      have h4 := List.perm_middle.symm.trans h0
      rw [show (x.key, x.val) = (key, v0) from by rw [hxe.1, hxe.2]] at h4
      exact List.perm_middle.trans (h4.cons_inv.cons _)
    · rw [hset]
      rw [hst] at hL
      simp only [kvs, List.filter_append, List.filter_cons, hx2, Bool.not_true, Bool.false_eq_true, if_false, List.map_append, List.map_cons] at hL ⊢
      exact hL
namespace Tab
def off (c : Cell) : Cell := { c with whole := false }
def forgetT (T : Tb) : Tb := { T with l := T.l.map off, tok := T.tok.map (· + 1) }
def setW (v : Value) : Value := match v with
  | .agg cs => .agg (cs.setIfInBounds 6 (.bool false))
  | v => v
def offV (x : Value × Value) : Value × Value := (x.1, setW x.2)
theorem offV_ccs (c : Cell) (A : Option Addr) (cp : Nat) : offV (.string c.e.key, .agg (ccs c A cp).toArray) = (.string (off c).e.key, .agg (ccs (off c) A cp).toArray) := rfl
theorem bk_off {w : World} {c : Cell} {A : Option Addr} {cp : Nat} (h : BK Cell.k w c (ccs c A cp)) : BK Cell.k w (off c) (ccs (off c) A cp) := by
  refine Foot.imp h (fun W' hK => ?_)
  obtain ⟨A5, c5, he, s0, r1, r2, r3, l5, g5, r8⟩ := Cell.open_ hK
  simp only [ccs, List.cons.injEq, Value.slice.injEq, true_and, and_true] at he
  obtain ⟨rfl, rfl⟩ := he
  exact Cell.mk_ W' (off c) s0 r1 r2 r3 l5 g5 r8
theorem srt_off {l : List Cell} (h : Srt l) : Srt (l.map off) := by
  unfold Srt at h ⊢
  rw [List.pairwise_map]
  exact h
theorem szs_off (l : List Cell) : szs (l.map off) = szs l := by
  unfold szs
  rw [List.map_map]
  rfl
/-- The map once all has been put. -/
theorem MapT.off {w : World} {b : Nat} {l l' : List Cell} {g : Cell → Value × Value} (hs : Srt l) (hp : l'.Perm l) (h : MapL w 9 b (l'.map fun c => offV (g c))) (hc : ∀ c ∈ l, CE w c (g c)) : MapT w b (l.map Tab.off) := by
  refine ⟨fun x => ((find l x.e.key).map fun c => offV (g c)).getD (x.e.key |> fun k => (.string k, .string k)), ?_, ?_⟩
  · rw [List.map_map]
    refine (h.perm (hp.map _)).perm ?_
    rw [List.map_congr_left (f := fun c => offV (g c)) (g := ((fun x : Cell => ((find l x.e.key).map fun c => offV (g c)).getD (.string x.e.key, .string x.e.key)) ∘ Tab.off))]
    intro c hcl
    show _ = ((find l c.e.key).map fun c => offV (g c)).getD _
    rw [find_of hs hcl]
    rfl
  · intro x hx
    obtain ⟨c, hcl, rfl⟩ := List.mem_map.1 hx
    show CE w (Tab.off c) (((find l c.e.key).map fun c => offV (g c)).getD _)
    rw [find_of hs hcl]
    obtain ⟨h1, cs, h2, h3⟩ := hc c hcl
    obtain ⟨A, cp, rfl, h4⟩ := ccs_of h3
    have hg : g c = (.string c.e.key, .agg (ccs c A cp).toArray) := by rw [← h1, ← h2]
    show CE w (Tab.off c) (offV (g c))
    rw [hg, offV_ccs]
    exact ⟨rfl, _, rfl, bk_off h4⟩
def tokK (tok : List Int) (k : Nat) : List Value := ((tok.take k).map (· + 1) ++ tok.drop k).map (.int .i64)
theorem tokK_at {tok : List Int} {k : Nat} (h : k < tok.length) : (tokK tok k)[k]? = some (.int .i64 tok[k]) := by
  unfold tokK
  rw [List.getElem?_map, List.getElem?_append_right (by simp; omega)]
  simp only [List.length_map, List.length_take, Nat.min_eq_left (Nat.le_of_lt h), Nat.sub_self, List.getElem?_drop, Nat.add_zero, List.getElem?_eq_getElem h, Option.map_some]
theorem tokK_set {tok : List Int} {k : Nat} (h : k < tok.length) : (tokK tok k).set k (.int .i64 (tok[k] + 1)) = tokK tok (k + 1) := by
  unfold tokK
  rw [← List.map_set, List.set_append_right _ _ (by simp; omega)]
  simp only [List.length_map, List.length_take, Nat.min_eq_left (Nat.le_of_lt h), Nat.sub_self]
  rw [List.drop_eq_getElem_cons h, List.set_cons_zero, List.take_add_one, List.getElem?_eq_getElem h]
  simp only [Option.toList, List.map_append, List.map_cons, List.map_nil, List.append_assoc, List.cons_append, List.nil_append]
theorem tokK_zero (tok : List Int) : tokK tok 0 = tok.map (.int .i64) := by simp [tokK]
theorem tokK_all (tok : List Int) : tokK tok tok.length = (tok.map (· + 1)).map (.int .i64) := by simp [tokK]
set_option maxRecDepth 100000 in
set_option maxHeartbeats 1000000 in
theorem forget_calls (p mb tb : Nat) (T : Tb) (n : Int) (w : World) (h : TbR w p mb tb T) (hN : Num T n) (hn : n ≤ 2000000000000000000) :
    Calls Try.prog 19 #[.pointer (some ⟨p, 0, none⟩)] w (TabTold w p mb tb (forgetT T) (.tuple #[])) := by
  have HT := Aside0.mk h
  have HN := Aside0.mk hN
  obtain ⟨cap, hcap, hB⟩ := h.blk
  have HBL := Aside0.mk hB
  obtain ⟨n1, n2, n3⟩ := h.ne
  have HNE := Aside0.mk (And.intro n1 (And.intro n2 n3))
  have hml := h.lt.2.1
  have hpl := h.lt.1
  have p4 := hB.cell 4 rfl
  have htl : T.tok.length ≤ 65536 := by have h1 := hN.bk.2; have h2 := hN.tl; omega
  obtain ⟨g, hmg, hce⟩ := h.map
  have HCE := Aside0.mk hce
  obtain ⟨wi, hrun, hrg, hbi, hsi⟩ := Rng.begin_ (t := 81) (e := 47) hmg Try.underlying81
  have HRG := Aside0.mk (And.intro hrg (And.intro hbi hsi))
  clear hB h hN hmg hce hrg hbi hsi n1 n2 n3
  go_enter Try.func19, Try.ntmps19
  go_wp2
  clear hrun
  go_loopg [2, 3] T.l.length (fun gk _ _ wx => ∃ (Dc Lc : List Cell), Aside0 (Rng wx 9 mb w.heap.size (Dc.map fun c => offV (g c)) (Lc.map g)) ∧ Aside0 ((Dc ++ Lc).Perm T.l) ∧ Aside0 (gk = Lc.length) ∧ Aside0 (Only [mb] w wx))
  case atStart => exact ⟨[], T.l, ⟨HRG.out.1⟩, ⟨List.Perm.refl _⟩, ⟨rfl⟩, ⟨Only.of_below _ HRG.out.2.1⟩⟩
  case round =>
    obtain ⟨Dc, Lc, HR, HP, HGL, HO⟩ := hrel
    go_wp2_with (first | (at_next; refine wpList_next_rng rfl _ rfl rfl HR.out ?_ ?_))
    · intro h0
      have hL : Lc = [] := by simpa using h0
      subst hL
      clear h0
      have hpd : Dc.Perm T.l := by have := HP.out; rwa [List.append_nil] at this
      have hrm : MapL wr 9 mb (Dc.map fun c => offV (g c)) := by have := HR.out.map; rwa [List.map_nil, List.append_nil] at this
      have hmt : MapT wr mb (T.l.map off) := MapT.off (l' := Dc) (g := g) HT.out.srt hpd hrm (fun c hc => (HCE.out c hc).only HO.out (by simp; exact HT.out.map.noTy _))
      have HM8 := Aside0.mk hmt
      have hb8 := HBL.out.only HO.out (by simp; exact HNE.out.1)
      have HT8 := Aside0.mk (And.intro hb8 (And.intro (HT.out.tok.only HO.out (by simp; exact HNE.out.2.2.symm)) (And.intro (HT.out.tty.only HO.out (by simp; exact HNE.out.2.2.symm)) (HT.out.pty.only HO.out (by simp; exact HNE.out.1)))))
      have q5 := hb8.cell 5 rfl
      clear hmt hb8 p4 hpd hrm
      obtain ⟨w8, rfl⟩ : ∃ w8, w8 = wr := ⟨_, rfl⟩
      have hpl8 : p < w8.heap.size := HT8.out.1.lt
      go_wp2
      go_loopg [4, 29] T.tok.length (fun gk _ v29 wx => ∃ k : Nat, v29 = .int .i64 (k : Int) ∧ k ≤ T.tok.length ∧ Aside0 (gk + k = T.tok.length) ∧ Aside0 (Blk wx tb (tokK T.tok k) ∧ Ty wx 3 tb) ∧ Aside0 (Only [tb] w8 wx))
      case atStart => exact ⟨0, rfl, Nat.zero_le _, ⟨rfl⟩, ⟨by rw [tokK_zero]; exact HT8.out.2.1, HT8.out.2.2.1⟩, ⟨Only.refl _ _⟩⟩
      case round =>
        obtain ⟨k, rfl, hkl, HGK, HBK, HOW⟩ := hrel
        have r5 := (HOW.out.cell (p := ⟨p, 5, none⟩) hpl8 (by simp; exact HNE.out.2.1)).trans q5
        by_cases hlt : k < T.tok.length
        · obtain ⟨x, hx⟩ : ∃ x, x = T.tok[k] := ⟨_, rfl⟩
          have hc := HBK.out.1.cell k (tokK_at hlt)
          have hf := HBK.out.1.frozen k (tokK_at hlt)
          have hx0 := HN.out.tk T.tok[k] (List.getElem_mem hlt)
          rw [← hx] at hc hx0
          have HX := Aside0.mk hx
          have s1 : IntKind.i64.wrap (x + 1) = x + 1 := IntWalk.i64_in _ (by have := HN.out.pos; omega)
          clear hx hx0
          go_wp2
          go_roundg (T.tok.length - (k + 1))
          case measure => have := HGK.out; omega
          case rel =>
            refine ⟨k + 1, by go_num, by omega, ⟨by omega⟩, ⟨?_, HBK.out.2.set _ _⟩, ⟨HOW.out.set (p := ⟨tb, k, none⟩) _ (.inl (by simp))⟩⟩
            have h1 := HBK.out.1.set k (.int .i64 (x + 1))
            rw [HX.out, tokK_set hlt] at h1
            rw [HX.out]
            exact h1
        · obtain rfl : k = T.tok.length := by omega
          go_wp2
          refine bodyPost_ret (v := .tuple #[]) (by simp [results, Try.results19, go_sem]; try rfl) rfl ?_
          have hb9 := HBK.out.1
          rw [tokK_all] at hb9
          refine ⟨rfl, ⟨⟨cap, by show (T.tok.map (· + 1)).length ≤ cap; rw [List.length_map]; exact hcap, ?_⟩, HT8.out.2.2.2.only HOW.out (by simp; exact HNE.out.2.1), hb9, ?_, ?_, srt_off HT.out.srt⟩, (HO.out.mono (by simp)).trans (HOW.out.mono (by simp))⟩
          · show Blk wr p [_, _, _, _, _, .slice (some ⟨tb, 0, none⟩) (T.tok.map (· + 1)).length cap, _, .int .i64 ((szs (T.l.map off) : Nat) : Int)]
            rw [List.length_map, szs_off]
            exact HT8.out.1.only HOW.out (by simp; exact HNE.out.2.1)
          · exact HBK.out.2
          · exact HM8.out.only HOW.out (by simp; exact HNE.out.2.2) (by simp; exact HT8.out.2.2.1.ne (by decide))
    · intro key v L' w5 hp hr5 ho5 hs5 hen
      obtain ⟨c, l', hp1, hkv, hp2⟩ := map_perm_cons hp
      have hc : c ∈ T.l := HP.out.mem_iff.1 (List.mem_append_right _ (hp1.mem_iff.2 List.mem_cons_self))
      obtain ⟨x1, cs, x2, x3⟩ := HCE.out c hc
      obtain ⟨Ac, ccp, rfl, hbk⟩ := ccs_of x3
      have hgc : g c = (.string c.e.key, .agg (ccs c Ac ccp).toArray) := by rw [← x1, ← x2]
      have hkv2 := hkv.trans hgc
      simp only [Prod.mk.injEq] at hkv2
      obtain ⟨rfl, rfl⟩ := hkv2
      have ho5' : Only [mb] w w5 := HO.out.then_ ho5 (fun i hi => by simp at hi; subst hi; exact .inr (Nat.le_refl _))
      have HR5 := Aside0.mk hr5
      have HO5 := Aside0.mk ho5'
      have HGC := Aside0.mk (And.intro hgc (And.intro hp1 hp2))
      have hck : c.e.key.size ≤ 140737488351232 := by have := (HN.out.ky c hc).1; omega
      have q4 : w5.cell? ⟨p, 4, none⟩ = some (.map (some mb)) := (ho5'.cell (p := ⟨p, 4, none⟩) hpl (by simp; exact HNE.out.1)).trans p4
      have hpl5 : p < w5.heap.size := Nat.lt_of_lt_of_le hpl ho5'.size
      have hml5 : mb < w5.heap.size := Nat.lt_of_lt_of_le hml ho5'.size
      clear hp hr5 ho5 hs5 hp1 hkv hp2 hc x1 x2 x3 hbk hgc ho5' HR HO p4
      obtain ⟨⟨ck, ⟨t1, t2, t3⟩, ⟨vh, vb⟩⟩, cw, cc, cu⟩ := c
      dsimp only [ccs] at hen hck
      go_upto_region 5 with (fail)
      obtain ⟨W7, hW7⟩ : ∃ W7 : World, W7 = w5.alloc (.cells #[.string ck, .int .i64 t1, .int .i64 t2, .int .i64 t3, .bool vh, .slice Ac vb.length ccp, .bool false, .bool cc, .int .i64 cu] 47) := ⟨_, rfl⟩
      rw [← hW7]
      have HB7 : Aside0 (Below w5.heap.size w5 W7) := ⟨by rw [hW7]; exact below_alloc (Below.refl _ _) _⟩
      have hX7 : Blk W7 w5.heap.size [.string ck, .int .i64 t1, .int .i64 t2, .int .i64 t3, .bool vh, .slice Ac vb.length ccp, .bool false, .bool cc, .int .i64 cu] := by rw [hW7]; exact Blk.new _ _ _
      obtain ⟨⟨x0, x1, x2, x3, x4, x5, x6, x7, x8⟩, fx⟩ := hX7.nine
      have r4 := pw_cell_below HB7.out q4
      have hR7 := (HR5.out.below HB7.out).below (below_drew (Below.refl _ W7))
      have HG1 := HGC.out.1
      dsimp only [ccs] at HG1
      obtain ⟨w6, hput, hR6, hg6⟩ := hR7.put lawK Try.underlying81 (.agg #[.string ck, .int .i64 t1, .int .i64 t2, .int .i64 t3, .bool vh, .slice Ac vb.length ccp, .bool false, .bool cc, .int .i64 cu]) (keyS hck) (R := Dc.map fun c => offV (g c)) (List.Perm.refl _)
      have H6 := Aside0.mk (And.intro hR6 hg6)
      have HG1 := Aside0.mk HG1
      clear hW7 hX7 fx q4 hen hR7 hR6 hg6
      refine Tags.region_tail 6 (by kernel_rfl) (by kernel_rfl) ?_
      simp only [List.take_succ_cons, List.take_zero, List.drop_succ_cons, List.drop_zero]
      still_step
      still_step
      still_step
      still_step
      still_step
      still_step
      refine wpStill_nil ?_
      go_wp2
      go_roundg l'.length
      case measure => have h1 := HGL.out; have h2 := HGC.out.2.1.length_eq; rw [List.length_cons] at h2; omega
      case rel =>
        refine ⟨⟨⟨ck, ⟨t1, t2, t3⟩, ⟨vh, vb⟩⟩, cw, cc, cu⟩ :: Dc, l', ⟨?_⟩, ⟨?_⟩, ⟨rfl⟩, ⟨(HO5.out.on HB7.out).drew.trans (only_grown H6.out.2 (by simp))⟩⟩
        · refine H6.out.1.perm ?_ HGC.out.2.2
          rw [List.map_cons, HG1.out]
          exact List.Perm.refl _
        · exact (List.Perm.trans (by rw [List.cons_append]; exact List.perm_middle.symm) ((HGC.out.2.1.symm).append_left Dc)).trans HP.out
end Tab
end Go.Proofs.Ytgfjkpnaabiecaa
