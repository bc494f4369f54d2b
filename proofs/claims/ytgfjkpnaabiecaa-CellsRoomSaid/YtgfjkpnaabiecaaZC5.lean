/- Lemmas for the row (words on memory, contracts of the program's functions): TabDone, TabLaw, LawQP, LawGP. -/
import Derived.Test.YtgfjkpnaabiecaaZC4
set_option linter.unusedVariables false
set_option linter.unusedSimpArgs false
namespace Go.Proofs.Ytgfjkpnaabiecaa
open Go.RowKit Go.Proofs.YtgfjkpnaabiecaaW.PrintWords
namespace Tab
open Tags
def stepT (T : Tb) (d : Do) : Tb := if d.kind = 1 then queryT T d.e.key else if d.kind = 2 then storeT T d.e else if d.kind = 3 then fillT T d.e d.token else if d.kind = 4 then cleanT T d.e.key d.e.tag else if d.kind = 6 then forgetT T else evictT T d.e.key
def stepR (T : Tb) (d : Do) : Reply := if d.kind = 1 then queryR T d.e.key else Reply.z
def stepB (T : Tb) (d : Do) : Bool := if d.kind = 1 then false else if d.kind = 2 then false else if d.kind = 3 then fillB T d.e d.token else if d.kind = 4 then (cleanOn T d.e.key d.e.tag).isSome else if d.kind = 6 then false else evictB T d.e.key
def stepE (T : Tb) (d : Do) : Int := if d.kind = 1 then queryE d.e.key else if d.kind = 2 then storeE T d.e else if d.kind = 3 then fillE T d.e d.token else 0
theorem Wf.step {T : Tb} {n : Int} (h : Wf T n) (d : Do) : Wf (stepT T d) (n + 5000) := by
  unfold stepT
  repeat (first | exact h.query_ _ | exact h.store_ _ | exact h.fill_ _ _ | exact h.forget_ | exact h.evict_ _ | exact (h.clean_ _ _).mono (by omega) | split)
def DoneTold (w : World) (p mb tb : Nat) (T : Tb) (d : Do) (e : Ending) (w' : World) : Prop :=
  ∃ cs, e = .returned (.tuple #[.agg cs, .bool (stepB T d), .int .i64 (stepE T d)]) ∧ BK Reply.k w' (stepR T d) cs.toList ∧ TbR w' p mb tb (stepT T d) ∧ Only [p, mb, tb] w w'
/-- Eight cells of a block are written. -/
def set8 (w : World) (b : Nat) (v0 v1 v2 v3 v4 v5 v6 v7 : Value) : World :=
  (((((((w.setCell ⟨b, 0, none⟩ v0).setCell ⟨b, 1, none⟩ v1).setCell ⟨b, 2, none⟩ v2).setCell ⟨b, 3, none⟩ v3).setCell ⟨b, 4, none⟩ v4).setCell ⟨b, 5, none⟩ v5).setCell ⟨b, 6, none⟩ v6).setCell ⟨b, 7, none⟩ v7
theorem set8_only (w : World) (b : Nat) (v0 v1 v2 v3 v4 v5 v6 v7 : Value) : Only [b] w (set8 w b v0 v1 v2 v3 v4 v5 v6 v7) :=
  (((((((((Only.refl [b] w).set (p := ⟨b, 0, none⟩) _ (.inl (by simp))).set (p := ⟨b, 1, none⟩) _ (.inl (by simp))).set (p := ⟨b, 2, none⟩) _ (.inl (by simp))).set (p := ⟨b, 3, none⟩) _ (.inl (by simp))).set (p := ⟨b, 4, none⟩) _ (.inl (by simp))).set (p := ⟨b, 5, none⟩) _ (.inl (by simp))).set (p := ⟨b, 6, none⟩) _ (.inl (by simp))).set (p := ⟨b, 7, none⟩) _ (.inl (by simp)))
theorem set8_ty {w : World} {t : TypeId} {b k : Nat} (h : Ty w t k) (v0 v1 v2 v3 v4 v5 v6 v7 : Value) : Ty (set8 w b v0 v1 v2 v3 v4 v5 v6 v7) t k := (((((((h.set _ _).set _ _).set _ _).set _ _).set _ _).set _ _).set _ _).set _ _
theorem set8_blk {w : World} {b : Nat} {u0 u1 u2 u3 u4 u5 u6 u7 : Value} (h : Blk w b [u0, u1, u2, u3, u4, u5, u6, u7]) (v0 v1 v2 v3 v4 v5 v6 v7 : Value) : Blk (set8 w b v0 v1 v2 v3 v4 v5 v6 v7) b [v0, v1, v2, v3, v4, v5, v6, v7] :=
  (((((((h.set 0 v0).set 1 v1).set 2 v2).set 3 v3).set 4 v4).set 5 v5).set 6 v6).set 7 v7
/-- The two boxes of done: d's, and the result's. -/
structure DB (w : World) (d : Do) (A : Option Addr) (c : Nat) (w1 : World) : Prop where
  d : Blk w1 w.heap.size (dcs d A c)
  r : Blk w1 (w.heap.size + 1) [.string ByteArray.empty, .int .i64 0, .int .i64 0, .int .i64 0, .bool false, .slice none 0 0, .bool false, .int .i64 0]
  rt : Ty w1 52 (w.heap.size + 1)
theorem DB.only {w w1 w2 : World} {d : Do} {A : Option Addr} {c : Nat} {S : List Nat} (h : DB w d A c w1) (o : Only S w1 w2) (hS : ∀ i ∈ S, i < w.heap.size) : DB w d A c w2 := by
  have n1 : w.heap.size ∉ S := fun hm => by have := hS _ hm; omega
  have n2 : w.heap.size + 1 ∉ S := fun hm => by have := hS _ hm; omega
  exact ⟨h.d.only o n1, h.r.only o n2, h.rt.only o n2⟩
/-- Behind the call: what is handed out, where the reply is none. -/
theorem done_end {w w1 : World} {p mb tb : Nat} {T' : Tb} {d : Do} {A : Option Addr} {c : Nat} (hD : DB w d A c w1) (hT : TbR w1 p mb tb T') (hlt : ∀ i ∈ [p, mb, tb], i < w.heap.size) (o : Only [p, mb, tb] w w1) :
    BK Reply.k (set8 w1 (w.heap.size + 1) (.string ByteArray.empty) (.int .i64 0) (.int .i64 0) (.int .i64 0) (.bool false) (.slice none 0 0) (.bool false) (.int .i64 0)) Reply.z [.string ByteArray.empty, .int .i64 0, .int .i64 0, .int .i64 0, .bool false, .slice none 0 0, .bool false, .int .i64 0] ∧ TbR (set8 w1 (w.heap.size + 1) (.string ByteArray.empty) (.int .i64 0) (.int .i64 0) (.int .i64 0) (.bool false) (.slice none 0 0) (.bool false) (.int .i64 0)) p mb tb T' ∧ Only [p, mb, tb] w (set8 w1 (w.heap.size + 1) (.string ByteArray.empty) (.int .i64 0) (.int .i64 0) (.int .i64 0) (.bool false) (.slice none 0 0) (.bool false) (.int .i64 0)) := by
  have h8 := set8_only w1 (w.heap.size + 1) (.string ByteArray.empty) (.int .i64 0) (.int .i64 0) (.int .i64 0) (.bool false) (.slice none 0 0) (.bool false) (.int .i64 0)
  have g1 := hlt p (by simp)
  have g2 := hlt mb (by simp)
  have g3 := hlt tb (by simp)
  refine ⟨bk_repz _, hT.only h8 (by simp; omega) (by simp; omega) (by simp; omega) (fun i hi => by simp at hi; subst hi; exact hD.rt.ne (by decide)), o.then_ h8 (fun i hi => by simp at hi; right; omega)⟩
set_option maxRecDepth 100000 in
set_option maxHeartbeats 2000000 in
theorem done_calls (p mb tb : Nat) (T : Tb) (d : Do) (A : Option Addr) (c : Nat) (n : Int) (w : World) (h : TbR w p mb tb T) (hN : Num T n) (hn : n ≤ 2000000000000000000)
    (hF : Kd.FK Entry.k w (fun i => i ∉ [p, mb, tb]) d.e (ecs d.e A c)) (hbl : d.e.val.b.length ≤ 140737488351232) :
    Calls Try.prog 22 #[.pointer (some ⟨p, 0, none⟩), .agg (dcs d A c).toArray] w (DoneTold w p mb tb T d) := by
  have HT := Aside0.mk h
  have HN := Aside0.mk hN
  have HF := Aside0.mk hF
  have HLT : Aside0 (∀ i ∈ [p, mb, tb], i < w.heap.size) := ⟨by
    obtain ⟨l1, l2, l3⟩ := h.lt
    intro i hi
    simp at hi
    rcases hi with rfl | rfl | rfl <;> assumption⟩
  have hks : d.e.key.size ≤ 140737488351232 := by obtain ⟨_, _, _, hks, _⟩ := Entry.open_ (Kd.FK_now hF); exact hks
  have HL := Aside0.mk hbl
  clear h hN hF hbl
  obtain ⟨kd, ⟨xk, ⟨s1, s2, s3⟩, ⟨xh, xb⟩⟩, tk⟩ := d
  dsimp only [dcs] at *
  go_enter Try.func22, Try.ntmps22
  go_upto_region 1 with (fail)
  generalize hX : World.alloc _ _ = W0
  have HW : Aside0 (Below w.heap.size w W0) := ⟨by rw [← hX]; exact below_alloc (below_alloc (Below.refl _ _) _) _⟩
  have HD : Aside0 (DB w ⟨kd, ⟨xk, ⟨s1, s2, s3⟩, ⟨xh, xb⟩⟩, tk⟩ A c W0) := ⟨by rw [← hX]; exact ⟨(Blk.new_ w _ _ rfl (by simp)).alloc _, Blk.new_ _ _ _ (by simp) rfl, ty_new (by simp)⟩⟩
  clear hX
  have HT0 := Aside0.mk (HT.out.below HW.out)
  have HF0 : Aside0 (Kd.FK Entry.k W0 (fun i => i ∉ [p, mb, tb]) ⟨xk, ⟨s1, s2, s3⟩, ⟨xh, xb⟩⟩ (ecs ⟨xk, ⟨s1, s2, s3⟩, ⟨xh, xb⟩⟩ A c)) := ⟨Foot.step HF.out (fun i _ hlt => HW.out.block i hlt)⟩
  have HO := Aside0.mk (Only.of_below [p, mb, tb] HW.out)
  obtain ⟨d0, d1, d2, d3, d4, d5, d6, d7⟩ := HD.out.d.eight.1
  dsimp only at d0 d1 d2 d3 d4 d5 d6 d7
  by_cases h1 : kd = 1
  · subst h1
    have HC := Aside0.mk (query_calls p mb tb T xk n W0 HT0.out HN.out hn hks)
    have HC' : Aside0 (Calls Try.prog 21 #[.pointer (some ⟨p, 0, none⟩), .string xk] W0 fun e w' => ∃ A c, e = .returned (.tuple #[.agg #[.string (queryR T xk).e.key, .int .i64 (queryR T xk).e.tag.seq, .int .i64 (queryR T xk).e.tag.who, .int .i64 (queryR T xk).e.tag.op, .bool (queryR T xk).e.val.has, .slice A (queryR T xk).e.val.b.length c, .bool (queryR T xk).whole, .int .i64 (queryR T xk).token], .int .i64 (queryE xk)]) ∧ BK Reply.k w' (queryR T xk) [.string (queryR T xk).e.key, .int .i64 (queryR T xk).e.tag.seq, .int .i64 (queryR T xk).e.tag.who, .int .i64 (queryR T xk).e.tag.op, .bool (queryR T xk).e.val.has, .slice A (queryR T xk).e.val.b.length c, .bool (queryR T xk).whole, .int .i64 (queryR T xk).token] ∧ TbR w' p mb tb (queryT T xk) ∧ Only [p, mb, tb] W0 w') := ⟨by
      refine HC.out.mono ?_
      rintro e w' ⟨cs, rfl, hbk, ht, ho⟩
      obtain ⟨A', c', he, _⟩ := Reply.open_ hbk.now
      have hcs : cs = cs.toList.toArray := by simp
      rw [he] at hbk
      rw [hcs, he]
      exact ⟨A', c', rfl, hbk, ht, ho⟩⟩
    clear HC
    have HS : Aside0 (∀ (k0 : Int), k0 = 1 → stepT T ⟨k0, ⟨xk, ⟨s1, s2, s3⟩, ⟨xh, xb⟩⟩, tk⟩ = queryT T xk ∧ stepR T ⟨k0, ⟨xk, ⟨s1, s2, s3⟩, ⟨xh, xb⟩⟩, tk⟩ = queryR T xk ∧ stepB T ⟨k0, ⟨xk, ⟨s1, s2, s3⟩, ⟨xh, xb⟩⟩, tk⟩ = false ∧ stepE T ⟨k0, ⟨xk, ⟨s1, s2, s3⟩, ⟨xh, xb⟩⟩, tk⟩ = queryE xk) := ⟨by rintro _ rfl; exact ⟨rfl, rfl, rfl, rfl⟩⟩
    generalize queryR T xk = R at HC' HS
    obtain ⟨⟨rk, ⟨t1, t2, t3⟩, ⟨rh, rb⟩⟩, rw_, rt⟩ := R
    dsimp only at HC'
    go_upto_region 4 with (first | ((with_reducible refine HC'.out.mono ?_); rintro e w1 ⟨A', c', rfl, hbk, h1, o1⟩; have HT1 := Aside0.mk h1; have HBK := Aside0.mk hbk; have HD1 := Aside0.mk (HD.out.only o1 HLT.out); have HO1 := Aside0.mk (HO.out.trans o1); clear hbk h1 o1))
    generalize hX2 : World.alloc _ _ = W2
    have HB2 : Aside0 (Below w1.heap.size w1 W2) := ⟨by rw [← hX2]; exact below_alloc (Below.refl _ _) _⟩
    have hq : Blk W2 w1.heap.size [.string rk, .int .i64 t1, .int .i64 t2, .int .i64 t3, .bool rh, .slice A' rb.length c', .bool rw_, .int .i64 rt] := by rw [← hX2]; exact Blk.new_ _ _ _ rfl rfl
    clear hX2
    have HD2 := Aside0.mk (HD1.out.only (S := []) (Only.of_below [] HB2.out) (by simp))
    obtain ⟨⟨q0, q1, q2, q3, q4, q5, q6, q7⟩, _⟩ := hq.eight
    obtain ⟨⟨r0, r1, r2, r3, r4, r5, r6, r7⟩, f0, f1, f2, f3, f4, f5, f6, f7⟩ := HD2.out.r.eight
    clear hq
    go_wp2
    generalize hW9 : World.setCell _ _ _ = W9
    have h9 := set8_blk HD2.out.r (.string rk) (.int .i64 t1) (.int .i64 t2) (.int .i64 t3) (.bool rh) (.slice A' rb.length c') (.bool rw_) (.int .i64 rt)
    have h8 := set8_only W2 (w.heap.size + 1) (.string rk) (.int .i64 t1) (.int .i64 t2) (.int .i64 t3) (.bool rh) (.slice A' rb.length c') (.bool rw_) (.int .i64 rt)
    rw [show set8 W2 (w.heap.size + 1) (.string rk) (.int .i64 t1) (.int .i64 t2) (.int .i64 t3) (.bool rh) (.slice A' rb.length c') (.bool rw_) (.int .i64 rt) = W9 from hW9] at h9 h8
    clear hW9
    have H8 := Aside0.mk h8
    obtain ⟨⟨z0, z1, z2, z3, z4, z5, z6, z7⟩, _⟩ := h9.eight
    clear h9 h8
    refine bodyPost_ret (v := .tuple #[.agg #[.string rk, .int .i64 t1, .int .i64 t2, .int .i64 t3, .bool rh, .slice A' rb.length c', .bool rw_, .int .i64 rt], .bool false, .int .i64 (queryE xk)]) (by simp [results, Try.results22, go_sem, z0, z1, z2, z3, z4, z5, z6, z7]; try rfl) rfl ?_
    obtain ⟨e1, e2, e3, e4⟩ := HS.out 1 rfl
    have g1 := HLT.out p (by simp)
    have g2 := HLT.out mb (by simp)
    have g3 := HLT.out tb (by simp)
    have hnb : ∀ i ∈ [w.heap.size + 1], ¬ Ty W2 5 i := fun i hi => by simp at hi; subst hi; exact HD2.out.rt.ne (by decide)
    refine ⟨_, by rw [e3, e4], by rw [e2]; exact (HBK.out.below HB2.out).only H8.out hnb, ?_, ?_⟩
    · rw [e1]; exact (HT1.out.below HB2.out).only H8.out (by simp; omega) (by simp; omega) (by simp; omega) hnb
    · exact (HO1.out.on HB2.out).then_ H8.out (fun i hi => by simp at hi; right; omega)
  · have e1 : (kd == 1) = false := by simpa using h1
    by_cases h2 : kd = 2
    · subst h2
      have HC := Aside0.mk (store_calls p mb tb T ⟨xk, ⟨s1, s2, s3⟩, ⟨xh, xb⟩⟩ A c n W0 HT0.out HN.out hn HF0.out HL.out)
      go_wp2_with (first | ((with_reducible refine HC.out.mono ?_); rintro e w1 ⟨rfl, h1, o1⟩; have HT1 := Aside0.mk h1; have HD1 := Aside0.mk (HD.out.only o1 HLT.out); have HO1 := Aside0.mk (HO.out.trans o1); clear h1 o1; obtain ⟨⟨r0, r1, r2, r3, r4, r5, r6, r7⟩, f0, f1, f2, f3, f4, f5, f6, f7⟩ := HD1.out.r.eight))
      generalize hW9 : World.setCell _ _ _ = W9
      have h9 := set8_blk HD1.out.r (.string ByteArray.empty) (.int .i64 0) (.int .i64 0) (.int .i64 0) (.bool false) (.slice none 0 0) (.bool false) (.int .i64 0)
      have hE := done_end HD1.out HT1.out HLT.out HO1.out
      rw [show set8 w1 (w.heap.size + 1) (.string ByteArray.empty) (.int .i64 0) (.int .i64 0) (.int .i64 0) (.bool false) (.slice none 0 0) (.bool false) (.int .i64 0) = W9 from hW9] at h9 hE
      clear hW9
      have HE := Aside0.mk hE
      obtain ⟨⟨z0, z1, z2, z3, z4, z5, z6, z7⟩, _⟩ := h9.eight
      clear h9 hE
      refine bodyPost_ret (v := .tuple #[.agg #[.string ByteArray.empty, .int .i64 0, .int .i64 0, .int .i64 0, .bool false, .slice none 0 0, .bool false, .int .i64 0], .bool false, .int .i64 (storeE T ⟨xk, ⟨s1, s2, s3⟩, ⟨xh, xb⟩⟩)]) (by simp [results, Try.results22, go_sem, z0, z1, z2, z3, z4, z5, z6, z7]; try rfl) rfl ?_
      exact ⟨#[.string ByteArray.empty, .int .i64 0, .int .i64 0, .int .i64 0, .bool false, .slice none 0 0, .bool false, .int .i64 0], by simp [stepB, stepE], by simpa [stepR] using HE.out.1, by simpa [stepT] using HE.out.2.1, HE.out.2.2⟩
    · have e2 : (kd == 2) = false := by simpa using h2
      by_cases h3 : kd = 3
      · subst h3
        have HC := Aside0.mk (fill_calls p mb tb T ⟨xk, ⟨s1, s2, s3⟩, ⟨xh, xb⟩⟩ tk A c n W0 HT0.out HN.out hn HF0.out HL.out)
        go_wp2_with (first | ((with_reducible refine HC.out.mono ?_); rintro e w1 ⟨rfl, h1, o1⟩; have HT1 := Aside0.mk h1; have HD1 := Aside0.mk (HD.out.only o1 HLT.out); have HO1 := Aside0.mk (HO.out.trans o1); clear h1 o1; obtain ⟨⟨r0, r1, r2, r3, r4, r5, r6, r7⟩, f0, f1, f2, f3, f4, f5, f6, f7⟩ := HD1.out.r.eight))
        generalize hW9 : World.setCell _ _ _ = W9
        have h9 := set8_blk HD1.out.r (.string ByteArray.empty) (.int .i64 0) (.int .i64 0) (.int .i64 0) (.bool false) (.slice none 0 0) (.bool false) (.int .i64 0)
        have hE := done_end HD1.out HT1.out HLT.out HO1.out
        rw [show set8 w1 (w.heap.size + 1) (.string ByteArray.empty) (.int .i64 0) (.int .i64 0) (.int .i64 0) (.bool false) (.slice none 0 0) (.bool false) (.int .i64 0) = W9 from hW9] at h9 hE
        clear hW9
        have HE := Aside0.mk hE
        obtain ⟨⟨z0, z1, z2, z3, z4, z5, z6, z7⟩, _⟩ := h9.eight
        clear h9 hE
        refine bodyPost_ret (v := .tuple #[.agg #[.string ByteArray.empty, .int .i64 0, .int .i64 0, .int .i64 0, .bool false, .slice none 0 0, .bool false, .int .i64 0], .bool (fillB T ⟨xk, ⟨s1, s2, s3⟩, ⟨xh, xb⟩⟩ tk), .int .i64 (fillE T ⟨xk, ⟨s1, s2, s3⟩, ⟨xh, xb⟩⟩ tk)]) (by simp [results, Try.results22, go_sem, z0, z1, z2, z3, z4, z5, z6, z7]; try rfl) rfl ?_
        exact ⟨#[.string ByteArray.empty, .int .i64 0, .int .i64 0, .int .i64 0, .bool false, .slice none 0 0, .bool false, .int .i64 0], by simp [stepB, stepE], by simpa [stepR] using HE.out.1, by simpa [stepT] using HE.out.2.1, HE.out.2.2⟩
      · have e3 : (kd == 3) = false := by simpa using h3
        by_cases h4 : kd = 4
        · subst h4
          have HC := Aside0.mk (clean_calls p mb tb T xk s1 s2 s3 W0 HT0.out hks)
          go_wp2_with (first | ((with_reducible refine HC.out.mono ?_); rintro e w1 ⟨rfl, h1, o1⟩; have HT1 := Aside0.mk h1; have HD1 := Aside0.mk (HD.out.only o1 HLT.out); have HO1 := Aside0.mk (HO.out.trans o1); clear h1 o1; obtain ⟨⟨r0, r1, r2, r3, r4, r5, r6, r7⟩, f0, f1, f2, f3, f4, f5, f6, f7⟩ := HD1.out.r.eight))
          generalize hW9 : World.setCell _ _ _ = W9
          have h9 := set8_blk HD1.out.r (.string ByteArray.empty) (.int .i64 0) (.int .i64 0) (.int .i64 0) (.bool false) (.slice none 0 0) (.bool false) (.int .i64 0)
          have hE := done_end HD1.out HT1.out HLT.out HO1.out
          rw [show set8 w1 (w.heap.size + 1) (.string ByteArray.empty) (.int .i64 0) (.int .i64 0) (.int .i64 0) (.bool false) (.slice none 0 0) (.bool false) (.int .i64 0) = W9 from hW9] at h9 hE
          clear hW9
          have HE := Aside0.mk hE
          obtain ⟨⟨z0, z1, z2, z3, z4, z5, z6, z7⟩, _⟩ := h9.eight
          clear h9 hE
          refine bodyPost_ret (v := .tuple #[.agg #[.string ByteArray.empty, .int .i64 0, .int .i64 0, .int .i64 0, .bool false, .slice none 0 0, .bool false, .int .i64 0], .bool (cleanOn T xk ⟨s1, s2, s3⟩).isSome, .int .i64 0]) (by simp [results, Try.results22, go_sem, z0, z1, z2, z3, z4, z5, z6, z7]; try rfl) rfl ?_
          exact ⟨#[.string ByteArray.empty, .int .i64 0, .int .i64 0, .int .i64 0, .bool false, .slice none 0 0, .bool false, .int .i64 0], by simp [stepB, stepE], by simpa [stepR] using HE.out.1, by simpa [stepT] using HE.out.2.1, HE.out.2.2⟩
        · have e4 : (kd == 4) = false := by simpa using h4
          by_cases h6 : kd = 6
          · subst h6
            have HC := Aside0.mk (forget_calls p mb tb T n W0 HT0.out HN.out hn)
            go_wp2_with (first | ((with_reducible refine HC.out.mono ?_); rintro e w1 ⟨rfl, h1, o1⟩; have HT1 := Aside0.mk h1; have HD1 := Aside0.mk (HD.out.only o1 HLT.out); have HO1 := Aside0.mk (HO.out.trans o1); clear h1 o1; obtain ⟨⟨r0, r1, r2, r3, r4, r5, r6, r7⟩, f0, f1, f2, f3, f4, f5, f6, f7⟩ := HD1.out.r.eight))
            generalize hW9 : World.setCell _ _ _ = W9
            have h9 := set8_blk HD1.out.r (.string ByteArray.empty) (.int .i64 0) (.int .i64 0) (.int .i64 0) (.bool false) (.slice none 0 0) (.bool false) (.int .i64 0)
            have hE := done_end HD1.out HT1.out HLT.out HO1.out
            rw [show set8 w1 (w.heap.size + 1) (.string ByteArray.empty) (.int .i64 0) (.int .i64 0) (.int .i64 0) (.bool false) (.slice none 0 0) (.bool false) (.int .i64 0) = W9 from hW9] at h9 hE
            clear hW9
            have HE := Aside0.mk hE
            obtain ⟨⟨z0, z1, z2, z3, z4, z5, z6, z7⟩, _⟩ := h9.eight
            clear h9 hE
            refine bodyPost_ret (v := .tuple #[.agg #[.string ByteArray.empty, .int .i64 0, .int .i64 0, .int .i64 0, .bool false, .slice none 0 0, .bool false, .int .i64 0], .bool false, .int .i64 0]) (by simp [results, Try.results22, go_sem, z0, z1, z2, z3, z4, z5, z6, z7]; try rfl) rfl ?_
            exact ⟨#[.string ByteArray.empty, .int .i64 0, .int .i64 0, .int .i64 0, .bool false, .slice none 0 0, .bool false, .int .i64 0], by simp [stepB, stepE], by simpa [stepR] using HE.out.1, by simpa [stepT] using HE.out.2.1, HE.out.2.2⟩
          · have e6 : (kd == 6) = false := by simpa using h6
            have HH := Aside0.mk (And.intro h1 (And.intro h2 (And.intro h3 (And.intro h4 h6))))
            clear h1 h2 h3 h4 h6
            have HC := Aside0.mk (evict_calls p mb tb T xk n W0 HT0.out HN.out hn hks)
            go_wp2_with (first | ((with_reducible refine HC.out.mono ?_); rintro e w1 ⟨rfl, h1, o1⟩; have HT1 := Aside0.mk h1; have HD1 := Aside0.mk (HD.out.only o1 HLT.out); have HO1 := Aside0.mk (HO.out.trans o1); clear h1 o1; obtain ⟨⟨r0, r1, r2, r3, r4, r5, r6, r7⟩, f0, f1, f2, f3, f4, f5, f6, f7⟩ := HD1.out.r.eight))
            generalize hW9 : World.setCell _ _ _ = W9
            have h9 := set8_blk HD1.out.r (.string ByteArray.empty) (.int .i64 0) (.int .i64 0) (.int .i64 0) (.bool false) (.slice none 0 0) (.bool false) (.int .i64 0)
            have hE := done_end HD1.out HT1.out HLT.out HO1.out
            rw [show set8 w1 (w.heap.size + 1) (.string ByteArray.empty) (.int .i64 0) (.int .i64 0) (.int .i64 0) (.bool false) (.slice none 0 0) (.bool false) (.int .i64 0) = W9 from hW9] at h9 hE
            clear hW9
            have HE := Aside0.mk hE
            obtain ⟨⟨z0, z1, z2, z3, z4, z5, z6, z7⟩, _⟩ := h9.eight
            clear h9 hE
            refine bodyPost_ret (v := .tuple #[.agg #[.string ByteArray.empty, .int .i64 0, .int .i64 0, .int .i64 0, .bool false, .slice none 0 0, .bool false, .int .i64 0], .bool (evictB T xk), .int .i64 0]) (by simp [results, Try.results22, go_sem, z0, z1, z2, z3, z4, z5, z6, z7]; try rfl) rfl ?_
            exact ⟨#[.string ByteArray.empty, .int .i64 0, .int .i64 0, .int .i64 0, .bool false, .slice none 0 0, .bool false, .int .i64 0], by simp [stepB, stepE, HH.out], by simpa [stepR, HH.out] using HE.out.1, by simpa [stepT, HH.out] using HE.out.2.1, HE.out.2.2⟩
end Tab
end Go.Proofs.Ytgfjkpnaabiecaa
set_option linter.unusedVariables false
set_option linter.unusedSimpArgs false
namespace Go.Proofs.Ytgfjkpnaabiecaa
open Go.RowKit Go.Proofs.YtgfjkpnaabiecaaW.PrintWords
namespace Tab
open Tags
/-- A table of the call's own. -/
structure LS (w : World) (p mb tb : Nat) (T : Tb) (wr : World) : Prop where
  t : TbR wr p mb tb T
  bl : Below w.heap.size w wr
  g : w.heap.size ≤ p ∧ w.heap.size ≤ mb ∧ w.heap.size ≤ tb
namespace LS
variable {w wr w1 : World} {p mb tb : Nat} {T T' : Tb}
theorem below (h : LS w p mb tb T wr) (k : Below wr.heap.size wr w1) : LS w p mb tb T w1 := ⟨h.t.below k, Below.then_ h.bl k (Nat.le_refl _), h.g⟩
theorem told (h : LS w p mb tb T wr) (ht : TbR w1 p mb tb T') (o : Only [p, mb, tb] wr w1) : LS w p mb tb T' w1 :=
  ⟨ht, ((Only.of_below [p, mb, tb] h.bl).trans o).below (by intro i hi; obtain ⟨g1, g2, g3⟩ := h.g; simp at hi; rcases hi with rfl | rfl | rfl <;> assumption) (Nat.le_refl _), h.g⟩
theorem only {S : List Nat} (h : LS w p mb tb T wr) (o : Only S wr w1) (h1 : p ∉ S) (h2 : mb ∉ S) (h3 : tb ∉ S) (hn : ∀ i ∈ S, ¬ Ty wr 5 i) (hS : ∀ i ∈ S, w.heap.size ≤ i) : LS w p mb tb T w1 :=
  ⟨h.t.only o h1 h2 h3 hn, ((Only.of_below S h.bl).trans o).below hS (Nat.le_refl _), h.g⟩
/-- An elder entry may be stored. -/
theorem storeF {A : Option Addr} {c : Nat} {e : Entry} (h : LS w p mb tb T wr) (he : Entry.k.K w e (ecs e A c)) : Kd.FK Entry.k wr (fun i => i ∉ [p, mb, tb]) e (ecs e A c) := by
  obtain ⟨g1, g2, g3⟩ := h.g
  refine Foot.mono (Foot.step (ent_old he) (fun i _ hlt => h.bl.block i hlt)) (fun i hi hm => ?_)
  simp at hm
  omega
theorem lt (h : LS w p mb tb T wr) : ∀ i ∈ [p, mb, tb], i < wr.heap.size := by
  obtain ⟨l1, l2, l3⟩ := h.t.lt
  intro i hi
  simp at hi
  rcases hi with rfl | rfl | rfl <;> assumption
end LS
def runT (T : Tb) (xs : List Do) (k : Nat) : Tb := (xs.take k).foldl stepT T
theorem runT_succ {T : Tb} {xs : List Do} {k : Nat} {x : Do} (h : xs[k]? = some x) : runT T xs (k + 1) = stepT (runT T xs k) x := by
  unfold runT
  rw [List.take_add_one, h, List.foldl_append]
  rfl
theorem Wf.run {T : Tb} {n : Int} (h : Wf T n) (xs : List Do) (k : Nat) : Wf (runT T xs k) (n + 5000 * (k : Int)) := by
  induction k with
  | zero => exact h.mono (by simp)
  | succ k ih =>
    cases hx : xs[k]? with
    | none =>
      have : runT T xs (k + 1) = runT T xs k := by
        unfold runT
        rw [List.take_add_one, hx]; simp
      rw [this]
      exact ih.mono (by omega)
    | some x =>
      rw [runT_succ hx]
      exact (ih.step x).mono (by omega)
theorem Wf.tok_len {T : Tb} {n : Int} (h : Wf T n) : 0 < T.tok.length ∧ T.tok.length ≤ 256 := by
  obtain ⟨_, _, _, _, h5, h6⟩ := h.rm
  have := h.tl
  omega
theorem Wf.tok_in {T : Tb} {n : Int} (h : Wf T n) (hn : n ≤ 4000000000000000000) : ∀ x ∈ T.tok, InR .i64 x := fun x hx => by
  have := h.tk x hx
  exact InR.mk64 (by omega) (by omega)
theorem new_ok {r : Room} (hb : RoomOk r) (w' : World) : Calls Try.prog 10 #[.agg #[.int .i64 r.cells, .int .i64 r.bytes, .int .i64 r.buckets, .bool r.fresh]] w' fun e w'' => ∃ p mb tb, e = .returned (.tuple #[.pointer (some ⟨p, 0, none⟩), .int .i64 0]) ∧ LS w' p mb tb (newT r) w'' := by
  refine (new_calls r w').mono ?_
  intro e w'' h
  unfold NewTold at h
  rw [if_pos hb] at h
  obtain ⟨p, mb, tb, rfl, h1, h2, h3, h4, h5⟩ := h
  exact ⟨p, mb, tb, rfl, h1, h5, h2, h3, h4⟩
theorem new_no {r : Room} (hb : ¬ RoomOk r) (w' : World) : Calls Try.prog 10 #[.agg #[.int .i64 r.cells, .int .i64 r.bytes, .int .i64 r.buckets, .bool r.fresh]] w' fun e w'' => e = .returned (.tuple #[.pointer none, .int .i64 2]) ∧ Below w'.heap.size w' w'' := by
  refine (new_calls r w').mono ?_
  intro e w'' h
  unfold NewTold at h
  rw [if_neg hb] at h
  exact h
theorem LS.elder {w w0 : World} {p mb tb : Nat} {T : Tb} {wr : World} (h : LS w0 p mb tb T wr) (hb : Below w.heap.size w w0) : LS w p mb tb T wr := by
  have hs := hb.size
  obtain ⟨g1, g2, g3⟩ := h.g
  exact ⟨h.t, Below.then_ hb h.bl (Nat.le_refl _), by omega, by omega, by omega⟩
abbrev rcs (R : Reply) (A : Option Addr) (c : Nat) : List Value := [.string R.e.key, .int .i64 R.e.tag.seq, .int .i64 R.e.tag.who, .int .i64 R.e.tag.op, .bool R.e.val.has, .slice A R.e.val.b.length c, .bool R.whole, .int .i64 R.token]
theorem queryC_calls (p mb tb : Nat) (T : Tb) (k : ByteArray) (n : Int) (w : World) (h : TbR w p mb tb T) (hN : Num T n) (hn : n ≤ 2000000000000000000) (hk : k.size ≤ 140737488351232) :
    Calls Try.prog 21 #[.pointer (some ⟨p, 0, none⟩), .string k] w fun e w' => ∃ A c, e = .returned (.tuple #[.agg (rcs (queryR T k) A c).toArray, .int .i64 (queryE k)]) ∧ BK Reply.k w' (queryR T k) (rcs (queryR T k) A c) ∧ TbR w' p mb tb (queryT T k) ∧ Only [p, mb, tb] w w' := by
  refine (query_calls p mb tb T k n w h hN hn hk).mono ?_
  rintro e w' ⟨cs, rfl, hbk, ht, ho⟩
  obtain ⟨A', c', he, _⟩ := Reply.open_ hbk.now
  have hcs : cs = cs.toList.toArray := by simp
  rw [he] at hbk
  rw [hcs, he]
  exact ⟨A', c', rfl, hbk, ht, ho⟩
/-- A box that holds a reply. -/
structure RB (wr : World) (b : Nat) (R : Reply) (A : Option Addr) (c : Nat) : Prop where
  blk : Blk wr b (rcs R A c)
  ty : Ty wr 52 b
  k : BK Reply.k wr R (rcs R A c)
namespace RB
variable {wr w1 : World} {b : Nat} {R : Reply} {A : Option Addr} {c : Nat}
theorem only {S : List Nat} (h : RB wr b R A c) (o : Only S wr w1) (hb : b ∉ S) (hn : ∀ i ∈ S, ¬ Ty wr 5 i) : RB w1 b R A c := ⟨h.blk.only o hb, h.ty.only o hb, h.k.only o hn⟩
theorem below (h : RB wr b R A c) (k : Below wr.heap.size wr w1) : RB w1 b R A c := h.only (S := []) (Only.of_below [] k) (by simp) (by simp)
theorem new (h : BK Reply.k wr R (rcs R A c)) : RB (wr.alloc (.cells (rcs R A c).toArray 52)) wr.heap.size R A c :=
  ⟨Blk.new_ _ _ _ rfl (by simp), ty_new rfl, h.below (below_alloc (Below.refl _ _) _)⟩
theorem bytes (h : RB wr b R A c) : kU8.C wr A R.e.val.b.length R.e.val.b := by
  obtain ⟨A6, c6, he, _, _, _, _, _, g5, _⟩ := Reply.open_ h.k.now
  simp only [List.cons.injEq, Value.slice.injEq, true_and, and_true] at he
  obtain ⟨rfl, rfl⟩ := he
  exact g5
theorem told {p mb tb : Nat} {T : Tb} (h : RB wr b R A c) (ht : TbR wr p mb tb T) (o : Only [p, mb, tb] wr w1) : RB w1 b R A c := by
  have n1 := ht.pty
  have n2 := ht.tty
  have n3 := ht.map.noTy
  refine h.only o (fun hm => ?_) ht.noB
  simp at hm
  rcases hm with rfl | rfl | rfl
  · exact (h.ty.ne (t' := 83) (by decide)) n1
  · exact n3 _ h.ty
  · exact (h.ty.ne (t' := 3) (by decide)) n2
end RB
end Tab
end Go.Proofs.Ytgfjkpnaabiecaa
set_option linter.unusedVariables false
set_option linter.unusedSimpArgs false
namespace Go.Proofs.Ytgfjkpnaabiecaa
open Go.RowKit Go.Proofs.YtgfjkpnaabiecaaW.PrintWords
namespace Tab
open Tags
theorem queryT_none {T : Tb} {k : ByteArray} (h : find T.l k = none) : queryT T k = T := by
  unfold queryT
  rw [h]
  split <;> rfl
theorem queryT_some {T : Tb} {k : ByteArray} {c : Cell} (hk : KeyOk k) (h : find T.l k = some c) : queryT T k = lay T c := by
  unfold queryT
  rw [if_pos hk, h]
theorem find_lay {T : Tb} {c : Cell} (hs : Srt T.l) : find (lay T c).l c.e.key = some { c with used := T.uses + 1 } := by
  show find (put T.l _) c.e.key = _
  rw [find_put hs, if_pos rfl]
/-- Asked twice the same is told. -/
theorem queryR_twice {T : Tb} {k : ByteArray} (hs : Srt T.l) (hk : KeyOk k) : queryR (queryT T k) k = queryR T k := by
  cases hf : find T.l k with
  | none => rw [queryT_none hf]
  | some c =>
    obtain ⟨_, rfl⟩ := find_mem hf
    rw [queryT_some hk hf]
    unfold queryR
    rw [if_pos hk, if_pos hk, find_lay hs, hf]
    rfl
theorem queryT_len {T : Tb} (k : ByteArray) (hs : Srt T.l) : (queryT T k).l.length = T.l.length ∧ szs (queryT T k).l = szs T.l := by
  by_cases hk : KeyOk k
  · cases hf : find T.l k with
    | none => rw [queryT_none hf]; exact ⟨rfl, rfl⟩
    | some c =>
      obtain ⟨_, rfl⟩ := find_mem hf
      rw [queryT_some hk hf]
      exact Wf.put_same (d := { c with used := T.uses + 1 }) hs hf rfl
  · unfold queryT; rw [if_neg hk]; exact ⟨rfl, rfl⟩
theorem queryR_key {T : Tb} {k : ByteArray} (hk : KeyOk k) : (queryR T k).e.key = k := by
  unfold queryR
  rw [if_pos hk]
  cases hf : find T.l k with
  | none => rfl
  | some c => exact (find_mem hf).2
/-- A cell of the key that is asked for is what is told. -/
theorem queryR_cell {T : Tb} {k : ByteArray} {c : Cell} (hs : Srt T.l) (hk : KeyOk k) (hc : c ∈ T.l) (he : c.e.key = k) : (queryR T k).e = c.e := by
  subst he
  unfold queryR
  rw [if_pos hk, find_of hs hc]
theorem srt_query {T : Tb} (k : ByteArray) (hs : Srt T.l) : Srt (queryT T k).l := by
  unfold queryT
  split
  · split
    · exact srt_put hs
    · exact hs
  · exact hs
def hasK (l : List Cell) (k : ByteArray) : Bool := l.any (fun c => decide (c.e.key = k))
theorem hasK_snoc {l : List Cell} {k : ByteArray} {i : Nat} {c : Cell} (h : l[i]? = some c) : hasK (l.take (i + 1)) k = (hasK (l.take i) k || decide (c.e.key = k)) := by
  unfold hasK
  rw [List.take_add_one, h, List.any_append]
  simp
/-- It is there, or nothing is told. -/
theorem queryR_is {T : Tb} {k : ByteArray} (hk : KeyOk k) (h : hasK T.l k = false) : (queryR T k).e.tag.seq = 0 ∧ (queryR T k).e.val.has = false := by
  have hf : find T.l k = none := find_no (fun c hc e => by
    unfold hasK at h
    rw [List.any_eq_false] at h
    exact h c hc (by simpa using e))
  unfold queryR
  rw [if_pos hk, hf]
  exact ⟨rfl, rfl⟩
end Tab
end Go.Proofs.Ytgfjkpnaabiecaa
set_option linter.unusedVariables false
set_option linter.unusedSimpArgs false
namespace Go.Proofs.Ytgfjkpnaabiecaa
open Go.RowKit Go.Proofs.YtgfjkpnaabiecaaW.PrintWords
namespace Tab
open Tags
theorem make_room (T : Tb) (e : Entry) : (makeT T e).room = T.room := by
  unfold makeT
  split
  · exact drops_room _ _
  · rfl
theorem step_room (T : Tb) (d : Do) : (stepT T d).room = T.room := by
  unfold stepT queryT storeT fillT cleanT evictT
  repeat (first | rfl | exact make_room _ _ | (show (lay (makeT T d.e) _).room = _; exact make_room _ _) | split)
theorem run_room (T : Tb) (xs : List Do) (k : Nat) : (runT T xs k).room = T.room := by
  unfold runT
  generalize xs.take k = l
  induction l generalizing T with
  | nil => rfl
  | cons x r ih => rw [List.foldl_cons, ih, step_room]
theorem query_tok (T : Tb) (k : ByteArray) : (queryT T k).tok = T.tok ∧ (queryT T k).room = T.room := by
  unfold queryT
  repeat (first | exact ⟨rfl, rfl⟩ | split)
theorem tokAt_off {T : Tb} {n : Int} (w : Wf T n) (k : ByteArray) : tokAt (forgetT T) k = tokAt T k + 1 := by
  have hi := KInv.tok_in w k
  show (T.tok.map (· + 1)).getD (Hash.bkt k T.room.buckets).toNat 0 = T.tok.getD (Hash.bkt k T.room.buckets).toNat 0 + 1
  generalize (Hash.bkt k T.room.buckets).toNat = i at *
  simp [List.getD_eq_getElem?_getD, List.getElem?_map, List.getElem?_eq_getElem hi]
/-- What a table that forgot tells. -/
theorem forget_tells {T : Tb} {n : Int} (w : Wf T n) {k : ByteArray} (hk : KeyOk k) : (queryR (forgetT T) k).whole = false ∧ (queryR (forgetT T) k).token = tokAt T k + 1 ∧ 0 ≤ tokAt T k := by
  have h0 := KInv.tok_ge w k
  have h1 := tokAt_off w k
  unfold queryR
  rw [if_pos hk]
  have hf : find (forgetT T).l k = (find T.l k).map off := find_off _ _
  cases hc : find T.l k with
  | some c => rw [hf, hc]; exact ⟨rfl, h1, h0⟩
  | none =>
    rw [hf, hc]
    refine ⟨?_, h1, h0⟩
    show (tokAt (forgetT T) k == 0) = false
    rw [h1]
    have : ¬ tokAt T k + 1 = 0 := by omega
    simpa using this
theorem forget_fills {T : Tb} {n : Int} (w : Wf T n) (k : ByteArray) (e : Entry) (he : e.key = k) : fillB (queryT (forgetT T) k) e (tokAt T k) = false := by
  unfold fillB
  rw [if_neg]
  intro h
  have h2 : tokAt (queryT (forgetT T) k) k = tokAt (forgetT T) k := by
    obtain ⟨a, b⟩ := query_tok (forgetT T) k
    unfold tokAt
    rw [a, b]
  rw [he, h2, tokAt_off w] at h
  omega
theorem forget_toks {T : Tb} {n : Int} (w : Wf T n) (k : ByteArray) : decide ((queryT (forgetT T) k).tok = T.tok) = false := by
  rw [(query_tok _ _).1]
  refine decide_eq_false (fun e => ?_)
  have e2 : T.tok.map (· + 1) = T.tok := e
  have hl := w.tok_len.1
  have h0 : (T.tok.map (· + 1))[0]? = T.tok[0]? := by rw [e2]
  rw [List.getElem?_map, List.getElem?_eq_getElem hl] at h0
  simp at h0
  omega
theorem Foot.both {P Q : World → Prop} {w : World} {ok : Nat → Prop} (h : Foot P w ok) (k : Foot Q w ok) : Foot (fun W => P W ∧ Q W) w ok := fun W' hW => ⟨h W' hW, k W' hW⟩
/-- A row of cells that a call on the table keeps. -/
theorem cells_keep {w w' : World} {p mb tb : Nat} {A : Option Addr} {n : Nat} {l : List Cell} (h : Kd.F Cell.k w' (fun k => w.heap.size ≤ k) A n l) (hlt : ∀ i ∈ [p, mb, tb], i < w.heap.size) :
    Foot (fun W => Cell.k.C W A n l) w' (fun i => i ∉ [p, mb, tb]) := Foot.mono h (fun i hi hm => Nat.not_lt_of_le hi (hlt i hm))
theorem blk_keep {w : World} {g : Nat} {cs : List Value} (h : Blk w g cs) (ok : Nat → Prop) (hg : ok g) : Foot (fun W => Blk W g cs) w ok := fun W' hW => by
  have hb := hW g hg h.1
  refine ⟨?_, fun i v e => ⟨?_, ?_⟩⟩
  · rcases Nat.lt_or_ge g W'.heap.size with h1 | h1
    · exact h1
    · exfalso
      rw [Array.getElem?_eq_none h1, Array.getElem?_eq_getElem h.1] at hb
      cases hb
  · exact (World.cell?_of_block (w := w) hb).trans (h.2 i v e).1
  · exact (World.frozen?_of_block (w := w) hb).trans (h.2 i v e).2
theorem tok_keep {w w' : World} {p mb tb g : Nat} {tok : List Int} (h : Blk w' g (tok.map (Value.int .i64))) (hg : w.heap.size ≤ g) (hlt : ∀ i ∈ [p, mb, tb], i < w.heap.size) (hr : ∀ x ∈ tok, InR .i64 x) (hl : tok.length ≤ 1000000) :
    Foot (fun W => (kInt .i64).C W (some ⟨g, 0, none⟩) tok.length tok) w' (fun i => i ∉ [p, mb, tb]) :=
  Foot.imp (blk_keep h _ (fun hm => Nat.not_lt_of_le hg (hlt g hm))) (fun W' hB => blk_ints hB hr hl)
end Tab
end Go.Proofs.Ytgfjkpnaabiecaa
