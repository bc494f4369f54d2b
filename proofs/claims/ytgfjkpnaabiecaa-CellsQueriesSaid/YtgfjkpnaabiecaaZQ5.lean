/- Lemmas for the row (words on memory, contracts of the program's functions): TabDone, TabLaw, LawQP, LawQ, Bridge, KindsCR, TabY0, LawQR. -/
import Derived.Deep.Slices
import Derived.ChangeArms
import Derived.SizedLaws
import Derived.Test.YtgfjkpnaabiecaaZQ4
set_option linter.unusedVariables false
set_option linter.unusedSimpArgs false
namespace Go.Proofs.Ytgfjkpnaabiecaa
open Go.RowKit Go.Proofs.YtgfjkpnaabiecaaW.PrintWords
namespace Tab
open Tags
def stepT (T : Tb) (d : Do) : Tb := if d.kind = 1 then queryT T d.e.key else if d.kind = 2 then storeT T d.e else if d.kind = 3 then fillT T d.e d.token else if d.kind = 4 then cleanT T d.e.key d.e.tag else if d.kind = 6 then forgetT T else evictT T d.e.key
def stepR (T : Tb) (d : Do) : Reply := if d.kind = 1 then queryR T d.e.key else Reply.z
def stepB (T : Tb) (d : Do) : Bool := if d.kind = 1 then false else if d.kind = 2 then false else if d.kind = 3 then fillB T d.e d.token else if d.kind = 4 then (cleanOn T d.e.key d.e.tag).isSome else if d.kind = 6 then false else evictB T d.e.key
def stepE (T : Tb) (d : Do) : Int := if d.kind = 1 then queryE d.e.key else if d.kind = 2 then storeE T d.e else if d.kind = 3 then fillE T d.e d.token else 0
theorem Wf.step {T : Tb} {n : Int} (h : Wf T n) (d : Do) : Wf (stepT T d) (n + 5000) := by
  unfold stepT
  repeat (first | exact h.query_ _ | exact h.store_ _ | exact h.fill_ _ _ | exact h.forget_ | exact h.evict_ _ | exact (h.clean_ _ _).mono (by omega) | split)
def DoneTold (w : World) (p mb tb : Nat) (T : Tb) (d : Do) (e : Ending) (w' : World) : Prop :=
  ∃ cs, e = .returned (.tuple #[.agg cs, .bool (stepB T d), .int .i64 (stepE T d)]) ∧ BK Reply.k w' (stepR T d) cs.toList ∧ TbR w' p mb tb (stepT T d) ∧ Only [p, mb, tb] w w'
/-- Eight cells of a block are written. -/
def set8 (w : World) (b : Nat) (v0 v1 v2 v3 v4 v5 v6 v7 : Value) : World :=
  (((((((w.setCell ⟨b, 0, none⟩ v0).setCell ⟨b, 1, none⟩ v1).setCell ⟨b, 2, none⟩ v2).setCell ⟨b, 3, none⟩ v3).setCell ⟨b, 4, none⟩ v4).setCell ⟨b, 5, none⟩ v5).setCell ⟨b, 6, none⟩ v6).setCell ⟨b, 7, none⟩ v7
theorem set8_only (w : World) (b : Nat) (v0 v1 v2 v3 v4 v5 v6 v7 : Value) : Only [b] w (set8 w b v0 v1 v2 v3 v4 v5 v6 v7) :=
  (((((((((Only.refl [b] w).set (p := ⟨b, 0, none⟩) _ (.inl (by simp))).set (p := ⟨b, 1, none⟩) _ (.inl (by simp))).set (p := ⟨b, 2, none⟩) _ (.inl (by simp))).set (p := ⟨b, 3, none⟩) _ (.inl (by simp))).set (p := ⟨b, 4, none⟩) _ (.inl (by simp))).set (p := ⟨b, 5, none⟩) _ (.inl (by simp))).set (p := ⟨b, 6, none⟩) _ (.inl (by simp))).set (p := ⟨b, 7, none⟩) _ (.inl (by simp)))
theorem set8_ty {w : World} {t : TypeId} {b k : Nat} (h : Ty w t k) (v0 v1 v2 v3 v4 v5 v6 v7 : Value) : Ty (set8 w b v0 v1 v2 v3 v4 v5 v6 v7) t k := (((((((h.set _ _).set _ _).set _ _).set _ _).set _ _).set _ _).set _ _).set _ _
theorem set8_blk {w : World} {b : Nat} {u0 u1 u2 u3 u4 u5 u6 u7 : Value} (h : Blk w b [u0, u1, u2, u3, u4, u5, u6, u7]) (v0 v1 v2 v3 v4 v5 v6 v7 : Value) : Blk (set8 w b v0 v1 v2 v3 v4 v5 v6 v7) b [v0, v1, v2, v3, v4, v5, v6, v7] :=
  (((((((h.set 0 v0).set 1 v1).set 2 v2).set 3 v3).set 4 v4).set 5 v5).set 6 v6).set 7 v7
/-- The two boxes of done: d's, and the result's. -/
structure DB (w : World) (d : Do) (A : Option Addr) (c : Nat) (w1 : World) : Prop where
  d : Blk w1 w.heap.size (dcs d A c)
  r : Blk w1 (w.heap.size + 1) [.string ByteArray.empty, .int .i64 0, .int .i64 0, .int .i64 0, .bool false, .slice none 0 0, .bool false, .int .i64 0]
  rt : Ty w1 52 (w.heap.size + 1)
theorem DB.only {w w1 w2 : World} {d : Do} {A : Option Addr} {c : Nat} {S : List Nat} (h : DB w d A c w1) (o : Only S w1 w2) (hS : ∀ i ∈ S, i < w.heap.size) : DB w d A c w2 := by
  have n1 : w.heap.size ∉ S := fun hm => by have := hS _ hm; omega
  have n2 : w.heap.size + 1 ∉ S := fun hm => by have := hS _ hm; omega
  exact ⟨h.d.only o n1, h.r.only o n2, h.rt.only o n2⟩
/-- Behind the call: what is handed out, where the reply is none. -/
theorem done_end {w w1 : World} {p mb tb : Nat} {T' : Tb} {d : Do} {A : Option Addr} {c : Nat} (hD : DB w d A c w1) (hT : TbR w1 p mb tb T') (hlt : ∀ i ∈ [p, mb, tb], i < w.heap.size) (o : Only [p, mb, tb] w w1) :
    BK Reply.k (set8 w1 (w.heap.size + 1) (.string ByteArray.empty) (.int .i64 0) (.int .i64 0) (.int .i64 0) (.bool false) (.slice none 0 0) (.bool false) (.int .i64 0)) Reply.z [.string ByteArray.empty, .int .i64 0, .int .i64 0, .int .i64 0, .bool false, .slice none 0 0, .bool false, .int .i64 0] ∧ TbR (set8 w1 (w.heap.size + 1) (.string ByteArray.empty) (.int .i64 0) (.int .i64 0) (.int .i64 0) (.bool false) (.slice none 0 0) (.bool false) (.int .i64 0)) p mb tb T' ∧ Only [p, mb, tb] w (set8 w1 (w.heap.size + 1) (.string ByteArray.empty) (.int .i64 0) (.int .i64 0) (.int .i64 0) (.bool false) (.slice none 0 0) (.bool false) (.int .i64 0)) := by
  have h8 := set8_only w1 (w.heap.size + 1) (.string ByteArray.empty) (.int .i64 0) (.int .i64 0) (.int .i64 0) (.bool false) (.slice none 0 0) (.bool false) (.int .i64 0)
  have g1 := hlt p (by simp)
  have g2 := hlt mb (by simp)
  have g3 := hlt tb (by simp)
  refine ⟨bk_repz _, hT.only h8 (by simp; omega) (by simp; omega) (by simp; omega) (fun i hi => by simp at hi; subst hi; exact hD.rt.ne (by decide)), o.then_ h8 (fun i hi => by simp at hi; right; omega)⟩
set_option maxRecDepth 100000 in
set_option maxHeartbeats 2000000 in
theorem done_calls (p mb tb : Nat) (T : Tb) (d : Do) (A : Option Addr) (c : Nat) (n : Int) (w : World) (h : TbR w p mb tb T) (hN : Num T n) (hn : n ≤ 2000000000000000000)
    (hF : Kd.FK Entry.k w (fun i => i ∉ [p, mb, tb]) d.e (ecs d.e A c)) (hbl : d.e.val.b.length ≤ 140737488351232) :
    Calls Try.prog 22 #[.pointer (some ⟨p, 0, none⟩), .agg (dcs d A c).toArray] w (DoneTold w p mb tb T d) := by
  have HT := Aside0.mk h
  have HN := Aside0.mk hN
  have HF := Aside0.mk hF
  have HLT : Aside0 (∀ i ∈ [p, mb, tb], i < w.heap.size) := ⟨by
    obtain ⟨l1, l2, l3⟩ := h.lt
    intro i hi
    simp at hi
    rcases hi with rfl | rfl | rfl <;> assumption⟩
  have hks : d.e.key.size ≤ 140737488351232 := by obtain ⟨_, _, _, hks, _⟩ := Entry.open_ (Kd.FK_now hF); exact hks
  have HL := Aside0.mk hbl
  clear h hN hF hbl
  obtain ⟨kd, ⟨xk, ⟨s1, s2, s3⟩, ⟨xh, xb⟩⟩, tk⟩ := d
  dsimp only [dcs] at *
  go_enter Try.func22, Try.ntmps22
  go_upto_region 1 with (fail)
  generalize hX : World.alloc _ _ = W0
  have HW : Aside0 (Below w.heap.size w W0) := ⟨by rw [← hX]; exact below_alloc (below_alloc (Below.refl _ _) _) _⟩
  have HD : Aside0 (DB w ⟨kd, ⟨xk, ⟨s1, s2, s3⟩, ⟨xh, xb⟩⟩, tk⟩ A c W0) := ⟨by rw [← hX]; exact ⟨(Blk.new_ w _ _ rfl (by simp)).alloc _, Blk.new_ _ _ _ (by simp) rfl, ty_new (by simp)⟩⟩
  clear hX
  have HT0 := Aside0.mk (HT.out.below HW.out)
  have HF0 : Aside0 (Kd.FK Entry.k W0 (fun i => i ∉ [p, mb, tb]) ⟨xk, ⟨s1, s2, s3⟩, ⟨xh, xb⟩⟩ (ecs ⟨xk, ⟨s1, s2, s3⟩, ⟨xh, xb⟩⟩ A c)) := ⟨Foot.step HF.out (fun i _ hlt => HW.out.block i hlt)⟩
  have HO := Aside0.mk (Only.of_below [p, mb, tb] HW.out)
  obtain ⟨d0, d1, d2, d3, d4, d5, d6, d7⟩ := HD.out.d.eight.1
  dsimp only at d0 d1 d2 d3 d4 d5 d6 d7
  by_cases h1 : kd = 1
  · subst h1
    have HC := Aside0.mk (query_calls p mb tb T xk n W0 HT0.out HN.out hn hks)
    have HC' : Aside0 (Calls Try.prog 21 #[.pointer (some ⟨p, 0, none⟩), .string xk] W0 fun e w' => ∃ A c, e = .returned (.tuple #[.agg #[.string (queryR T xk).e.key, .int .i64 (queryR T xk).e.tag.seq, .int .i64 (queryR T xk).e.tag.who, .int .i64 (queryR T xk).e.tag.op, .bool (queryR T xk).e.val.has, .slice A (queryR T xk).e.val.b.length c, .bool (queryR T xk).whole, .int .i64 (queryR T xk).token], .int .i64 (queryE xk)]) ∧ BK Reply.k w' (queryR T xk) [.string (queryR T xk).e.key, .int .i64 (queryR T xk).e.tag.seq, .int .i64 (queryR T xk).e.tag.who, .int .i64 (queryR T xk).e.tag.op, .bool (queryR T xk).e.val.has, .slice A (queryR T xk).e.val.b.length c, .bool (queryR T xk).whole, .int .i64 (queryR T xk).token] ∧ TbR w' p mb tb (queryT T xk) ∧ Only [p, mb, tb] W0 w') := ⟨by
      refine HC.out.mono ?_
      rintro e w' ⟨cs, rfl, hbk, ht, ho⟩
      obtain ⟨A', c', he, _⟩ := Reply.open_ hbk.now
      have hcs : cs = cs.toList.toArray := by simp
      rw [he] at hbk
      rw [hcs, he]
      exact ⟨A', c', rfl, hbk, ht, ho⟩⟩
    clear HC
    have HS : Aside0 (∀ (k0 : Int), k0 = 1 → stepT T ⟨k0, ⟨xk, ⟨s1, s2, s3⟩, ⟨xh, xb⟩⟩, tk⟩ = queryT T xk ∧ stepR T ⟨k0, ⟨xk, ⟨s1, s2, s3⟩, ⟨xh, xb⟩⟩, tk⟩ = queryR T xk ∧ stepB T ⟨k0, ⟨xk, ⟨s1, s2, s3⟩, ⟨xh, xb⟩⟩, tk⟩ = false ∧ stepE T ⟨k0, ⟨xk, ⟨s1, s2, s3⟩, ⟨xh, xb⟩⟩, tk⟩ = queryE xk) := ⟨by rintro _ rfl; exact ⟨rfl, rfl, rfl, rfl⟩⟩
    generalize queryR T xk = R at HC' HS
    obtain ⟨⟨rk, ⟨t1, t2, t3⟩, ⟨rh, rb⟩⟩, rw_, rt⟩ := R
    dsimp only at HC'
    go_upto_region 4 with (first | ((with_reducible refine HC'.out.mono ?_); rintro e w1 ⟨A', c', rfl, hbk, h1, o1⟩; have HT1 := Aside0.mk h1; have HBK := Aside0.mk hbk; have HD1 := Aside0.mk (HD.out.only o1 HLT.out); have HO1 := Aside0.mk (HO.out.trans o1); clear hbk h1 o1))
    generalize hX2 : World.alloc _ _ = W2
    have HB2 : Aside0 (Below w1.heap.size w1 W2) := ⟨by rw [← hX2]; exact below_alloc (Below.refl _ _) _⟩
    have hq : Blk W2 w1.heap.size [.string rk, .int .i64 t1, .int .i64 t2, .int .i64 t3, .bool rh, .slice A' rb.length c', .bool rw_, .int .i64 rt] := by rw [← hX2]; exact Blk.new_ _ _ _ rfl rfl
    clear hX2
    have HD2 := Aside0.mk (HD1.out.only (S := []) (Only.of_below [] HB2.out) (by simp))
    obtain ⟨⟨q0, q1, q2, q3, q4, q5, q6, q7⟩, _⟩ := hq.eight
    obtain ⟨⟨r0, r1, r2, r3, r4, r5, r6, r7⟩, f0, f1, f2, f3, f4, f5, f6, f7⟩ := HD2.out.r.eight
    clear hq
    go_wp2
    generalize hW9 : World.setCell _ _ _ = W9
    have h9 := set8_blk HD2.out.r (.string rk) (.int .i64 t1) (.int .i64 t2) (.int .i64 t3) (.bool rh) (.slice A' rb.length c') (.bool rw_) (.int .i64 rt)
    have h8 := set8_only W2 (w.heap.size + 1) (.string rk) (.int .i64 t1) (.int .i64 t2) (.int .i64 t3) (.bool rh) (.slice A' rb.length c') (.bool rw_) (.int .i64 rt)
    rw [show set8 W2 (w.heap.size + 1) (.string rk) (.int .i64 t1) (.int .i64 t2) (.int .i64 t3) (.bool rh) (.slice A' rb.length c') (.bool rw_) (.int .i64 rt) = W9 from hW9] at h9 h8
    clear hW9
    have H8 := Aside0.mk h8
    obtain ⟨⟨z0, z1, z2, z3, z4, z5, z6, z7⟩, _⟩ := h9.eight
    clear h9 h8
    refine bodyPost_ret (v := .tuple #[.agg #[.string rk, .int .i64 t1, .int .i64 t2, .int .i64 t3, .bool rh, .slice A' rb.length c', .bool rw_, .int .i64 rt], .bool false, .int .i64 (queryE xk)]) (by simp [results, Try.results22, go_sem, z0, z1, z2, z3, z4, z5, z6, z7]; try rfl) rfl ?_
    obtain ⟨e1, e2, e3, e4⟩ := HS.out 1 rfl
    have g1 := HLT.out p (by simp)
    have g2 := HLT.out mb (by simp)
    have g3 := HLT.out tb (by simp)
    have hnb : ∀ i ∈ [w.heap.size + 1], ¬ Ty W2 5 i := fun i hi => by simp at hi; subst hi; exact HD2.out.rt.ne (by decide)
    refine ⟨_, by rw [e3, e4], by rw [e2]; exact (HBK.out.below HB2.out).only H8.out hnb, ?_, ?_⟩
    · rw [e1]; exact (HT1.out.below HB2.out).only H8.out (by simp; omega) (by simp; omega) (by simp; omega) hnb
    · exact (HO1.out.on HB2.out).then_ H8.out (fun i hi => by simp at hi; right; omega)
  · have e1 : (kd == 1) = false := by simpa using h1
    by_cases h2 : kd = 2
    · subst h2
      have HC := Aside0.mk (store_calls p mb tb T ⟨xk, ⟨s1, s2, s3⟩, ⟨xh, xb⟩⟩ A c n W0 HT0.out HN.out hn HF0.out HL.out)
      go_wp2_with (first | ((with_reducible refine HC.out.mono ?_); rintro e w1 ⟨rfl, h1, o1⟩; have HT1 := Aside0.mk h1; have HD1 := Aside0.mk (HD.out.only o1 HLT.out); have HO1 := Aside0.mk (HO.out.trans o1); clear h1 o1; obtain ⟨⟨r0, r1, r2, r3, r4, r5, r6, r7⟩, f0, f1, f2, f3, f4, f5, f6, f7⟩ := HD1.out.r.eight))
      generalize hW9 : World.setCell _ _ _ = W9
      have h9 := set8_blk HD1.out.r (.string ByteArray.empty) (.int .i64 0) (.int .i64 0) (.int .i64 0) (.bool false) (.slice none 0 0) (.bool false) (.int .i64 0)
      have hE := done_end HD1.out HT1.out HLT.out HO1.out
      rw [show set8 w1 (w.heap.size + 1) (.string ByteArray.empty) (.int .i64 0) (.int .i64 0) (.int .i64 0) (.bool false) (.slice none 0 0) (.bool false) (.int .i64 0) = W9 from hW9] at h9 hE
      clear hW9
      have HE := Aside0.mk hE
      obtain ⟨⟨z0, z1, z2, z3, z4, z5, z6, z7⟩, _⟩ := h9.eight
      clear h9 hE
      refine bodyPost_ret (v := .tuple #[.agg #[.string ByteArray.empty, .int .i64 0, .int .i64 0, .int .i64 0, .bool false, .slice none 0 0, .bool false, .int .i64 0], .bool false, .int .i64 (storeE T ⟨xk, ⟨s1, s2, s3⟩, ⟨xh, xb⟩⟩)]) (by simp [results, Try.results22, go_sem, z0, z1, z2, z3, z4, z5, z6, z7]; try rfl) rfl ?_
      exact ⟨#[.string ByteArray.empty, .int .i64 0, .int .i64 0, .int .i64 0, .bool false, .slice none 0 0, .bool false, .int .i64 0], by simp [stepB, stepE], by simpa [stepR] using HE.out.1, by simpa [stepT] using HE.out.2.1, HE.out.2.2⟩
    · have e2 : (kd == 2) = false := by simpa using h2
      by_cases h3 : kd = 3
      · subst h3
        have HC := Aside0.mk (fill_calls p mb tb T ⟨xk, ⟨s1, s2, s3⟩, ⟨xh, xb⟩⟩ tk A c n W0 HT0.out HN.out hn HF0.out HL.out)
        go_wp2_with (first | ((with_reducible refine HC.out.mono ?_); rintro e w1 ⟨rfl, h1, o1⟩; have HT1 := Aside0.mk h1; have HD1 := Aside0.mk (HD.out.only o1 HLT.out); have HO1 := Aside0.mk (HO.out.trans o1); clear h1 o1; obtain ⟨⟨r0, r1, r2, r3, r4, r5, r6, r7⟩, f0, f1, f2, f3, f4, f5, f6, f7⟩ := HD1.out.r.eight))
        generalize hW9 : World.setCell _ _ _ = W9
        have h9 := set8_blk HD1.out.r (.string ByteArray.empty) (.int .i64 0) (.int .i64 0) (.int .i64 0) (.bool false) (.slice none 0 0) (.bool false) (.int .i64 0)
        have hE := done_end HD1.out HT1.out HLT.out HO1.out
        rw [show set8 w1 (w.heap.size + 1) (.string ByteArray.empty) (.int .i64 0) (.int .i64 0) (.int .i64 0) (.bool false) (.slice none 0 0) (.bool false) (.int .i64 0) = W9 from hW9] at h9 hE
        clear hW9
        have HE := Aside0.mk hE
        obtain ⟨⟨z0, z1, z2, z3, z4, z5, z6, z7⟩, _⟩ := h9.eight
        clear h9 hE
        refine bodyPost_ret (v := .tuple #[.agg #[.string ByteArray.empty, .int .i64 0, .int .i64 0, .int .i64 0, .bool false, .slice none 0 0, .bool false, .int .i64 0], .bool (fillB T ⟨xk, ⟨s1, s2, s3⟩, ⟨xh, xb⟩⟩ tk), .int .i64 (fillE T ⟨xk, ⟨s1, s2, s3⟩, ⟨xh, xb⟩⟩ tk)]) (by simp [results, Try.results22, go_sem, z0, z1, z2, z3, z4, z5, z6, z7]; try rfl) rfl ?_
        exact ⟨#[.string ByteArray.empty, .int .i64 0, .int .i64 0, .int .i64 0, .bool false, .slice none 0 0, .bool false, .int .i64 0], by simp [stepB, stepE], by simpa [stepR] using HE.out.1, by simpa [stepT] using HE.out.2.1, HE.out.2.2⟩
      · have e3 : (kd == 3) = false := by simpa using h3
        by_cases h4 : kd = 4
        · subst h4
          have HC := Aside0.mk (clean_calls p mb tb T xk s1 s2 s3 W0 HT0.out hks)
          go_wp2_with (first | ((with_reducible refine HC.out.mono ?_); rintro e w1 ⟨rfl, h1, o1⟩; have HT1 := Aside0.mk h1; have HD1 := Aside0.mk (HD.out.only o1 HLT.out); have HO1 := Aside0.mk (HO.out.trans o1); clear h1 o1; obtain ⟨⟨r0, r1, r2, r3, r4, r5, r6, r7⟩, f0, f1, f2, f3, f4, f5, f6, f7⟩ := HD1.out.r.eight))
          generalize hW9 : World.setCell _ _ _ = W9
          have h9 := set8_blk HD1.out.r (.string ByteArray.empty) (.int .i64 0) (.int .i64 0) (.int .i64 0) (.bool false) (.slice none 0 0) (.bool false) (.int .i64 0)
          have hE := done_end HD1.out HT1.out HLT.out HO1.out
          rw [show set8 w1 (w.heap.size + 1) (.string ByteArray.empty) (.int .i64 0) (.int .i64 0) (.int .i64 0) (.bool false) (.slice none 0 0) (.bool false) (.int .i64 0) = W9 from hW9] at h9 hE
          clear hW9
          have HE := Aside0.mk hE
          obtain ⟨⟨z0, z1, z2, z3, z4, z5, z6, z7⟩, _⟩ := h9.eight
          clear h9 hE
          refine bodyPost_ret (v := .tuple #[.agg #[.string ByteArray.empty, .int .i64 0, .int .i64 0, .int .i64 0, .bool false, .slice none 0 0, .bool false, .int .i64 0], .bool (cleanOn T xk ⟨s1, s2, s3⟩).isSome, .int .i64 0]) (by simp [results, Try.results22, go_sem, z0, z1, z2, z3, z4, z5, z6, z7]; try rfl) rfl ?_
          exact ⟨#[.string ByteArray.empty, .int .i64 0, .int .i64 0, .int .i64 0, .bool false, .slice none 0 0, .bool false, .int .i64 0], by simp [stepB, stepE], by simpa [stepR] using HE.out.1, by simpa [stepT] using HE.out.2.1, HE.out.2.2⟩
        · have e4 : (kd == 4) = false := by simpa using h4
          by_cases h6 : kd = 6
          · subst h6
            have HC := Aside0.mk (forget_calls p mb tb T n W0 HT0.out HN.out hn)
            go_wp2_with (first | ((with_reducible refine HC.out.mono ?_); rintro e w1 ⟨rfl, h1, o1⟩; have HT1 := Aside0.mk h1; have HD1 := Aside0.mk (HD.out.only o1 HLT.out); have HO1 := Aside0.mk (HO.out.trans o1); clear h1 o1; obtain ⟨⟨r0, r1, r2, r3, r4, r5, r6, r7⟩, f0, f1, f2, f3, f4, f5, f6, f7⟩ := HD1.out.r.eight))
            generalize hW9 : World.setCell _ _ _ = W9
            have h9 := set8_blk HD1.out.r (.string ByteArray.empty) (.int .i64 0) (.int .i64 0) (.int .i64 0) (.bool false) (.slice none 0 0) (.bool false) (.int .i64 0)
            have hE := done_end HD1.out HT1.out HLT.out HO1.out
            rw [show set8 w1 (w.heap.size + 1) (.string ByteArray.empty) (.int .i64 0) (.int .i64 0) (.int .i64 0) (.bool false) (.slice none 0 0) (.bool false) (.int .i64 0) = W9 from hW9] at h9 hE
            clear hW9
            have HE := Aside0.mk hE
            obtain ⟨⟨z0, z1, z2, z3, z4, z5, z6, z7⟩, _⟩ := h9.eight
            clear h9 hE
            refine bodyPost_ret (v := .tuple #[.agg #[.string ByteArray.empty, .int .i64 0, .int .i64 0, .int .i64 0, .bool false, .slice none 0 0, .bool false, .int .i64 0], .bool false, .int .i64 0]) (by simp [results, Try.results22, go_sem, z0, z1, z2, z3, z4, z5, z6, z7]; try rfl) rfl ?_
            exact ⟨#[.string ByteArray.empty, .int .i64 0, .int .i64 0, .int .i64 0, .bool false, .slice none 0 0, .bool false, .int .i64 0], by simp [stepB, stepE], by simpa [stepR] using HE.out.1, by simpa [stepT] using HE.out.2.1, HE.out.2.2⟩
          · have e6 : (kd == 6) = false := by simpa using h6
            have HH := Aside0.mk (And.intro h1 (And.intro h2 (And.intro h3 (And.intro h4 h6))))
            clear h1 h2 h3 h4 h6
            have HC := Aside0.mk (evict_calls p mb tb T xk n W0 HT0.out HN.out hn hks)
            go_wp2_with (first | ((with_reducible refine HC.out.mono ?_); rintro e w1 ⟨rfl, h1, o1⟩; have HT1 := Aside0.mk h1; have HD1 := Aside0.mk (HD.out.only o1 HLT.out); have HO1 := Aside0.mk (HO.out.trans o1); clear h1 o1; obtain ⟨⟨r0, r1, r2, r3, r4, r5, r6, r7⟩, f0, f1, f2, f3, f4, f5, f6, f7⟩ := HD1.out.r.eight))
            generalize hW9 : World.setCell _ _ _ = W9
            have h9 := set8_blk HD1.out.r (.string ByteArray.empty) (.int .i64 0) (.int .i64 0) (.int .i64 0) (.bool false) (.slice none 0 0) (.bool false) (.int .i64 0)
            have hE := done_end HD1.out HT1.out HLT.out HO1.out
            rw [show set8 w1 (w.heap.size + 1) (.string ByteArray.empty) (.int .i64 0) (.int .i64 0) (.int .i64 0) (.bool false) (.slice none 0 0) (.bool false) (.int .i64 0) = W9 from hW9] at h9 hE
            clear hW9
            have HE := Aside0.mk hE
            obtain ⟨⟨z0, z1, z2, z3, z4, z5, z6, z7⟩, _⟩ := h9.eight
            clear h9 hE
            refine bodyPost_ret (v := .tuple #[.agg #[.string ByteArray.empty, .int .i64 0, .int .i64 0, .int .i64 0, .bool false, .slice none 0 0, .bool false, .int .i64 0], .bool (evictB T xk), .int .i64 0]) (by simp [results, Try.results22, go_sem, z0, z1, z2, z3, z4, z5, z6, z7]; try rfl) rfl ?_
            exact ⟨#[.string ByteArray.empty, .int .i64 0, .int .i64 0, .int .i64 0, .bool false, .slice none 0 0, .bool false, .int .i64 0], by simp [stepB, stepE, HH.out], by simpa [stepR, HH.out] using HE.out.1, by simpa [stepT, HH.out] using HE.out.2.1, HE.out.2.2⟩
end Tab
end Go.Proofs.Ytgfjkpnaabiecaa
set_option linter.unusedVariables false
set_option linter.unusedSimpArgs false
namespace Go.Proofs.Ytgfjkpnaabiecaa
open Go.RowKit Go.Proofs.YtgfjkpnaabiecaaW.PrintWords
namespace Tab
open Tags
/-- A table of the call's own. -/
structure LS (w : World) (p mb tb : Nat) (T : Tb) (wr : World) : Prop where
  t : TbR wr p mb tb T
  bl : Below w.heap.size w wr
  g : w.heap.size ≤ p ∧ w.heap.size ≤ mb ∧ w.heap.size ≤ tb
namespace LS
variable {w wr w1 : World} {p mb tb : Nat} {T T' : Tb}
theorem below (h : LS w p mb tb T wr) (k : Below wr.heap.size wr w1) : LS w p mb tb T w1 := ⟨h.t.below k, Below.then_ h.bl k (Nat.le_refl _), h.g⟩
theorem told (h : LS w p mb tb T wr) (ht : TbR w1 p mb tb T') (o : Only [p, mb, tb] wr w1) : LS w p mb tb T' w1 :=
  ⟨ht, ((Only.of_below [p, mb, tb] h.bl).trans o).below (by intro i hi; obtain ⟨g1, g2, g3⟩ := h.g; simp at hi; rcases hi with rfl | rfl | rfl <;> assumption) (Nat.le_refl _), h.g⟩
theorem only {S : List Nat} (h : LS w p mb tb T wr) (o : Only S wr w1) (h1 : p ∉ S) (h2 : mb ∉ S) (h3 : tb ∉ S) (hn : ∀ i ∈ S, ¬ Ty wr 5 i) (hS : ∀ i ∈ S, w.heap.size ≤ i) : LS w p mb tb T w1 :=
  ⟨h.t.only o h1 h2 h3 hn, ((Only.of_below S h.bl).trans o).below hS (Nat.le_refl _), h.g⟩
/-- An elder entry may be stored. -/
theorem storeF {A : Option Addr} {c : Nat} {e : Entry} (h : LS w p mb tb T wr) (he : Entry.k.K w e (ecs e A c)) : Kd.FK Entry.k wr (fun i => i ∉ [p, mb, tb]) e (ecs e A c) := by
  obtain ⟨g1, g2, g3⟩ := h.g
  refine Foot.mono (Foot.step (ent_old he) (fun i _ hlt => h.bl.block i hlt)) (fun i hi hm => ?_)
  simp at hm
  omega
theorem lt (h : LS w p mb tb T wr) : ∀ i ∈ [p, mb, tb], i < wr.heap.size := by
  obtain ⟨l1, l2, l3⟩ := h.t.lt
  intro i hi
  simp at hi
  rcases hi with rfl | rfl | rfl <;> assumption
end LS
def runT (T : Tb) (xs : List Do) (k : Nat) : Tb := (xs.take k).foldl stepT T
theorem runT_succ {T : Tb} {xs : List Do} {k : Nat} {x : Do} (h : xs[k]? = some x) : runT T xs (k + 1) = stepT (runT T xs k) x := by
  unfold runT
  rw [List.take_add_one, h, List.foldl_append]
  rfl
theorem Wf.run {T : Tb} {n : Int} (h : Wf T n) (xs : List Do) (k : Nat) : Wf (runT T xs k) (n + 5000 * (k : Int)) := by
  induction k with
  | zero => exact h.mono (by simp)
  | succ k ih =>
    cases hx : xs[k]? with
    | none =>
      have : runT T xs (k + 1) = runT T xs k := by
        unfold runT
        rw [List.take_add_one, hx]; simp
      rw [this]
      exact ih.mono (by omega)
    | some x =>
      rw [runT_succ hx]
      exact (ih.step x).mono (by omega)
theorem Wf.tok_len {T : Tb} {n : Int} (h : Wf T n) : 0 < T.tok.length ∧ T.tok.length ≤ 256 := by
  obtain ⟨_, _, _, _, h5, h6⟩ := h.rm
  have := h.tl
  omega
theorem Wf.tok_in {T : Tb} {n : Int} (h : Wf T n) (hn : n ≤ 4000000000000000000) : ∀ x ∈ T.tok, InR .i64 x := fun x hx => by
  have := h.tk x hx
  exact InR.mk64 (by omega) (by omega)
theorem new_ok {r : Room} (hb : RoomOk r) (w' : World) : Calls Try.prog 10 #[.agg #[.int .i64 r.cells, .int .i64 r.bytes, .int .i64 r.buckets, .bool r.fresh]] w' fun e w'' => ∃ p mb tb, e = .returned (.tuple #[.pointer (some ⟨p, 0, none⟩), .int .i64 0]) ∧ LS w' p mb tb (newT r) w'' := by
  refine (new_calls r w').mono ?_
  intro e w'' h
  unfold NewTold at h
  rw [if_pos hb] at h
  obtain ⟨p, mb, tb, rfl, h1, h2, h3, h4, h5⟩ := h
  exact ⟨p, mb, tb, rfl, h1, h5, h2, h3, h4⟩
theorem new_no {r : Room} (hb : ¬ RoomOk r) (w' : World) : Calls Try.prog 10 #[.agg #[.int .i64 r.cells, .int .i64 r.bytes, .int .i64 r.buckets, .bool r.fresh]] w' fun e w'' => e = .returned (.tuple #[.pointer none, .int .i64 2]) ∧ Below w'.heap.size w' w'' := by
  refine (new_calls r w').mono ?_
  intro e w'' h
  unfold NewTold at h
  rw [if_neg hb] at h
  exact h
theorem LS.elder {w w0 : World} {p mb tb : Nat} {T : Tb} {wr : World} (h : LS w0 p mb tb T wr) (hb : Below w.heap.size w w0) : LS w p mb tb T wr := by
  have hs := hb.size
  obtain ⟨g1, g2, g3⟩ := h.g
  exact ⟨h.t, Below.then_ hb h.bl (Nat.le_refl _), by omega, by omega, by omega⟩
abbrev rcs (R : Reply) (A : Option Addr) (c : Nat) : List Value := [.string R.e.key, .int .i64 R.e.tag.seq, .int .i64 R.e.tag.who, .int .i64 R.e.tag.op, .bool R.e.val.has, .slice A R.e.val.b.length c, .bool R.whole, .int .i64 R.token]
theorem queryC_calls (p mb tb : Nat) (T : Tb) (k : ByteArray) (n : Int) (w : World) (h : TbR w p mb tb T) (hN : Num T n) (hn : n ≤ 2000000000000000000) (hk : k.size ≤ 140737488351232) :
    Calls Try.prog 21 #[.pointer (some ⟨p, 0, none⟩), .string k] w fun e w' => ∃ A c, e = .returned (.tuple #[.agg (rcs (queryR T k) A c).toArray, .int .i64 (queryE k)]) ∧ BK Reply.k w' (queryR T k) (rcs (queryR T k) A c) ∧ TbR w' p mb tb (queryT T k) ∧ Only [p, mb, tb] w w' := by
  refine (query_calls p mb tb T k n w h hN hn hk).mono ?_
  rintro e w' ⟨cs, rfl, hbk, ht, ho⟩
  obtain ⟨A', c', he, _⟩ := Reply.open_ hbk.now
  have hcs : cs = cs.toList.toArray := by simp
  rw [he] at hbk
  rw [hcs, he]
  exact ⟨A', c', rfl, hbk, ht, ho⟩
/-- A box that holds a reply. -/
structure RB (wr : World) (b : Nat) (R : Reply) (A : Option Addr) (c : Nat) : Prop where
  blk : Blk wr b (rcs R A c)
  ty : Ty wr 52 b
  k : BK Reply.k wr R (rcs R A c)
namespace RB
variable {wr w1 : World} {b : Nat} {R : Reply} {A : Option Addr} {c : Nat}
theorem only {S : List Nat} (h : RB wr b R A c) (o : Only S wr w1) (hb : b ∉ S) (hn : ∀ i ∈ S, ¬ Ty wr 5 i) : RB w1 b R A c := ⟨h.blk.only o hb, h.ty.only o hb, h.k.only o hn⟩
theorem below (h : RB wr b R A c) (k : Below wr.heap.size wr w1) : RB w1 b R A c := h.only (S := []) (Only.of_below [] k) (by simp) (by simp)
theorem new (h : BK Reply.k wr R (rcs R A c)) : RB (wr.alloc (.cells (rcs R A c).toArray 52)) wr.heap.size R A c :=
  ⟨Blk.new_ _ _ _ rfl (by simp), ty_new rfl, h.below (below_alloc (Below.refl _ _) _)⟩
theorem bytes (h : RB wr b R A c) : kU8.C wr A R.e.val.b.length R.e.val.b := by
  obtain ⟨A6, c6, he, _, _, _, _, _, g5, _⟩ := Reply.open_ h.k.now
  simp only [List.cons.injEq, Value.slice.injEq, true_and, and_true] at he
  obtain ⟨rfl, rfl⟩ := he
  exact g5
theorem told {p mb tb : Nat} {T : Tb} (h : RB wr b R A c) (ht : TbR wr p mb tb T) (o : Only [p, mb, tb] wr w1) : RB w1 b R A c := by
  have n1 := ht.pty
  have n2 := ht.tty
  have n3 := ht.map.noTy
  refine h.only o (fun hm => ?_) ht.noB
  simp at hm
  rcases hm with rfl | rfl | rfl
  · exact (h.ty.ne (t' := 83) (by decide)) n1
  · exact n3 _ h.ty
  · exact (h.ty.ne (t' := 3) (by decide)) n2
end RB
end Tab
end Go.Proofs.Ytgfjkpnaabiecaa
set_option linter.unusedVariables false
set_option linter.unusedSimpArgs false
namespace Go.Proofs.Ytgfjkpnaabiecaa
open Go.RowKit Go.Proofs.YtgfjkpnaabiecaaW.PrintWords
namespace Tab
open Tags
theorem queryT_none {T : Tb} {k : ByteArray} (h : find T.l k = none) : queryT T k = T := by
  unfold queryT
  rw [h]
  split <;> rfl
theorem queryT_some {T : Tb} {k : ByteArray} {c : Cell} (hk : KeyOk k) (h : find T.l k = some c) : queryT T k = lay T c := by
  unfold queryT
  rw [if_pos hk, h]
theorem find_lay {T : Tb} {c : Cell} (hs : Srt T.l) : find (lay T c).l c.e.key = some { c with used := T.uses + 1 } := by
  show find (put T.l _) c.e.key = _
  rw [find_put hs, if_pos rfl]
/-- Asked twice the same is told. -/
theorem queryR_twice {T : Tb} {k : ByteArray} (hs : Srt T.l) (hk : KeyOk k) : queryR (queryT T k) k = queryR T k := by
  cases hf : find T.l k with
  | none => rw [queryT_none hf]
  | some c =>
    obtain ⟨_, rfl⟩ := find_mem hf
    rw [queryT_some hk hf]
    unfold queryR
    rw [if_pos hk, if_pos hk, find_lay hs, hf]
    rfl
theorem queryT_len {T : Tb} (k : ByteArray) (hs : Srt T.l) : (queryT T k).l.length = T.l.length ∧ szs (queryT T k).l = szs T.l := by
  by_cases hk : KeyOk k
  · cases hf : find T.l k with
    | none => rw [queryT_none hf]; exact ⟨rfl, rfl⟩
    | some c =>
      obtain ⟨_, rfl⟩ := find_mem hf
      rw [queryT_some hk hf]
      exact Wf.put_same (d := { c with used := T.uses + 1 }) hs hf rfl
  · unfold queryT; rw [if_neg hk]; exact ⟨rfl, rfl⟩
theorem queryR_key {T : Tb} {k : ByteArray} (hk : KeyOk k) : (queryR T k).e.key = k := by
  unfold queryR
  rw [if_pos hk]
  cases hf : find T.l k with
  | none => rfl
  | some c => exact (find_mem hf).2
/-- A cell of the key that is asked for is what is told. -/
theorem queryR_cell {T : Tb} {k : ByteArray} {c : Cell} (hs : Srt T.l) (hk : KeyOk k) (hc : c ∈ T.l) (he : c.e.key = k) : (queryR T k).e = c.e := by
  subst he
  unfold queryR
  rw [if_pos hk, find_of hs hc]
theorem srt_query {T : Tb} (k : ByteArray) (hs : Srt T.l) : Srt (queryT T k).l := by
  unfold queryT
  split
  · split
    · exact srt_put hs
    · exact hs
  · exact hs
def hasK (l : List Cell) (k : ByteArray) : Bool := l.any (fun c => decide (c.e.key = k))
theorem hasK_snoc {l : List Cell} {k : ByteArray} {i : Nat} {c : Cell} (h : l[i]? = some c) : hasK (l.take (i + 1)) k = (hasK (l.take i) k || decide (c.e.key = k)) := by
  unfold hasK
  rw [List.take_add_one, h, List.any_append]
  simp
/-- It is there, or nothing is told. -/
theorem queryR_is {T : Tb} {k : ByteArray} (hk : KeyOk k) (h : hasK T.l k = false) : (queryR T k).e.tag.seq = 0 ∧ (queryR T k).e.val.has = false := by
  have hf : find T.l k = none := find_no (fun c hc e => by
    unfold hasK at h
    rw [List.any_eq_false] at h
    exact h c hc (by simpa using e))
  unfold queryR
  rw [if_pos hk, hf]
  exact ⟨rfl, rfl⟩
end Tab
end Go.Proofs.Ytgfjkpnaabiecaa
set_option linter.unusedVariables false
set_option linter.unusedSimpArgs false
namespace Go.Proofs.Ytgfjkpnaabiecaa
open Go.RowKit Go.Proofs.YtgfjkpnaabiecaaW.PrintWords
namespace Tab
open Tags
set_option maxRecDepth 100000 in
set_option maxHeartbeats 1000000 in
theorem queries_bad (r : Room) (A : Option Addr) (c : Nat) (xs : List Do) (key : ByteArray) (w : World) (hr : Do.k.C w A xs.length xs) (hn : xs.length ≤ 1600000000000) (hb : ¬ RoomOk r) :
    Calls Try.prog 5 #[.agg #[.int .i64 r.cells, .int .i64 r.bytes, .int .i64 r.buckets, .bool r.fresh], .slice A xs.length c, .string key] w (TrueTold w) := by
  have HR := Aside0.mk hr
  have HN : Aside0 (∀ w', Calls Try.prog 10 #[.agg #[.int .i64 r.cells, .int .i64 r.bytes, .int .i64 r.buckets, .bool r.fresh]] w' fun e w'' => e = .returned (.tuple #[.pointer none, .int .i64 2]) ∧ Below w'.heap.size w' w'') := ⟨new_no hb⟩
  have HL : Aside0 (∀ w', Below w.heap.size w w' → Calls Try.prog 11 #[.slice A xs.length c] w' fun e w'' => ∃ n : Int, e = .returned (.int .i64 n) ∧ Below w'.heap.size w' w'') := ⟨fun w' h => long_calls A c xs w' (Kd.C_below HR.out h) hn⟩
  obtain ⟨ra, rb, rc, rd⟩ := r
  dsimp only at *
  clear hr hb
  go_enter Try.func5, Try.ntmps5
  go_wp2_with (first
    | ((with_reducible refine (HN.out _).mono ?_); rintro e w1 ⟨rfl, h⟩; have HB := Aside0.mk (Below.then_ (below_alloc (Below.refl _ w) _) h (Nat.le_refl _)); clear h)
    | ((with_reducible refine (HL.out _ HB.out).mono ?_); rintro e w2 ⟨n, rfl, h⟩; have HB := Aside0.mk (Below.then_ HB.out h (Nat.le_refl _)); clear h)
    | ((with_reducible refine (known_true _).mono ?_); rintro e w3 ⟨rfl, h⟩; have HB := Aside0.mk (Below.then_ HB.out h (Nat.le_refl _)); clear h))
  all_goals
    go_ret
    exact ⟨rfl, HB.out⟩
set_option maxRecDepth 100000 in
set_option maxHeartbeats 1000000 in
theorem queries_key (r : Room) (A : Option Addr) (c : Nat) (xs : List Do) (key : ByteArray) (w : World) (hr : Do.k.C w A xs.length xs) (hn : xs.length ≤ 1600000000000) (hb : RoomOk r) (hk : ¬ KeyOk key) (hxl : ∀ x ∈ xs, x.e.val.b.length ≤ 140737488351232) :
    Calls Try.prog 5 #[.agg #[.int .i64 r.cells, .int .i64 r.bytes, .int .i64 r.buckets, .bool r.fresh], .slice A xs.length c, .string key] w (TrueTold w) := by
  have HR := Aside0.mk hr
  have HXL := Aside0.mk hxl
  obtain ⟨ra, rb, rc, rd⟩ := r
  have HRM : Aside0 (RoomOk ⟨ra, rb, rc, rd⟩) := ⟨hb⟩
  have HWF : Aside0 (∀ k, k ≤ xs.length → Wf (runT (newT ⟨ra, rb, rc, rd⟩) xs k) (1 + 5000 * (k : Int))) := ⟨fun k _ => (Wf.new_ hb).run xs k⟩
  have HN : Aside0 (∀ w', Calls Try.prog 10 #[.agg #[.int .i64 ra, .int .i64 rb, .int .i64 rc, .bool rd]] w' fun e w'' => ∃ p mb tb, e = .returned (.tuple #[.pointer (some ⟨p, 0, none⟩), .int .i64 0]) ∧ LS w' p mb tb (newT ⟨ra, rb, rc, rd⟩) w'') := ⟨new_ok (r := ⟨ra, rb, rc, rd⟩) hb⟩
  dsimp only at *
  have HL : Aside0 (∀ w', Below w.heap.size w w' → Calls Try.prog 11 #[.slice A xs.length c] w' fun e w'' => ∃ n : Int, e = .returned (.int .i64 n) ∧ Below w'.heap.size w' w'') := ⟨fun w' h => long_calls A c xs w' (Kd.C_below HR.out h) hn⟩
  clear hr hb hxl
  by_cases hk0 : key.size = 0
  · have hk1 : ((key.size : Int) == 0) = true := by simp [hk0]
    clear hk0 hk
    go_enter Try.func5, Try.ntmps5
    go_wp2_with (first
      | ((with_reducible refine (HN.out _).mono ?_); rintro e w1 ⟨p, mb, tb, rfl, h⟩; have HB := Aside0.mk (h.elder (below_alloc (Below.refl _ w) _)).bl; clear h)
      | ((with_reducible refine (HL.out _ HB.out).mono ?_); rintro e w2 ⟨n, rfl, h⟩; have HB := Aside0.mk (Below.then_ HB.out h (Nat.le_refl _)); clear h)
      | ((with_reducible refine (known_true _).mono ?_); rintro e w3 ⟨rfl, h⟩; have HB := Aside0.mk (Below.then_ HB.out h (Nat.le_refl _)); clear h))
    all_goals
      go_ret
      exact ⟨rfl, HB.out⟩
  · have hk1 : ((key.size : Int) == 0) = false := by simpa using hk0
    have hk2 : decide ((250 : Int) < (key.size : Int)) = true := by
      have h1 : ¬ key.size ≤ 250 := fun h => hk ⟨by omega, h⟩
      have : (250 : Int) < (key.size : Int) := by omega
      simpa using this
    clear hk0 hk
    go_enter Try.func5, Try.ntmps5
    go_wp2_with (first
      | ((with_reducible refine (HN.out _).mono ?_); rintro e w1 ⟨p, mb, tb, rfl, h⟩; have HB := Aside0.mk (h.elder (below_alloc (Below.refl _ w) _)).bl; clear h)
      | ((with_reducible refine (HL.out _ HB.out).mono ?_); rintro e w2 ⟨n, rfl, h⟩; have HB := Aside0.mk (Below.then_ HB.out h (Nat.le_refl _)); clear h)
      | ((with_reducible refine (known_true _).mono ?_); rintro e w3 ⟨rfl, h⟩; have HB := Aside0.mk (Below.then_ HB.out h (Nat.le_refl _)); clear h))
    all_goals
      go_ret
      exact ⟨rfl, HB.out⟩
set_option maxRecDepth 100000 in
set_option maxHeartbeats 2000000 in
theorem queries_good (r : Room) (A : Option Addr) (c : Nat) (xs : List Do) (key : ByteArray) (w : World) (hr : Do.k.C w A xs.length xs) (hn : xs.length ≤ 1600000000000) (hb : RoomOk r) (hk : KeyOk key) (hxl : ∀ x ∈ xs, x.e.val.b.length ≤ 140737488351232) :
    Calls Try.prog 5 #[.agg #[.int .i64 r.cells, .int .i64 r.bytes, .int .i64 r.buckets, .bool r.fresh], .slice A xs.length c, .string key] w (TrueTold w) := by
  have HR := Aside0.mk hr
  have HXL := Aside0.mk hxl
  obtain ⟨ra, rb, rc, rd⟩ := r
  have HRM : Aside0 (RoomOk ⟨ra, rb, rc, rd⟩) := ⟨hb⟩
  have HWF : Aside0 (∀ k, k ≤ xs.length → Wf (runT (newT ⟨ra, rb, rc, rd⟩) xs k) (1 + 5000 * (k : Int))) := ⟨fun k _ => (Wf.new_ hb).run xs k⟩
  have HN : Aside0 (∀ w', Calls Try.prog 10 #[.agg #[.int .i64 ra, .int .i64 rb, .int .i64 rc, .bool rd]] w' fun e w'' => ∃ p mb tb, e = .returned (.tuple #[.pointer (some ⟨p, 0, none⟩), .int .i64 0]) ∧ LS w' p mb tb (newT ⟨ra, rb, rc, rd⟩) w'') := ⟨new_ok (r := ⟨ra, rb, rc, rd⟩) hb⟩
  dsimp only at *
  have HL : Aside0 (∀ w', Below w.heap.size w w' → Calls Try.prog 11 #[.slice A xs.length c] w' fun e w'' => ∃ n : Int, e = .returned (.int .i64 n) ∧ Below w'.heap.size w' w'') := ⟨fun w' h => long_calls A c xs w' (Kd.C_below HR.out h) hn⟩
  clear hr hb hxl
  have HK := Aside0.mk hk
  obtain ⟨hk1, hk2⟩ := hk
  have hk3 : ((key.size : Int) == 0) = false := by
    have : ¬ key.size = 0 := by omega
    simpa using this
  have hk4 : decide ((250 : Int) < (key.size : Int)) = false := by
    have : ¬ (250 : Int) < (key.size : Int) := by omega
    simpa using this
  have hks : key.size ≤ 140737488351232 := by omega
  clear hk1 hk2
  go_enter Try.func5, Try.ntmps5
  go_wp2_with (first
    | ((with_reducible refine (HN.out _).mono ?_); rintro e w1 ⟨p, mb, tb, rfl, h⟩; have HT := Aside0.mk (h.elder (below_alloc (Below.refl _ w) _)); have HB := Aside0.mk HT.out.bl; clear h)
    | ((with_reducible refine (HL.out _ HB.out).mono ?_); rintro e w2 ⟨n, rfl, h⟩; have HT := Aside0.mk (HT.out.below h); have HB := Aside0.mk HT.out.bl; clear h)
    | ((with_reducible refine (known_true _).mono ?_); rintro e w3 ⟨rfl, h⟩; have HB := Aside0.mk (Below.then_ HB.out h (Nat.le_refl _)); clear h))
  · go_loopg [9] xs.length (fun gk v wr => ∃ k : Nat, v = .int .i64 (k : Int) ∧ k ≤ xs.length ∧ Aside0 (gk + k = xs.length) ∧ Aside0 (LS w p mb tb (runT (newT ⟨ra, rb, rc, rd⟩) xs k) wr))
    case atStart => exact ⟨0, rfl, Nat.zero_le _, ⟨rfl⟩, HT⟩
    case round =>
      obtain ⟨k, rfl, hk, HG, HS⟩ := hrel
      by_cases hlt : k < xs.length
      · obtain ⟨ad, x, A6, c6, rfl, HX, y0, y1, y2, y3, y4, y5, y6, y7, y8⟩ := Do.at_ HR.out k hlt
        have x0 := pw_cell_below HS.out.bl y0
        have x1 := pw_cell_below HS.out.bl y1
        have x2 := pw_cell_below HS.out.bl y2
        have x3 := pw_cell_below HS.out.bl y3
        have x4 := pw_cell_below HS.out.bl y4
        have x5 := pw_cell_below HS.out.bl y5
        have x6 := pw_cell_below HS.out.bl y6
        have x7 := pw_cell_below HS.out.bl y7
        have hltI : (k : Int) < (xs.length : Int) := by omega
        have HC := Aside0.mk (done_calls p mb tb _ x A6 c6 _ wr HS.out.t ((HWF.out k hk).num (by omega)) (by omega) (HS.out.storeF (do_ent y8.out)) (HXL.out x (List.mem_of_getElem? HX.out)))
        dsimp only [dcs] at HC
        clear y0 y1 y2 y3 y4 y5 y6 y7 y8
        go_wp2_with (first | ((with_reducible refine HC.out.mono ?_); rintro e w1 ⟨cs, rfl, _, h1, o1⟩; have HS1 := Aside0.mk (HS.out.told h1 o1); clear h1 o1))
        go_roundg (xs.length - (k + 1))
        case measure => have := HG.out; omega
        case rel => exact ⟨k + 1, by go_num, by omega, ⟨by omega⟩, ⟨by rw [runT_succ HX.out]; exact HS1.out⟩⟩
      · obtain rfl : k = xs.length := by omega
        have HWT := Aside0.mk (HWF.out xs.length (Nat.le_refl _))
        obtain ⟨T, hT⟩ : ∃ T, T = runT (newT ⟨ra, rb, rc, rd⟩) xs xs.length := ⟨_, rfl⟩
        rw [← hT] at HS HWT
        clear hT HWF HT HB
        have hTl : T.l.length ≤ 4096 := by have h1 := HWT.out.len; have h2 := HWT.out.rm.2.1; omega
        have HN0 : Aside0 (Num T (1 + 5000 * (xs.length : Int))) := ⟨HWT.out.num (by omega)⟩
        have hn5 : 1 + 5000 * (xs.length : Int) ≤ 1000000000000000000 := by omega
        have HQ1 : Aside0 (∀ w', TbR w' p mb tb T → _) := ⟨fun w' h => queryC_calls p mb tb T key _ w' h HN0.out (by omega) hks⟩
        have HW1 := Aside0.mk (HWT.out.query_ key)
        have HQ2 : Aside0 (∀ w', TbR w' p mb tb (queryT T key) → _) := ⟨fun w' h => queryC_calls p mb tb (queryT T key) key _ w' h (HW1.out.num (by omega)) (by omega) hks⟩
        have HW2 := Aside0.mk (HW1.out.query_ key)
        have HZ1 : Aside0 (∀ w', TbR w' p mb tb T → _) := ⟨fun w' h => size_calls p mb tb T w' h (by omega)⟩
        have hTl2 : (queryT (queryT T key) key).l.length ≤ 4096 := by have h1 := HW2.out.len; have h2 := HW2.out.rm.2.1; omega
        have HZ2 : Aside0 (∀ w', TbR w' p mb tb (queryT (queryT T key) key) → _) := ⟨fun w' h => size_calls p mb tb (queryT (queryT T key) key) w' h (by omega)⟩
        have HCL : Aside0 (∀ w', TbR w' p mb tb (queryT (queryT T key) key) → _) := ⟨fun w' h => cells_calls p mb tb (queryT (queryT T key) key) _ w' h (HW2.out.num (by omega))⟩
        have HSZ : Aside0 ((queryT (queryT T key) key).l.length = T.l.length ∧ szs (queryT (queryT T key) key).l = szs T.l) := ⟨by
          obtain ⟨a1, a2⟩ := queryT_len key HWT.out.srt
          obtain ⟨a3, a4⟩ := queryT_len key HW1.out.srt
          exact ⟨a3.trans a1, a4.trans a2⟩⟩
        rw [HSZ.out.1, HSZ.out.2] at HZ2
        rw [queryR_twice HWT.out.srt HK.out] at HQ2
        have HRC : Aside0 ((queryR T key).e.key = key ∧ (∀ c ∈ (queryT (queryT T key) key).l, c.e.key = key → c.e = (queryR T key).e) ∧ (hasK (queryT (queryT T key) key).l key = false → (queryR T key).e.tag.seq = 0 ∧ (queryR T key).e.val.has = false)) := ⟨by
          have e2 : queryR (queryT (queryT T key) key) key = queryR T key := by rw [queryR_twice HW1.out.srt HK.out, queryR_twice HWT.out.srt HK.out]
          refine ⟨queryR_key HK.out, fun c hc he => ?_, fun h => ?_⟩
          · rw [← e2]; exact (queryR_cell HW2.out.srt HK.out hc he).symm
          · rw [← e2]; exact queryR_is HK.out h⟩
        have hqe : queryE key = 0 := by unfold queryE; rw [if_pos HK.out]
        rw [hqe] at HQ1 HQ2
        clear hqe
        generalize queryT (queryT T key) key = T2 at HW2 HZ2 HCL HSZ HRC hTl2 HQ2
        generalize queryT T key = T1 at HQ1 HQ2 HW1
        generalize queryR T key = R at HQ1 HQ2 HRC
        generalize hm : szs T.l = m at HZ1 HZ2
        clear hm HSZ
        obtain ⟨⟨rk, ⟨t1, t2, t3⟩, ⟨rh, rb⟩⟩, rw_, rt⟩ := R
        go_upto_region 10 with (first
          | ((with_reducible refine (HZ1.out _ HS.out.t).mono ?_); rintro e w1 ⟨rfl, h⟩; have HS := Aside0.mk (HS.out.below h); clear h)
          | ((with_reducible refine (HQ1.out _ HS.out.t).mono ?_); rintro e w1 ⟨A1, c1, rfl, hb, ht, ho⟩; have HBK := Aside0.mk hb; have HS := Aside0.mk (HS.out.told ht ho); clear hb ht ho))
        generalize hX : World.alloc _ _ = W1
        have HB1 : Aside0 (RB W1 w1.heap.size ⟨⟨rk, ⟨t1, t2, t3⟩, ⟨rh, rb⟩⟩, rw_, rt⟩ A1 c1) := ⟨by rw [← hX]; exact RB.new HBK.out⟩
        have HS := Aside0.mk (HS.out.below (w1 := W1) (by rw [← hX]; exact below_alloc (Below.refl _ _) _))
        obtain ⟨b1, hbx⟩ : ∃ b, b = w1.heap.size := ⟨_, rfl⟩
        rw [← hbx] at HB1
        rw [← hbx]
        clear hX hbx HBK
        go_upto_region 11 with (first
          | ((with_reducible refine (HQ2.out _ HS.out.t).mono ?_); rintro e w1 ⟨A2, c2, rfl, hb, ht, ho⟩; have HBK := Aside0.mk hb; have HB1 := Aside0.mk (HB1.out.told HS.out.t ho); have HS := Aside0.mk (HS.out.told ht ho); clear hb ht ho))
        generalize hX : World.alloc _ _ = W2
        have HB2 : Aside0 (RB W2 w1.heap.size ⟨⟨rk, ⟨t1, t2, t3⟩, ⟨rh, rb⟩⟩, rw_, rt⟩ A2 c2) := ⟨by rw [← hX]; exact RB.new HBK.out⟩
        have HB1 := Aside0.mk (HB1.out.below (w1 := W2) (by rw [← hX]; exact below_alloc (Below.refl _ _) _))
        have HS := Aside0.mk (HS.out.below (w1 := W2) (by rw [← hX]; exact below_alloc (Below.refl _ _) _))
        obtain ⟨b2, hbx⟩ : ∃ b, b = w1.heap.size := ⟨_, rfl⟩
        rw [← hbx] at HB2
        rw [← hbx]
        clear hX hbx HBK HQ1 HQ2 HZ1
        go_wp2_with (first
          | ((with_reducible refine (HZ2.out _ HS.out.t).mono ?_); rintro e w1 ⟨rfl, h⟩; have HB1 := Aside0.mk (HB1.out.below h); have HB2 := Aside0.mk (HB2.out.below h); have HS := Aside0.mk (HS.out.below h); clear h)
          | ((with_reducible refine (HCL.out _ HS.out.t).mono ?_); rintro e w3 ⟨A4, c4, rfl, hc4, hF, hb⟩; have HB1 := Aside0.mk (HB1.out.below hb); have HB2 := Aside0.mk (HB2.out.below hb); have HS := Aside0.mk (HS.out.below hb); have HFC := Aside0.mk (Kd.F_now hF); clear hb hF))
        have hl2 : T2.l.length ≤ c4 := by assumption
        go_loopg [19, 20] T2.l.length (fun gj v19 v20 wr => ∃ (j : Nat) (b : Bool), v19 = .bool b ∧ v20 = .int .i64 (j : Int) ∧ j ≤ T2.l.length ∧ Aside0 (gj + j = T2.l.length) ∧ Aside0 (b = hasK (T2.l.take j) key) ∧ Aside0 (Below w3.heap.size w3 wr))
        case atStart => exact ⟨0, false, rfl, rfl, Nat.zero_le _, ⟨rfl⟩, ⟨rfl⟩, ⟨Below.refl _ _⟩⟩
        case round =>
          obtain ⟨j, b, rfl, rfl, hj, HG2, HBB, HR3⟩ := hrel
          by_cases hlt : j < T2.l.length
          · obtain ⟨a2, u, A5, c5, rfl, HU, y0, y1, y2, y3, y4, y5, y6, y7, y8, HKU⟩ := Cell.at_ (Kd.C_below HFC.out HR3.out) j hlt
            have hltI : (j : Int) < (T2.l.length : Int) := by omega
            have HBW := Aside0.mk (HB1.out.below HR3.out)
            have HRP : Aside0 (Below wr.heap.size wr wr.drew) := ⟨below_drew (Below.refl _ _)⟩
            obtain ⟨⟨x0, x1, x2, x3, x4, x5, x6, x7⟩, _⟩ := HBW.out.blk.eight
            dsimp only at x0 x1 x2 x3 x4 x5 x6 x7
            cases b with
            | true =>
              have HH : Aside0 (true = hasK (T2.l.take (j + 1)) key) := ⟨by rw [hasK_snoc HU.out, ← HBB.out]; rfl⟩
              go_upto_region 17 with (fail)
              refine wp_region_noPanic ?_
              refine wp_region_held_drew (S := Below wr.heap.size wr) (by kernel_rfl) (below_drew (Below.refl _ _)) (fun hHeld => ?_)
              (refine takeH 0 94 (v := ?_) rfl rfl (by kernel_rfl) (by kernel_rfl) (by kernel_rfl) (fun _ _ _ h => h) hHeld rfl ?_ ?_; rotate_left; (focus (intro w' hSw; go_simp; try with_reducible rfl)))
              (try simp only [Act.put, List.setIfInBounds_toArray, List.set_cons_zero, List.set_cons_succ])
              (refine takeH 1 95 (v := ?_) rfl rfl (by kernel_rfl) (by kernel_rfl) (by kernel_rfl) (fun _ _ _ h => h) hHeld rfl ?_ ?_; rotate_left; (focus (intro w' hSw; go_simp; try with_reducible rfl)))
              (try simp only [Act.put, List.setIfInBounds_toArray, List.set_cons_zero, List.set_cons_succ])
              (first | (refine skipH 2 96 rfl rfl (by kernel_rfl) (by kernel_rfl) (by kernel_rfl) (fun _ _ _ h => h) hHeld rfl ?_) | (refine takeH 2 96 (v := ?_) rfl rfl (by kernel_rfl) (by kernel_rfl) (by kernel_rfl) (fun _ _ _ h => h) hHeld rfl ?_ ?_; rotate_left; (focus (intro w' hSw; go_simp; try with_reducible rfl))))
              (try simp only [Act.put, List.setIfInBounds_toArray, List.set_cons_zero, List.set_cons_succ])
              (first | (refine skipH 3 97 rfl rfl (by kernel_rfl) (by kernel_rfl) (by kernel_rfl) (fun _ _ _ h => h) hHeld rfl ?_) | (refine takeH 3 97 (v := ?_) rfl rfl (by kernel_rfl) (by kernel_rfl) (by kernel_rfl) (fun _ _ _ h => h) hHeld rfl ?_ ?_; rotate_left; (focus (intro w' hSw; go_simp; try with_reducible rfl))))
              (try simp only [Act.put, List.setIfInBounds_toArray, List.set_cons_zero, List.set_cons_succ])
              (first | (refine skipH 4 98 rfl rfl (by kernel_rfl) (by kernel_rfl) (by kernel_rfl) (fun _ _ _ h => h) hHeld rfl ?_) | (refine takeH 4 98 (v := ?_) rfl rfl (by kernel_rfl) (by kernel_rfl) (by kernel_rfl) (fun _ _ _ h => h) hHeld rfl ?_ ?_; rotate_left; (focus (intro w' hSw; go_simp; try with_reducible rfl))))
              (try simp only [Act.put, List.setIfInBounds_toArray, List.set_cons_zero, List.set_cons_succ])
              (first | (refine skipH 5 99 rfl rfl (by kernel_rfl) (by kernel_rfl) (by kernel_rfl) (fun _ _ _ h => h) hHeld rfl ?_) | (refine takeH 5 99 (v := ?_) rfl rfl (by kernel_rfl) (by kernel_rfl) (by kernel_rfl) (fun _ _ _ h => h) hHeld rfl ?_ ?_; rotate_left; (focus (intro w' hSw; go_simp; try with_reducible rfl))))
              (try simp only [Act.put, List.setIfInBounds_toArray, List.set_cons_zero, List.set_cons_succ])
              (first | (refine skipH 6 100 rfl rfl (by kernel_rfl) (by kernel_rfl) (by kernel_rfl) (fun _ _ _ h => h) hHeld rfl ?_) | (refine takeH 6 100 (v := ?_) rfl rfl (by kernel_rfl) (by kernel_rfl) (by kernel_rfl) (fun _ _ _ h => h) hHeld rfl ?_ ?_; rotate_left; (focus (intro w' hSw; go_simp; try with_reducible rfl))))
              (try simp only [Act.put, List.setIfInBounds_toArray, List.set_cons_zero, List.set_cons_succ])
              (first | (refine skipH 7 101 rfl rfl (by kernel_rfl) (by kernel_rfl) (by kernel_rfl) (fun _ _ _ h => h) hHeld rfl ?_) | (refine takeH 7 101 (v := ?_) rfl rfl (by kernel_rfl) (by kernel_rfl) (by kernel_rfl) (fun _ _ _ h => h) hHeld rfl ?_ ?_; rotate_left; (focus (intro w' hSw; go_simp; try with_reducible rfl))))
              (try simp only [Act.put, List.setIfInBounds_toArray, List.set_cons_zero, List.set_cons_succ])
              (first | (refine skipH 8 102 rfl rfl (by kernel_rfl) (by kernel_rfl) (by kernel_rfl) (fun _ _ _ h => h) hHeld rfl ?_) | (refine takeH 8 102 (v := ?_) rfl rfl (by kernel_rfl) (by kernel_rfl) (by kernel_rfl) (fun _ _ _ h => h) hHeld rfl ?_ ?_; rotate_left; (focus (intro w' hSw; go_simp; try with_reducible rfl))))
              (try simp only [Act.put, List.setIfInBounds_toArray, List.set_cons_zero, List.set_cons_succ])
              (first | (refine skipH 9 103 rfl rfl (by kernel_rfl) (by kernel_rfl) (by kernel_rfl) (fun _ _ _ h => h) hHeld rfl ?_) | (refine takeH 9 103 (v := ?_) rfl rfl (by kernel_rfl) (by kernel_rfl) (by kernel_rfl) (fun _ _ _ h => h) hHeld rfl ?_ ?_; rotate_left; (focus (intro w' hSw; go_simp; try with_reducible rfl))))
              (try simp only [Act.put, List.setIfInBounds_toArray, List.set_cons_zero, List.set_cons_succ])
              (first | (refine skipH 10 104 rfl rfl (by kernel_rfl) (by kernel_rfl) (by kernel_rfl) (fun _ _ _ h => h) hHeld rfl ?_) | (refine takeH 10 104 (v := ?_) rfl rfl (by kernel_rfl) (by kernel_rfl) (by kernel_rfl) (fun _ _ _ h => h) hHeld rfl ?_ ?_; rotate_left; (focus (intro w' hSw; go_simp; try with_reducible rfl))))
              (try simp only [Act.put, List.setIfInBounds_toArray, List.set_cons_zero, List.set_cons_succ])
              (first | (refine skipH 11 105 rfl rfl (by kernel_rfl) (by kernel_rfl) (by kernel_rfl) (fun _ _ _ h => h) hHeld rfl ?_) | (refine takeH 11 105 (v := ?_) rfl rfl (by kernel_rfl) (by kernel_rfl) (by kernel_rfl) (fun _ _ _ h => h) hHeld rfl ?_ ?_; rotate_left; (focus (intro w' hSw; go_simp; try with_reducible rfl))))
              (try simp only [Act.put, List.setIfInBounds_toArray, List.set_cons_zero, List.set_cons_succ])
              (first | (refine skipH 12 106 rfl rfl (by kernel_rfl) (by kernel_rfl) (by kernel_rfl) (fun _ _ _ h => h) hHeld rfl ?_) | (refine takeH 12 106 (v := ?_) rfl rfl (by kernel_rfl) (by kernel_rfl) (by kernel_rfl) (fun _ _ _ h => h) hHeld rfl ?_ ?_; rotate_left; (focus (intro w' hSw; go_simp; try with_reducible rfl))))
              (try simp only [Act.put, List.setIfInBounds_toArray, List.set_cons_zero, List.set_cons_succ])
              (first | (refine skipH 13 107 rfl rfl (by kernel_rfl) (by kernel_rfl) (by kernel_rfl) (fun _ _ _ h => h) hHeld rfl ?_) | (refine takeH 13 107 (v := ?_) rfl rfl (by kernel_rfl) (by kernel_rfl) (by kernel_rfl) (fun _ _ _ h => h) hHeld rfl ?_ ?_; rotate_left; (focus (intro w' hSw; go_simp; try with_reducible rfl))))
              (try simp only [Act.put, List.setIfInBounds_toArray, List.set_cons_zero, List.set_cons_succ])
              (first | (refine skipH 14 108 rfl rfl (by kernel_rfl) (by kernel_rfl) (by kernel_rfl) (fun _ _ _ h => h) hHeld rfl ?_) | (refine takeH 14 108 (v := ?_) rfl rfl (by kernel_rfl) (by kernel_rfl) (by kernel_rfl) (fun _ _ _ h => h) hHeld rfl ?_ ?_; rotate_left; (focus (intro w' hSw; go_simp; try with_reducible rfl))))
              (try simp only [Act.put, List.setIfInBounds_toArray, List.set_cons_zero, List.set_cons_succ])
              (first | (refine skipH 15 109 rfl rfl (by kernel_rfl) (by kernel_rfl) (by kernel_rfl) (fun _ _ _ h => h) hHeld rfl ?_) | (refine takeH 15 109 (v := ?_) rfl rfl (by kernel_rfl) (by kernel_rfl) (by kernel_rfl) (fun _ _ _ h => h) hHeld rfl ?_ ?_; rotate_left; (focus (intro w' hSw; go_simp; try with_reducible rfl))))
              (try simp only [Act.put, List.setIfInBounds_toArray, List.set_cons_zero, List.set_cons_succ])
              (first | (refine skipH 16 110 rfl rfl (by kernel_rfl) (by kernel_rfl) (by kernel_rfl) (fun _ _ _ h => h) hHeld rfl ?_) | (refine takeH 16 110 (v := ?_) rfl rfl (by kernel_rfl) (by kernel_rfl) (by kernel_rfl) (fun _ _ _ h => h) hHeld rfl ?_ ?_; rotate_left; (focus (intro w' hSw; go_simp; try with_reducible rfl))))
              (try simp only [Act.put, List.setIfInBounds_toArray, List.set_cons_zero, List.set_cons_succ])
              (first | (refine skipH 17 111 rfl rfl (by kernel_rfl) (by kernel_rfl) (by kernel_rfl) (fun _ _ _ h => h) hHeld rfl ?_) | (refine takeH 17 111 (v := ?_) rfl rfl (by kernel_rfl) (by kernel_rfl) (by kernel_rfl) (fun _ _ _ h => h) hHeld rfl ?_ ?_; rotate_left; (focus (intro w' hSw; go_simp; try with_reducible rfl))))
              (try simp only [Act.put, List.setIfInBounds_toArray, List.set_cons_zero, List.set_cons_succ])
              (first | (refine skipH 18 112 rfl rfl (by kernel_rfl) (by kernel_rfl) (by kernel_rfl) (fun _ _ _ h => h) hHeld rfl ?_) | (refine takeH 18 112 (v := ?_) rfl rfl (by kernel_rfl) (by kernel_rfl) (by kernel_rfl) (fun _ _ _ h => h) hHeld rfl ?_ ?_; rotate_left; (focus (intro w' hSw; go_simp; try with_reducible rfl))))
              (try simp only [Act.put, List.setIfInBounds_toArray, List.set_cons_zero, List.set_cons_succ])
              (first | (refine skipH 19 113 rfl rfl (by kernel_rfl) (by kernel_rfl) (by kernel_rfl) (fun _ _ _ h => h) hHeld rfl ?_) | (refine takeH 19 113 (v := ?_) rfl rfl (by kernel_rfl) (by kernel_rfl) (by kernel_rfl) (fun _ _ _ h => h) hHeld rfl ?_ ?_; rotate_left; (focus (intro w' hSw; go_simp; try with_reducible rfl))))
              (try simp only [Act.put, List.setIfInBounds_toArray, List.set_cons_zero, List.set_cons_succ])
              (refine takeH 20 114 (v := ?_) rfl rfl (by kernel_rfl) (by kernel_rfl) (by kernel_rfl) (fun _ _ _ h => h) hHeld rfl ?_ ?_; rotate_left; (focus (intro w' hSw; go_simp; try with_reducible rfl)))
              (try simp only [Act.put, List.setIfInBounds_toArray, List.set_cons_zero, List.set_cons_succ])
              (refine takeH 21 19 (v := ?_) rfl rfl (by kernel_rfl) (by kernel_rfl) (by kernel_rfl) (fun _ _ _ h => h) hHeld rfl ?_ ?_; rotate_left; (focus (intro w' hSw; go_simp; try with_reducible rfl)))
              (try simp only [Act.put, List.setIfInBounds_toArray, List.set_cons_zero, List.set_cons_succ])
              refine wpAnyH_done (by kernel_rfl) ?_ _
              refine NoPanic.normal ?_
              go_wp2
              go_roundg (T2.l.length - (j + 1))
              case measure => have := HG2.out; omega
              case rel => exact ⟨j + 1, true, rfl, by go_num, by omega, ⟨by omega⟩, HH, ⟨Below.then_ HR3.out HRP.out (Nat.le_refl _)⟩⟩
            | false =>
              by_cases hky : u.e.key = key
              · have hue := HRC.out.2.1 u (List.mem_of_getElem? HU.out) hky
                have HH : Aside0 (true = hasK (T2.l.take (j + 1)) key) := ⟨by rw [hasK_snoc HU.out, decide_eq_true hky]; simp⟩
                obtain ⟨ue, uw, uc, uu⟩ := u
                dsimp only at hue hky
                subst hue
                dsimp only at *
                subst hky
                have HSM : Aside0 (∀ w', Below wr.heap.size wr w' → Calls Try.prog 25 #[.agg #[.string rk, .int .i64 t1, .int .i64 t2, .int .i64 t3, .bool rh, .slice A5 rb.length c5], .agg #[.string rk, .int .i64 t1, .int .i64 t2, .int .i64 t3, .bool rh, .slice A1 rb.length c1]] w' (Cmp.Yes w')) := ⟨fun w' hb => by
                  obtain ⟨A6, c6, he, _, _, _, _, _, g5, _⟩ := Cell.open_ HKU.out
                  simp only [List.cons.injEq, Value.slice.injEq, true_and, and_true] at he
                  obtain ⟨rfl, rfl⟩ := he
                  exact Cmp.same_refl ⟨rk, ⟨t1, t2, t3⟩, ⟨rh, rb⟩⟩ A5 A1 c5 c1 w' (Kd.C_below g5 hb) (Kd.C_below HBW.out.bytes hb)⟩
                have x0 := fun w' (h : Below wr.heap.size wr w') => pw_cell_below h x0
                have x1 := fun w' (h : Below wr.heap.size wr w') => pw_cell_below h x1
                have x2 := fun w' (h : Below wr.heap.size wr w') => pw_cell_below h x2
                have x3 := fun w' (h : Below wr.heap.size wr w') => pw_cell_below h x3
                have x4 := fun w' (h : Below wr.heap.size wr w') => pw_cell_below h x4
                have x5 := fun w' (h : Below wr.heap.size wr w') => pw_cell_below h x5
                have y0 := fun w' (h : Below wr.heap.size wr w') => pw_cell_below h y0
                have y1 := fun w' (h : Below wr.heap.size wr w') => pw_cell_below h y1
                have y2 := fun w' (h : Below wr.heap.size wr w') => pw_cell_below h y2
                have y3 := fun w' (h : Below wr.heap.size wr w') => pw_cell_below h y3
                have y4 := fun w' (h : Below wr.heap.size wr w') => pw_cell_below h y4
                have y5 := fun w' (h : Below wr.heap.size wr w') => pw_cell_below h y5
                go_upto_region 17 with (fail)
                refine wp_region_noPanic ?_
                refine wp_region_held_drew (S := Below wr.heap.size wr) (by kernel_rfl) (below_drew (Below.refl _ _)) (fun hHeld => ?_)
                (refine takeH 0 94 (v := ?_) rfl rfl (by kernel_rfl) (by kernel_rfl) (by kernel_rfl) (fun _ _ _ h => h) hHeld rfl ?_ ?_; rotate_left; (focus (intro w' hSw; go_simp; try with_reducible rfl)))
                (try simp only [Act.put, List.setIfInBounds_toArray, List.set_cons_zero, List.set_cons_succ])
                (refine takeH 1 95 (v := ?_) rfl rfl (by kernel_rfl) (by kernel_rfl) (by kernel_rfl) (fun _ _ _ h => h) hHeld rfl ?_ ?_; rotate_left; (focus (intro w' hSw; go_simp; try with_reducible rfl)))
                (try simp only [Act.put, List.setIfInBounds_toArray, List.set_cons_zero, List.set_cons_succ])
                (first | (refine skipH 2 96 rfl rfl (by kernel_rfl) (by kernel_rfl) (by kernel_rfl) (fun _ _ _ h => h) hHeld rfl ?_) | (refine takeH 2 96 (v := ?_) rfl rfl (by kernel_rfl) (by kernel_rfl) (by kernel_rfl) (fun _ _ _ h => h) hHeld rfl ?_ ?_; rotate_left; (focus (intro w' hSw; go_simp; try with_reducible rfl))))
                (try simp only [Act.put, List.setIfInBounds_toArray, List.set_cons_zero, List.set_cons_succ])
                (first | (refine skipH 3 97 rfl rfl (by kernel_rfl) (by kernel_rfl) (by kernel_rfl) (fun _ _ _ h => h) hHeld rfl ?_) | (refine takeH 3 97 (v := ?_) rfl rfl (by kernel_rfl) (by kernel_rfl) (by kernel_rfl) (fun _ _ _ h => h) hHeld rfl ?_ ?_; rotate_left; (focus (intro w' hSw; go_simp; try with_reducible rfl))))
                (try simp only [Act.put, List.setIfInBounds_toArray, List.set_cons_zero, List.set_cons_succ])
                (first | (refine skipH 4 98 rfl rfl (by kernel_rfl) (by kernel_rfl) (by kernel_rfl) (fun _ _ _ h => h) hHeld rfl ?_) | (refine takeH 4 98 (v := ?_) rfl rfl (by kernel_rfl) (by kernel_rfl) (by kernel_rfl) (fun _ _ _ h => h) hHeld rfl ?_ ?_; rotate_left; (focus (intro w' hSw; go_simp; try with_reducible rfl))))
                (try simp only [Act.put, List.setIfInBounds_toArray, List.set_cons_zero, List.set_cons_succ])
                (first | (refine skipH 5 99 rfl rfl (by kernel_rfl) (by kernel_rfl) (by kernel_rfl) (fun _ _ _ h => h) hHeld rfl ?_) | (refine takeH 5 99 (v := ?_) rfl rfl (by kernel_rfl) (by kernel_rfl) (by kernel_rfl) (fun _ _ _ h => h) hHeld rfl ?_ ?_; rotate_left; (focus (intro w' hSw; go_simp; try with_reducible rfl))))
                (try simp only [Act.put, List.setIfInBounds_toArray, List.set_cons_zero, List.set_cons_succ])
                (first | (refine skipH 6 100 rfl rfl (by kernel_rfl) (by kernel_rfl) (by kernel_rfl) (fun _ _ _ h => h) hHeld rfl ?_) | (refine takeH 6 100 (v := ?_) rfl rfl (by kernel_rfl) (by kernel_rfl) (by kernel_rfl) (fun _ _ _ h => h) hHeld rfl ?_ ?_; rotate_left; (focus (intro w' hSw; go_simp; try with_reducible rfl))))
                (try simp only [Act.put, List.setIfInBounds_toArray, List.set_cons_zero, List.set_cons_succ])
                (first | (refine skipH 7 101 rfl rfl (by kernel_rfl) (by kernel_rfl) (by kernel_rfl) (fun _ _ _ h => h) hHeld rfl ?_) | (refine takeH 7 101 (v := ?_) rfl rfl (by kernel_rfl) (by kernel_rfl) (by kernel_rfl) (fun _ _ _ h => h) hHeld rfl ?_ ?_; rotate_left; (focus (intro w' hSw; go_simp; try with_reducible rfl))))
                (try simp only [Act.put, List.setIfInBounds_toArray, List.set_cons_zero, List.set_cons_succ])
                (first | (refine skipH 8 102 rfl rfl (by kernel_rfl) (by kernel_rfl) (by kernel_rfl) (fun _ _ _ h => h) hHeld rfl ?_) | (refine takeH 8 102 (v := ?_) rfl rfl (by kernel_rfl) (by kernel_rfl) (by kernel_rfl) (fun _ _ _ h => h) hHeld rfl ?_ ?_; rotate_left; (focus (intro w' hSw; go_simp; try with_reducible rfl))))
                (try simp only [Act.put, List.setIfInBounds_toArray, List.set_cons_zero, List.set_cons_succ])
                (first | (refine skipH 9 103 rfl rfl (by kernel_rfl) (by kernel_rfl) (by kernel_rfl) (fun _ _ _ h => h) hHeld rfl ?_) | (refine takeH 9 103 (v := ?_) rfl rfl (by kernel_rfl) (by kernel_rfl) (by kernel_rfl) (fun _ _ _ h => h) hHeld rfl ?_ ?_; rotate_left; (focus (intro w' hSw; go_simp; try with_reducible rfl))))
                (try simp only [Act.put, List.setIfInBounds_toArray, List.set_cons_zero, List.set_cons_succ])
                (first | (refine skipH 10 104 rfl rfl (by kernel_rfl) (by kernel_rfl) (by kernel_rfl) (fun _ _ _ h => h) hHeld rfl ?_) | (refine takeH 10 104 (v := ?_) rfl rfl (by kernel_rfl) (by kernel_rfl) (by kernel_rfl) (fun _ _ _ h => h) hHeld rfl ?_ ?_; rotate_left; (focus (intro w' hSw; go_simp; try with_reducible rfl))))
                (try simp only [Act.put, List.setIfInBounds_toArray, List.set_cons_zero, List.set_cons_succ])
                (first | (refine skipH 11 105 rfl rfl (by kernel_rfl) (by kernel_rfl) (by kernel_rfl) (fun _ _ _ h => h) hHeld rfl ?_) | (refine takeH 11 105 (v := ?_) rfl rfl (by kernel_rfl) (by kernel_rfl) (by kernel_rfl) (fun _ _ _ h => h) hHeld rfl ?_ ?_; rotate_left; (focus (intro w' hSw; go_simp; try with_reducible rfl))))
                (try simp only [Act.put, List.setIfInBounds_toArray, List.set_cons_zero, List.set_cons_succ])
                (first | (refine skipH 12 106 rfl rfl (by kernel_rfl) (by kernel_rfl) (by kernel_rfl) (fun _ _ _ h => h) hHeld rfl ?_) | (refine takeH 12 106 (v := ?_) rfl rfl (by kernel_rfl) (by kernel_rfl) (by kernel_rfl) (fun _ _ _ h => h) hHeld rfl ?_ ?_; rotate_left; (focus (intro w' hSw; go_simp; try with_reducible rfl))))
                (try simp only [Act.put, List.setIfInBounds_toArray, List.set_cons_zero, List.set_cons_succ])
                (first | (refine skipH 13 107 rfl rfl (by kernel_rfl) (by kernel_rfl) (by kernel_rfl) (fun _ _ _ h => h) hHeld rfl ?_) | (refine takeH 13 107 (v := ?_) rfl rfl (by kernel_rfl) (by kernel_rfl) (by kernel_rfl) (fun _ _ _ h => h) hHeld rfl ?_ ?_; rotate_left; (focus (intro w' hSw; go_simp; try with_reducible rfl))))
                (try simp only [Act.put, List.setIfInBounds_toArray, List.set_cons_zero, List.set_cons_succ])
                (first | (refine skipH 14 108 rfl rfl (by kernel_rfl) (by kernel_rfl) (by kernel_rfl) (fun _ _ _ h => h) hHeld rfl ?_) | (refine takeH 14 108 (v := ?_) rfl rfl (by kernel_rfl) (by kernel_rfl) (by kernel_rfl) (fun _ _ _ h => h) hHeld rfl ?_ ?_; rotate_left; (focus (intro w' hSw; go_simp; try with_reducible rfl))))
                (try simp only [Act.put, List.setIfInBounds_toArray, List.set_cons_zero, List.set_cons_succ])
                (first | (refine skipH 15 109 rfl rfl (by kernel_rfl) (by kernel_rfl) (by kernel_rfl) (fun _ _ _ h => h) hHeld rfl ?_) | (refine takeH 15 109 (v := ?_) rfl rfl (by kernel_rfl) (by kernel_rfl) (by kernel_rfl) (fun _ _ _ h => h) hHeld rfl ?_ ?_; rotate_left; (focus (intro w' hSw; go_simp; try with_reducible rfl))))
                (try simp only [Act.put, List.setIfInBounds_toArray, List.set_cons_zero, List.set_cons_succ])
                (first | (refine skipH 16 110 rfl rfl (by kernel_rfl) (by kernel_rfl) (by kernel_rfl) (fun _ _ _ h => h) hHeld rfl ?_) | (refine takeH 16 110 (v := ?_) rfl rfl (by kernel_rfl) (by kernel_rfl) (by kernel_rfl) (fun _ _ _ h => h) hHeld rfl ?_ ?_; rotate_left; (focus (intro w' hSw; go_simp; try with_reducible rfl))))
                (try simp only [Act.put, List.setIfInBounds_toArray, List.set_cons_zero, List.set_cons_succ])
                (first | (refine skipH 17 111 rfl rfl (by kernel_rfl) (by kernel_rfl) (by kernel_rfl) (fun _ _ _ h => h) hHeld rfl ?_) | (refine takeH 17 111 (v := ?_) rfl rfl (by kernel_rfl) (by kernel_rfl) (by kernel_rfl) (fun _ _ _ h => h) hHeld rfl ?_ ?_; rotate_left; (focus (intro w' hSw; go_simp; try with_reducible rfl))))
                (try simp only [Act.put, List.setIfInBounds_toArray, List.set_cons_zero, List.set_cons_succ])
                refine wpAnyH_ready (rs := [18]) (by kernel_rfl) (by simp) ?_
                refine AllReadyH.cons rfl (fun K hK => ?_) AllReadyH.nil
                go_simp
                refine (HSM.out _ (below_drew (Below.refl _ _))).mono ?_
                rintro e w4 ⟨rfl, h1⟩
                have H1 := Aside0.mk (Below.then_ (below_drew (Below.refl wr.heap.size wr)) h1 (Nat.le_refl _))
                clear h1
                refine hK.out _ _ (H1.out) (fun hHeld => ?_)
                clear hK K
                (try simp only [Act.put, List.setIfInBounds_toArray, List.set_cons_zero, List.set_cons_succ])
                (first | (refine skipH 19 113 rfl rfl (by kernel_rfl) (by kernel_rfl) (by kernel_rfl) (fun _ _ _ h => h) hHeld rfl ?_) | (refine takeH 19 113 (v := ?_) rfl rfl (by kernel_rfl) (by kernel_rfl) (by kernel_rfl) (fun _ _ _ h => h) hHeld rfl ?_ ?_; rotate_left; (focus (intro w' hSw; go_simp; try with_reducible rfl))))
                (try simp only [Act.put, List.setIfInBounds_toArray, List.set_cons_zero, List.set_cons_succ])
                (refine takeH 20 114 (v := ?_) rfl rfl (by kernel_rfl) (by kernel_rfl) (by kernel_rfl) (fun _ _ _ h => h) hHeld rfl ?_ ?_; rotate_left; (focus (intro w' hSw; go_simp; try with_reducible rfl)))
                (try simp only [Act.put, List.setIfInBounds_toArray, List.set_cons_zero, List.set_cons_succ])
                (refine takeH 21 19 (v := ?_) rfl rfl (by kernel_rfl) (by kernel_rfl) (by kernel_rfl) (fun _ _ _ h => h) hHeld rfl ?_ ?_; rotate_left; (focus (intro w' hSw; go_simp; try with_reducible rfl)))
                (try simp only [Act.put, List.setIfInBounds_toArray, List.set_cons_zero, List.set_cons_succ])
                refine wpAnyH_done (by kernel_rfl) ?_ _
                refine NoPanic.normal ?_
                go_wp2
                go_roundg (T2.l.length - (j + 1))
                case measure => have := HG2.out; omega
                case rel => exact ⟨j + 1, true, rfl, by go_num, by omega, ⟨by omega⟩, HH, ⟨Below.then_ HR3.out H1.out (Nat.le_refl _)⟩⟩
              · have HH : Aside0 (false = hasK (T2.l.take (j + 1)) key) := ⟨by rw [hasK_snoc HU.out, ← HBB.out, decide_eq_false hky]; rfl⟩
                have hkb : (u.e.key.toList == key.toList) = false := by simpa using StrRow.txt_ne hky
                clear hky
                have y0 := fun w' (h : Below wr.heap.size wr w') => pw_cell_below h y0
                have y1 := fun w' (h : Below wr.heap.size wr w') => pw_cell_below h y1
                have y2 := fun w' (h : Below wr.heap.size wr w') => pw_cell_below h y2
                have y3 := fun w' (h : Below wr.heap.size wr w') => pw_cell_below h y3
                have y4 := fun w' (h : Below wr.heap.size wr w') => pw_cell_below h y4
                have y5 := fun w' (h : Below wr.heap.size wr w') => pw_cell_below h y5
                go_upto_region 17 with (fail)
                refine wp_region_noPanic ?_
                refine wp_region_held_drew (S := Below wr.heap.size wr) (by kernel_rfl) (below_drew (Below.refl _ _)) (fun hHeld => ?_)
                (refine takeH 0 94 (v := ?_) rfl rfl (by kernel_rfl) (by kernel_rfl) (by kernel_rfl) (fun _ _ _ h => h) hHeld rfl ?_ ?_; rotate_left; (focus (intro w' hSw; go_simp; try with_reducible rfl)))
                (try simp only [Act.put, List.setIfInBounds_toArray, List.set_cons_zero, List.set_cons_succ])
                (refine takeH 1 95 (v := ?_) rfl rfl (by kernel_rfl) (by kernel_rfl) (by kernel_rfl) (fun _ _ _ h => h) hHeld rfl ?_ ?_; rotate_left; (focus (intro w' hSw; go_simp; try with_reducible rfl)))
                (try simp only [Act.put, List.setIfInBounds_toArray, List.set_cons_zero, List.set_cons_succ])
                (first | (refine skipH 2 96 rfl rfl (by kernel_rfl) (by kernel_rfl) (by kernel_rfl) (fun _ _ _ h => h) hHeld rfl ?_) | (refine takeH 2 96 (v := ?_) rfl rfl (by kernel_rfl) (by kernel_rfl) (by kernel_rfl) (fun _ _ _ h => h) hHeld rfl ?_ ?_; rotate_left; (focus (intro w' hSw; go_simp; try with_reducible rfl))))
                (try simp only [Act.put, List.setIfInBounds_toArray, List.set_cons_zero, List.set_cons_succ])
                (first | (refine skipH 3 97 rfl rfl (by kernel_rfl) (by kernel_rfl) (by kernel_rfl) (fun _ _ _ h => h) hHeld rfl ?_) | (refine takeH 3 97 (v := ?_) rfl rfl (by kernel_rfl) (by kernel_rfl) (by kernel_rfl) (fun _ _ _ h => h) hHeld rfl ?_ ?_; rotate_left; (focus (intro w' hSw; go_simp; try with_reducible rfl))))
                (try simp only [Act.put, List.setIfInBounds_toArray, List.set_cons_zero, List.set_cons_succ])
                (first | (refine skipH 4 98 rfl rfl (by kernel_rfl) (by kernel_rfl) (by kernel_rfl) (fun _ _ _ h => h) hHeld rfl ?_) | (refine takeH 4 98 (v := ?_) rfl rfl (by kernel_rfl) (by kernel_rfl) (by kernel_rfl) (fun _ _ _ h => h) hHeld rfl ?_ ?_; rotate_left; (focus (intro w' hSw; go_simp; try with_reducible rfl))))
                (try simp only [Act.put, List.setIfInBounds_toArray, List.set_cons_zero, List.set_cons_succ])
                (first | (refine skipH 5 99 rfl rfl (by kernel_rfl) (by kernel_rfl) (by kernel_rfl) (fun _ _ _ h => h) hHeld rfl ?_) | (refine takeH 5 99 (v := ?_) rfl rfl (by kernel_rfl) (by kernel_rfl) (by kernel_rfl) (fun _ _ _ h => h) hHeld rfl ?_ ?_; rotate_left; (focus (intro w' hSw; go_simp; try with_reducible rfl))))
                (try simp only [Act.put, List.setIfInBounds_toArray, List.set_cons_zero, List.set_cons_succ])
                (first | (refine skipH 6 100 rfl rfl (by kernel_rfl) (by kernel_rfl) (by kernel_rfl) (fun _ _ _ h => h) hHeld rfl ?_) | (refine takeH 6 100 (v := ?_) rfl rfl (by kernel_rfl) (by kernel_rfl) (by kernel_rfl) (fun _ _ _ h => h) hHeld rfl ?_ ?_; rotate_left; (focus (intro w' hSw; go_simp; try with_reducible rfl))))
                (try simp only [Act.put, List.setIfInBounds_toArray, List.set_cons_zero, List.set_cons_succ])
                (first | (refine skipH 7 101 rfl rfl (by kernel_rfl) (by kernel_rfl) (by kernel_rfl) (fun _ _ _ h => h) hHeld rfl ?_) | (refine takeH 7 101 (v := ?_) rfl rfl (by kernel_rfl) (by kernel_rfl) (by kernel_rfl) (fun _ _ _ h => h) hHeld rfl ?_ ?_; rotate_left; (focus (intro w' hSw; go_simp; try with_reducible rfl))))
                (try simp only [Act.put, List.setIfInBounds_toArray, List.set_cons_zero, List.set_cons_succ])
                (first | (refine skipH 8 102 rfl rfl (by kernel_rfl) (by kernel_rfl) (by kernel_rfl) (fun _ _ _ h => h) hHeld rfl ?_) | (refine takeH 8 102 (v := ?_) rfl rfl (by kernel_rfl) (by kernel_rfl) (by kernel_rfl) (fun _ _ _ h => h) hHeld rfl ?_ ?_; rotate_left; (focus (intro w' hSw; go_simp; try with_reducible rfl))))
                (try simp only [Act.put, List.setIfInBounds_toArray, List.set_cons_zero, List.set_cons_succ])
                (first | (refine skipH 9 103 rfl rfl (by kernel_rfl) (by kernel_rfl) (by kernel_rfl) (fun _ _ _ h => h) hHeld rfl ?_) | (refine takeH 9 103 (v := ?_) rfl rfl (by kernel_rfl) (by kernel_rfl) (by kernel_rfl) (fun _ _ _ h => h) hHeld rfl ?_ ?_; rotate_left; (focus (intro w' hSw; go_simp; try with_reducible rfl))))
                (try simp only [Act.put, List.setIfInBounds_toArray, List.set_cons_zero, List.set_cons_succ])
                (first | (refine skipH 10 104 rfl rfl (by kernel_rfl) (by kernel_rfl) (by kernel_rfl) (fun _ _ _ h => h) hHeld rfl ?_) | (refine takeH 10 104 (v := ?_) rfl rfl (by kernel_rfl) (by kernel_rfl) (by kernel_rfl) (fun _ _ _ h => h) hHeld rfl ?_ ?_; rotate_left; (focus (intro w' hSw; go_simp; try with_reducible rfl))))
                (try simp only [Act.put, List.setIfInBounds_toArray, List.set_cons_zero, List.set_cons_succ])
                (first | (refine skipH 11 105 rfl rfl (by kernel_rfl) (by kernel_rfl) (by kernel_rfl) (fun _ _ _ h => h) hHeld rfl ?_) | (refine takeH 11 105 (v := ?_) rfl rfl (by kernel_rfl) (by kernel_rfl) (by kernel_rfl) (fun _ _ _ h => h) hHeld rfl ?_ ?_; rotate_left; (focus (intro w' hSw; go_simp; try with_reducible rfl))))
                (try simp only [Act.put, List.setIfInBounds_toArray, List.set_cons_zero, List.set_cons_succ])
                (first | (refine skipH 12 106 rfl rfl (by kernel_rfl) (by kernel_rfl) (by kernel_rfl) (fun _ _ _ h => h) hHeld rfl ?_) | (refine takeH 12 106 (v := ?_) rfl rfl (by kernel_rfl) (by kernel_rfl) (by kernel_rfl) (fun _ _ _ h => h) hHeld rfl ?_ ?_; rotate_left; (focus (intro w' hSw; go_simp; try with_reducible rfl))))
                (try simp only [Act.put, List.setIfInBounds_toArray, List.set_cons_zero, List.set_cons_succ])
                (first | (refine skipH 13 107 rfl rfl (by kernel_rfl) (by kernel_rfl) (by kernel_rfl) (fun _ _ _ h => h) hHeld rfl ?_) | (refine takeH 13 107 (v := ?_) rfl rfl (by kernel_rfl) (by kernel_rfl) (by kernel_rfl) (fun _ _ _ h => h) hHeld rfl ?_ ?_; rotate_left; (focus (intro w' hSw; go_simp; try with_reducible rfl))))
                (try simp only [Act.put, List.setIfInBounds_toArray, List.set_cons_zero, List.set_cons_succ])
                (first | (refine skipH 14 108 rfl rfl (by kernel_rfl) (by kernel_rfl) (by kernel_rfl) (fun _ _ _ h => h) hHeld rfl ?_) | (refine takeH 14 108 (v := ?_) rfl rfl (by kernel_rfl) (by kernel_rfl) (by kernel_rfl) (fun _ _ _ h => h) hHeld rfl ?_ ?_; rotate_left; (focus (intro w' hSw; go_simp; try with_reducible rfl))))
                (try simp only [Act.put, List.setIfInBounds_toArray, List.set_cons_zero, List.set_cons_succ])
                (first | (refine skipH 15 109 rfl rfl (by kernel_rfl) (by kernel_rfl) (by kernel_rfl) (fun _ _ _ h => h) hHeld rfl ?_) | (refine takeH 15 109 (v := ?_) rfl rfl (by kernel_rfl) (by kernel_rfl) (by kernel_rfl) (fun _ _ _ h => h) hHeld rfl ?_ ?_; rotate_left; (focus (intro w' hSw; go_simp; try with_reducible rfl))))
                (try simp only [Act.put, List.setIfInBounds_toArray, List.set_cons_zero, List.set_cons_succ])
                (first | (refine skipH 16 110 rfl rfl (by kernel_rfl) (by kernel_rfl) (by kernel_rfl) (fun _ _ _ h => h) hHeld rfl ?_) | (refine takeH 16 110 (v := ?_) rfl rfl (by kernel_rfl) (by kernel_rfl) (by kernel_rfl) (fun _ _ _ h => h) hHeld rfl ?_ ?_; rotate_left; (focus (intro w' hSw; go_simp; try with_reducible rfl))))
                (try simp only [Act.put, List.setIfInBounds_toArray, List.set_cons_zero, List.set_cons_succ])
                (first | (refine skipH 17 111 rfl rfl (by kernel_rfl) (by kernel_rfl) (by kernel_rfl) (fun _ _ _ h => h) hHeld rfl ?_) | (refine takeH 17 111 (v := ?_) rfl rfl (by kernel_rfl) (by kernel_rfl) (by kernel_rfl) (fun _ _ _ h => h) hHeld rfl ?_ ?_; rotate_left; (focus (intro w' hSw; go_simp; try with_reducible rfl))))
                (try simp only [Act.put, List.setIfInBounds_toArray, List.set_cons_zero, List.set_cons_succ])
                (first | (refine skipH 18 112 rfl rfl (by kernel_rfl) (by kernel_rfl) (by kernel_rfl) (fun _ _ _ h => h) hHeld rfl ?_) | (refine takeH 18 112 (v := ?_) rfl rfl (by kernel_rfl) (by kernel_rfl) (by kernel_rfl) (fun _ _ _ h => h) hHeld rfl ?_ ?_; rotate_left; (focus (intro w' hSw; go_simp; try with_reducible rfl))))
                (try simp only [Act.put, List.setIfInBounds_toArray, List.set_cons_zero, List.set_cons_succ])
                (first | (refine skipH 19 113 rfl rfl (by kernel_rfl) (by kernel_rfl) (by kernel_rfl) (fun _ _ _ h => h) hHeld rfl ?_) | (refine takeH 19 113 (v := ?_) rfl rfl (by kernel_rfl) (by kernel_rfl) (by kernel_rfl) (fun _ _ _ h => h) hHeld rfl ?_ ?_; rotate_left; (focus (intro w' hSw; go_simp; try with_reducible rfl))))
                (try simp only [Act.put, List.setIfInBounds_toArray, List.set_cons_zero, List.set_cons_succ])
                (refine takeH 20 114 (v := ?_) rfl rfl (by kernel_rfl) (by kernel_rfl) (by kernel_rfl) (fun _ _ _ h => h) hHeld rfl ?_ ?_; rotate_left; (focus (intro w' hSw; go_simp; try with_reducible rfl)))
                (try simp only [Act.put, List.setIfInBounds_toArray, List.set_cons_zero, List.set_cons_succ])
                (refine takeH 21 19 (v := ?_) rfl rfl (by kernel_rfl) (by kernel_rfl) (by kernel_rfl) (fun _ _ _ h => h) hHeld rfl ?_ ?_; rotate_left; (focus (intro w' hSw; go_simp; try with_reducible rfl)))
                (try simp only [Act.put, List.setIfInBounds_toArray, List.set_cons_zero, List.set_cons_succ])
                refine wpAnyH_done (by kernel_rfl) ?_ _
                refine NoPanic.normal ?_
                go_wp2
                go_roundg (T2.l.length - (j + 1))
                case measure => have := HG2.out; omega
                case rel => exact ⟨j + 1, false, rfl, by go_num, by omega, ⟨by omega⟩, HH, ⟨Below.then_ HR3.out HRP.out (Nat.le_refl _)⟩⟩
          · obtain rfl : j = T2.l.length := by omega
            rw [List.take_length] at HBB
            have HBW1 := Aside0.mk (HB1.out.below HR3.out)
            have HBW2 := Aside0.mk (HB2.out.below HR3.out)
            have HSW := Aside0.mk (HS.out.below HR3.out)
            obtain ⟨⟨x0, x1, x2, x3, x4, x5, x6, x7⟩, _⟩ := HBW1.out.blk.eight
            obtain ⟨⟨y0, y1, y2, y3, y4, y5, y6, y7⟩, _⟩ := HBW2.out.blk.eight
            have HSR : Aside0 (Calls Try.prog 26 _ wr _) := ⟨Cmp.sameReply_refl ⟨⟨rk, ⟨t1, t2, t3⟩, ⟨rh, rb⟩⟩, rw_, rt⟩ A1 A2 c1 c2 wr HBW1.out.bytes HBW2.out.bytes⟩
            have hrk : rk = key := HRC.out.1
            subst hrk
            have hkk := Cmp.txt_refl rk
            have HRZ := Aside0.mk HRC.out.2.2
            dsimp only at *
            clear HRC
            cases b with
            | true =>
              go_wp2_with (first
                | ((with_reducible refine HSR.out.mono ?_); rintro e w4 ⟨rfl, h⟩; have HB4 := Aside0.mk h; obtain ⟨⟨x0, x1, x2, x3, x4, x5, x6, x7⟩, _⟩ := (HBW1.out.below h).blk.eight; clear h)
                | ((with_reducible refine (known_true _).mono ?_); rintro e w5 ⟨rfl, h⟩; have HB5 := Aside0.mk h; clear h))
              go_ret
              exact ⟨rfl, Below.then_ (Below.then_ HSW.out.bl HB4.out (Nat.le_refl _)) HB5.out (Nat.le_refl _)⟩
            | false =>
              obtain ⟨rfl, rfl⟩ := HRZ.out HBB.out.symm
              go_wp2_with (first
                | ((with_reducible refine HSR.out.mono ?_); rintro e w4 ⟨rfl, h⟩; have HB4 := Aside0.mk h; obtain ⟨⟨x0, x1, x2, x3, x4, x5, x6, x7⟩, _⟩ := (HBW1.out.below h).blk.eight; clear h)
                | ((with_reducible refine (known_true _).mono ?_); rintro e w5 ⟨rfl, h⟩; have HB5 := Aside0.mk h; clear h))
              go_ret
              exact ⟨rfl, Below.then_ (Below.then_ HSW.out.bl HB4.out (Nat.le_refl _)) HB5.out (Nat.le_refl _)⟩
  · go_ret
    exact ⟨rfl, HB.out⟩
end Tab
end Go.Proofs.Ytgfjkpnaabiecaa
namespace Go.Proofs.Ytgfjkpnaabiecaa
open Go.RowKit Go.Proofs.YtgfjkpnaabiecaaW.PrintWords
def BdT {α : Type} : α → Prop := fun _ => True
def BdS {α : Type} (B : Nat) (Bd : α → Prop) (l : List α) : Prop := l.length * B ≤ 140737488351232 ∧ ∀ x ∈ l, Bd x
def WOk {H : Type} (t : TypeId) (d : DataW H) : Prop := ∀ n ∈ DataW.weights Try.prog t d, n ≤ reachBytes
/-- What reads at type t is of kind k, within bounds. -/
structure Reads {α : Type} (t : TypeId) (k : Kd α) (Bd : α → Prop) : Prop where
  sz : Try.prog.cellsOf t = k.sz
  get : ∀ {H : Type} {enc : TypeId × Value → H} {w : World} {base : Nat} {spare : Nat → Bool} {held : Bool} {fuel : Nat} {cs : List Value} {x : DataW H × List MemPlace},
    DataW.trod enc Try.prog w base spare held fuel t cs = some x → WOk t x.1 → ∃ a, k.K w a cs ∧ Bd a
theorem Reads.int {t : TypeId} {q : IntKind} (ht : Try.prog.underlying t = some (.int q)) (hs : Try.prog.cellsOf t = 1) : Reads t (kInt q) BdT where
  sz := hs
  get := by
    intro H enc w base spare held fuel cs x h _
    obtain ⟨n, rfl, _, hw⟩ := DataW.trod_int ht h
    exact ⟨n, ⟨rfl, hw⟩, trivial⟩
theorem Reads.u8 {t : TypeId} (ht : Try.prog.underlying t = some (.int .u8)) (hs : Try.prog.cellsOf t = 1) : Reads t kU8 BdT where
  sz := hs
  get := by
    intro H enc w base spare held fuel cs x h _
    obtain ⟨n, rfl, _, hw⟩ := DataW.trod_int ht h
    obtain ⟨h0, h1⟩ := _root_.Go.bounds_u8 hw
    refine ⟨UInt8.ofNat n.toNat, ?_, trivial⟩
    show [Value.int .u8 n] = [Value.int .u8 ((UInt8.ofNat n.toNat).toNat : Int)]
    have : ((UInt8.ofNat n.toNat).toNat : Int) = n := by
      rw [UInt8.toNat_ofNat']
      omega
    rw [this]
theorem Reads.bool {t : TypeId} (ht : Try.prog.underlying t = some .bool) (hs : Try.prog.cellsOf t = 1) : Reads t Kd.bool BdT where
  sz := hs
  get := by
    intro H enc w base spare held fuel cs x h _
    obtain ⟨b, rfl, _⟩ := DataW.trod_bool ht h
    exact ⟨b, rfl, trivial⟩
theorem Reads.str {t : TypeId} (ht : Try.prog.underlying t = some .string) (hs : Try.prog.cellsOf t = 1) : Reads t kStr BdT where
  sz := hs
  get := by
    intro H enc w base spare held fuel cs x h hw
    obtain ⟨s, rfl, hx, _⟩ := DataW.trod_string ht h
    subst hx
    refine ⟨s, ⟨rfl, ?_⟩, trivial⟩
    have h2 : s.data.toList.length ≤ reachBytes := hw s.data.toList.length (List.mem_singleton.2 rfl)
    have e : s.data.toList.length = s.size := Array.length_toList
    rw [e] at h2
    exact h2
theorem cells_get {w : World} {base : Nat} {a : Addr} {n : Nat} {cs : List Value} (h : w.cells? base a n = some cs) : cs.length = n ∧ ∀ i u, cs[i]? = some u → w.cell? (a.add i) = some u := by
  unfold World.cells? at h
  split at h
  · refine ⟨by simpa using mapM_some_length h, fun i u hu => ?_⟩
    have hi : i < n := by
      have h1 := mapM_some_length h
      have h2 := (List.getElem?_eq_some_iff.1 hu).1
      simp at h1
      omega
    have h3 := mapM_some_get h i i (by simp [hi])
    rw [h3]
    exact hu
  · cases h
theorem weightsAll_mem {H : Type} {e : TypeId} : ∀ {l : List (DataW H)} {d : DataW H} {n : Nat}, d ∈ l → n ∈ d.weights Try.prog e → n ∈ DataW.weightsAll Try.prog e l
  | a :: r, d, n, hd, hn => by
    unfold DataW.weightsAll
    rcases List.mem_cons.1 hd with rfl | hd
    · exact List.mem_append_left _ hn
    · exact List.mem_append_right _ (weightsAll_mem hd hn)
theorem choose_list {α : Type} {n : Nat} {p : Nat → α → Prop} (h : ∀ i, i < n → ∃ x, p i x) : ∃ l : List α, l.length = n ∧ ∀ i x, l[i]? = some x → p i x := by
  induction n with
  | zero => exact ⟨[], rfl, fun i x hx => by simp at hx⟩
  | succ n ih =>
    obtain ⟨l, hl, hp⟩ := ih (fun i hi => h i (by omega))
    obtain ⟨x, hx⟩ := h n (by omega)
    refine ⟨l ++ [x], by simp [hl], fun i y hy => ?_⟩
    rcases Nat.lt_or_ge i n with hi | hi
    · rw [List.getElem?_append_left (by omega)] at hy
      exact hp i y hy
    · rw [List.getElem?_append_right (by omega)] at hy
      have : i = n := by
        have := (List.getElem?_eq_some_iff.1 hy).1
        simp at this
        omega
      subst this
      simp [hl] at hy
      subst hy
      exact hx
theorem Reads.slice {α : Type} {t e : TypeId} {k : Kd α} {Bd : α → Prop} {B : Nat} (ht : Try.prog.underlying t = some (.slice e)) (hs : Try.prog.cellsOf t = 1) (hB : Try.prog.bytesOf e = B) (R : Reads e k Bd) : Reads t (Kd.slice e k) (BdS B Bd) where
  sz := hs
  get := by
    intro H enc w base spare held fuel cs x h hw
    rcases Deep.open_slice ht h with ⟨rfl, rfl⟩ | ⟨a, len, cap, m, n, D, Pl, rfl, hb, hl, hm, hmm, rfl, hel⟩
    · exact ⟨[], ⟨none, 0, rfl, Nat.le_refl _, Kd.C_nil _ _⟩, by rw [List.length_nil, Nat.zero_mul]; exact Nat.zero_le _, fun _ h => by cases h⟩
    · have hlm : len ≤ m := by rw [hmm]; split <;> omega
      have hwe : ∀ i, i < len → WOk e (D i) := fun i hi n hn => hw n (by
        simp only [DataW.weights, ht]
        exact List.mem_cons_of_mem _ (List.mem_append_left _ (weightsAll_mem (List.mem_map.2 ⟨i, List.mem_range.2 hi, rfl⟩) hn)))
      have hk : ∀ i, i < len → ∃ z, Bd z ∧ ∃ c, w.cells? base (a.add (i * Try.prog.cellsOf e)) (Try.prog.cellsOf e) = some c ∧ k.K w z c := fun i hi => by
        obtain ⟨c, h1, h2⟩ := hel i (by omega)
        obtain ⟨z, h3, h4⟩ := R.get h2 (hwe i hi)
        exact ⟨z, h4, c, h1, h3⟩
      obtain ⟨zs, hzl, hz⟩ := choose_list hk
      have hm' : cap ≤ 9223372036854775807 := by simpa [maxLen] using hm
      subst hzl
      refine ⟨zs, ⟨_, cap, rfl, hl, rfl, by omega, fun _ => ⟨a, rfl, fun j p hj => ?_⟩⟩, ?_, fun z hzm => ?_⟩
      · obtain ⟨_, c, h1, h2⟩ := hz j p hj
        obtain ⟨h3, h4⟩ := cells_get h1
        refine ⟨c, by rw [h3, R.sz], h2, fun i u hu => ?_⟩
        have := h4 i u hu
        rwa [Go.Proofs.YtgfjkpnaabiecaaW.PrintWords.add_add, R.sz] at this
      · have hh := hw ((zs.length + (m - zs.length)) * B) (by
          simp only [DataW.weights, ht, hB]
          refine List.mem_cons.2 (.inl ?_)
          simp)
        refine Nat.le_trans (Nat.mul_le_mul_right _ ?_) hh
        omega
      · obtain ⟨j, hj, rfl⟩ := List.getElem_of_mem hzm
        exact (hz j _ (List.getElem?_eq_getElem hj)).1
end Go.Proofs.Ytgfjkpnaabiecaa
namespace Go.Proofs.Ytgfjkpnaabiecaa
open Go.RowKit Go.Proofs.YtgfjkpnaabiecaaW.PrintWords
theorem len2 {α : Type} {l : List α} (h : l.length = 2) : ∃ a0 a1, l = [a0, a1] := by
  match l, h with
  | [a0, a1], _ => exact ⟨a0, a1, rfl⟩
theorem len3 {α : Type} {l : List α} (h : l.length = 3) : ∃ a0 a1 a2, l = [a0, a1, a2] := by
  match l, h with
  | [a0, a1, a2], _ => exact ⟨a0, a1, a2, rfl⟩
theorem len4 {α : Type} {l : List α} (h : l.length = 4) : ∃ a0 a1 a2 a3, l = [a0, a1, a2, a3] := by
  match l, h with
  | [a0, a1, a2, a3], _ => exact ⟨a0, a1, a2, a3, rfl⟩
theorem len6 {α : Type} {l : List α} (h : l.length = 6) : ∃ a0 a1 a2 a3 a4 a5, l = [a0, a1, a2, a3, a4, a5] := by
  match l, h with
  | [a0, a1, a2, a3, a4, a5], _ => exact ⟨a0, a1, a2, a3, a4, a5, rfl⟩
theorem len8 {α : Type} {l : List α} (h : l.length = 8) : ∃ a0 a1 a2 a3 a4 a5 a6 a7, l = [a0, a1, a2, a3, a4, a5, a6, a7] := by
  match l, h with
  | [a0, a1, a2, a3, a4, a5, a6, a7], _ => exact ⟨a0, a1, a2, a3, a4, a5, a6, a7, rfl⟩
def Tag.Bd (x : Tag) : Prop := BdT x.seq ∧ BdT x.who ∧ BdT x.op
theorem Tag.reads : Reads 32 Tag.k Tag.Bd where
  sz := by kernel_rfl
  get := by
    intro H enc w base spare held fuel cs x h hw
    obtain ⟨xs, n, rfl, hx, hl, hxl, hf⟩ := DataW.trod_struct Try.underlying32 h
    have hz : Try.prog.cellsOf 32 = 3 := by kernel_rfl
    rw [hz] at hl
    obtain ⟨c0, c1, c2, rfl⟩ := len3 hl
    have hxl' : xs.length = 3 := hxl
    obtain ⟨x0, x1, x2, rfl⟩ := len3 hxl'
    subst hx
    have f0 : DataW.trod enc Try.prog w base spare held n 3 (([c0, c1, c2].drop 0).take (Try.prog.cellsOf 3)) = some x0 := hf 0 _ rfl
    have g0 : DataW.trod enc Try.prog w base spare held n 3 [c0] = some x0 := by
      have hc : Try.prog.cellsOf 3 = 1 := by kernel_rfl
      rw [hc] at f0
      exact f0
    obtain ⟨a0, k0, b0⟩ := (Reads.int Try.underlying3 (by kernel_rfl)).get g0 (fun z hz => hw z (by simp only [DataW.weights, Try.underlying32]; simp only [DataW.weightsEach, List.map_cons, List.map_nil, List.mem_append]; exact .inl hz))
    have f1 : DataW.trod enc Try.prog w base spare held n 3 (([c0, c1, c2].drop 1).take (Try.prog.cellsOf 3)) = some x1 := hf 1 _ rfl
    have g1 : DataW.trod enc Try.prog w base spare held n 3 [c1] = some x1 := by
      have hc : Try.prog.cellsOf 3 = 1 := by kernel_rfl
      rw [hc] at f1
      exact f1
    obtain ⟨a1, k1, b1⟩ := (Reads.int Try.underlying3 (by kernel_rfl)).get g1 (fun z hz => hw z (by simp only [DataW.weights, Try.underlying32]; simp only [DataW.weightsEach, List.map_cons, List.map_nil, List.mem_append]; exact .inr (.inl hz)))
    have f2 : DataW.trod enc Try.prog w base spare held n 3 (([c0, c1, c2].drop 2).take (Try.prog.cellsOf 3)) = some x2 := hf 2 _ rfl
    have g2 : DataW.trod enc Try.prog w base spare held n 3 [c2] = some x2 := by
      have hc : Try.prog.cellsOf 3 = 1 := by kernel_rfl
      rw [hc] at f2
      exact f2
    obtain ⟨a2, k2, b2⟩ := (Reads.int Try.underlying3 (by kernel_rfl)).get g2 (fun z hz => hw z (by simp only [DataW.weights, Try.underlying32]; simp only [DataW.weightsEach, List.map_cons, List.map_nil, List.mem_append]; exact .inr (.inr (.inl hz))))
    exact ⟨⟨a0, a1, a2⟩, ⟨_, _, rfl, k0, ⟨_, _, rfl, k1, k2⟩⟩, ⟨b0, b1, b2⟩⟩

def Val.Bd (x : Val) : Prop := BdT x.has ∧ (BdS 1 BdT) x.b
theorem Val.reads : Reads 35 Val.k Val.Bd where
  sz := by kernel_rfl
  get := by
    intro H enc w base spare held fuel cs x h hw
    obtain ⟨xs, n, rfl, hx, hl, hxl, hf⟩ := DataW.trod_struct Try.underlying35 h
    have hz : Try.prog.cellsOf 35 = 2 := by kernel_rfl
    rw [hz] at hl
    obtain ⟨c0, c1, rfl⟩ := len2 hl
    have hxl' : xs.length = 2 := hxl
    obtain ⟨x0, x1, rfl⟩ := len2 hxl'
    subst hx
    have f0 : DataW.trod enc Try.prog w base spare held n 4 (([c0, c1].drop 0).take (Try.prog.cellsOf 4)) = some x0 := hf 0 _ rfl
    have g0 : DataW.trod enc Try.prog w base spare held n 4 [c0] = some x0 := by
      have hc : Try.prog.cellsOf 4 = 1 := by kernel_rfl
      rw [hc] at f0
      exact f0
    obtain ⟨a0, k0, b0⟩ := (Reads.bool Try.underlying4 (by kernel_rfl)).get g0 (fun z hz => hw z (by simp only [DataW.weights, Try.underlying35]; simp only [DataW.weightsEach, List.map_cons, List.map_nil, List.mem_append]; exact .inl hz))
    have f1 : DataW.trod enc Try.prog w base spare held n 33 (([c0, c1].drop 1).take (Try.prog.cellsOf 33)) = some x1 := hf 1 _ rfl
    have g1 : DataW.trod enc Try.prog w base spare held n 33 [c1] = some x1 := by
      have hc : Try.prog.cellsOf 33 = 1 := by kernel_rfl
      rw [hc] at f1
      exact f1
    obtain ⟨a1, k1, b1⟩ := (Reads.slice (B := 1) Try.underlying33 (by kernel_rfl) (by kernel_rfl) (Reads.u8 Try.underlying5 (by kernel_rfl))).get g1 (fun z hz => hw z (by simp only [DataW.weights, Try.underlying35]; simp only [DataW.weightsEach, List.map_cons, List.map_nil, List.mem_append]; exact .inr (.inl hz)))
    exact ⟨⟨a0, a1⟩, ⟨_, _, rfl, k0, k1⟩, ⟨b0, b1⟩⟩

def Entry.Bd (x : Entry) : Prop := BdT x.key ∧ Tag.Bd x.tag ∧ Val.Bd x.val
theorem Entry.reads : Reads 37 Entry.k Entry.Bd where
  sz := by kernel_rfl
  get := by
    intro H enc w base spare held fuel cs x h hw
    obtain ⟨xs, n, rfl, hx, hl, hxl, hf⟩ := DataW.trod_struct Try.underlying37 h
    have hz : Try.prog.cellsOf 37 = 6 := by kernel_rfl
    rw [hz] at hl
    obtain ⟨c0, c1, c2, c3, c4, c5, rfl⟩ := len6 hl
    have hxl' : xs.length = 3 := hxl
    obtain ⟨x0, x1, x2, rfl⟩ := len3 hxl'
    subst hx
    have f0 : DataW.trod enc Try.prog w base spare held n 9 (([c0, c1, c2, c3, c4, c5].drop 0).take (Try.prog.cellsOf 9)) = some x0 := hf 0 _ rfl
    have g0 : DataW.trod enc Try.prog w base spare held n 9 [c0] = some x0 := by
      have hc : Try.prog.cellsOf 9 = 1 := by kernel_rfl
      rw [hc] at f0
      exact f0
    obtain ⟨a0, k0, b0⟩ := (Reads.str Try.underlying9 (by kernel_rfl)).get g0 (fun z hz => hw z (by simp only [DataW.weights, Try.underlying37]; simp only [DataW.weightsEach, List.map_cons, List.map_nil, List.mem_append]; exact .inl hz))
    have f1 : DataW.trod enc Try.prog w base spare held n 32 (([c0, c1, c2, c3, c4, c5].drop 1).take (Try.prog.cellsOf 32)) = some x1 := hf 1 _ rfl
    have g1 : DataW.trod enc Try.prog w base spare held n 32 [c1, c2, c3] = some x1 := by
      have hc : Try.prog.cellsOf 32 = 3 := by kernel_rfl
      rw [hc] at f1
      exact f1
    obtain ⟨a1, k1, b1⟩ := Tag.reads.get g1 (fun z hz => hw z (by simp only [DataW.weights, Try.underlying37]; simp only [DataW.weightsEach, List.map_cons, List.map_nil, List.mem_append]; exact .inr (.inl hz)))
    have f2 : DataW.trod enc Try.prog w base spare held n 35 (([c0, c1, c2, c3, c4, c5].drop 4).take (Try.prog.cellsOf 35)) = some x2 := hf 2 _ rfl
    have g2 : DataW.trod enc Try.prog w base spare held n 35 [c4, c5] = some x2 := by
      have hc : Try.prog.cellsOf 35 = 2 := by kernel_rfl
      rw [hc] at f2
      exact f2
    obtain ⟨a2, k2, b2⟩ := Val.reads.get g2 (fun z hz => hw z (by simp only [DataW.weights, Try.underlying37]; simp only [DataW.weightsEach, List.map_cons, List.map_nil, List.mem_append]; exact .inr (.inr (.inl hz))))
    exact ⟨⟨a0, a1, a2⟩, ⟨_, _, rfl, k0, ⟨_, _, rfl, k1, k2⟩⟩, ⟨b0, b1, b2⟩⟩

def Room.Bd (x : Room) : Prop := BdT x.cells ∧ BdT x.bytes ∧ BdT x.buckets ∧ BdT x.fresh
theorem Room.reads : Reads 23 Room.k Room.Bd where
  sz := by kernel_rfl
  get := by
    intro H enc w base spare held fuel cs x h hw
    obtain ⟨xs, n, rfl, hx, hl, hxl, hf⟩ := DataW.trod_struct Try.underlying23 h
    have hz : Try.prog.cellsOf 23 = 4 := by kernel_rfl
    rw [hz] at hl
    obtain ⟨c0, c1, c2, c3, rfl⟩ := len4 hl
    have hxl' : xs.length = 4 := hxl
    obtain ⟨x0, x1, x2, x3, rfl⟩ := len4 hxl'
    subst hx
    have f0 : DataW.trod enc Try.prog w base spare held n 3 (([c0, c1, c2, c3].drop 0).take (Try.prog.cellsOf 3)) = some x0 := hf 0 _ rfl
    have g0 : DataW.trod enc Try.prog w base spare held n 3 [c0] = some x0 := by
      have hc : Try.prog.cellsOf 3 = 1 := by kernel_rfl
      rw [hc] at f0
      exact f0
    obtain ⟨a0, k0, b0⟩ := (Reads.int Try.underlying3 (by kernel_rfl)).get g0 (fun z hz => hw z (by simp only [DataW.weights, Try.underlying23]; simp only [DataW.weightsEach, List.map_cons, List.map_nil, List.mem_append]; exact .inl hz))
    have f1 : DataW.trod enc Try.prog w base spare held n 3 (([c0, c1, c2, c3].drop 1).take (Try.prog.cellsOf 3)) = some x1 := hf 1 _ rfl
    have g1 : DataW.trod enc Try.prog w base spare held n 3 [c1] = some x1 := by
      have hc : Try.prog.cellsOf 3 = 1 := by kernel_rfl
      rw [hc] at f1
      exact f1
    obtain ⟨a1, k1, b1⟩ := (Reads.int Try.underlying3 (by kernel_rfl)).get g1 (fun z hz => hw z (by simp only [DataW.weights, Try.underlying23]; simp only [DataW.weightsEach, List.map_cons, List.map_nil, List.mem_append]; exact .inr (.inl hz)))
    have f2 : DataW.trod enc Try.prog w base spare held n 3 (([c0, c1, c2, c3].drop 2).take (Try.prog.cellsOf 3)) = some x2 := hf 2 _ rfl
    have g2 : DataW.trod enc Try.prog w base spare held n 3 [c2] = some x2 := by
      have hc : Try.prog.cellsOf 3 = 1 := by kernel_rfl
      rw [hc] at f2
      exact f2
    obtain ⟨a2, k2, b2⟩ := (Reads.int Try.underlying3 (by kernel_rfl)).get g2 (fun z hz => hw z (by simp only [DataW.weights, Try.underlying23]; simp only [DataW.weightsEach, List.map_cons, List.map_nil, List.mem_append]; exact .inr (.inr (.inl hz))))
    have f3 : DataW.trod enc Try.prog w base spare held n 4 (([c0, c1, c2, c3].drop 3).take (Try.prog.cellsOf 4)) = some x3 := hf 3 _ rfl
    have g3 : DataW.trod enc Try.prog w base spare held n 4 [c3] = some x3 := by
      have hc : Try.prog.cellsOf 4 = 1 := by kernel_rfl
      rw [hc] at f3
      exact f3
    obtain ⟨a3, k3, b3⟩ := (Reads.bool Try.underlying4 (by kernel_rfl)).get g3 (fun z hz => hw z (by simp only [DataW.weights, Try.underlying23]; simp only [DataW.weightsEach, List.map_cons, List.map_nil, List.mem_append]; exact .inr (.inr (.inr (.inl hz)))))
    exact ⟨⟨a0, a1, a2, a3⟩, ⟨_, _, rfl, k0, ⟨_, _, rfl, k1, ⟨_, _, rfl, k2, k3⟩⟩⟩, ⟨b0, b1, b2, b3⟩⟩

def Do.Bd (x : Do) : Prop := BdT x.kind ∧ Entry.Bd x.e ∧ BdT x.token
theorem Do.reads : Reads 39 Do.k Do.Bd where
  sz := by kernel_rfl
  get := by
    intro H enc w base spare held fuel cs x h hw
    obtain ⟨xs, n, rfl, hx, hl, hxl, hf⟩ := DataW.trod_struct Try.underlying39 h
    have hz : Try.prog.cellsOf 39 = 8 := by kernel_rfl
    rw [hz] at hl
    obtain ⟨c0, c1, c2, c3, c4, c5, c6, c7, rfl⟩ := len8 hl
    have hxl' : xs.length = 3 := hxl
    obtain ⟨x0, x1, x2, rfl⟩ := len3 hxl'
    subst hx
    have f0 : DataW.trod enc Try.prog w base spare held n 3 (([c0, c1, c2, c3, c4, c5, c6, c7].drop 0).take (Try.prog.cellsOf 3)) = some x0 := hf 0 _ rfl
    have g0 : DataW.trod enc Try.prog w base spare held n 3 [c0] = some x0 := by
      have hc : Try.prog.cellsOf 3 = 1 := by kernel_rfl
      rw [hc] at f0
      exact f0
    obtain ⟨a0, k0, b0⟩ := (Reads.int Try.underlying3 (by kernel_rfl)).get g0 (fun z hz => hw z (by simp only [DataW.weights, Try.underlying39]; simp only [DataW.weightsEach, List.map_cons, List.map_nil, List.mem_append]; exact .inl hz))
    have f1 : DataW.trod enc Try.prog w base spare held n 37 (([c0, c1, c2, c3, c4, c5, c6, c7].drop 1).take (Try.prog.cellsOf 37)) = some x1 := hf 1 _ rfl
    have g1 : DataW.trod enc Try.prog w base spare held n 37 [c1, c2, c3, c4, c5, c6] = some x1 := by
      have hc : Try.prog.cellsOf 37 = 6 := by kernel_rfl
      rw [hc] at f1
      exact f1
    obtain ⟨a1, k1, b1⟩ := Entry.reads.get g1 (fun z hz => hw z (by simp only [DataW.weights, Try.underlying39]; simp only [DataW.weightsEach, List.map_cons, List.map_nil, List.mem_append]; exact .inr (.inl hz)))
    have f2 : DataW.trod enc Try.prog w base spare held n 3 (([c0, c1, c2, c3, c4, c5, c6, c7].drop 7).take (Try.prog.cellsOf 3)) = some x2 := hf 2 _ rfl
    have g2 : DataW.trod enc Try.prog w base spare held n 3 [c7] = some x2 := by
      have hc : Try.prog.cellsOf 3 = 1 := by kernel_rfl
      rw [hc] at f2
      exact f2
    obtain ⟨a2, k2, b2⟩ := (Reads.int Try.underlying3 (by kernel_rfl)).get g2 (fun z hz => hw z (by simp only [DataW.weights, Try.underlying39]; simp only [DataW.weightsEach, List.map_cons, List.map_nil, List.mem_append]; exact .inr (.inr (.inl hz))))
    exact ⟨⟨a0, a1, a2⟩, ⟨_, _, rfl, k0, ⟨_, _, rfl, k1, k2⟩⟩, ⟨b0, b1, b2⟩⟩

end Go.Proofs.Ytgfjkpnaabiecaa
set_option linter.unusedVariables false
set_option linter.unusedSimpArgs false
namespace Go.Proofs.Ytgfjkpnaabiecaa
open Go.RowKit Go.Proofs.YtgfjkpnaabiecaaW.PrintWords
namespace Tab
theorem dos_bd {B : Nat} {xs : List Do} (h : BdS B Do.Bd xs) (hB : B = 88) : xs.length ≤ 1600000000000 ∧ ∀ x ∈ xs, x.e.val.b.length ≤ 140737488351232 := by
  subst hB
  obtain ⟨h1, h2⟩ := h
  refine ⟨by omega, fun x hx => ?_⟩
  obtain ⟨_, ⟨_, _, _, h3, _⟩, _⟩ := h2 x hx
  omega
theorem room_cs {w : World} {cs : Array Value} {r : Room} (h : Room.k.K w r cs.toList) : cs = #[.int .i64 r.cells, .int .i64 r.bytes, .int .i64 r.buckets, .bool r.fresh] := by
  obtain ⟨he, _⟩ := Room.open_ h
  have : cs = cs.toList.toArray := by simp
  rw [this, he]
end Tab
end Go.Proofs.Ytgfjkpnaabiecaa
set_option linter.unusedVariables false
set_option linter.unusedSimpArgs false
namespace Go.Proofs.Ytgfjkpnaabiecaa
open Go.RowKit Go.Proofs.YtgfjkpnaabiecaaW.PrintWords
namespace Tab
theorem queries_row {B : Nat} (cs : Array Value) (r : Room) (A : Option Addr) (c : Nat) (xs : List Do) (key : ByteArray) (w : World) (h0 : Room.k.K w r cs.toList) (hr : Do.k.C w A xs.length xs) (hb : BdS B Do.Bd xs) (hB : B = 88) (hk : key.size ≤ 140737488351232) :
    Calls Try.prog 5 #[.agg cs, .slice A xs.length c, .string key] w (TrueTold w) := by
  rw [room_cs h0]
  obtain ⟨b1, b2⟩ := dos_bd hb hB
  by_cases hR : RoomOk r
  · by_cases h1 : KeyOk key
    · exact queries_good r A c xs key w hr b1 hR h1 b2
    · exact queries_key r A c xs key w hr b1 hR h1 b2
  · exact queries_bad r A c xs key w hr b1 hR
end Tab
end Go.Proofs.Ytgfjkpnaabiecaa
