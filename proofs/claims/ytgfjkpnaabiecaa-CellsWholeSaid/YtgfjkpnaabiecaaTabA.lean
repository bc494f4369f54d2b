/- Layer cells: bucket, lay, drop, walked. -/
import Derived.Test.YtgfjkpnaabiecaaTabW
import Derived.Test.YtgfjkpnaabiecaaCalm
import Derived.StillTailTactics
set_option linter.unusedVariables false
set_option linter.unusedSimpArgs false
namespace Go.Proofs.Ytgfjkpnaabiecaa
open Go.RowKit Go.Proofs.YtgfjkpnaabiecaaW.PrintWords
namespace Tab
theorem bucketT_calls (p : Nat) (k : ByteArray) (n : Int) (w : World) (hc : w.cell? ⟨p, 2, none⟩ = some (.int .i64 n)) (hk : k.size ≤ 140737488351232) (h1 : 1 ≤ n) (h2 : n ≤ 65536) :
    Calls Try.prog 41 #[.pointer (some ⟨p, 0, none⟩), .string k] w fun e w' => e = .returned (.int .i64 (Hash.bkt k n)) ∧ Below w.heap.size w w' := by
  go_enter Try.func41, Try.ntmps41
  go_wp2_with (first | ((with_reducible refine (Hash.bucket_calls k n _ hk h1 h2).mono ?_); rintro e w' ⟨rfl, hb⟩; have HB := Aside0.mk hb; clear hb))
  go_ret
  exact ⟨rfl, HB.out⟩
def lay (T : Tb) (c : Cell) : Tb := { T with l := put T.l { c with used := T.uses + 1 }, uses := T.uses + 1 }
def bump (tok : List Int) (i : Nat) : List Int := tok.set i (tok.getD i 0 + 1)
def drop (T : Tb) (k : ByteArray) : Tb := { T with l := del T.l k, tok := bump T.tok (Hash.bkt k T.room.buckets).toNat }
set_option maxRecDepth 100000 in
theorem field_E (k : ByteArray) (a1 a2 a3 : Int) (h : Bool) (v : Value) (x y : Bool) (u : Int) (w : World) : (Instr.field 47 (.agg #[.string k, .int .i64 a1, .int .i64 a2, .int .i64 a3, .bool h, v, .bool x, .bool y, .int .i64 u]) 0).run Try.prog w = .ok (.agg #[.string k, .int .i64 a1, .int .i64 a2, .int .i64 a3, .bool h, v]) w := by
  rfl
/-- The table but for its bytes. -/
def LayS (W : World) (p n : Nat) (w : World) : Prop := Mod W p 7 w ∧ w.cell? ⟨p, 7, none⟩ = some (.int .i64 (n : Int))
theorem LayS.below {W w w1 : World} {p n : Nat} (h : LayS W p n w) (hp : p < W.heap.size) (k : Below w.heap.size w w1) : LayS W p n w1 := ⟨h.1.below hp k, pw_cell_below k h.2⟩
/-- What a call on a table leaves. -/
def TabTold (w : World) (p mb tb : Nat) (T' : Tb) (v : Value) (e : Ending) (w' : World) : Prop := e = .returned v ∧ TbR w' p mb tb T' ∧ Only [p, mb, tb] w w'
set_option maxRecDepth 100000 in
theorem lay_calls (p mb tb : Nat) (T : Tb) (c : Cell) (A : Option Addr) (cp : Nat) (w : World) (h : TbR w p mb tb T)
    (hK : BK Cell.k w c [.string c.e.key, .int .i64 c.e.tag.seq, .int .i64 c.e.tag.who, .int .i64 c.e.tag.op, .bool c.e.val.has, .slice A c.e.val.b.length cp, .bool c.whole, .bool c.clean, .int .i64 c.used])
    (hu : 0 ≤ T.uses ∧ T.uses ≤ 4611686018427387904) (hz : szs T.l ≤ 1000000000000) (hk : c.e.key.size ≤ 1000000) (hb : c.e.val.b.length ≤ 1000000) :
    Calls Try.prog 40 #[.pointer (some ⟨p, 0, none⟩), .agg #[.string c.e.key, .int .i64 c.e.tag.seq, .int .i64 c.e.tag.who, .int .i64 c.e.tag.op, .bool c.e.val.has, .slice A c.e.val.b.length cp, .bool c.whole, .bool c.clean, .int .i64 c.used]] w (TabTold w p mb tb (lay T c) (.tuple #[])) := by
  obtain ⟨⟨cap, hcap, hB⟩, hp, ht, hty, hm, hs⟩ := h
  have HT := Aside0.mk (And.intro hp (And.intro ht (And.intro hty (And.intro hm hs))))
  have hpl := hp.lt
  obtain ⟨⟨p0, p1, p2, p3, p4, p5, p6, p7⟩, f0, f1, f2, f3, f4, f5, f6, f7⟩ := hB.eight
  have HBL := Aside0.mk hB
  have HKC := Aside0.mk hK
  obtain ⟨hu0, hu1⟩ := hu
  clear hB hp ht hty hm hs hK
  obtain ⟨⟨ck, ⟨c1, c2, c3⟩, ⟨ch, cb⟩⟩, cw, cc, cu⟩ := c
  dsimp only at *
  go_enter Try.func40, Try.ntmps40
  go_wp2
  obtain ⟨W0, hW0⟩ : ∃ W0 : World, W0 = (w.setCell ⟨p, 6, none⟩ (.int .i64 (T.uses + 1))).alloc (.cells #[.string ck, .int .i64 c1, .int .i64 c2, .int .i64 c3, .bool ch, .slice A cb.length cp, .bool cw, .bool cc, .int .i64 (T.uses + 1)] 47) := ⟨_, rfl⟩
  rw [← hW0]
  have HO : Aside0 (Only [p] w W0) := ⟨by rw [hW0]; exact ((Only.refl _ w).set _ (.inl (by simp))).alloc _⟩
  have HBL0 : Aside0 (Blk W0 p [.int .i64 T.room.cells, .int .i64 T.room.bytes, .int .i64 T.room.buckets, .bool T.room.fresh, .map (some mb), .slice (some ⟨tb, 0, none⟩) T.tok.length cap, .int .i64 (T.uses + 1), .int .i64 (szs T.l : Int)]) := ⟨by rw [hW0]; exact (HBL.out.set 6 _).alloc _⟩
  have HBX0 : Aside0 (Blk W0 w.heap.size [.string ck, .int .i64 c1, .int .i64 c2, .int .i64 c3, .bool ch, .slice A cb.length cp, .bool cw, .bool cc, .int .i64 (T.uses + 1)]) := ⟨by rw [hW0]; exact Blk.new_ _ _ _ (by simp [World.setCell]) rfl⟩
  have HT0 : Aside0 (Ty W0 83 p ∧ Blk W0 tb (T.tok.map (.int .i64)) ∧ Ty W0 3 tb ∧ MapT W0 mb T.l) := ⟨by
    have hb : ∀ i ∈ [p], ¬ Ty w 5 i := fun i hi => by simp at hi; subst hi; exact HT.out.1.ne (by decide)
    have h1 : tb ≠ p := fun e => HT.out.1.ne (t' := 3) (by decide) (e ▸ HT.out.2.2.1)
    have h2 : mb ≠ p := fun e => HT.out.2.2.2.1.noTy _ (e ▸ HT.out.1)
    exact ⟨by rw [hW0]; exact (HT.out.1.set _ _).below (below_alloc (Below.refl _ _) _), HT.out.2.1.only HO.out (by simpa using h1), HT.out.2.2.1.only HO.out (by simpa using h1), HT.out.2.2.2.1.only HO.out (by simpa using h2) hb⟩⟩
  have hp0 : p < W0.heap.size := HBL0.out.lt
  have hne : w.heap.size ≠ p := by omega
  clear hW0
  clear p0 p1 p2 p3 p4 p5 p6 p7 f0 f1 f2 f3 f4 f5 f6 f7
  obtain ⟨⟨p0, p1, p2, p3, p4, p5, p6, p7⟩, f0, f1, f2, f3, f4, f5, f6, f7⟩ := HBL0.out.eight
  obtain ⟨⟨b0, b1, b2, b3, b4, b5, b6, b7, b8⟩, _⟩ := HBX0.out.nine
  obtain ⟨o, Ao, co, ho, hbo, hlk⟩ := HT0.out.2.2.2.look_or ck (by omega)
  have hmb : mb ∉ [p] := fun e => by simp at e; exact HT0.out.2.2.2.noTy _ (e ▸ HT0.out.1)
  have hml : mb < W0.heap.size := HT0.out.2.2.2.lt
  have hlk : ∀ w', Mod W0 p 7 w' → (Instr.lookup 81 (.map (some mb)) (.string ck) false).run Try.prog w' = .ok (.agg #[.string o.e.key, .int .i64 o.e.tag.seq, .int .i64 o.e.tag.who, .int .i64 o.e.tag.op, .bool o.e.val.has, .slice Ao o.e.val.b.length co, .bool o.whole, .bool o.clean, .int .i64 o.used]) w' := fun w' h => hlk false w' (h.1.block mb hml hmb)
  have hoz : o.e.key.size + o.e.val.b.length ≤ szs T.l := by have := szk_le T.l ck; unfold szk at this; rw [← ho] at this; exact this
  have HOZ : Aside0 (o.e.key.size + o.e.val.b.length = szk T.l ck) := ⟨by unfold szk; rw [← ho]; rfl⟩
  have hok : o.e.key.size ≤ 140737488351232 := by omega
  have hob : o.e.val.b.length ≤ 140737488351232 := by omega
  have HBO := Aside0.mk hbo
  clear ho hbo
  obtain ⟨⟨ok, ⟨o1, o2, o3⟩, ⟨oh, ob⟩⟩, ow, oc, ou⟩ := o
  dsimp only at *
  have hck : ck.size ≤ 140737488351232 := by omega
  have hcb : cb.length ≤ 140737488351232 := by omega
  have Z1 := fun w' => Tags.size_calls ck c1 c2 c3 ch A cp cb w' hck hcb
  have Z2 := fun w' => Tags.size_calls ok o1 o2 o3 oh Ao co ob w' hok hob
  obtain ⟨n1, hn1⟩ : ∃ n, n = ck.size + cb.length := ⟨_, rfl⟩
  obtain ⟨n2, hn2⟩ : ∃ n, n = ok.size + ob.length := ⟨_, rfl⟩
  obtain ⟨n0, hn0⟩ : ∃ n, n = szs T.l := ⟨_, rfl⟩
  simp only [← hn1] at Z1
  simp only [← hn2] at Z2
  have Z1 := Aside0.mk Z1
  have Z2 := Aside0.mk Z2
  have s1 : IntKind.i64.wrap ((n1 : Int) - (n2 : Int)) = (n1 : Int) - (n2 : Int) := IntWalk.i64_in _ (by omega)
  have s2 : IntKind.i64.wrap ((n0 : Int) + ((n1 : Int) - (n2 : Int))) = (n0 : Int) + ((n1 : Int) - (n2 : Int)) := IntWalk.i64_in _ (by omega)
  have HN := Aside0.mk (And.intro hn0 (And.intro hn1 hn2))
  rw [← hn0] at p7
  clear hoz hn0 hn1 hn2
  have rf := fun w' => field_E ok o1 o2 o3 oh (.slice Ao ob.length co) ow oc ou w'
  have hW : Mod W0 p 7 W0.drew ∧ W0.drew.cell? ⟨p, 7, none⟩ = some (.int .i64 (n0 : Int)) := ⟨(Mod.refl W0 p 7).drew, p7⟩
  have r4 : ∀ w', LayS W0 p n0 w' → w'.cell? ⟨p, 4, none⟩ = some (.map (some mb)) := fun w' h => h.1.cell (by decide) p4
  have r7 : ∀ w', LayS W0 p n0 w' → w'.cell? ⟨p, 7, none⟩ = some (.int .i64 (n0 : Int)) := fun w' h => h.2
  have rb0 : ∀ w', LayS W0 p n0 w' → w'.cell? ⟨w.heap.size, 0, none⟩ = some (.string ck) := fun w' h => h.1.far hne b0
  have rb1 : ∀ w', LayS W0 p n0 w' → w'.cell? ⟨w.heap.size, 1, none⟩ = some (.int .i64 c1) := fun w' h => h.1.far hne b1
  have rb2 : ∀ w', LayS W0 p n0 w' → w'.cell? ⟨w.heap.size, 2, none⟩ = some (.int .i64 c2) := fun w' h => h.1.far hne b2
  have rb3 : ∀ w', LayS W0 p n0 w' → w'.cell? ⟨w.heap.size, 3, none⟩ = some (.int .i64 c3) := fun w' h => h.1.far hne b3
  have rb4 : ∀ w', LayS W0 p n0 w' → w'.cell? ⟨w.heap.size, 4, none⟩ = some (.bool ch) := fun w' h => h.1.far hne b4
  have rb5 : ∀ w', LayS W0 p n0 w' → w'.cell? ⟨w.heap.size, 5, none⟩ = some (.slice A cb.length cp) := fun w' h => h.1.far hne b5
  have rl : ∀ w', LayS W0 p n0 w' → (Instr.lookup 81 (.map (some mb)) (.string ck) false).run Try.prog w' = .ok (.agg #[.string ok, .int .i64 o1, .int .i64 o2, .int .i64 o3, .bool oh, .slice Ao ob.length co, .bool ow, .bool oc, .int .i64 ou]) w' := fun w' h => hlk w' h.1
  clear b0 b1 b2 b3 b4 b5 b6 b7 b8 hlk
  refine region_calm 19 (LayS W0 p n0) (by kernel_rfl) (by kernel_rfl) hW ?_
  simp only [List.take_succ_cons, List.take_zero, List.drop_succ_cons, List.drop_zero]
  (refine wpCalm_val (v := ?_) rfl ?_ ?_; rotate_left; (focus (intro w' hSw; go_simp; try with_reducible rfl)))
  (try simp only [Act.put, List.setIfInBounds_toArray, List.set_cons_zero, List.set_cons_succ])
  (refine wpCalm_val (v := ?_) rfl ?_ ?_; rotate_left; (focus (intro w' hSw; go_simp; try with_reducible rfl)))
  (try simp only [Act.put, List.setIfInBounds_toArray, List.set_cons_zero, List.set_cons_succ])
  (refine wpCalm_val (v := ?_) rfl ?_ ?_; rotate_left; (focus (intro w' hSw; go_simp; try with_reducible rfl)))
  (try simp only [Act.put, List.setIfInBounds_toArray, List.set_cons_zero, List.set_cons_succ])
  (refine wpCalm_val (v := ?_) rfl ?_ ?_; rotate_left; (focus (intro w' hSw; go_simp; try with_reducible rfl)))
  (try simp only [Act.put, List.setIfInBounds_toArray, List.set_cons_zero, List.set_cons_succ])
  (refine wpCalm_val (v := ?_) rfl ?_ ?_; rotate_left; (focus (intro w' hSw; go_simp; try with_reducible rfl)))
  (try simp only [Act.put, List.setIfInBounds_toArray, List.set_cons_zero, List.set_cons_succ])
  (refine wpCalm_val (v := ?_) rfl ?_ ?_; rotate_left; (focus (intro w' hSw; go_simp; try with_reducible rfl)))
  (try simp only [Act.put, List.setIfInBounds_toArray, List.set_cons_zero, List.set_cons_succ])
  (refine wpCalm_call (v := .int .i64 (n1 : Int)) (f := ?_) (args := ?_) rfl ?_ ?_ ?_; rotate_left 2; (focus (intro w' hSw; go_simp; constructor <;> with_reducible rfl)); (focus (intro w' hSw; exact (Z1.out w').mono fun e w1 ⟨h1, h2⟩ => ⟨h1, hSw.below hp0 h2⟩)))
  (try simp only [Act.put, List.setIfInBounds_toArray, List.set_cons_zero, List.set_cons_succ])
  (refine wpCalm_val (v := ?_) rfl ?_ ?_; rotate_left; (focus (intro w' hSw; go_simp; try with_reducible rfl)))
  (try simp only [Act.put, List.setIfInBounds_toArray, List.set_cons_zero, List.set_cons_succ])
  (refine wpCalm_val (v := ?_) rfl ?_ ?_; rotate_left; (focus (intro w' hSw; go_simp; try with_reducible rfl)))
  (try simp only [Act.put, List.setIfInBounds_toArray, List.set_cons_zero, List.set_cons_succ])
  (refine wpCalm_val (v := ?_) rfl ?_ ?_; rotate_left; (focus (intro w' hSw; go_simp; try with_reducible rfl)))
  (try simp only [Act.put, List.setIfInBounds_toArray, List.set_cons_zero, List.set_cons_succ])
  (refine wpCalm_val (v := ?_) rfl ?_ ?_; rotate_left; (focus (intro w' hSw; go_simp; try with_reducible rfl)))
  (try simp only [Act.put, List.setIfInBounds_toArray, List.set_cons_zero, List.set_cons_succ])
  (refine wpCalm_val (v := ?_) rfl ?_ ?_; rotate_left; (focus (intro w' hSw; go_simp; try with_reducible rfl)))
  (try simp only [Act.put, List.setIfInBounds_toArray, List.set_cons_zero, List.set_cons_succ])
  (refine wpCalm_val (v := ?_) rfl ?_ ?_; rotate_left; (focus (intro w' hSw; go_simp; try with_reducible rfl)))
  (try simp only [Act.put, List.setIfInBounds_toArray, List.set_cons_zero, List.set_cons_succ])
  (refine wpCalm_val (v := ?_) rfl ?_ ?_; rotate_left; (focus (intro w' hSw; go_simp; try with_reducible rfl)))
  (try simp only [Act.put, List.setIfInBounds_toArray, List.set_cons_zero, List.set_cons_succ])
  (refine wpCalm_val (v := ?_) rfl ?_ ?_; rotate_left; (focus (intro w' hSw; go_simp; try with_reducible rfl)))
  (try simp only [Act.put, List.setIfInBounds_toArray, List.set_cons_zero, List.set_cons_succ])
  (refine wpCalm_val (v := ?_) rfl ?_ ?_; rotate_left; (focus (intro w' hSw; go_simp; try with_reducible rfl)))
  (try simp only [Act.put, List.setIfInBounds_toArray, List.set_cons_zero, List.set_cons_succ])
  (refine wpCalm_call (v := .int .i64 (n2 : Int)) (f := ?_) (args := ?_) rfl ?_ ?_ ?_; rotate_left 2; (focus (intro w' hSw; go_simp; constructor <;> with_reducible rfl)); (focus (intro w' hSw; exact (Z2.out w').mono fun e w1 ⟨h1, h2⟩ => ⟨h1, hSw.below hp0 h2⟩)))
  (try simp only [Act.put, List.setIfInBounds_toArray, List.set_cons_zero, List.set_cons_succ])
  (refine wpCalm_val (v := ?_) rfl ?_ ?_; rotate_left; (focus (intro w' hSw; go_simp; try with_reducible rfl)))
  (try simp only [Act.put, List.setIfInBounds_toArray, List.set_cons_zero, List.set_cons_succ])
  (refine wpCalm_val (v := ?_) rfl ?_ ?_; rotate_left; (focus (intro w' hSw; go_simp; try with_reducible rfl)))
  (try simp only [Act.put, List.setIfInBounds_toArray, List.set_cons_zero, List.set_cons_succ])
  refine wpCalm_nil ?_
  intro w1 hS1
  have f71 : w1.frozen? ⟨p, 7, none⟩ = false := (hS1.1.2.2.1 7).trans f7
  have h71 := hS1.2
  have HM1 := Aside0.mk hS1.1
  clear hS1
  go_wp2
  obtain ⟨W2, hW2⟩ : ∃ W2 : World, W2 = w1.setCell ⟨p, 7, none⟩ (.int .i64 ((n0 : Int) + ((n1 : Int) - (n2 : Int)))) := ⟨_, rfl⟩
  rw [← hW2]
  have HM2 : Aside0 (Mod W0 p 7 W2) := ⟨by rw [hW2]; exact HM1.out.set _⟩
  have HBL2 : Aside0 (Blk W2 p [.int .i64 T.room.cells, .int .i64 T.room.bytes, .int .i64 T.room.buckets, .bool T.room.fresh, .map (some mb), .slice (some ⟨tb, 0, none⟩) T.tok.length cap, .int .i64 (T.uses + 1), .int .i64 ((n0 : Int) + ((n1 : Int) - (n2 : Int)))]) := ⟨by rw [hW2]; exact (HM1.out.blk HBL0.out (fun v hv => by simp at hv; subst hv; rw [← HN.out.1]; exact h71)).set 7 _⟩
  clear hW2 h71 f71 HM1
  have q4 : W2.cell? ⟨p, 4, none⟩ = some (.map (some mb)) := HBL2.out.cell 4 rfl
  have HBX2 := HBX0.out.only HM2.out.1 (by simpa using hne)
  obtain ⟨⟨b0, b1, b2, b3, b4, b5, b6, b7, b8⟩, _⟩ := HBX2.nine
  have hb : ∀ i ∈ [p], ¬ Ty W0 5 i := fun i hi => by simp at hi; subst hi; exact HT0.out.1.ne (by decide)
  have HMT2 : MapT W2.drew mb T.l := (HT0.out.2.2.2.only HM2.out.1 hmb hb).only (Only.of_below [] (below_drew (Below.refl _ W2))) (by simp) (by simp)
  have HKC2 : BK Cell.k W2.drew ⟨⟨ck, ⟨c1, c2, c3⟩, ⟨ch, cb⟩⟩, cw, cc, T.uses + 1⟩ [.string ck, .int .i64 c1, .int .i64 c2, .int .i64 c3, .bool ch, .slice A cb.length cp, .bool cw, .bool cc, .int .i64 (T.uses + 1)] := by
    have h1 := (HKC.out.only HO.out (fun i hi => by simp at hi; subst hi; exact HT.out.1.ne (by decide))).only HM2.out.1 hb
    have h2 := h1.below (below_drew (Below.refl _ W2))
    refine Foot.imp h2 (fun W' hK => ?_)
    obtain ⟨A5, c5, he, s0, r1, r2, r3, l5, g5, r8⟩ := Cell.open_ hK
    simp only [List.cons.injEq, Value.slice.injEq, true_and, and_true] at he
    obtain ⟨rfl, rfl⟩ := he
    exact Cell.mk_ W' ⟨⟨ck, ⟨c1, c2, c3⟩, ⟨ch, cb⟩⟩, cw, cc, T.uses + 1⟩ s0 r1 r2 r3 l5 g5 (InR.mk64 (by dsimp only; omega) (by dsimp only; omega))
  obtain ⟨w3, hput, HMT3, hg3⟩ := HMT2.put HT.out.2.2.2.2 (c := ⟨⟨ck, ⟨c1, c2, c3⟩, ⟨ch, cb⟩⟩, cw, cc, T.uses + 1⟩) (cs := #[.string ck, .int .i64 c1, .int .i64 c2, .int .i64 c3, .bool ch, .slice A cb.length cp, .bool cw, .bool cc, .int .i64 (T.uses + 1)]) hck HKC2
  dsimp only at hput
  have HP3 := Aside0.mk (And.intro HMT3 hg3)
  clear HMT3 hg3 HMT2 HKC2 HBX2
  refine Tags.region_tail 8 (by kernel_rfl) (by kernel_rfl) ?_
  simp only [List.take_succ_cons, List.take_zero, List.drop_succ_cons, List.drop_zero]
  still_step
  still_step
  still_step
  still_step
  still_step
  still_step
  still_step
  still_step
  refine wpStill_nil ?_
  go_wp2
  first
  | refine bodyPost_ret (v := .tuple #[]) (by simp [results, Try.results40, go_sem]; try rfl) rfl ?_
  | refine bodyPost_end (v := .tuple #[]) (by simp [results, Try.results40, go_sem]; try rfl) rfl ?_
  have ho3 : Only [mb] W2 w3 := (Only.of_below [mb] (below_drew (Below.refl _ W2))).trans (only_grown HP3.out.2 (by simp))
  have hpm : p ∉ [mb] := fun e => hmb (by simp at e; simp [e])
  have htm : tb ∉ [mb] := fun e => by simp at e; exact HT0.out.2.2.2.noTy _ (e ▸ HT0.out.2.2.1)
  have htp : tb ∉ [p] := fun e => by simp at e; exact HT0.out.1.ne (t' := 3) (by decide) (e ▸ HT0.out.2.2.1)
  refine ⟨rfl, ⟨⟨cap, hcap, ?_⟩, (HM2.out.2.2.2 _ HT0.out.1).only ho3 hpm, (HT0.out.2.1.only HM2.out.1 htp).only ho3 htm, (HT0.out.2.2.1.only HM2.out.1 htp).only ho3 htm, HP3.out.1, srt_put HT.out.2.2.2.2⟩, ?_⟩
  · have e : ((n0 : Int) + ((n1 : Int) - (n2 : Int))) = ((szs (put T.l ⟨⟨ck, ⟨c1, c2, c3⟩, ⟨ch, cb⟩⟩, cw, cc, T.uses + 1⟩) : Nat) : Int) := by
      obtain ⟨g0, g1, g2⟩ := HN.out
      have h1 := szs_put (l := T.l) ⟨⟨ck, ⟨c1, c2, c3⟩, ⟨ch, cb⟩⟩, cw, cc, T.uses + 1⟩ HT.out.2.2.2.2
      have h2 := szs_del' (l := T.l) ck HT.out.2.2.2.2
      have h3 := HOZ.out
      unfold csz at h1
      dsimp only at h1
      omega
    have hB := (HBL2.out.only ho3 hpm)
    rw [e] at hB
    exact hB
  · exact ((HO.out.mono (by simp)).trans (HM2.out.1.mono (by simp))).trans (ho3.mono (by simp))
theorem bump_get (tok : List Int) (i : Nat) (h : i < tok.length) : bump tok i = tok.set i (tok[i] + 1) := by
  unfold bump; rw [List.getD_eq_getElem?_getD, List.getElem?_eq_getElem h]; rfl
set_option maxRecDepth 100000 in
set_option maxHeartbeats 1000000 in
theorem drop_calls (p mb tb : Nat) (T : Tb) (k : ByteArray) (w : World) (h : TbR w p mb tb T) (hk : k.size ≤ 1000000) (hz : szs T.l ≤ 1000000000000)
    (hn : 1 ≤ T.room.buckets ∧ T.room.buckets ≤ 65536) (hl : T.room.buckets = T.tok.length) (ht : ∀ x ∈ T.tok, 0 ≤ x ∧ x ≤ 4611686018427387904) :
    Calls Try.prog 46 #[.pointer (some ⟨p, 0, none⟩), .string k] w (TabTold w p mb tb (drop T k) (.tuple #[])) := by
  have hnoB := Aside0.mk h.noB
  have hne := h.ne
  obtain ⟨⟨cap, hcap, hB⟩, hp, hto, hty, hm, hs⟩ := h
  have HT := Aside0.mk (And.intro hp (And.intro hto (And.intro hty (And.intro hm hs))))
  have hpl := hp.lt
  have hml := hm.lt
  obtain ⟨o, Ao, co, ho, hbo, hlk⟩ := hm.look_or k (by omega)
  obtain ⟨⟨p0, p1, p2, p3, p4, p5, p6, p7⟩, f0, f1, f2, f3, f4, f5, f6, f7⟩ := hB.eight
  have HBL := Aside0.mk hB
  have hoz : o.e.key.size + o.e.val.b.length ≤ szs T.l := by have := szk_le T.l k; unfold szk at this; rw [← ho] at this; exact this
  have HOZ : Aside0 (o.e.key.size + o.e.val.b.length = szk T.l k) := ⟨by unfold szk; rw [← ho]; rfl⟩
  have hok : o.e.key.size ≤ 140737488351232 := by omega
  have hob : o.e.val.b.length ≤ 140737488351232 := by omega
  have hkk : k.size ≤ 140737488351232 := by omega
  clear ho hbo hB hp hto hty hm hs
  obtain ⟨⟨ok, ⟨o1, o2, o3⟩, ⟨oh, ob⟩⟩, ow, oc, ou⟩ := o
  dsimp only at *
  have Z2 := fun w' => Tags.size_calls ok o1 o2 o3 oh Ao co ob w' hok hob
  obtain ⟨n2, hn2⟩ : ∃ n, n = ok.size + ob.length := ⟨_, rfl⟩
  obtain ⟨n0, hn0⟩ : ∃ n, n = szs T.l := ⟨_, rfl⟩
  simp only [← hn2] at Z2
  have Z2 := Aside0.mk Z2
  have s1 : IntKind.i64.wrap ((n0 : Int) - (n2 : Int)) = (n0 : Int) - (n2 : Int) := IntWalk.i64_in _ (by omega)
  have HN := Aside0.mk (And.intro hn0 hn2)
  rw [← hn0] at p7
  have r4 : ∀ w', Below w.heap.size w w' → w'.cell? ⟨p, 4, none⟩ = some (.map (some mb)) := fun w' h => pw_cell_below h p4
  have r7 : ∀ w', Below w.heap.size w w' → w'.cell? ⟨p, 7, none⟩ = some (.int .i64 (n0 : Int)) := fun w' h => pw_cell_below h p7
  have rl : ∀ w', Below w.heap.size w w' → (Instr.lookup 81 (.map (some mb)) (.string k) false).run Try.prog w' = .ok (.agg #[.string ok, .int .i64 o1, .int .i64 o2, .int .i64 o3, .bool oh, .slice Ao ob.length co, .bool ow, .bool oc, .int .i64 ou]) w' := fun w' h => hlk false w' (h.block mb hml)
  have rf := fun w' => field_E ok o1 o2 o3 oh (.slice Ao ob.length co) ow oc ou w'
  clear hoz hlk hn2 hn0
  go_enter Try.func46, Try.ntmps46
  go_wp2
  refine region_calm 13 (Below w.heap.size w) (by kernel_rfl) (by kernel_rfl) (below_drew (Below.refl _ _)) ?_
  simp only [List.take_succ_cons, List.take_zero, List.drop_succ_cons, List.drop_zero]
  (refine wpCalm_val (v := ?_) rfl ?_ ?_; rotate_left; (focus (intro w' hSw; go_simp; try with_reducible rfl)))
  (try simp only [Act.put, List.setIfInBounds_toArray, List.set_cons_zero, List.set_cons_succ])
  (refine wpCalm_val (v := ?_) rfl ?_ ?_; rotate_left; (focus (intro w' hSw; go_simp; try with_reducible rfl)))
  (try simp only [Act.put, List.setIfInBounds_toArray, List.set_cons_zero, List.set_cons_succ])
  (refine wpCalm_val (v := ?_) rfl ?_ ?_; rotate_left; (focus (intro w' hSw; go_simp; try with_reducible rfl)))
  (try simp only [Act.put, List.setIfInBounds_toArray, List.set_cons_zero, List.set_cons_succ])
  (refine wpCalm_val (v := ?_) rfl ?_ ?_; rotate_left; (focus (intro w' hSw; go_simp; try with_reducible rfl)))
  (try simp only [Act.put, List.setIfInBounds_toArray, List.set_cons_zero, List.set_cons_succ])
  (refine wpCalm_val (v := ?_) rfl ?_ ?_; rotate_left; (focus (intro w' hSw; go_simp; try with_reducible rfl)))
  (try simp only [Act.put, List.setIfInBounds_toArray, List.set_cons_zero, List.set_cons_succ])
  (refine wpCalm_val (v := ?_) rfl ?_ ?_; rotate_left; (focus (intro w' hSw; go_simp; try with_reducible rfl)))
  (try simp only [Act.put, List.setIfInBounds_toArray, List.set_cons_zero, List.set_cons_succ])
  (refine wpCalm_val (v := ?_) rfl ?_ ?_; rotate_left; (focus (intro w' hSw; go_simp; try with_reducible rfl)))
  (try simp only [Act.put, List.setIfInBounds_toArray, List.set_cons_zero, List.set_cons_succ])
  (refine wpCalm_val (v := ?_) rfl ?_ ?_; rotate_left; (focus (intro w' hSw; go_simp; try with_reducible rfl)))
  (try simp only [Act.put, List.setIfInBounds_toArray, List.set_cons_zero, List.set_cons_succ])
  (refine wpCalm_val (v := ?_) rfl ?_ ?_; rotate_left; (focus (intro w' hSw; go_simp; try with_reducible rfl)))
  (try simp only [Act.put, List.setIfInBounds_toArray, List.set_cons_zero, List.set_cons_succ])
  (refine wpCalm_val (v := ?_) rfl ?_ ?_; rotate_left; (focus (intro w' hSw; go_simp; try with_reducible rfl)))
  (try simp only [Act.put, List.setIfInBounds_toArray, List.set_cons_zero, List.set_cons_succ])
  (refine wpCalm_val (v := ?_) rfl ?_ ?_; rotate_left; (focus (intro w' hSw; go_simp; try with_reducible rfl)))
  (try simp only [Act.put, List.setIfInBounds_toArray, List.set_cons_zero, List.set_cons_succ])
  (refine wpCalm_call (v := .int .i64 (n2 : Int)) (f := ?_) (args := ?_) rfl ?_ ?_ ?_; rotate_left 2; (focus (intro w' hSw; go_simp; constructor <;> with_reducible rfl)); (focus (intro w' hSw; exact (Z2.out w').mono fun e w1 ⟨h1, h2⟩ => ⟨h1, Below.then_ hSw h2 (Nat.le_refl _)⟩)))
  (try simp only [Act.put, List.setIfInBounds_toArray, List.set_cons_zero, List.set_cons_succ])
  (refine wpCalm_val (v := ?_) rfl ?_ ?_; rotate_left; (focus (intro w' hSw; go_simp; try with_reducible rfl)))
  (try simp only [Act.put, List.setIfInBounds_toArray, List.set_cons_zero, List.set_cons_succ])
  refine wpCalm_nil ?_
  intro w1 hS1
  have p71 := pw_cell_below hS1 p7
  have f71 : w1.frozen? ⟨p, 7, none⟩ = false := (Below.frozen hS1 (p := ⟨p, 7, none⟩) hpl).trans f7
  have q4 := pw_cell_below hS1 p4
  have HB1 := Aside0.mk hS1
  clear hS1 r4 r7 rl rf
  have HMT2 : MapT (w1.setCell ⟨p, 7, none⟩ (.int .i64 ((n0 : Int) - (n2 : Int)))) mb T.l := ((HT.out.2.2.2.1.only (Only.of_below [] HB1.out) (by simp) (by simp)).only ((Only.refl [p] w1).set (p := ⟨p, 7, none⟩) _ (.inl (by simp))) (by simp; exact hne.1.symm) (fun i hi => by simp at hi; subst hi; exact (HT.out.1.below HB1.out).ne (by decide)))
  obtain ⟨w3, hdel, HMT3, hg3⟩ := HMT2.drop HT.out.2.2.2.2 hkk 0
  have HP3 := Aside0.mk (And.intro HMT3 hg3)
  clear HMT3 hg3 HMT2
  go_wp2
  have hO3 : Only [p, mb] w w3 := ((Only.of_below [p, mb] HB1.out).set (p := ⟨p, 7, none⟩) (.int .i64 ((n0 : Int) - (n2 : Int))) (.inl (by simp))).trans (only_grown HP3.out.2 (by simp))
  have hBL3 : Blk w3 p [.int .i64 T.room.cells, .int .i64 T.room.bytes, .int .i64 T.room.buckets, .bool T.room.fresh, .map (some mb), .slice (some ⟨tb, 0, none⟩) T.tok.length cap, .int .i64 T.uses, .int .i64 ((n0 : Int) - (n2 : Int))] := (((HBL.out.on HB1.out).set 7 (.int .i64 ((n0 : Int) - (n2 : Int)))).only (only_grown HP3.out.2 (S := [mb]) (by simp)) (by simp; exact hne.1)).cast rfl
  have hpt3 : Ty w3 83 p := ((HT.out.1.below HB1.out).set ⟨p, 7, none⟩ (.int .i64 ((n0 : Int) - (n2 : Int)))).only (only_grown HP3.out.2 (S := [mb]) (by simp)) (by simp; exact hne.1)
  have hTK3 : Blk w3 tb (T.tok.map (.int .i64)) := HT.out.2.1.only hO3 (by simp; exact ⟨hne.2.1.symm, hne.2.2.symm⟩)
  have htt3 : Ty w3 3 tb := HT.out.2.2.1.only hO3 (by simp; exact ⟨hne.2.1.symm, hne.2.2.symm⟩)
  clear p0 p1 p2 p3 p4 p5 p6 p7 f0 f1 f2 f3 f4 f5 f6 f7 p71 f71 q4 hdel s1
  obtain ⟨⟨p0, p1, p2, p3, p4, p5, p6, p7⟩, _⟩ := hBL3.eight
  obtain ⟨b0, b1⟩ := Hash.bkt_bd k hn.1
  obtain ⟨i, hi⟩ : ∃ i : Nat, Hash.bkt k T.room.buckets = (i : Int) := ⟨_, (Int.toNat_of_nonneg b0).symm⟩
  rw [hi] at b1
  have HI := Aside0.mk hi
  clear hi b0
  have hil : i < T.tok.length := by omega
  have HX : Aside0 (bump T.tok (Hash.bkt k T.room.buckets).toNat = T.tok.set i (T.tok[i] + 1)) := ⟨by rw [HI.out, Int.toNat_natCast]; exact bump_get _ _ hil⟩
  have hx0 := ht T.tok[i] (List.getElem_mem hil)
  obtain ⟨x, hx⟩ : ∃ x, x = T.tok[i] := ⟨_, rfl⟩
  rw [← hx] at hx0
  have HX2 := Aside0.mk (HX.out.trans (by rw [← hx]))
  have hcx : w3.cell? ⟨tb, i, none⟩ = some (.int .i64 x) := hTK3.cell i (by rw [List.getElem?_map, List.getElem?_eq_getElem hil, hx]; rfl)
  have hfx : w3.frozen? ⟨tb, i, none⟩ = false := hTK3.frozen i (v := .int .i64 x) (by rw [List.getElem?_map, List.getElem?_eq_getElem hil, hx]; rfl)
  have Z3 : Aside0 (∀ w', Below w3.heap.size w3 w' → Calls Try.prog 41 #[.pointer (some ⟨p, 0, none⟩), .string k] w' fun e w'' => e = .returned (.int .i64 (i : Int)) ∧ Below w'.heap.size w' w'') := ⟨fun w' hb => by
    have := bucketT_calls p k T.room.buckets w' (pw_cell_below hb p2) hkk hn.1 hn.2
    rw [HI.out] at this
    exact this⟩
  have r5 : ∀ w', Below w3.heap.size w3 w' → w'.cell? ⟨p, 5, none⟩ = some (.slice (some ⟨tb, 0, none⟩) T.tok.length cap) := fun w' h => pw_cell_below h p5
  have rx : ∀ w', Below w3.heap.size w3 w' → w'.cell? ⟨tb, i, none⟩ = some (.int .i64 x) := fun w' h => pw_cell_below h hcx
  have s1 : IntKind.i64.wrap (x + 1) = x + 1 := IntWalk.i64_in _ (by omega)
  have i0 : (0 : Int) ≤ (i : Int) := by omega
  have i1 : (i : Int) < (T.tok.length : Int) := by omega
  have htl3 : tb < w3.heap.size := hTK3.lt
  have HB3 := Aside0.mk (And.intro hBL3 (And.intro hpt3 (And.intro hTK3 (And.intro htt3 hO3))))
  clear hx b1 HX hBL3 hTK3 hpt3 htt3 hO3
  refine region_calm 10 (Below w3.heap.size w3) (by kernel_rfl) (by kernel_rfl) (below_drew (Below.refl _ _)) ?_
  simp only [List.take_succ_cons, List.take_zero, List.drop_succ_cons, List.drop_zero]
  (refine wpCalm_val (v := ?_) rfl ?_ ?_; rotate_left; (focus (intro w' hSw; go_simp; try with_reducible rfl)))
  (try simp only [Act.put, List.setIfInBounds_toArray, List.set_cons_zero, List.set_cons_succ])
  (refine wpCalm_val (v := ?_) rfl ?_ ?_; rotate_left; (focus (intro w' hSw; go_simp; try with_reducible rfl)))
  (try simp only [Act.put, List.setIfInBounds_toArray, List.set_cons_zero, List.set_cons_succ])
  (refine wpCalm_val (v := ?_) rfl ?_ ?_; rotate_left; (focus (intro w' hSw; go_simp; try with_reducible rfl)))
  (try simp only [Act.put, List.setIfInBounds_toArray, List.set_cons_zero, List.set_cons_succ])
  (refine wpCalm_val (v := ?_) rfl ?_ ?_; rotate_left; (focus (intro w' hSw; go_simp; try with_reducible rfl)))
  (try simp only [Act.put, List.setIfInBounds_toArray, List.set_cons_zero, List.set_cons_succ])
  (refine wpCalm_val (v := ?_) rfl ?_ ?_; rotate_left; (focus (intro w' hSw; go_simp; try with_reducible rfl)))
  (try simp only [Act.put, List.setIfInBounds_toArray, List.set_cons_zero, List.set_cons_succ])
  (refine wpCalm_val (v := ?_) rfl ?_ ?_; rotate_left; (focus (intro w' hSw; go_simp; try with_reducible rfl)))
  (try simp only [Act.put, List.setIfInBounds_toArray, List.set_cons_zero, List.set_cons_succ])
  (refine wpCalm_call (v := .int .i64 (i : Int)) (f := ?_) (args := ?_) rfl ?_ ?_ ?_; rotate_left 2; (focus (intro w' hSw; go_simp; constructor <;> with_reducible rfl)); (focus (intro w' hSw; exact (Z3.out w' hSw).mono fun e w1 ⟨h1, h2⟩ => ⟨h1, Below.then_ hSw h2 (Nat.le_refl _)⟩)))
  (try simp only [Act.put, List.setIfInBounds_toArray, List.set_cons_zero, List.set_cons_succ])
  (refine wpCalm_val (v := ?_) rfl ?_ ?_; rotate_left; (focus (intro w' hSw; go_simp; try with_reducible rfl)))
  (try simp only [Act.put, List.setIfInBounds_toArray, List.set_cons_zero, List.set_cons_succ])
  (refine wpCalm_val (v := ?_) rfl ?_ ?_; rotate_left; (focus (intro w' hSw; go_simp; try with_reducible rfl)))
  (try simp only [Act.put, List.setIfInBounds_toArray, List.set_cons_zero, List.set_cons_succ])
  (refine wpCalm_val (v := ?_) rfl ?_ ?_; rotate_left; (focus (intro w' hSw; go_simp; try with_reducible rfl)))
  (try simp only [Act.put, List.setIfInBounds_toArray, List.set_cons_zero, List.set_cons_succ])
  refine wpCalm_nil ?_
  intro w4 hS4
  have hc4 := pw_cell_below hS4 hcx
  have hf4 : w4.frozen? ⟨tb, i, none⟩ = false := (Below.frozen hS4 (p := ⟨tb, i, none⟩) htl3).trans hfx
  have HB4 := Aside0.mk hS4
  clear hS4 r5 rx
  go_wp2
  refine bodyPost_ret (v := .tuple #[]) (by simp [results, Try.results46, go_sem]; try rfl) rfl ?_
  have hmp : mb ≠ p := hne.1.symm
  have o4 : Only [tb] w3 (w4.setCell ⟨tb, i, none⟩ (.int .i64 (x + 1))) := (Only.of_below [tb] HB4.out).set (p := ⟨tb, i, none⟩) (.int .i64 (x + 1)) (.inl (by simp))
  have hlen : (bump T.tok (Hash.bkt k T.room.buckets).toNat).length = T.tok.length := by rw [HX2.out, List.length_set]
  have htB : ∀ i ∈ [tb], ¬ Ty w3 5 i := fun i hi => by simp at hi; subst hi; exact HB3.out.2.2.2.1.ne (by decide)
  refine ⟨rfl, ⟨⟨cap, by show _ ≤ _; rw [show (drop T k).tok = bump T.tok (Hash.bkt k T.room.buckets).toNat from rfl, hlen]; exact hcap, ?_⟩, HB3.out.2.1.only o4 (by simp; exact hne.2.1), ?_, (HB3.out.2.2.2.1.below HB4.out).set _ _, HP3.out.1.only o4 (by simp; exact hne.2.2) htB, srt_del k HT.out.2.2.2.2⟩, ?_⟩
  · have hB := HB3.out.1.only o4 (by simp; exact hne.2.1)
    have e : ((n0 : Int) - (n2 : Int)) = ((szs (del T.l k) : Nat) : Int) := by
      obtain ⟨g0, g2⟩ := HN.out
      have h2 := szs_del' (l := T.l) k HT.out.2.2.2.2
      have h3 := HOZ.out
      omega
    rw [e] at hB
    show Blk _ p [_, _, _, _, _, .slice (some ⟨tb, 0, none⟩) (bump T.tok (Hash.bkt k T.room.buckets).toNat).length cap, _, _]
    rw [hlen]
    exact hB
  · have hB := (HB3.out.2.2.1.on HB4.out).set i (.int .i64 (x + 1))
    show Blk _ tb ((bump T.tok (Hash.bkt k T.room.buckets).toNat).map (.int .i64))
    rw [HX2.out, List.map_set]
    exact hB
  · exact (HB3.out.2.2.2.2.mono (by simp)).trans (o4.mono (by simp))
end Tab
end Go.Proofs.Ytgfjkpnaabiecaa
