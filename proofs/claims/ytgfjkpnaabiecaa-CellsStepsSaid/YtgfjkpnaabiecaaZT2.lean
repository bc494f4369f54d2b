/- Lemmas for the row (words on memory, contracts of the program's functions): TabA, StrRow, TabV, RngM, Take, TabB, TabC, TabD. -/
import Derived.StillTailTactics
import Derived.WalkSpells
import Derived.Maps.RangeRun
import Derived.Maps.RangeWalk
import Derived.Deep.RegionHeld3
import Derived.Deep.DeepCutAuto
import Derived.Deep.LoopGhost
import Derived.Deep.CutBlock
import Derived.Test.YtgfjkpnaabiecaaZT1
set_option linter.unusedVariables false
set_option linter.unusedSimpArgs false
namespace Go.Proofs.Ytgfjkpnaabiecaa
open Go.RowKit Go.Proofs.YtgfjkpnaabiecaaW.PrintWords
namespace Tab
theorem bucketT_calls (p : Nat) (k : ByteArray) (n : Int) (w : World) (hc : w.cell? ⟨p, 2, none⟩ = some (.int .i64 n)) (hk : k.size ≤ 140737488351232) (h1 : 1 ≤ n) (h2 : n ≤ 65536) :
    Calls Try.prog 41 #[.pointer (some ⟨p, 0, none⟩), .string k] w fun e w' => e = .returned (.int .i64 (Hash.bkt k n)) ∧ Below w.heap.size w w' := by
  go_enter Try.func41, Try.ntmps41
  go_wp2_with (first | ((with_reducible refine (Hash.bucket_calls k n _ hk h1 h2).mono ?_); rintro e w' ⟨rfl, hb⟩; have HB := Aside0.mk hb; clear hb))
  go_ret
  exact ⟨rfl, HB.out⟩
def lay (T : Tb) (c : Cell) : Tb := { T with l := put T.l { c with used := T.uses + 1 }, uses := T.uses + 1 }
def bump (tok : List Int) (i : Nat) : List Int := tok.set i (tok.getD i 0 + 1)
def drop (T : Tb) (k : ByteArray) : Tb := { T with l := del T.l k, tok := bump T.tok (Hash.bkt k T.room.buckets).toNat }
set_option maxRecDepth 100000 in
theorem field_E (k : ByteArray) (a1 a2 a3 : Int) (h : Bool) (v : Value) (x y : Bool) (u : Int) (w : World) : (Instr.field 47 (.agg #[.string k, .int .i64 a1, .int .i64 a2, .int .i64 a3, .bool h, v, .bool x, .bool y, .int .i64 u]) 0).run Try.prog w = .ok (.agg #[.string k, .int .i64 a1, .int .i64 a2, .int .i64 a3, .bool h, v]) w := by
  rfl
/-- The table but for its bytes. -/
def LayS (W : World) (p n : Nat) (w : World) : Prop := Mod W p 7 w ∧ w.cell? ⟨p, 7, none⟩ = some (.int .i64 (n : Int))
theorem LayS.below {W w w1 : World} {p n : Nat} (h : LayS W p n w) (hp : p < W.heap.size) (k : Below w.heap.size w w1) : LayS W p n w1 := ⟨h.1.below hp k, pw_cell_below k h.2⟩
/-- What a call on a table leaves. -/
def TabTold (w : World) (p mb tb : Nat) (T' : Tb) (v : Value) (e : Ending) (w' : World) : Prop := e = .returned v ∧ TbR w' p mb tb T' ∧ Only [p, mb, tb] w w'
set_option maxRecDepth 100000 in
theorem lay_calls (p mb tb : Nat) (T : Tb) (c : Cell) (A : Option Addr) (cp : Nat) (w : World) (h : TbR w p mb tb T)
    (hK : BK Cell.k w c [.string c.e.key, .int .i64 c.e.tag.seq, .int .i64 c.e.tag.who, .int .i64 c.e.tag.op, .bool c.e.val.has, .slice A c.e.val.b.length cp, .bool c.whole, .bool c.clean, .int .i64 c.used])
    (hu : 0 ≤ T.uses ∧ T.uses ≤ 4611686018427387904) (hz : szs T.l ≤ 1000000000000) (hk : c.e.key.size ≤ 1000000) (hb : c.e.val.b.length ≤ 1000000) :
    Calls Try.prog 40 #[.pointer (some ⟨p, 0, none⟩), .agg #[.string c.e.key, .int .i64 c.e.tag.seq, .int .i64 c.e.tag.who, .int .i64 c.e.tag.op, .bool c.e.val.has, .slice A c.e.val.b.length cp, .bool c.whole, .bool c.clean, .int .i64 c.used]] w (TabTold w p mb tb (lay T c) (.tuple #[])) := by
  obtain ⟨⟨cap, hcap, hB⟩, hp, ht, hty, hm, hs⟩ := h
  have HT := Aside0.mk (And.intro hp (And.intro ht (And.intro hty (And.intro hm hs))))
  have hpl := hp.lt
  obtain ⟨⟨p0, p1, p2, p3, p4, p5, p6, p7⟩, f0, f1, f2, f3, f4, f5, f6, f7⟩ := hB.eight
  have HBL := Aside0.mk hB
  have HKC := Aside0.mk hK
  obtain ⟨hu0, hu1⟩ := hu
  clear hB hp ht hty hm hs hK
  obtain ⟨⟨ck, ⟨c1, c2, c3⟩, ⟨ch, cb⟩⟩, cw, cc, cu⟩ := c
  dsimp only at *
  go_enter Try.func40, Try.ntmps40
  go_wp2
  obtain ⟨W0, hW0⟩ : ∃ W0 : World, W0 = (w.setCell ⟨p, 6, none⟩ (.int .i64 (T.uses + 1))).alloc (.cells #[.string ck, .int .i64 c1, .int .i64 c2, .int .i64 c3, .bool ch, .slice A cb.length cp, .bool cw, .bool cc, .int .i64 (T.uses + 1)] 47) := ⟨_, rfl⟩
  rw [← hW0]
  have HO : Aside0 (Only [p] w W0) := ⟨by rw [hW0]; exact ((Only.refl _ w).set _ (.inl (by simp))).alloc _⟩
  have HBL0 : Aside0 (Blk W0 p [.int .i64 T.room.cells, .int .i64 T.room.bytes, .int .i64 T.room.buckets, .bool T.room.fresh, .map (some mb), .slice (some ⟨tb, 0, none⟩) T.tok.length cap, .int .i64 (T.uses + 1), .int .i64 (szs T.l : Int)]) := ⟨by rw [hW0]; exact (HBL.out.set 6 _).alloc _⟩
  have HBX0 : Aside0 (Blk W0 w.heap.size [.string ck, .int .i64 c1, .int .i64 c2, .int .i64 c3, .bool ch, .slice A cb.length cp, .bool cw, .bool cc, .int .i64 (T.uses + 1)]) := ⟨by rw [hW0]; exact Blk.new_ _ _ _ (by simp [World.setCell]) rfl⟩
  have HT0 : Aside0 (Ty W0 83 p ∧ Blk W0 tb (T.tok.map (.int .i64)) ∧ Ty W0 3 tb ∧ MapT W0 mb T.l) := ⟨by
    have hb : ∀ i ∈ [p], ¬ Ty w 5 i := fun i hi => by simp at hi; subst hi; exact HT.out.1.ne (by decide)
    have h1 : tb ≠ p := fun e => HT.out.1.ne (t' := 3) (by decide) (e ▸ HT.out.2.2.1)
    have h2 : mb ≠ p := fun e => HT.out.2.2.2.1.noTy _ (e ▸ HT.out.1)
    exact ⟨by rw [hW0]; exact (HT.out.1.set _ _).below (below_alloc (Below.refl _ _) _), HT.out.2.1.only HO.out (by simpa using h1), HT.out.2.2.1.only HO.out (by simpa using h1), HT.out.2.2.2.1.only HO.out (by simpa using h2) hb⟩⟩
  have hp0 : p < W0.heap.size := HBL0.out.lt
  have hne : w.heap.size ≠ p := by omega
  clear hW0
  clear p0 p1 p2 p3 p4 p5 p6 p7 f0 f1 f2 f3 f4 f5 f6 f7
  obtain ⟨⟨p0, p1, p2, p3, p4, p5, p6, p7⟩, f0, f1, f2, f3, f4, f5, f6, f7⟩ := HBL0.out.eight
  obtain ⟨⟨b0, b1, b2, b3, b4, b5, b6, b7, b8⟩, _⟩ := HBX0.out.nine
  obtain ⟨o, Ao, co, ho, hbo, hlk⟩ := HT0.out.2.2.2.look_or ck (by omega)
  have hmb : mb ∉ [p] := fun e => by simp at e; exact HT0.out.2.2.2.noTy _ (e ▸ HT0.out.1)
  have hml : mb < W0.heap.size := HT0.out.2.2.2.lt
  have hlk : ∀ w', Mod W0 p 7 w' → (Instr.lookup 81 (.map (some mb)) (.string ck) false).run Try.prog w' = .ok (.agg #[.string o.e.key, .int .i64 o.e.tag.seq, .int .i64 o.e.tag.who, .int .i64 o.e.tag.op, .bool o.e.val.has, .slice Ao o.e.val.b.length co, .bool o.whole, .bool o.clean, .int .i64 o.used]) w' := fun w' h => hlk false w' (h.1.block mb hml hmb)
  have hoz : o.e.key.size + o.e.val.b.length ≤ szs T.l := by have := szk_le T.l ck; unfold szk at this; rw [← ho] at this; exact this
  have HOZ : Aside0 (o.e.key.size + o.e.val.b.length = szk T.l ck) := ⟨by unfold szk; rw [← ho]; rfl⟩
  have hok : o.e.key.size ≤ 140737488351232 := by omega
  have hob : o.e.val.b.length ≤ 140737488351232 := by omega
  have HBO := Aside0.mk hbo
  clear ho hbo
  obtain ⟨⟨ok, ⟨o1, o2, o3⟩, ⟨oh, ob⟩⟩, ow, oc, ou⟩ := o
  dsimp only at *
  have hck : ck.size ≤ 140737488351232 := by omega
  have hcb : cb.length ≤ 140737488351232 := by omega
  have Z1 := fun w' => Tags.size_calls ck c1 c2 c3 ch A cp cb w' hck hcb
  have Z2 := fun w' => Tags.size_calls ok o1 o2 o3 oh Ao co ob w' hok hob
  obtain ⟨n1, hn1⟩ : ∃ n, n = ck.size + cb.length := ⟨_, rfl⟩
  obtain ⟨n2, hn2⟩ : ∃ n, n = ok.size + ob.length := ⟨_, rfl⟩
  obtain ⟨n0, hn0⟩ : ∃ n, n = szs T.l := ⟨_, rfl⟩
  simp only [← hn1] at Z1
  simp only [← hn2] at Z2
  have Z1 := Aside0.mk Z1
  have Z2 := Aside0.mk Z2
  have s1 : IntKind.i64.wrap ((n1 : Int) - (n2 : Int)) = (n1 : Int) - (n2 : Int) := IntWalk.i64_in _ (by omega)
  have s2 : IntKind.i64.wrap ((n0 : Int) + ((n1 : Int) - (n2 : Int))) = (n0 : Int) + ((n1 : Int) - (n2 : Int)) := IntWalk.i64_in _ (by omega)
  have HN := Aside0.mk (And.intro hn0 (And.intro hn1 hn2))
  rw [← hn0] at p7
  clear hoz hn0 hn1 hn2
  have rf := fun w' => field_E ok o1 o2 o3 oh (.slice Ao ob.length co) ow oc ou w'
  have hW : Mod W0 p 7 W0.drew ∧ W0.drew.cell? ⟨p, 7, none⟩ = some (.int .i64 (n0 : Int)) := ⟨(Mod.refl W0 p 7).drew, p7⟩
  have r4 : ∀ w', LayS W0 p n0 w' → w'.cell? ⟨p, 4, none⟩ = some (.map (some mb)) := fun w' h => h.1.cell (by decide) p4
  have r7 : ∀ w', LayS W0 p n0 w' → w'.cell? ⟨p, 7, none⟩ = some (.int .i64 (n0 : Int)) := fun w' h => h.2
  have rb0 : ∀ w', LayS W0 p n0 w' → w'.cell? ⟨w.heap.size, 0, none⟩ = some (.string ck) := fun w' h => h.1.far hne b0
  have rb1 : ∀ w', LayS W0 p n0 w' → w'.cell? ⟨w.heap.size, 1, none⟩ = some (.int .i64 c1) := fun w' h => h.1.far hne b1
  have rb2 : ∀ w', LayS W0 p n0 w' → w'.cell? ⟨w.heap.size, 2, none⟩ = some (.int .i64 c2) := fun w' h => h.1.far hne b2
  have rb3 : ∀ w', LayS W0 p n0 w' → w'.cell? ⟨w.heap.size, 3, none⟩ = some (.int .i64 c3) := fun w' h => h.1.far hne b3
  have rb4 : ∀ w', LayS W0 p n0 w' → w'.cell? ⟨w.heap.size, 4, none⟩ = some (.bool ch) := fun w' h => h.1.far hne b4
  have rb5 : ∀ w', LayS W0 p n0 w' → w'.cell? ⟨w.heap.size, 5, none⟩ = some (.slice A cb.length cp) := fun w' h => h.1.far hne b5
  have rl : ∀ w', LayS W0 p n0 w' → (Instr.lookup 81 (.map (some mb)) (.string ck) false).run Try.prog w' = .ok (.agg #[.string ok, .int .i64 o1, .int .i64 o2, .int .i64 o3, .bool oh, .slice Ao ob.length co, .bool ow, .bool oc, .int .i64 ou]) w' := fun w' h => hlk w' h.1
  clear b0 b1 b2 b3 b4 b5 b6 b7 b8 hlk
  refine region_calm 19 (LayS W0 p n0) (by kernel_rfl) (by kernel_rfl) hW ?_
  simp only [List.take_succ_cons, List.take_zero, List.drop_succ_cons, List.drop_zero]
  (refine wpCalm_val (v := ?_) rfl ?_ ?_; rotate_left; (focus (intro w' hSw; go_simp; try with_reducible rfl)))
  (try simp only [Act.put, List.setIfInBounds_toArray, List.set_cons_zero, List.set_cons_succ])
  (refine wpCalm_val (v := ?_) rfl ?_ ?_; rotate_left; (focus (intro w' hSw; go_simp; try with_reducible rfl)))
  (try simp only [Act.put, List.setIfInBounds_toArray, List.set_cons_zero, List.set_cons_succ])
  (refine wpCalm_val (v := ?_) rfl ?_ ?_; rotate_left; (focus (intro w' hSw; go_simp; try with_reducible rfl)))
  (try simp only [Act.put, List.setIfInBounds_toArray, List.set_cons_zero, List.set_cons_succ])
  (refine wpCalm_val (v := ?_) rfl ?_ ?_; rotate_left; (focus (intro w' hSw; go_simp; try with_reducible rfl)))
  (try simp only [Act.put, List.setIfInBounds_toArray, List.set_cons_zero, List.set_cons_succ])
  (refine wpCalm_val (v := ?_) rfl ?_ ?_; rotate_left; (focus (intro w' hSw; go_simp; try with_reducible rfl)))
  (try simp only [Act.put, List.setIfInBounds_toArray, List.set_cons_zero, List.set_cons_succ])
  (refine wpCalm_val (v := ?_) rfl ?_ ?_; rotate_left; (focus (intro w' hSw; go_simp; try with_reducible rfl)))
  (try simp only [Act.put, List.setIfInBounds_toArray, List.set_cons_zero, List.set_cons_succ])
  (refine wpCalm_call (v := .int .i64 (n1 : Int)) (f := ?_) (args := ?_) rfl ?_ ?_ ?_; rotate_left 2; (focus (intro w' hSw; go_simp; constructor <;> with_reducible rfl)); (focus (intro w' hSw; exact (Z1.out w').mono fun e w1 ⟨h1, h2⟩ => ⟨h1, hSw.below hp0 h2⟩)))
  (try simp only [Act.put, List.setIfInBounds_toArray, List.set_cons_zero, List.set_cons_succ])
  (refine wpCalm_val (v := ?_) rfl ?_ ?_; rotate_left; (focus (intro w' hSw; go_simp; try with_reducible rfl)))
  (try simp only [Act.put, List.setIfInBounds_toArray, List.set_cons_zero, List.set_cons_succ])
  (refine wpCalm_val (v := ?_) rfl ?_ ?_; rotate_left; (focus (intro w' hSw; go_simp; try with_reducible rfl)))
  (try simp only [Act.put, List.setIfInBounds_toArray, List.set_cons_zero, List.set_cons_succ])
  (refine wpCalm_val (v := ?_) rfl ?_ ?_; rotate_left; (focus (intro w' hSw; go_simp; try with_reducible rfl)))
  (try simp only [Act.put, List.setIfInBounds_toArray, List.set_cons_zero, List.set_cons_succ])
  (refine wpCalm_val (v := ?_) rfl ?_ ?_; rotate_left; (focus (intro w' hSw; go_simp; try with_reducible rfl)))
  (try simp only [Act.put, List.setIfInBounds_toArray, List.set_cons_zero, List.set_cons_succ])
  (refine wpCalm_val (v := ?_) rfl ?_ ?_; rotate_left; (focus (intro w' hSw; go_simp; try with_reducible rfl)))
  (try simp only [Act.put, List.setIfInBounds_toArray, List.set_cons_zero, List.set_cons_succ])
  (refine wpCalm_val (v := ?_) rfl ?_ ?_; rotate_left; (focus (intro w' hSw; go_simp; try with_reducible rfl)))
  (try simp only [Act.put, List.setIfInBounds_toArray, List.set_cons_zero, List.set_cons_succ])
  (refine wpCalm_val (v := ?_) rfl ?_ ?_; rotate_left; (focus (intro w' hSw; go_simp; try with_reducible rfl)))
  (try simp only [Act.put, List.setIfInBounds_toArray, List.set_cons_zero, List.set_cons_succ])
  (refine wpCalm_val (v := ?_) rfl ?_ ?_; rotate_left; (focus (intro w' hSw; go_simp; try with_reducible rfl)))
  (try simp only [Act.put, List.setIfInBounds_toArray, List.set_cons_zero, List.set_cons_succ])
  (refine wpCalm_val (v := ?_) rfl ?_ ?_; rotate_left; (focus (intro w' hSw; go_simp; try with_reducible rfl)))
  (try simp only [Act.put, List.setIfInBounds_toArray, List.set_cons_zero, List.set_cons_succ])
  (refine wpCalm_call (v := .int .i64 (n2 : Int)) (f := ?_) (args := ?_) rfl ?_ ?_ ?_; rotate_left 2; (focus (intro w' hSw; go_simp; constructor <;> with_reducible rfl)); (focus (intro w' hSw; exact (Z2.out w').mono fun e w1 ⟨h1, h2⟩ => ⟨h1, hSw.below hp0 h2⟩)))
  (try simp only [Act.put, List.setIfInBounds_toArray, List.set_cons_zero, List.set_cons_succ])
  (refine wpCalm_val (v := ?_) rfl ?_ ?_; rotate_left; (focus (intro w' hSw; go_simp; try with_reducible rfl)))
  (try simp only [Act.put, List.setIfInBounds_toArray, List.set_cons_zero, List.set_cons_succ])
  (refine wpCalm_val (v := ?_) rfl ?_ ?_; rotate_left; (focus (intro w' hSw; go_simp; try with_reducible rfl)))
  (try simp only [Act.put, List.setIfInBounds_toArray, List.set_cons_zero, List.set_cons_succ])
  refine wpCalm_nil ?_
  intro w1 hS1
  have f71 : w1.frozen? ⟨p, 7, none⟩ = false := (hS1.1.2.2.1 7).trans f7
  have h71 := hS1.2
  have HM1 := Aside0.mk hS1.1
  clear hS1
  go_wp2
  obtain ⟨W2, hW2⟩ : ∃ W2 : World, W2 = w1.setCell ⟨p, 7, none⟩ (.int .i64 ((n0 : Int) + ((n1 : Int) - (n2 : Int)))) := ⟨_, rfl⟩
  rw [← hW2]
  have HM2 : Aside0 (Mod W0 p 7 W2) := ⟨by rw [hW2]; exact HM1.out.set _⟩
  have HBL2 : Aside0 (Blk W2 p [.int .i64 T.room.cells, .int .i64 T.room.bytes, .int .i64 T.room.buckets, .bool T.room.fresh, .map (some mb), .slice (some ⟨tb, 0, none⟩) T.tok.length cap, .int .i64 (T.uses + 1), .int .i64 ((n0 : Int) + ((n1 : Int) - (n2 : Int)))]) := ⟨by rw [hW2]; exact (HM1.out.blk HBL0.out (fun v hv => by simp at hv; subst hv; rw [← HN.out.1]; exact h71)).set 7 _⟩
  clear hW2 h71 f71 HM1
  have q4 : W2.cell? ⟨p, 4, none⟩ = some (.map (some mb)) := HBL2.out.cell 4 rfl
  have HBX2 := HBX0.out.only HM2.out.1 (by simpa using hne)
  obtain ⟨⟨b0, b1, b2, b3, b4, b5, b6, b7, b8⟩, _⟩ := HBX2.nine
  have hb : ∀ i ∈ [p], ¬ Ty W0 5 i := fun i hi => by simp at hi; subst hi; exact HT0.out.1.ne (by decide)
  have HMT2 : MapT W2.drew mb T.l := (HT0.out.2.2.2.only HM2.out.1 hmb hb).only (Only.of_below [] (below_drew (Below.refl _ W2))) (by simp) (by simp)
  have HKC2 : BK Cell.k W2.drew ⟨⟨ck, ⟨c1, c2, c3⟩, ⟨ch, cb⟩⟩, cw, cc, T.uses + 1⟩ [.string ck, .int .i64 c1, .int .i64 c2, .int .i64 c3, .bool ch, .slice A cb.length cp, .bool cw, .bool cc, .int .i64 (T.uses + 1)] := by
    have h1 := (HKC.out.only HO.out (fun i hi => by simp at hi; subst hi; exact HT.out.1.ne (by decide))).only HM2.out.1 hb
    have h2 := h1.below (below_drew (Below.refl _ W2))
    refine Foot.imp h2 (fun W' hK => ?_)
    obtain ⟨A5, c5, he, s0, r1, r2, r3, l5, g5, r8⟩ := Cell.open_ hK
    simp only [List.cons.injEq, Value.slice.injEq, true_and, and_true] at he
    obtain ⟨rfl, rfl⟩ := he
    exact Cell.mk_ W' ⟨⟨ck, ⟨c1, c2, c3⟩, ⟨ch, cb⟩⟩, cw, cc, T.uses + 1⟩ s0 r1 r2 r3 l5 g5 (InR.mk64 (by dsimp only; omega) (by dsimp only; omega))
  obtain ⟨w3, hput, HMT3, hg3⟩ := HMT2.put HT.out.2.2.2.2 (c := ⟨⟨ck, ⟨c1, c2, c3⟩, ⟨ch, cb⟩⟩, cw, cc, T.uses + 1⟩) (cs := #[.string ck, .int .i64 c1, .int .i64 c2, .int .i64 c3, .bool ch, .slice A cb.length cp, .bool cw, .bool cc, .int .i64 (T.uses + 1)]) hck HKC2
  dsimp only at hput
  have HP3 := Aside0.mk (And.intro HMT3 hg3)
  clear HMT3 hg3 HMT2 HKC2 HBX2
  refine Tags.region_tail 8 (by kernel_rfl) (by kernel_rfl) ?_
  simp only [List.take_succ_cons, List.take_zero, List.drop_succ_cons, List.drop_zero]
  still_step
  still_step
  still_step
  still_step
  still_step
  still_step
  still_step
  still_step
  refine wpStill_nil ?_
  go_wp2
  first
  | refine bodyPost_ret (v := .tuple #[]) (by simp [results, Try.results40, go_sem]; try rfl) rfl ?_
  | refine bodyPost_end (v := .tuple #[]) (by simp [results, Try.results40, go_sem]; try rfl) rfl ?_
  have ho3 : Only [mb] W2 w3 := (Only.of_below [mb] (below_drew (Below.refl _ W2))).trans (only_grown HP3.out.2 (by simp))
  have hpm : p ∉ [mb] := fun e => hmb (by simp at e; simp [e])
  have htm : tb ∉ [mb] := fun e => by simp at e; exact HT0.out.2.2.2.noTy _ (e ▸ HT0.out.2.2.1)
  have htp : tb ∉ [p] := fun e => by simp at e; exact HT0.out.1.ne (t' := 3) (by decide) (e ▸ HT0.out.2.2.1)
  refine ⟨rfl, ⟨⟨cap, hcap, ?_⟩, (HM2.out.2.2.2 _ HT0.out.1).only ho3 hpm, (HT0.out.2.1.only HM2.out.1 htp).only ho3 htm, (HT0.out.2.2.1.only HM2.out.1 htp).only ho3 htm, HP3.out.1, srt_put HT.out.2.2.2.2⟩, ?_⟩
  · have e : ((n0 : Int) + ((n1 : Int) - (n2 : Int))) = ((szs (put T.l ⟨⟨ck, ⟨c1, c2, c3⟩, ⟨ch, cb⟩⟩, cw, cc, T.uses + 1⟩) : Nat) : Int) := by
      obtain ⟨g0, g1, g2⟩ := HN.out
      have h1 := szs_put (l := T.l) ⟨⟨ck, ⟨c1, c2, c3⟩, ⟨ch, cb⟩⟩, cw, cc, T.uses + 1⟩ HT.out.2.2.2.2
      have h2 := szs_del' (l := T.l) ck HT.out.2.2.2.2
      have h3 := HOZ.out
      unfold csz at h1
      dsimp only at h1
      omega
    have hB := (HBL2.out.only ho3 hpm)
    rw [e] at hB
    exact hB
  · exact ((HO.out.mono (by simp)).trans (HM2.out.1.mono (by simp))).trans (ho3.mono (by simp))
theorem bump_get (tok : List Int) (i : Nat) (h : i < tok.length) : bump tok i = tok.set i (tok[i] + 1) := by
  unfold bump; rw [List.getD_eq_getElem?_getD, List.getElem?_eq_getElem h]; rfl
set_option maxRecDepth 100000 in
set_option maxHeartbeats 1000000 in
theorem drop_calls (p mb tb : Nat) (T : Tb) (k : ByteArray) (w : World) (h : TbR w p mb tb T) (hk : k.size ≤ 1000000) (hz : szs T.l ≤ 1000000000000)
    (hn : 1 ≤ T.room.buckets ∧ T.room.buckets ≤ 65536) (hl : T.room.buckets = T.tok.length) (ht : ∀ x ∈ T.tok, 0 ≤ x ∧ x ≤ 4611686018427387904) :
    Calls Try.prog 46 #[.pointer (some ⟨p, 0, none⟩), .string k] w (TabTold w p mb tb (drop T k) (.tuple #[])) := by
  have hnoB := Aside0.mk h.noB
  have hne := h.ne
  obtain ⟨⟨cap, hcap, hB⟩, hp, hto, hty, hm, hs⟩ := h
  have HT := Aside0.mk (And.intro hp (And.intro hto (And.intro hty (And.intro hm hs))))
  have hpl := hp.lt
  have hml := hm.lt
  obtain ⟨o, Ao, co, ho, hbo, hlk⟩ := hm.look_or k (by omega)
  obtain ⟨⟨p0, p1, p2, p3, p4, p5, p6, p7⟩, f0, f1, f2, f3, f4, f5, f6, f7⟩ := hB.eight
  have HBL := Aside0.mk hB
  have hoz : o.e.key.size + o.e.val.b.length ≤ szs T.l := by have := szk_le T.l k; unfold szk at this; rw [← ho] at this; exact this
  have HOZ : Aside0 (o.e.key.size + o.e.val.b.length = szk T.l k) := ⟨by unfold szk; rw [← ho]; rfl⟩
  have hok : o.e.key.size ≤ 140737488351232 := by omega
  have hob : o.e.val.b.length ≤ 140737488351232 := by omega
  have hkk : k.size ≤ 140737488351232 := by omega
  clear ho hbo hB hp hto hty hm hs
  obtain ⟨⟨ok, ⟨o1, o2, o3⟩, ⟨oh, ob⟩⟩, ow, oc, ou⟩ := o
  dsimp only at *
  have Z2 := fun w' => Tags.size_calls ok o1 o2 o3 oh Ao co ob w' hok hob
  obtain ⟨n2, hn2⟩ : ∃ n, n = ok.size + ob.length := ⟨_, rfl⟩
  obtain ⟨n0, hn0⟩ : ∃ n, n = szs T.l := ⟨_, rfl⟩
  simp only [← hn2] at Z2
  have Z2 := Aside0.mk Z2
  have s1 : IntKind.i64.wrap ((n0 : Int) - (n2 : Int)) = (n0 : Int) - (n2 : Int) := IntWalk.i64_in _ (by omega)
  have HN := Aside0.mk (And.intro hn0 hn2)
  rw [← hn0] at p7
  have r4 : ∀ w', Below w.heap.size w w' → w'.cell? ⟨p, 4, none⟩ = some (.map (some mb)) := fun w' h => pw_cell_below h p4
  have r7 : ∀ w', Below w.heap.size w w' → w'.cell? ⟨p, 7, none⟩ = some (.int .i64 (n0 : Int)) := fun w' h => pw_cell_below h p7
  have rl : ∀ w', Below w.heap.size w w' → (Instr.lookup 81 (.map (some mb)) (.string k) false).run Try.prog w' = .ok (.agg #[.string ok, .int .i64 o1, .int .i64 o2, .int .i64 o3, .bool oh, .slice Ao ob.length co, .bool ow, .bool oc, .int .i64 ou]) w' := fun w' h => hlk false w' (h.block mb hml)
  have rf := fun w' => field_E ok o1 o2 o3 oh (.slice Ao ob.length co) ow oc ou w'
  clear hoz hlk hn2 hn0
  go_enter Try.func46, Try.ntmps46
  go_wp2
  refine region_calm 13 (Below w.heap.size w) (by kernel_rfl) (by kernel_rfl) (below_drew (Below.refl _ _)) ?_
  simp only [List.take_succ_cons, List.take_zero, List.drop_succ_cons, List.drop_zero]
  (refine wpCalm_val (v := ?_) rfl ?_ ?_; rotate_left; (focus (intro w' hSw; go_simp; try with_reducible rfl)))
  (try simp only [Act.put, List.setIfInBounds_toArray, List.set_cons_zero, List.set_cons_succ])
  (refine wpCalm_val (v := ?_) rfl ?_ ?_; rotate_left; (focus (intro w' hSw; go_simp; try with_reducible rfl)))
  (try simp only [Act.put, List.setIfInBounds_toArray, List.set_cons_zero, List.set_cons_succ])
  (refine wpCalm_val (v := ?_) rfl ?_ ?_; rotate_left; (focus (intro w' hSw; go_simp; try with_reducible rfl)))
  (try simp only [Act.put, List.setIfInBounds_toArray, List.set_cons_zero, List.set_cons_succ])
  (refine wpCalm_val (v := ?_) rfl ?_ ?_; rotate_left; (focus (intro w' hSw; go_simp; try with_reducible rfl)))
  (try simp only [Act.put, List.setIfInBounds_toArray, List.set_cons_zero, List.set_cons_succ])
  (refine wpCalm_val (v := ?_) rfl ?_ ?_; rotate_left; (focus (intro w' hSw; go_simp; try with_reducible rfl)))
  (try simp only [Act.put, List.setIfInBounds_toArray, List.set_cons_zero, List.set_cons_succ])
  (refine wpCalm_val (v := ?_) rfl ?_ ?_; rotate_left; (focus (intro w' hSw; go_simp; try with_reducible rfl)))
  (try simp only [Act.put, List.setIfInBounds_toArray, List.set_cons_zero, List.set_cons_succ])
  (refine wpCalm_val (v := ?_) rfl ?_ ?_; rotate_left; (focus (intro w' hSw; go_simp; try with_reducible rfl)))
  (try simp only [Act.put, List.setIfInBounds_toArray, List.set_cons_zero, List.set_cons_succ])
  (refine wpCalm_val (v := ?_) rfl ?_ ?_; rotate_left; (focus (intro w' hSw; go_simp; try with_reducible rfl)))
  (try simp only [Act.put, List.setIfInBounds_toArray, List.set_cons_zero, List.set_cons_succ])
  (refine wpCalm_val (v := ?_) rfl ?_ ?_; rotate_left; (focus (intro w' hSw; go_simp; try with_reducible rfl)))
  (try simp only [Act.put, List.setIfInBounds_toArray, List.set_cons_zero, List.set_cons_succ])
  (refine wpCalm_val (v := ?_) rfl ?_ ?_; rotate_left; (focus (intro w' hSw; go_simp; try with_reducible rfl)))
  (try simp only [Act.put, List.setIfInBounds_toArray, List.set_cons_zero, List.set_cons_succ])
  (refine wpCalm_val (v := ?_) rfl ?_ ?_; rotate_left; (focus (intro w' hSw; go_simp; try with_reducible rfl)))
  (try simp only [Act.put, List.setIfInBounds_toArray, List.set_cons_zero, List.set_cons_succ])
  (refine wpCalm_call (v := .int .i64 (n2 : Int)) (f := ?_) (args := ?_) rfl ?_ ?_ ?_; rotate_left 2; (focus (intro w' hSw; go_simp; constructor <;> with_reducible rfl)); (focus (intro w' hSw; exact (Z2.out w').mono fun e w1 ⟨h1, h2⟩ => ⟨h1, Below.then_ hSw h2 (Nat.le_refl _)⟩)))
  (try simp only [Act.put, List.setIfInBounds_toArray, List.set_cons_zero, List.set_cons_succ])
  (refine wpCalm_val (v := ?_) rfl ?_ ?_; rotate_left; (focus (intro w' hSw; go_simp; try with_reducible rfl)))
  (try simp only [Act.put, List.setIfInBounds_toArray, List.set_cons_zero, List.set_cons_succ])
  refine wpCalm_nil ?_
  intro w1 hS1
  have p71 := pw_cell_below hS1 p7
  have f71 : w1.frozen? ⟨p, 7, none⟩ = false := (Below.frozen hS1 (p := ⟨p, 7, none⟩) hpl).trans f7
  have q4 := pw_cell_below hS1 p4
  have HB1 := Aside0.mk hS1
  clear hS1 r4 r7 rl rf
  have HMT2 : MapT (w1.setCell ⟨p, 7, none⟩ (.int .i64 ((n0 : Int) - (n2 : Int)))) mb T.l := ((HT.out.2.2.2.1.only (Only.of_below [] HB1.out) (by simp) (by simp)).only ((Only.refl [p] w1).set (p := ⟨p, 7, none⟩) _ (.inl (by simp))) (by simp; exact hne.1.symm) (fun i hi => by simp at hi; subst hi; exact (HT.out.1.below HB1.out).ne (by decide)))
  obtain ⟨w3, hdel, HMT3, hg3⟩ := HMT2.drop HT.out.2.2.2.2 hkk 0
  have HP3 := Aside0.mk (And.intro HMT3 hg3)
  clear HMT3 hg3 HMT2
  go_wp2
  have hO3 : Only [p, mb] w w3 := ((Only.of_below [p, mb] HB1.out).set (p := ⟨p, 7, none⟩) (.int .i64 ((n0 : Int) - (n2 : Int))) (.inl (by simp))).trans (only_grown HP3.out.2 (by simp))
  have hBL3 : Blk w3 p [.int .i64 T.room.cells, .int .i64 T.room.bytes, .int .i64 T.room.buckets, .bool T.room.fresh, .map (some mb), .slice (some ⟨tb, 0, none⟩) T.tok.length cap, .int .i64 T.uses, .int .i64 ((n0 : Int) - (n2 : Int))] := (((HBL.out.on HB1.out).set 7 (.int .i64 ((n0 : Int) - (n2 : Int)))).only (only_grown HP3.out.2 (S := [mb]) (by simp)) (by simp; exact hne.1)).cast rfl
  have hpt3 : Ty w3 83 p := ((HT.out.1.below HB1.out).set ⟨p, 7, none⟩ (.int .i64 ((n0 : Int) - (n2 : Int)))).only (only_grown HP3.out.2 (S := [mb]) (by simp)) (by simp; exact hne.1)
  have hTK3 : Blk w3 tb (T.tok.map (.int .i64)) := HT.out.2.1.only hO3 (by simp; exact ⟨hne.2.1.symm, hne.2.2.symm⟩)
  have htt3 : Ty w3 3 tb := HT.out.2.2.1.only hO3 (by simp; exact ⟨hne.2.1.symm, hne.2.2.symm⟩)
  clear p0 p1 p2 p3 p4 p5 p6 p7 f0 f1 f2 f3 f4 f5 f6 f7 p71 f71 q4 hdel s1
  obtain ⟨⟨p0, p1, p2, p3, p4, p5, p6, p7⟩, _⟩ := hBL3.eight
  obtain ⟨b0, b1⟩ := Hash.bkt_bd k hn.1
  obtain ⟨i, hi⟩ : ∃ i : Nat, Hash.bkt k T.room.buckets = (i : Int) := ⟨_, (Int.toNat_of_nonneg b0).symm⟩
  rw [hi] at b1
  have HI := Aside0.mk hi
  clear hi b0
  have hil : i < T.tok.length := by omega
  have HX : Aside0 (bump T.tok (Hash.bkt k T.room.buckets).toNat = T.tok.set i (T.tok[i] + 1)) := ⟨by rw [HI.out, Int.toNat_natCast]; exact bump_get _ _ hil⟩
  have hx0 := ht T.tok[i] (List.getElem_mem hil)
  obtain ⟨x, hx⟩ : ∃ x, x = T.tok[i] := ⟨_, rfl⟩
  rw [← hx] at hx0
  have HX2 := Aside0.mk (HX.out.trans (by rw [← hx]))
  have hcx : w3.cell? ⟨tb, i, none⟩ = some (.int .i64 x) := hTK3.cell i (by rw [List.getElem?_map, List.getElem?_eq_getElem hil, hx]; rfl)
  have hfx : w3.frozen? ⟨tb, i, none⟩ = false := hTK3.frozen i (v := .int .i64 x) (by rw [List.getElem?_map, List.getElem?_eq_getElem hil, hx]; rfl)
  have Z3 : Aside0 (∀ w', Below w3.heap.size w3 w' → Calls Try.prog 41 #[.pointer (some ⟨p, 0, none⟩), .string k] w' fun e w'' => e = .returned (.int .i64 (i : Int)) ∧ Below w'.heap.size w' w'') := ⟨fun w' hb => by
    have := bucketT_calls p k T.room.buckets w' (pw_cell_below hb p2) hkk hn.1 hn.2
    rw [HI.out] at this
    exact this⟩
  have r5 : ∀ w', Below w3.heap.size w3 w' → w'.cell? ⟨p, 5, none⟩ = some (.slice (some ⟨tb, 0, none⟩) T.tok.length cap) := fun w' h => pw_cell_below h p5
  have rx : ∀ w', Below w3.heap.size w3 w' → w'.cell? ⟨tb, i, none⟩ = some (.int .i64 x) := fun w' h => pw_cell_below h hcx
  have s1 : IntKind.i64.wrap (x + 1) = x + 1 := IntWalk.i64_in _ (by omega)
  have i0 : (0 : Int) ≤ (i : Int) := by omega
  have i1 : (i : Int) < (T.tok.length : Int) := by omega
  have htl3 : tb < w3.heap.size := hTK3.lt
  have HB3 := Aside0.mk (And.intro hBL3 (And.intro hpt3 (And.intro hTK3 (And.intro htt3 hO3))))
  clear hx b1 HX hBL3 hTK3 hpt3 htt3 hO3
  refine region_calm 10 (Below w3.heap.size w3) (by kernel_rfl) (by kernel_rfl) (below_drew (Below.refl _ _)) ?_
  simp only [List.take_succ_cons, List.take_zero, List.drop_succ_cons, List.drop_zero]
  (refine wpCalm_val (v := ?_) rfl ?_ ?_; rotate_left; (focus (intro w' hSw; go_simp; try with_reducible rfl)))
  (try simp only [Act.put, List.setIfInBounds_toArray, List.set_cons_zero, List.set_cons_succ])
  (refine wpCalm_val (v := ?_) rfl ?_ ?_; rotate_left; (focus (intro w' hSw; go_simp; try with_reducible rfl)))
  (try simp only [Act.put, List.setIfInBounds_toArray, List.set_cons_zero, List.set_cons_succ])
  (refine wpCalm_val (v := ?_) rfl ?_ ?_; rotate_left; (focus (intro w' hSw; go_simp; try with_reducible rfl)))
  (try simp only [Act.put, List.setIfInBounds_toArray, List.set_cons_zero, List.set_cons_succ])
  (refine wpCalm_val (v := ?_) rfl ?_ ?_; rotate_left; (focus (intro w' hSw; go_simp; try with_reducible rfl)))
  (try simp only [Act.put, List.setIfInBounds_toArray, List.set_cons_zero, List.set_cons_succ])
  (refine wpCalm_val (v := ?_) rfl ?_ ?_; rotate_left; (focus (intro w' hSw; go_simp; try with_reducible rfl)))
  (try simp only [Act.put, List.setIfInBounds_toArray, List.set_cons_zero, List.set_cons_succ])
  (refine wpCalm_val (v := ?_) rfl ?_ ?_; rotate_left; (focus (intro w' hSw; go_simp; try with_reducible rfl)))
  (try simp only [Act.put, List.setIfInBounds_toArray, List.set_cons_zero, List.set_cons_succ])
  (refine wpCalm_call (v := .int .i64 (i : Int)) (f := ?_) (args := ?_) rfl ?_ ?_ ?_; rotate_left 2; (focus (intro w' hSw; go_simp; constructor <;> with_reducible rfl)); (focus (intro w' hSw; exact (Z3.out w' hSw).mono fun e w1 ⟨h1, h2⟩ => ⟨h1, Below.then_ hSw h2 (Nat.le_refl _)⟩)))
  (try simp only [Act.put, List.setIfInBounds_toArray, List.set_cons_zero, List.set_cons_succ])
  (refine wpCalm_val (v := ?_) rfl ?_ ?_; rotate_left; (focus (intro w' hSw; go_simp; try with_reducible rfl)))
  (try simp only [Act.put, List.setIfInBounds_toArray, List.set_cons_zero, List.set_cons_succ])
  (refine wpCalm_val (v := ?_) rfl ?_ ?_; rotate_left; (focus (intro w' hSw; go_simp; try with_reducible rfl)))
  (try simp only [Act.put, List.setIfInBounds_toArray, List.set_cons_zero, List.set_cons_succ])
  (refine wpCalm_val (v := ?_) rfl ?_ ?_; rotate_left; (focus (intro w' hSw; go_simp; try with_reducible rfl)))
  (try simp only [Act.put, List.setIfInBounds_toArray, List.set_cons_zero, List.set_cons_succ])
  refine wpCalm_nil ?_
  intro w4 hS4
  have hc4 := pw_cell_below hS4 hcx
  have hf4 : w4.frozen? ⟨tb, i, none⟩ = false := (Below.frozen hS4 (p := ⟨tb, i, none⟩) htl3).trans hfx
  have HB4 := Aside0.mk hS4
  clear hS4 r5 rx
  go_wp2
  refine bodyPost_ret (v := .tuple #[]) (by simp [results, Try.results46, go_sem]; try rfl) rfl ?_
  have hmp : mb ≠ p := hne.1.symm
  have o4 : Only [tb] w3 (w4.setCell ⟨tb, i, none⟩ (.int .i64 (x + 1))) := (Only.of_below [tb] HB4.out).set (p := ⟨tb, i, none⟩) (.int .i64 (x + 1)) (.inl (by simp))
  have hlen : (bump T.tok (Hash.bkt k T.room.buckets).toNat).length = T.tok.length := by rw [HX2.out, List.length_set]
  have htB : ∀ i ∈ [tb], ¬ Ty w3 5 i := fun i hi => by simp at hi; subst hi; exact HB3.out.2.2.2.1.ne (by decide)
  refine ⟨rfl, ⟨⟨cap, by show _ ≤ _; rw [show (drop T k).tok = bump T.tok (Hash.bkt k T.room.buckets).toNat from rfl, hlen]; exact hcap, ?_⟩, HB3.out.2.1.only o4 (by simp; exact hne.2.1), ?_, (HB3.out.2.2.2.1.below HB4.out).set _ _, HP3.out.1.only o4 (by simp; exact hne.2.2) htB, srt_del k HT.out.2.2.2.2⟩, ?_⟩
  · have hB := HB3.out.1.only o4 (by simp; exact hne.2.1)
    have e : ((n0 : Int) - (n2 : Int)) = ((szs (del T.l k) : Nat) : Int) := by
      obtain ⟨g0, g2⟩ := HN.out
      have h2 := szs_del' (l := T.l) k HT.out.2.2.2.2
      have h3 := HOZ.out
      omega
    rw [e] at hB
    show Blk _ p [_, _, _, _, _, .slice (some ⟨tb, 0, none⟩) (bump T.tok (Hash.bkt k T.room.buckets).toNat).length cap, _, _]
    rw [hlen]
    exact hB
  · have hB := (HB3.out.2.2.1.on HB4.out).set i (.int .i64 (x + 1))
    show Blk _ tb ((bump T.tok (Hash.bkt k T.room.buckets).toNat).map (.int .i64))
    rw [HX2.out, List.map_set]
    exact hB
  · exact (HB3.out.2.2.2.2.mono (by simp)).trans (o4.mono (by simp))
end Tab
end Go.Proofs.Ytgfjkpnaabiecaa
set_option linter.unusedVariables false
set_option linter.unusedSimpArgs false
namespace Go.Proofs.Ytgfjkpnaabiecaa
open Go.RowKit Go.Proofs.YtgfjkpnaabiecaaW.PrintWords
namespace StrRow
theorem str_at {w : World} {A : Option Addr} {n : Nat} {xs : List ByteArray} (h : kStr.C w A n xs) (k : Nat) (h1 : k < n) : ∃ ad x, A = some ad ∧ Aside0 (xs[k]? = some x) ∧ w.cell? (ad.add k) = some (.string x) ∧ x.size ≤ 140737488351232 := by
  have hl : xs.length = n := h.1
  obtain ⟨ad, c, e, _, hK, hc0⟩ := Kd.C_get h ByteArray.empty (k : Int) (by omega) (by omega)
  have hc : ∀ j u, c[j]? = some u → w.cell? (ad.add (k * 1 + j)) = some u := hc0
  have hx : xs[k]? = some (xs.getD k ByteArray.empty) := by simp [List.getD_eq_getElem?_getD, show k < xs.length by omega]
  have hK' : kStr.K w (xs.getD k ByteArray.empty) c := hK
  generalize xs.getD k ByteArray.empty = x at hK' hx
  obtain ⟨rfl, hs⟩ := hK'
  exact ⟨ad, x, e, ⟨hx⟩, by have := hc 0 _ rfl; simpa using this, hs⟩
/-- A slice of texts of the call's own, as a row that is read. -/
theorem own_C {w : World} {B : Nat} {v : Value} {l : List ByteArray} (h : w.ownsRow B 9 1 v l.length (l.map Value.string)) (hs : ∀ x ∈ l, x.size ≤ 140737488351232) : ∃ A c, v = .slice A l.length c ∧ l.length ≤ c ∧ kStr.C w A l.length l ∧ ∀ ad, A = some ad → B ≤ ad.block := by
  rcases h.2 with ⟨rfl, h0⟩ | ⟨g, cap, cur, rfl, hb, hh, hn, hm, hz, ht⟩
  · have : l = [] := List.eq_nil_of_length_eq_zero h0
    subst this
    exact ⟨none, 0, rfl, Nat.le_refl _, Kd.C_nil _ _, fun ad e => by cases e⟩
  · have hm' : cap ≤ 9223372036854775807 := by simpa [maxLen] using hm
    refine ⟨_, cap, rfl, hn, ⟨rfl, by omega, fun _ => ⟨_, rfl, fun j q hj => ⟨[.string q], rfl, ⟨rfl, hs q (List.mem_of_getElem? hj)⟩, fun i u hu => ?_⟩⟩⟩, fun ad e => by injection e with e; rw [← e]; exact hb⟩
    obtain rfl : i = 0 := by
      rcases i with _ | i
      · rfl
      · simp at hu
    simp at hu
    subst hu
    have hc := h.cells (g := g) rfl j (.string q) (by rw [List.getElem?_map, hj]; rfl)
    have e1 : j * kStr.sz + 0 = j := by show j * 1 + 0 = j; omega
    rw [e1]
    exact hc
/-- A row whose elements lead nowhere, where others are written. -/
theorem C_only {w w1 : World} {S : List Nat} {A : Option Addr} {n : Nat} {xs : List ByteArray} (h : kStr.C w A n xs) (o : Only S w w1) (hA : ∀ ad, A = some ad → ad.block ∉ S) : kStr.C w1 A n xs := by
  obtain ⟨h1, h2, h3⟩ := h
  refine ⟨h1, h2, fun hn => ?_⟩
  obtain ⟨ad, e, hc⟩ := h3 hn
  refine ⟨ad, e, fun j p hj => ?_⟩
  obtain ⟨cs, k1, k2, k3⟩ := hc j p hj
  refine ⟨cs, k1, k2, fun q u hq => ?_⟩
  have hx := k3 q u hq
  have hb := World.block_lt_of_cell? w _ hx
  rw [← hx]
  exact o.cell hb (by rw [adr_block]; exact hA ad e)
theorem txt_ne {a b : ByteArray} (h : a ≠ b) : ¬ a.toList = b.toList := fun e => h (by
  rw [ByteArray.toList_eq, ByteArray.toList_eq] at e
  exact ByteArray.ext (Array.toList_inj.1 e))
def hasS (xs : List ByteArray) (x : ByteArray) : Bool := xs.any (fun y => decide (y = x))
theorem hasS_iff {xs : List ByteArray} {x : ByteArray} : hasS xs x = true ↔ x ∈ xs := by
  unfold hasS
  simp only [List.any_eq_true, decide_eq_true_eq]
  exact ⟨fun ⟨y, h, e⟩ => e ▸ h, fun h => ⟨x, h, rfl⟩⟩
theorem hasS_no {xs : List ByteArray} {x : ByteArray} (h : x ∉ xs) : hasS xs x = false := by
  cases e : hasS xs x with
  | false => rfl
  | true => exact absurd (hasS_iff.1 e) h
set_option maxRecDepth 100000 in
theorem index_calls (A : Option Addr) (c : Nat) (xs : List ByteArray) (x : ByteArray) (w : World) (hr : kStr.C w A xs.length xs) :
    Calls Try.prog 85 #[.slice A xs.length c, .string x] w fun e w' => ∃ i : Int, e = .returned (.int .i64 i) ∧ decide (0 ≤ i) = hasS xs x ∧ w = w' := by
  have hm : xs.length ≤ 9223372036854775807 := hr.2.1
  have HR := Aside0.mk hr
  clear hr
  go_enter Try.func85, Try.ntmps85
  go_wp2
  go_loop [5, 8] (fun _ i => ∃ k : Nat, k ≤ xs.length ∧ i = .int .i64 k ∧ Aside0 (x ∉ xs.take k)) (fun _ i => xs.length - (intOf i).toNat)
  case atStart => exact ⟨0, Nat.zero_le _, rfl, ⟨by simp⟩⟩
  case round =>
    obtain ⟨k, hk, rfl, HN⟩ := hrel
    by_cases hlt : k < xs.length
    · obtain ⟨ad, y, rfl, HY, hc, hy⟩ := str_at HR.out k hlt
      have HT : Aside0 (xs.take (k + 1) = xs.take k ++ [y]) := ⟨by rw [List.take_add_one, HY.out]; rfl⟩
      by_cases hxy : x = y
      · subst hxy
        have HM : Aside0 (hasS xs x = true) := ⟨hasS_iff.2 (List.mem_of_getElem? HY.out)⟩
        go_wp2
        go_ret
        exact ⟨_, rfl, by rw [HM.out]; simp, rfl⟩
      · have HD := Aside0.mk hxy
        have hd : (x.toList == y.toList) = false := by simpa using txt_ne hxy
        clear hxy
        go_wp2
        go_round
        case rel => exact ⟨k + 1, by omega, by go_num, ⟨by rw [HT.out]; simp only [List.mem_append, List.mem_singleton, not_or]; exact ⟨HN.out, HD.out⟩⟩⟩
        case measure => simp [intOf]; omega
    · obtain rfl : k = xs.length := by omega
      go_wp2
      go_ret
      exact ⟨_, rfl, by rw [hasS_no (by have := HN.out; rwa [List.take_length] at this)]; rfl, rfl⟩
theorem contains_calls (A : Option Addr) (c : Nat) (xs : List ByteArray) (x : ByteArray) (w : World) (hr : kStr.C w A xs.length xs) :
    Calls Try.prog 76 #[.slice A xs.length c, .string x] w fun e w' => e = .returned (.bool (hasS xs x)) ∧ w = w' := by
  have HI := Aside0.mk (index_calls A c xs x w hr)
  clear hr
  go_enter Try.func76, Try.ntmps76
  go_wp2_with (first | (refine HI.out.mono ?_; rintro e w' ⟨i, rfl, hd, rfl⟩; have HD := Aside0.mk hd; clear hd))
  go_ret
  exact ⟨by rw [← HD.out]; rfl, rfl⟩
end StrRow
end Go.Proofs.Ytgfjkpnaabiecaa
set_option linter.unusedVariables false
set_option linter.unusedSimpArgs false
namespace Go.Proofs.Ytgfjkpnaabiecaa
open Go.RowKit Go.Proofs.YtgfjkpnaabiecaaW.PrintWords
namespace Tab
open StrRow (hasS hasS_iff hasS_no)
/-- The one that was used first. -/
def least : List Cell → Option Cell
  | [] => none
  | c :: r => match least r with
    | none => some c
    | some d => if c.used < d.used then some c else some d
def cand (ek : ByteArray) (c : Cell) : Bool := c.clean && !decide (c.e.key = ek)
def pick (l : List Cell) (ek : ByteArray) : Option Cell := least (l.filter (cand ek))
def newL (T : Tb) (e : Entry) : List Cell := put T.l ⟨e, false, false, 0⟩
def fits (T : Tb) (e : Entry) : Bool := decide (((newL T e).length : Int) ≤ T.room.cells ∧ ((szs (newL T e) : Nat) : Int) ≤ T.room.bytes)
def victF : Nat → Tb → Entry → List ByteArray × Bool
  | 0, _, _ => ([], true)
  | f + 1, T, e => if fits T e then ([], true) else match pick T.l e.key with
    | none => ([], false)
    | some c => (c.e.key :: (victF f (drop T c.e.key) e).1, (victF f (drop T c.e.key) e).2)
def vict (T : Tb) (e : Entry) : List ByteArray × Bool := victF (T.l.length + 1) T e
def drops (T : Tb) (out : List ByteArray) : Tb := out.foldl drop T
theorem least_mem : ∀ {l : List Cell} {c : Cell}, least l = some c → c ∈ l
  | x :: r, c, h => by
    unfold least at h
    split at h
    · injection h with h; rw [h]; exact List.mem_cons_self
    · rename_i d hd
      split at h
      · injection h with h; rw [h]; exact List.mem_cons_self
      · injection h with h; rw [← h]; exact List.mem_cons_of_mem _ (least_mem hd)
theorem least_le : ∀ {l : List Cell} {c : Cell}, least l = some c → ∀ d ∈ l, c.used ≤ d.used
  | x :: r, c, h, d, hd => by
    unfold least at h
    split at h
    · rename_i h0
      injection h with h
      rcases List.mem_cons.1 hd with rfl | hd
      · rw [h]; omega
      · rcases r with _ | ⟨y, r⟩
        · cases hd
        · unfold least at h0; split at h0
          · cases h0
          · split at h0 <;> cases h0
    · rename_i e he
      have ih := least_le he
      split at h
      · rename_i hlt
        injection h with h
        rcases List.mem_cons.1 hd with rfl | hd
        · rw [h]; omega
        · have := ih d hd; rw [← h]; omega
      · rename_i hlt
        injection h with h
        rcases List.mem_cons.1 hd with rfl | hd
        · rw [← h]; omega
        · have := ih d hd; rw [← h]; omega
theorem least_none : ∀ {l : List Cell}, least l = none → l = []
  | [], _ => rfl
  | x :: r, h => by
    unfold least at h
    split at h
    · cases h
    · split at h <;> cases h
theorem least_some {l : List Cell} (h : l ≠ []) : ∃ c, least l = some c := by
  cases e : least l with
  | none => exact absurd (least_none e) h
  | some c => exact ⟨c, rfl⟩
/-- Used at a time of its own, each. -/
def Own1 (l : List Cell) : Prop := l.Pairwise (fun a b => a.used ≠ b.used)
theorem own1_eq {l : List Cell} (h : Own1 l) {a b : Cell} (ha : a ∈ l) (hb : b ∈ l) (e : a.used = b.used) : a = b := by
  induction l with
  | nil => cases ha
  | cons x r ih =>
    obtain ⟨h1, h2⟩ := List.pairwise_cons.1 h
    rcases List.mem_cons.1 ha with ea | ha' <;> rcases List.mem_cons.1 hb with eb | hb'
    · rw [ea, eb]
    · exact absurd (ea ▸ e) (h1 b hb')
    · exact absurd (eb ▸ e).symm (h1 a ha')
    · exact ih h2 ha' hb'
theorem own1_perm {l l' : List Cell} (h : Own1 l) (p : l.Perm l') : Own1 l' := (p.pairwise_iff (fun {a b} hn => Ne.symm hn)).1 h
theorem own1_filter {l : List Cell} (q : Cell → Bool) (h : Own1 l) : Own1 (l.filter q) := List.Pairwise.sublist List.filter_sublist h
theorem least_perm {l l' : List Cell} (h : Own1 l) (p : l.Perm l') : least l = least l' := by
  cases e : least l with
  | none =>
    have := least_none e
    subst this
    rw [List.Perm.eq_nil p.symm]; rfl
  | some c =>
    obtain ⟨c', e'⟩ := least_some (l := l') (fun h0 => by subst h0; have := List.Perm.eq_nil p; subst this; cases e)
    rw [e']
    have hc := least_mem e
    have hc' := p.mem_iff.2 (least_mem e')
    have h1 := least_le e c' hc'
    have h2 := least_le e' c (p.mem_iff.1 hc)
    rw [own1_eq h hc hc' (by omega)]
theorem pick_mem {l : List Cell} {ek : ByteArray} {c : Cell} (h : pick l ek = some c) : c ∈ l ∧ c.clean = true ∧ c.e.key ≠ ek := by
  have := List.mem_filter.1 (least_mem h)
  unfold cand at this
  simp only [Bool.and_eq_true, Bool.not_eq_true', decide_eq_false_iff_not] at this
  exact this
theorem len_drop {T : Tb} {c : Cell} (hs : Srt T.l) (h : c ∈ T.l) : (drop T c.e.key).l.length + 1 = T.l.length := by
  have := len_del (k := c.e.key) hs
  rw [find_of hs h] at this
  show (del T.l c.e.key).length + 1 = _
  dsimp only at this
  omega
theorem vict_eq (T : Tb) (e : Entry) (hs : Srt T.l) : vict T e = if fits T e then ([], true) else match pick T.l e.key with
    | none => ([], false)
    | some c => (c.e.key :: (vict (drop T c.e.key) e).1, (vict (drop T c.e.key) e).2) := by
  unfold vict
  conv => lhs; unfold victF
  split
  · rfl
  · split
    · rfl
    · rename_i c h
      have := len_drop hs (pick_mem h).1
      rw [this]
theorem srt_drop {T : Tb} (k : ByteArray) (hs : Srt T.l) : Srt (drop T k).l := srt_del k hs
theorem drops_snoc (T : Tb) (out : List ByteArray) (k : ByteArray) : drops T (out ++ [k]) = drop (drops T out) k := by unfold drops; rw [List.foldl_append]; rfl
theorem drops_room (T : Tb) (out : List ByteArray) : (drops T out).room = T.room := by
  induction out generalizing T with
  | nil => rfl
  | cons k r ih => exact ih (drop T k)
theorem drops_srt {T : Tb} (hs : Srt T.l) (out : List ByteArray) : Srt (drops T out).l := by
  induction out generalizing T with
  | nil => exact hs
  | cons k r ih => exact ih (T := drop T k) (srt_drop k hs)
theorem drops_l (T : Tb) (out : List ByteArray) : (drops T out).l = T.l.filter (fun c => !hasS out c.e.key) := by
  induction out generalizing T with
  | nil => 
    show T.l = _
    symm; rw [List.filter_eq_self]; intro a _; rfl
  | cons k r ih =>
    show (drops (drop T k) r).l = _
    rw [ih]
    show (del T.l k).filter _ = _
    unfold del
    rw [List.filter_filter]
    apply List.filter_congr
    intro c _
    unfold hasS
    simp only [List.any_cons, Bool.not_or]
    rw [Bool.and_comm]
    congr 1
    by_cases h : c.e.key = k
    · simp [h]
    · simp [h, Ne.symm h]
theorem newL_len {T : Tb} {e : Entry} (hs : Srt T.l) : (newL T e).length = (del T.l e.key).length + 1 := len_put _ hs
theorem newL_szs {T : Tb} {e : Entry} (hs : Srt T.l) : szs (newL T e) = csz e + szs (del T.l e.key) := szs_put _ hs
theorem del_del (l : List Cell) (a b : ByteArray) : del (del l a) b = del (del l b) a := by
  unfold del
  rw [List.filter_filter, List.filter_filter]
  apply List.filter_congr
  intro c _
  rw [Bool.and_comm]
theorem find_del {l : List Cell} {k j : ByteArray} (h : k ≠ j) : find (del l j) k = find l k := by
  induction l with
  | nil => rfl
  | cons x r ih =>
    unfold del find at *
    rw [List.filter_cons]
    by_cases hx : x.e.key = j
    · rw [if_neg (by simpa using hx), List.find?_cons]
      have : x.e.key ≠ k := fun e => h (by rw [← e, hx])
      simp only [this, decide_false]
      exact ih
    · rw [if_pos (by simpa using hx), List.find?_cons, List.find?_cons]
      split
      · rfl
      · exact ih
/-- What is to hold is less by the one that goes. -/
theorem newL_drop {T : Tb} {e : Entry} {c : Cell} (hs : Srt T.l) (h : c ∈ T.l) (hk : c.e.key ≠ e.key) :
    (newL (drop T c.e.key) e).length + 1 = (newL T e).length ∧ szs (newL (drop T c.e.key) e) + csz c.e = szs (newL T e) := by
  have hf : find (del T.l e.key) c.e.key = some c := by rw [find_del hk]; exact find_of hs h
  have h1 := len_del (k := c.e.key) (srt_del e.key hs)
  have h2 := szs_del' (k := c.e.key) (srt_del e.key hs)
  unfold szk at h2
  rw [hf] at h1 h2
  rw [newL_len hs, newL_szs hs, newL_len (srt_drop _ hs), newL_szs (srt_drop _ hs)]
  show (del (del T.l c.e.key) e.key).length + 1 + 1 = _ ∧ csz e + szs (del (del T.l c.e.key) e.key) + csz c.e = _
  rw [del_del]
  dsimp only at h1
  have e2 : ((some c).getD Cell.z).e = c.e := rfl
  rw [e2] at h2
  constructor <;> omega
/-- The worst one so far, as the loop bears it. -/
def accOf : Option Cell → ByteArray × Int
  | none => (ByteArray.empty, 0)
  | some d => (d.e.key, d.used)
def okc (ek : ByteArray) (out : List ByteArray) (c : Cell) : Bool := cand ek c && !hasS out c.e.key
theorem pick_drops {T : Tb} {out : List ByteArray} {ek : ByteArray} {D : List Cell} (ho : Own1 T.l) (hp : D.Perm T.l) : pick (drops T out).l ek = least (D.filter (okc ek out)) := by
  unfold pick
  rw [drops_l, List.filter_filter]
  have e : T.l.filter (fun a => cand ek a && !hasS out a.e.key) = T.l.filter (okc ek out) := rfl
  rw [e]
  exact least_perm (own1_filter _ ho) (hp.symm.filter _)
theorem acc_no {ek : ByteArray} {out : List ByteArray} {c : Cell} {D : List Cell} (h : okc ek out c = false) : least ((c :: D).filter (okc ek out)) = least (D.filter (okc ek out)) := by
  rw [List.filter_cons, h]; rfl
theorem acc_first {ek : ByteArray} {out : List ByteArray} {c : Cell} {D : List Cell} (h : okc ek out c = true) (hl : least (D.filter (okc ek out)) = none) : least ((c :: D).filter (okc ek out)) = some c := by
  rw [List.filter_cons, if_pos h]; unfold least; rw [hl]
theorem acc_less {ek : ByteArray} {out : List ByteArray} {c d : Cell} {D : List Cell} (h : okc ek out c = true) (hl : least (D.filter (okc ek out)) = some d) (hu : c.used < d.used) : least ((c :: D).filter (okc ek out)) = some c := by
  rw [List.filter_cons, if_pos h]; unfold least; rw [hl]; dsimp only; rw [if_pos hu]
theorem acc_more {ek : ByteArray} {out : List ByteArray} {c d : Cell} {D : List Cell} (hl : least (D.filter (okc ek out)) = some d) (hu : ¬ c.used < d.used) : least ((c :: D).filter (okc ek out)) = some d := by
  rw [List.filter_cons]
  by_cases h : okc ek out c = true
  · rw [if_pos h]; unfold least; rw [hl]; dsimp only; rw [if_neg hu]
  · rw [if_neg h]; exact hl
/-- The loop's answer, a round further. -/
theorem vict_round {T : Tb} {e : Entry} {out : List ByteArray} {c : Cell} (hs : Srt T.l) (hv : vict T e = (out ++ (vict (drops T out) e).1, (vict (drops T out) e).2)) (hf : fits (drops T out) e = false) (hp : pick (drops T out).l e.key = some c) :
    vict T e = ((out ++ [c.e.key]) ++ (vict (drops T (out ++ [c.e.key])) e).1, (vict (drops T (out ++ [c.e.key])) e).2) := by
  rw [drops_snoc, hv]
  conv => lhs; rw [vict_eq (drops T out) e (drops_srt hs out)]
  rw [if_neg (by simp [hf]), hp]
  simp
theorem vict_fits {T : Tb} {e : Entry} {out : List ByteArray} (hs : Srt T.l) (hv : vict T e = (out ++ (vict (drops T out) e).1, (vict (drops T out) e).2)) (hf : fits (drops T out) e = true) : vict T e = (out, true) := by
  rw [hv, vict_eq (drops T out) e (drops_srt hs out), if_pos hf]; simp
theorem vict_none {T : Tb} {e : Entry} {out : List ByteArray} (hs : Srt T.l) (hv : vict T e = (out ++ (vict (drops T out) e).1, (vict (drops T out) e).2)) (hf : fits (drops T out) e = false) (hp : pick (drops T out).l e.key = none) : vict T e = (out, false) := by
  rw [hv, vict_eq (drops T out) e (drops_srt hs out), if_neg (by simp [hf]), hp]; simp
theorem drops_mem {T : Tb} {out : List ByteArray} {c : Cell} (h : c ∈ (drops T out).l) : c ∈ T.l := by
  rw [drops_l] at h
  exact (List.mem_filter.1 h).1
theorem start_some {T : Tb} {e : Entry} (hs : Srt T.l) (h : (find T.l e.key).isSome = true) : (newL T e).length = T.l.length ∧ szs (newL T e) + szk T.l e.key = csz e + szs T.l := by
  obtain ⟨c, hc⟩ := Option.isSome_iff_exists.1 h
  have h1 := len_del (k := e.key) hs
  rw [hc] at h1
  have h2 := szs_del' (k := e.key) hs
  rw [newL_len hs, newL_szs hs]
  dsimp only at h1
  constructor <;> omega
theorem start_none {T : Tb} {e : Entry} (hs : Srt T.l) (h : (find T.l e.key).isSome = false) : (newL T e).length = T.l.length + 1 ∧ szs (newL T e) = csz e + szs T.l := by
  have hn : find T.l e.key = none := by cases hc : find T.l e.key with
    | none => rfl
    | some c => rw [hc] at h; cases h
  rw [newL_len hs, newL_szs hs, del_none hn]
  exact ⟨rfl, rfl⟩
/-- Is it worse than the worst so far? -/
def updB (ek : ByteArray) (out : List ByteArray) (c : Cell) : Option Cell → Bool
  | none => okc ek out c
  | some d => okc ek out c && decide (c.used < d.used)
theorem acc_upd {ek : ByteArray} {out : List ByteArray} {c : Cell} {D : List Cell} : least ((c :: D).filter (okc ek out)) = if updB ek out c (least (D.filter (okc ek out))) then some c else least (D.filter (okc ek out)) := by
  cases hl : least (D.filter (okc ek out)) with
  | none =>
    unfold updB
    by_cases h : okc ek out c = true
    · rw [if_pos h, acc_first h hl]
    · rw [if_neg h, acc_no (by simpa using h), hl]
  | some d =>
    unfold updB
    by_cases h : okc ek out c = true
    · by_cases hu : c.used < d.used
      · rw [if_pos (by simp [h, hu]), acc_less h hl hu]
      · rw [if_neg (by simp [hu]), acc_more hl hu]
    · rw [if_neg (by simp [h]), acc_no (by simpa using h), hl]
theorem fits_iff {T : Tb} {e : Entry} : fits T e = true ↔ ((newL T e).length : Int) ≤ T.room.cells ∧ ((szs (newL T e) : Nat) : Int) ≤ T.room.bytes := by unfold fits; simp
theorem infoStr : (Try.prog.info? 9).map (fun i => (i.zero, i.size, i.bytes)) = some (some (.string ByteArray.empty), 1, 16) := by kernel_rfl
theorem szs_filter (q : Cell → Bool) (l : List Cell) : szs (l.filter q) ≤ szs l := by
  induction l with
  | nil => exact Nat.le_refl _
  | cons x r ih =>
    rw [List.filter_cons]
    split
    · rw [szs_cons, szs_cons]; omega
    · rw [szs_cons]; omega
theorem newL_bd {T : Tb} {e : Entry} (out : List ByteArray) (hs : Srt T.l) : (newL (drops T out) e).length ≤ T.l.length + 1 ∧ szs (newL (drops T out) e) ≤ csz e + szs T.l := by
  have h1 : (drops T out).l.length ≤ T.l.length := by rw [drops_l]; exact List.length_filter_le _ _
  have h2 : szs (drops T out).l ≤ szs T.l := by rw [drops_l]; exact szs_filter _ _
  rw [newL_len (drops_srt hs out), newL_szs (drops_srt hs out)]
  have h3 : (del (drops T out).l e.key).length ≤ (drops T out).l.length := List.length_filter_le _ _
  have h4 : szs (del (drops T out).l e.key) ≤ szs (drops T out).l := szs_filter _ _
  omega
end Tab
end Go.Proofs.Ytgfjkpnaabiecaa
set_option linter.unusedVariables false
set_option linter.unusedSimpArgs false
namespace Go.Proofs.Ytgfjkpnaabiecaa
open Go.RowKit Go.Proofs.YtgfjkpnaabiecaaW.PrintWords
open Go.Maps (Keyed)
open Go.ChangeMaps (setBlock heap_setBlock_same heap_setBlock_other)
open Go.MapKept
def kvs (es : List MapEntry) : List (Value × Value) := es.map fun e => (e.key, e.val)
/-- Block r ranges over the map of block b; the entries D have come, the entries L are still to come. -/
def Rng (w : World) (k : TypeId) (b r : Nat) (D L : List (Value × Value)) : Prop :=
  ∃ es clock since seen c0, w.heap[b]? = some (.map es clock) ∧ Stamped es clock ∧ (∀ e ∈ es.toList, IsKey k e.key) ∧ w.heap[r]? = some (.mapIter (some b) since seen c0) ∧ (∀ x ∈ es.toList, x.born < since) ∧ since ≤ c0 ∧ since ≤ clock ∧
    (kvs (es.toList.filter fun e => seen.contains e.born)).Perm D ∧ (kvs (es.toList.filter fun e => !seen.contains e.born)).Perm L
namespace Rng
variable {w w1 : World} {k : TypeId} {b r : Nat} {D L : List (Value × Value)}
theorem lt (h : Rng w k b r D L) : r < w.heap.size := by obtain ⟨_, _, _, _, _, _, _, _, h, _⟩ := h; exact (Array.getElem?_eq_some_iff.1 h).1
theorem blt (h : Rng w k b r D L) : b < w.heap.size := by obtain ⟨_, _, _, _, _, h, _⟩ := h; exact (Array.getElem?_eq_some_iff.1 h).1
theorem ne (h : Rng w k b r D L) : r ≠ b := by
  obtain ⟨_, _, _, _, _, hb, _, _, hr, _⟩ := h
  intro e
  rw [e, hb] at hr
  cases hr
theorem move (h : Rng w k b r D L) (h1 : w1.heap[b]? = w.heap[b]?) (h2 : w1.heap[r]? = w.heap[r]?) : Rng w1 k b r D L := by
  obtain ⟨es, cl, si, se, c0, hb, hs, hk, hr, t⟩ := h
  exact ⟨es, cl, si, se, c0, h1.trans hb, hs, hk, h2.trans hr, t⟩
theorem only {S : List Nat} (h : Rng w k b r D L) (o : Only S w w1) (hb : b ∉ S) (hr : r ∉ S) : Rng w1 k b r D L := h.move (o.block b h.blt hb) (o.block r h.lt hr)
theorem below (h : Rng w k b r D L) (o : Below w.heap.size w w1) : Rng w1 k b r D L := h.move (o.block b h.blt) (o.block r h.lt)
theorem noTy (h : Rng w k b r D L) (t : TypeId) : ¬ Ty w t r := by
  obtain ⟨_, _, _, _, _, _, _, _, hr, _⟩ := h
  rintro ⟨c, fr, h'⟩
  rw [hr] at h'
  injection h' with h'
  cases h'
theorem perm {D' L' : List (Value × Value)} (h : Rng w k b r D L) (p : D.Perm D') (q : L.Perm L') : Rng w k b r D' L' := by
  obtain ⟨es, cl, si, se, c0, hb, hs, hk, hr, h1, h2, h3, hD, hL⟩ := h
  exact ⟨es, cl, si, se, c0, hb, hs, hk, hr, h1, h2, h3, hD.trans p, hL.trans q⟩
theorem map (h : Rng w k b r D L) : MapL w k b (D ++ L) := by
  obtain ⟨es, cl, si, se, c0, hb, hs, hk, hr, h1, h2, h3, hD, hL⟩ := h
  refine ⟨es, cl, hb, hs, hk, ?_⟩
  have := (List.filter_append_perm (fun e : MapEntry => se.contains e.born) es.toList).map (fun e => (e.key, e.val))
  rw [List.map_append] at this
  exact this.symm.trans (hD.append hL)
/-- range m. -/
theorem begin_ {t e : TypeId} {E : List (Value × Value)} (h : MapL w k b E) (ht : Try.prog.underlying t = some (.map k e)) :
    ∃ w', (Instr.range t (.map (some b))).run Try.prog w = .ok (.pointer (some ⟨w.heap.size, 0, none⟩)) w' ∧ Rng w' k b w.heap.size [] E ∧ Below w.heap.size w w' ∧ w'.heap.size = w.heap.size + 1 := by
  have hlt := h.lt
  obtain ⟨es, cl, hb, hs, hk, hp⟩ := h
  refine ⟨_, run_range_map w t k e b es cl ht hb, ⟨es, cl, cl, #[], cl, ((MapKept.heap_alloc w _).2 b hlt).trans hb, hs, hk, (MapKept.heap_alloc w _).1, hs.1, Nat.le_refl _, Nat.le_refl _, ?_, ?_⟩, below_alloc (Below.refl _ _) _, by simp⟩
  · have : es.toList.filter (fun e => (#[] : Array Nat).contains e.born) = [] := by rw [List.filter_eq_nil_iff]; intro x _; simp
    rw [this]; exact List.Perm.refl _
  · have : es.toList.filter (fun e => !(#[] : Array Nat).contains e.born) = es.toList := by rw [List.filter_eq_self]; intro x _; simp
    rw [this]; exact hp
theorem contains_push (seen : Array Nat) (x y : Nat) : (seen.push x).contains y = (seen.contains y || y == x) := by
  rw [Array.contains_push]
theorem perm_split : ∀ (l : List MapEntry) (e : MapEntry), e ∈ l → (l.map (·.born)).Nodup → ∃ s t, l = s ++ e :: t ∧ (∀ x ∈ s, x.born ≠ e.born) ∧ ∀ x ∈ t, x.born ≠ e.born := by
  intro l e he hn
  obtain ⟨s, t, rfl⟩ := List.append_of_mem he
  refine ⟨s, t, rfl, fun x hx e1 => ?_, fun x hx e1 => ?_⟩
  · rw [List.map_append, List.nodup_append] at hn
    exact hn.2.2 x.born (List.mem_map.2 ⟨x, hx, rfl⟩) e.born (by simp) e1
  · rw [List.map_append, List.nodup_append, List.map_cons, List.nodup_cons] at hn
    exact hn.2.1.1 (List.mem_map.2 ⟨x, hx, e1⟩)
/-- The step. -/
theorem next (h : Rng w k b r D L) (ty : TypeId) :
    (L = [] ∧ (Instr.next (.pointer (some ⟨r, 0, none⟩)) false ty).run Try.prog w = .ok (.tuple #[.bool false]) w) ∨
    ∃ key v L' w', L.Perm ((key, v) :: L') ∧ (Instr.next (.pointer (some ⟨r, 0, none⟩)) false ty).run Try.prog w = .ok (.tuple #[.bool true, key, v]) w' ∧ Rng w' k b r ((key, v) :: D) L' ∧ Only [r] w w' ∧ w'.heap.size = w.heap.size ∧
      (Instr.entry (.pointer (some ⟨r, 0, none⟩))).run Try.prog w' = .ok (.tuple #[key, v]) w' := by
  have hne := h.ne
  obtain ⟨es, clock, since, seen, c0, hb, hs, hk, hr, hold, hsc, hsk, hD, hL⟩ := h
  rcases run_next_at (P := Try.prog) w ty r b since c0 seen es clock hr hb hold hsc with ⟨h0, hrun⟩ | ⟨e, he, w1, hal, hrun⟩
  · left
    refine ⟨?_, hrun⟩
    have : es.toList.filter (fun e => !seen.contains e.born) = [] := by
      have h1 : (leftOf es seen).toList = [] := by
        rw [← List.length_eq_zero_iff]; simpa using h0
      unfold leftOf at h1
      rwa [Array.toList_filter] at h1
    rw [this] at hL
    exact List.Perm.eq_nil hL.symm
  · right
    have he' : e ∈ es.toList.filter (fun e => !seen.contains e.born) := by
      unfold leftOf at he
      rwa [Array.toList_filter] at he
    obtain ⟨hem, hes⟩ := List.mem_filter.1 he'
    have hes' : seen.contains e.born = false := by simpa using hes
    have hnd := ((stamped_iff es clock).1 hs).2.1
    obtain ⟨s, t, hl, hs1, ht1⟩ := perm_split es.toList e hem hnd
    have hr1 : w1.heap[r]? = some (.mapIter (some b) since seen c0) := by rcases hal with rfl | rfl <;> exact hr
    have hb1 : w1.heap[b]? = some (.map es clock) := by rcases hal with rfl | rfl <;> exact hb
    have hset := heap_set (o' := .mapIter (some b) since (seen.push e.born) clock) hr1
    have hb' : (setBlock w1 r (.mapIter (some b) since (seen.push e.born) clock)).heap[b]? = some (.map es clock) := (hset.2 b (fun e1 => hne e1.symm)).trans hb1
    have f1 : ∀ x ∈ s, (seen.push e.born).contains x.born = seen.contains x.born := fun x hx => by rw [contains_push]; simp [hs1 x hx]
    have f2 : ∀ x ∈ t, (seen.push e.born).contains x.born = seen.contains x.born := fun x hx => by rw [contains_push]; simp [ht1 x hx]
    have f3 : (seen.push e.born).contains e.born = true := by rw [contains_push]; simp
    have g1 : s.filter (fun x => (seen.push e.born).contains x.born) = s.filter (fun x => seen.contains x.born) := List.filter_congr f1
    have g2 : t.filter (fun x => (seen.push e.born).contains x.born) = t.filter (fun x => seen.contains x.born) := List.filter_congr f2
    have g3 : s.filter (fun x => !(seen.push e.born).contains x.born) = s.filter (fun x => !seen.contains x.born) := List.filter_congr (fun x hx => by rw [f1 x hx])
    have g4 : t.filter (fun x => !(seen.push e.born).contains x.born) = t.filter (fun x => !seen.contains x.born) := List.filter_congr (fun x hx => by rw [f2 x hx])
    have hLp : (kvs (es.toList.filter fun e => !seen.contains e.born)).Perm ((e.key, e.val) :: kvs (es.toList.filter fun x => !(seen.push e.born).contains x.born)) := by
      rw [hl]
      simp only [List.filter_append, List.filter_cons, hes', f3, Bool.not_false, Bool.not_true, if_true, Bool.false_eq_true, if_false, g3, g4, kvs, List.map_append, List.map_cons]
      exact List.perm_middle
    have hDp : (kvs (es.toList.filter fun x => (seen.push e.born).contains x.born)).Perm ((e.key, e.val) :: kvs (es.toList.filter fun x => seen.contains x.born)) := by
      rw [hl]
      simp only [List.filter_append, List.filter_cons, hes', f3, if_true, Bool.false_eq_true, if_false, g1, g2, kvs, List.map_append, List.map_cons]
      exact List.perm_middle
    refine ⟨e.key, e.val, _, _, hL.symm.trans hLp, hrun, ⟨es, clock, since, seen.push e.born, clock, hb', hs, hk, hset.1, hold, hsk, hsk, hDp.trans (hD.cons _), List.Perm.refl _⟩, ?_, ?_, run_entry_at _ r b since seen es clock e hset.1 hb' hem hnd⟩
    · have ho : Only [r] w1 (setBlock w1 r (.mapIter (some b) since (seen.push e.born) clock)) := ⟨rfl, rfl, rfl, by simp [setBlock], fun i _ hi => hset.2 i (fun e1 => hi (by simp [e1]))⟩
      rcases hal with rfl | rfl
      · exact ho
      · exact (Only.refl [r] w).drew.trans ho
    · rcases hal with rfl | rfl <;> simp [setBlock]
end Rng
/-- The step at its operation. -/
theorem wpList_next_rng {w : World} {ops : Array Oper} {rest : List Oper} {o : Oper} {a : Act} {Q : Exit → Act → World → Prop} (hg : o.guard = none) (it : Operand) (hop : o.op = Op.next it false) {k : TypeId} {b r : Nat} {D L : List (Value × Value)}
    (hit : a.eval it = .pointer (some ⟨r, 0, none⟩)) (h : Rng w k b r D L)
    (hDone : L = [] → wpList Try.prog ops Q rest (a.put o.dst (.tuple #[.bool false])) w)
    (hMore : ∀ key v L' w', L.Perm ((key, v) :: L') → Rng w' k b r ((key, v) :: D) L' → Only [r] w w' → w'.heap.size = w.heap.size → (Instr.entry (.pointer (some ⟨r, 0, none⟩))).run Try.prog w' = .ok (.tuple #[key, v]) w' → wpList Try.prog ops Q rest (a.put o.dst (.tuple #[.bool true, key, v])) w') :
    wpList Try.prog ops Q (o :: rest) a w := by
  refine wpList_plain hg fun K' hK' => ?_
  unfold Oper.wp
  rcases h.next o.type with ⟨h0, hrun⟩ | ⟨key, v, L', w', hp, hrun, hrg, ho, hsz, hen⟩
  · simp [execOp, hop, hit, hrun, Result.andThen]
    exact hK' _ _ (hDone h0)
  · simp [execOp, hop, hit, hrun, Result.andThen]
    exact hK' _ _ (hMore key v L' w' hp hrg ho hsz hen)
/-- What comes is one of a list's. -/
theorem map_perm_cons {α β : Type} {g : α → β} {l : List α} {x : β} {L : List β} (h : (l.map g).Perm (x :: L)) : ∃ c l', l.Perm (c :: l') ∧ x = g c ∧ L.Perm (l'.map g) := by
  have hx : x ∈ l.map g := h.mem_iff.2 List.mem_cons_self
  obtain ⟨c, hc, rfl⟩ := List.mem_map.1 hx
  obtain ⟨s, t, rfl⟩ := List.append_of_mem hc
  have hp : (s ++ c :: t).Perm (c :: (s ++ t)) := List.perm_middle
  refine ⟨c, s ++ t, hp, rfl, ?_⟩
  have h2 := h.symm.trans (hp.map g)
  rw [List.map_cons] at h2
  exact h2.cons_inv
end Go.Proofs.Ytgfjkpnaabiecaa
namespace Go.Proofs.Ytgfjkpnaabiecaa
open Go.RowKit
section
variable {P : Program} {ops : Array Oper} {Q : Exit → Act → World → Prop} {md : Region.Mode} {S : World → Prop}
/-- Number i is wanted and yields v in every world that meets S. -/
theorem takeH (i d : Nat) {oi : Oper} {v : Value} {fuel : Nat} {listed : Array Bool} {a : Act} {w : World} (hi : ops[i]? = some oi) (hd : oi.dst = some d)
    (hs : Region.noSelect ops = true) (hf : Region.free md ops listed i = true) (hr : (Region.ready md ops listed).contains i = true)
    (hQ : ∀ c a w, Q (.panic c) (a.put (some d) v) w → Q (.panic c) a w) (hS : S w) (hw : Region.wanted oi (yielded ops a.tmps) = true) (hy : ∀ w, S w → (execOp a.eval oi).run P w = .ok (.value v) w)
    (h : wpAnyH P md ops Q S fuel (listed.setIfInBounds i true) (a.put (some d) v) w) : wpAnyH P md ops Q S (fuel + 1) listed a w := by
  rw [← hd] at h hQ
  exact wpAnyH_take hi hs hf hr hQ (.inl ⟨hw, hy⟩) hS h
/-- Number i is not wanted. -/
theorem skipH (i d : Nat) {oi : Oper} {fuel : Nat} {listed : Array Bool} {a : Act} {w : World} (hi : ops[i]? = some oi) (hd : oi.dst = some d)
    (hs : Region.noSelect ops = true) (hf : Region.free md ops listed i = true) (hr : (Region.ready md ops listed).contains i = true)
    (hQ : ∀ c a w, Q (.panic c) (a.put (some d) undef) w → Q (.panic c) a w) (hS : S w) (hw : Region.wanted oi (yielded ops a.tmps) = false)
    (h : wpAnyH P md ops Q S fuel (listed.setIfInBounds i true) (a.put (some d) undef) w) : wpAnyH P md ops Q S (fuel + 1) listed a w := by
  rw [← hd] at h hQ
  exact wpAnyH_take hi hs hf hr hQ (.inr ⟨hw, rfl⟩) hS h
end
end Go.Proofs.Ytgfjkpnaabiecaa
set_option linter.unusedVariables false
set_option linter.unusedSimpArgs false
namespace Go.Proofs.Ytgfjkpnaabiecaa
open Go.RowKit Go.Proofs.YtgfjkpnaabiecaaW.PrintWords
namespace Tab
open StrRow (hasS hasS_iff hasS_no)
/-- What victims tells. -/
def VictTold (w : World) (T : Tb) (e : Entry) (r : Ending) (w' : World) : Prop :=
  ∃ A c, r = .returned (.tuple #[.slice A (vict T e).1.length c, .bool (vict T e).2]) ∧ (vict T e).1.length ≤ c ∧ kStr.C w' A (vict T e).1.length (vict T e).1 ∧ Below w.heap.size w w' ∧ ∀ ad, A = some ad → w.heap.size ≤ ad.block
set_option maxRecDepth 100000 in
set_option maxHeartbeats 1000000 in
theorem victims_calls (p mb tb : Nat) (T : Tb) (e : Entry) (A : Option Addr) (cp : Nat) (w : World) (h : TbR w p mb tb T) (hk : e.key.size ≤ 1000000) (hb : e.val.b.length ≤ 1000000) (hz : szs T.l ≤ 1000000000000) (hl : T.l.length ≤ 1000000)
    (hu : ∀ c ∈ T.l, 1 ≤ c.used) (ho : Own1 T.l) :
    Calls Try.prog 62 #[.pointer (some ⟨p, 0, none⟩), .agg #[.string e.key, .int .i64 e.tag.seq, .int .i64 e.tag.who, .int .i64 e.tag.op, .bool e.val.has, .slice A e.val.b.length cp]] w (VictTold w T e) := by
  have HT := Aside0.mk h
  obtain ⟨⟨cap, hcap, hB⟩, hp, hto, hty, hm, hs⟩ := h
  have hpl := hp.lt
  have hml := hm.lt
  obtain ⟨o, Ao, co, hoe, hbo, hlk⟩ := hm.look_or e.key (by omega)
  obtain ⟨⟨p0, p1, p2, p3, p4, p5, p6, p7⟩, f0, f1, f2, f3, f4, f5, f6, f7⟩ := hB.eight
  obtain ⟨ek, ⟨a1, a2, a3⟩, ⟨eh, eb⟩⟩ := e
  dsimp only at *
  clear f0 f1 f2 f3 f4 f5 f6 f7 hB hp hto hty hm hs
  have HO := Aside0.mk ho
  have HU := Aside0.mk hu
  have HOE := Aside0.mk hoe
  clear ho hu hoe
  have hfs : (find T.l ek).isSome = true ∨ (find T.l ek).isSome = false := by cases (find T.l ek).isSome <;> simp
  obtain ⟨hasB, hhas⟩ : ∃ b, b = (find T.l ek).isSome := ⟨_, rfl⟩
  have rl : ∀ w', Below w.heap.size w w' → (Instr.lookup 81 (.map (some mb)) (.string ek) true).run Try.prog w' = .ok (.tuple #[.agg #[.string o.e.key, .int .i64 o.e.tag.seq, .int .i64 o.e.tag.who, .int .i64 o.e.tag.op, .bool o.e.val.has, .slice Ao o.e.val.b.length co, .bool o.whole, .bool o.clean, .int .i64 o.used], .bool hasB]) w' := fun w' h => by
    have := hlk true w' (h.block mb hml)
    rw [← hhas] at this
    exact this
  have HH := Aside0.mk hhas
  clear hhas hlk hfs
  go_enter Try.func62, Try.ntmps62
  go_wp2
  go_step3
  go_wp2
  have W1B : ∀ w', Below (w.alloc (.cells #[.string ek, .int .i64 a1, .int .i64 a2, .int .i64 a3, .bool eh, .slice A eb.length cp] 37)).heap.size (w.alloc (.cells #[.string ek, .int .i64 a1, .int .i64 a2, .int .i64 a3, .bool eh, .slice A eb.length cp] 37)) w' → Below w.heap.size w w' := fun w' h => Below.then_ (below_alloc (Below.refl _ _) _) h (Nat.le_refl _)
  obtain ⟨W1, hW1⟩ : ∃ W1 : World, W1 = w.alloc (.cells #[.string ek, .int .i64 a1, .int .i64 a2, .int .i64 a3, .bool eh, .slice A eb.length cp] 37) := ⟨_, rfl⟩
  have HX1 : Aside0 (Blk W1 w.heap.size [.string ek, .int .i64 a1, .int .i64 a2, .int .i64 a3, .bool eh, .slice A eb.length cp] ∧ Below w.heap.size w W1) := ⟨by rw [hW1]; exact ⟨Blk.new w _ _, below_alloc (Below.refl _ _) _⟩⟩
  rw [← hW1]
  rw [← hW1] at W1B
  have HS1 : Aside0 (W1.heap.size = w.heap.size + 1) := ⟨by rw [hW1]; simp⟩
  obtain ⟨⟨e0, e1, e2, e3, e4, e5⟩, fx⟩ := HX1.out.1.six
  clear fx
  have r4 : ∀ w', Below W1.heap.size W1 w' → w'.cell? ⟨p, 4, none⟩ = some (.map (some mb)) := fun w' h => pw_cell_below (W1B w' h) p4
  have re0 : ∀ w', Below W1.heap.size W1 w' → w'.cell? ⟨w.heap.size, 0, none⟩ = some (.string ek) := fun w' h => pw_cell_below h e0
  have rl1 := fun w' (h : Below W1.heap.size W1 w') => rl w' (W1B w' h)
  clear hW1
  refine wp_region_noPanic ?_
  refine wp_region_held_drew (S := Below W1.heap.size W1) (by kernel_rfl) (below_drew (Below.refl _ _)) (fun hHeld => ?_)
  (refine takeH 0 17 (v := ?_) rfl rfl (by kernel_rfl) (by kernel_rfl) (by kernel_rfl) (fun _ _ _ h => h) hHeld rfl ?_ ?_; rotate_left; (focus (intro w' hSw; go_simp; try with_reducible rfl)))
  (try simp only [Act.put, List.setIfInBounds_toArray, List.set_cons_zero, List.set_cons_succ])
  (refine takeH 1 18 (v := ?_) rfl rfl (by kernel_rfl) (by kernel_rfl) (by kernel_rfl) (fun _ _ _ h => h) hHeld rfl ?_ ?_; rotate_left; (focus (intro w' hSw; go_simp; try with_reducible rfl)))
  (try simp only [Act.put, List.setIfInBounds_toArray, List.set_cons_zero, List.set_cons_succ])
  (refine takeH 2 19 (v := ?_) rfl rfl (by kernel_rfl) (by kernel_rfl) (by kernel_rfl) (fun _ _ _ h => h) hHeld rfl ?_ ?_; rotate_left; (focus (intro w' hSw; go_simp; try with_reducible rfl)))
  (try simp only [Act.put, List.setIfInBounds_toArray, List.set_cons_zero, List.set_cons_succ])
  (refine takeH 3 20 (v := ?_) rfl rfl (by kernel_rfl) (by kernel_rfl) (by kernel_rfl) (fun _ _ _ h => h) hHeld rfl ?_ ?_; rotate_left; (focus (intro w' hSw; go_simp; try with_reducible rfl)))
  (try simp only [Act.put, List.setIfInBounds_toArray, List.set_cons_zero, List.set_cons_succ])
  (refine takeH 4 21 (v := ?_) rfl rfl (by kernel_rfl) (by kernel_rfl) (by kernel_rfl) (fun _ _ _ h => h) hHeld rfl ?_ ?_; rotate_left; (focus (intro w' hSw; go_simp; try with_reducible rfl)))
  (try simp only [Act.put, List.setIfInBounds_toArray, List.set_cons_zero, List.set_cons_succ])
  (refine takeH 5 22 (v := ?_) rfl rfl (by kernel_rfl) (by kernel_rfl) (by kernel_rfl) (fun _ _ _ h => h) hHeld rfl ?_ ?_; rotate_left; (focus (intro w' hSw; go_simp; try with_reducible rfl)))
  (try simp only [Act.put, List.setIfInBounds_toArray, List.set_cons_zero, List.set_cons_succ])
  (refine takeH 6 23 (v := ?_) rfl rfl (by kernel_rfl) (by kernel_rfl) (by kernel_rfl) (fun _ _ _ h => h) hHeld rfl ?_ ?_; rotate_left; (focus (intro w' hSw; go_simp; try with_reducible rfl)))
  (try simp only [Act.put, List.setIfInBounds_toArray, List.set_cons_zero, List.set_cons_succ])
  (refine takeH 7 16 (v := ?_) rfl rfl (by kernel_rfl) (by kernel_rfl) (by kernel_rfl) (fun _ _ _ h => h) hHeld rfl ?_ ?_; rotate_left; (focus (intro w' hSw; go_simp; try with_reducible rfl)))
  (try simp only [Act.put, List.setIfInBounds_toArray, List.set_cons_zero, List.set_cons_succ])
  (refine takeH 8 24 (v := ?_) rfl rfl (by kernel_rfl) (by kernel_rfl) (by kernel_rfl) (fun _ _ _ h => h) hHeld rfl ?_ ?_; rotate_left; (focus (intro w' hSw; go_simp; try with_reducible rfl)))
  (try simp only [Act.put, List.setIfInBounds_toArray, List.set_cons_zero, List.set_cons_succ])
  (refine takeH 9 25 (v := ?_) rfl rfl (by kernel_rfl) (by kernel_rfl) (by kernel_rfl) (fun _ _ _ h => h) hHeld rfl ?_ ?_; rotate_left; (focus (intro w' hSw; go_simp; try with_reducible rfl)))
  (try simp only [Act.put, List.setIfInBounds_toArray, List.set_cons_zero, List.set_cons_succ])
  refine wpAnyH_ready (rs := [10]) (by kernel_rfl) (by simp) ?_
  refine AllReadyH.cons rfl (fun K hK => ?_) AllReadyH.nil
  go_simp
  refine hK.out _ _ (below_alloc (by assumption) _) (fun hHeld => ?_)
  clear hK K
  (try simp only [Act.put, List.setIfInBounds_toArray, List.set_cons_zero, List.set_cons_succ])
  refine wpAnyH_ready (rs := [11]) (by kernel_rfl) (by simp) ?_
  refine AllReadyH.cons rfl (fun K hK => ?_) AllReadyH.nil
  go_simp
  refine hK.out _ _ (below_drew (below_alloc (Below.refl _ _) _)) (fun hHeld => ?_)
  clear hK K
  (try simp only [Act.put, List.setIfInBounds_toArray, List.set_cons_zero, List.set_cons_succ])
  (refine takeH 12 7 (v := ?_) rfl rfl (by kernel_rfl) (by kernel_rfl) (by kernel_rfl) (fun _ _ _ h => h) hHeld rfl ?_ ?_; rotate_left; (focus (intro w' hSw; go_simp; try with_reducible rfl)))
  (try simp only [Act.put, List.setIfInBounds_toArray, List.set_cons_zero, List.set_cons_succ])
  refine wpAnyH_done (by kernel_rfl) ?_ _
  refine NoPanic.normal ?_
  have W2B : ∀ w', Below ((W1.alloc (.cells #[.string o.e.key, .int .i64 o.e.tag.seq, .int .i64 o.e.tag.who, .int .i64 o.e.tag.op, .bool o.e.val.has, .slice Ao o.e.val.b.length co, .bool o.whole, .bool o.clean, .int .i64 o.used] 47)).drew).heap.size ((W1.alloc (.cells #[.string o.e.key, .int .i64 o.e.tag.seq, .int .i64 o.e.tag.who, .int .i64 o.e.tag.op, .bool o.e.val.has, .slice Ao o.e.val.b.length co, .bool o.whole, .bool o.clean, .int .i64 o.used] 47)).drew) w' → Below W1.heap.size W1 w' := fun w' h => Below.then_ (below_drew (below_alloc (Below.refl _ _) _)) h (Nat.le_refl _)
  obtain ⟨W2, hW2⟩ : ∃ W2 : World, W2 = (W1.alloc (.cells #[.string o.e.key, .int .i64 o.e.tag.seq, .int .i64 o.e.tag.who, .int .i64 o.e.tag.op, .bool o.e.val.has, .slice Ao o.e.val.b.length co, .bool o.whole, .bool o.clean, .int .i64 o.used] 47)).drew := ⟨_, rfl⟩
  have HX2 : Aside0 (Blk W2 W1.heap.size [.string o.e.key, .int .i64 o.e.tag.seq, .int .i64 o.e.tag.who, .int .i64 o.e.tag.op, .bool o.e.val.has, .slice Ao o.e.val.b.length co, .bool o.whole, .bool o.clean, .int .i64 o.used] ∧ Below W1.heap.size W1 W2) := ⟨by rw [hW2]; exact ⟨(Blk.new W1 _ _).drew, below_drew (below_alloc (Below.refl _ _) _)⟩⟩
  rw [← hW2] at W2B
  go_wp2
  rw [← hW2]
  clear hW2
  have W12 : ∀ w', Below W2.heap.size W2 w' → Below w.heap.size w w' := fun w' h => W1B w' (W2B w' h)
  have hoz : o.e.key.size + o.e.val.b.length ≤ szs T.l := by have := szk_le T.l ek; unfold szk at this; rw [← HOE.out] at this; exact this
  have hck : ek.size ≤ 140737488351232 := by omega
  have hcb : eb.length ≤ 140737488351232 := by omega
  have hok : o.e.key.size ≤ 140737488351232 := by omega
  have hob : o.e.val.b.length ≤ 140737488351232 := by omega
  have Z1 := fun w' => Tags.size_calls ek a1 a2 a3 eh A cp eb w' hck hcb
  have Z2 := fun w' => Tags.size_calls o.e.key o.e.tag.seq o.e.tag.who o.e.tag.op o.e.val.has Ao co o.e.val.b w' hok hob
  obtain ⟨n1, hn1⟩ : ∃ n, n = ek.size + eb.length := ⟨_, rfl⟩
  obtain ⟨n2, hn2⟩ : ∃ n, n = o.e.key.size + o.e.val.b.length := ⟨_, rfl⟩
  obtain ⟨n0, hn0⟩ : ∃ n, n = szs T.l := ⟨_, rfl⟩
  obtain ⟨m0, hm0⟩ : ∃ n, n = T.l.length := ⟨_, rfl⟩
  simp only [← hn1] at Z1
  simp only [← hn2] at Z2
  have Z1 := Aside0.mk Z1
  have Z2 := Aside0.mk Z2
  rw [← hn0] at p7
  have hlen := fun w' (h : Below W2.heap.size W2 w') => HT.out.map.len 3 w' ((W12 w' h).block mb hml)
  rw [← hm0] at hlen
  have hbd : n0 ≤ 1000000000000 ∧ m0 ≤ 1000000 ∧ n1 ≤ 2000000 ∧ n2 ≤ n0 := by omega
  have HN := Aside0.mk (And.intro hn0 (And.intro hn1 (And.intro hn2 hm0)))
  clear hn0 hn1 hn2 hm0 hoz
  obtain ⟨hbd0, hbd1, hbd2, hbd3⟩ := hbd
  have e0' := pw_cell_below HX2.out.2 e0
  have e1' := pw_cell_below HX2.out.2 e1
  have e2' := pw_cell_below HX2.out.2 e2
  have e3' := pw_cell_below HX2.out.2 e3
  have e4' := pw_cell_below HX2.out.2 e4
  have e5' := pw_cell_below HX2.out.2 e5
  clear r4 re0 rl1 e0 e1 e2 e3 e4 e5
  have r4 : ∀ w', Below W2.heap.size W2 w' → w'.cell? ⟨p, 4, none⟩ = some (.map (some mb)) := fun w' h => pw_cell_below (W12 w' h) p4
  have r7 : ∀ w', Below W2.heap.size W2 w' → w'.cell? ⟨p, 7, none⟩ = some (.int .i64 (n0 : Int)) := fun w' h => pw_cell_below (W12 w' h) p7
  have re0 : ∀ w', Below W2.heap.size W2 w' → w'.cell? ⟨w.heap.size, 0, none⟩ = some (.string ek) := fun w' h => pw_cell_below h e0'
  have re1 : ∀ w', Below W2.heap.size W2 w' → w'.cell? ⟨w.heap.size, 1, none⟩ = some (.int .i64 a1) := fun w' h => pw_cell_below h e1'
  have re2 : ∀ w', Below W2.heap.size W2 w' → w'.cell? ⟨w.heap.size, 2, none⟩ = some (.int .i64 a2) := fun w' h => pw_cell_below h e2'
  have re3 : ∀ w', Below W2.heap.size W2 w' → w'.cell? ⟨w.heap.size, 3, none⟩ = some (.int .i64 a3) := fun w' h => pw_cell_below h e3'
  have re4 : ∀ w', Below W2.heap.size W2 w' → w'.cell? ⟨w.heap.size, 4, none⟩ = some (.bool eh) := fun w' h => pw_cell_below h e4'
  have re5 : ∀ w', Below W2.heap.size W2 w' → w'.cell? ⟨w.heap.size, 5, none⟩ = some (.slice A eb.length cp) := fun w' h => pw_cell_below h e5'
  have s1 : IntKind.i64.wrap ((m0 : Int) + 1) = (m0 : Int) + 1 := IntWalk.i64_in _ (by omega)
  have s2 : IntKind.i64.wrap ((n0 : Int) + (n1 : Int)) = (n0 : Int) + (n1 : Int) := IntWalk.i64_in _ (by omega)
  refine region_calm 14 (Below W2.heap.size W2) (by kernel_rfl) (by kernel_rfl) (below_drew (Below.refl _ _)) ?_
  simp only [List.take_succ_cons, List.take_zero, List.drop_succ_cons, List.drop_zero]
  (refine wpCalm_val (v := ?_) rfl ?_ ?_; rotate_left; (focus (intro w' hSw; go_simp; try with_reducible rfl)))
  (try simp only [Act.put, List.setIfInBounds_toArray, List.set_cons_zero, List.set_cons_succ])
  (refine wpCalm_val (v := ?_) rfl ?_ ?_; rotate_left; (focus (intro w' hSw; go_simp; try with_reducible rfl)))
  (try simp only [Act.put, List.setIfInBounds_toArray, List.set_cons_zero, List.set_cons_succ])
  (refine wpCalm_val (v := ?_) rfl ?_ ?_; rotate_left; (focus (intro w' hSw; go_simp; try with_reducible rfl)))
  (try simp only [Act.put, List.setIfInBounds_toArray, List.set_cons_zero, List.set_cons_succ])
  (refine wpCalm_val (v := ?_) rfl ?_ ?_; rotate_left; (focus (intro w' hSw; go_simp; try with_reducible rfl)))
  (try simp only [Act.put, List.setIfInBounds_toArray, List.set_cons_zero, List.set_cons_succ])
  (refine wpCalm_val (v := ?_) rfl ?_ ?_; rotate_left; (focus (intro w' hSw; go_simp; try with_reducible rfl)))
  (try simp only [Act.put, List.setIfInBounds_toArray, List.set_cons_zero, List.set_cons_succ])
  (refine wpCalm_val (v := ?_) rfl ?_ ?_; rotate_left; (focus (intro w' hSw; go_simp; try with_reducible rfl)))
  (try simp only [Act.put, List.setIfInBounds_toArray, List.set_cons_zero, List.set_cons_succ])
  (refine wpCalm_val (v := ?_) rfl ?_ ?_; rotate_left; (focus (intro w' hSw; go_simp; try with_reducible rfl)))
  (try simp only [Act.put, List.setIfInBounds_toArray, List.set_cons_zero, List.set_cons_succ])
  (refine wpCalm_val (v := ?_) rfl ?_ ?_; rotate_left; (focus (intro w' hSw; go_simp; try with_reducible rfl)))
  (try simp only [Act.put, List.setIfInBounds_toArray, List.set_cons_zero, List.set_cons_succ])
  (refine wpCalm_val (v := ?_) rfl ?_ ?_; rotate_left; (focus (intro w' hSw; go_simp; try with_reducible rfl)))
  (try simp only [Act.put, List.setIfInBounds_toArray, List.set_cons_zero, List.set_cons_succ])
  (refine wpCalm_val (v := ?_) rfl ?_ ?_; rotate_left; (focus (intro w' hSw; go_simp; try with_reducible rfl)))
  (try simp only [Act.put, List.setIfInBounds_toArray, List.set_cons_zero, List.set_cons_succ])
  (refine wpCalm_val (v := ?_) rfl ?_ ?_; rotate_left; (focus (intro w' hSw; go_simp; try with_reducible rfl)))
  (try simp only [Act.put, List.setIfInBounds_toArray, List.set_cons_zero, List.set_cons_succ])
  (refine wpCalm_call (v := .int .i64 (n1 : Int)) (f := ?_) (args := ?_) rfl ?_ ?_ ?_; rotate_left 2; (focus (intro w' hSw; go_simp; constructor <;> with_reducible rfl)); (focus (intro w' hSw; exact (Z1.out w').mono fun e w1 ⟨h1, h2⟩ => ⟨h1, Below.then_ hSw h2 (Nat.le_refl _)⟩)))
  (try simp only [Act.put, List.setIfInBounds_toArray, List.set_cons_zero, List.set_cons_succ])
  (refine wpCalm_val (v := ?_) rfl ?_ ?_; rotate_left; (focus (intro w' hSw; go_simp; try with_reducible rfl)))
  (try simp only [Act.put, List.setIfInBounds_toArray, List.set_cons_zero, List.set_cons_succ])
  (refine wpCalm_val (v := ?_) rfl ?_ ?_; rotate_left; (focus (intro w' hSw; go_simp; try with_reducible rfl)))
  (try simp only [Act.put, List.setIfInBounds_toArray, List.set_cons_zero, List.set_cons_succ])
  refine wpCalm_nil ?_
  intro w3 hS3
  have HB3 := Aside0.mk hS3
  clear hS3
  clear s1 s2 r7 re1 re2 re3 re4 re5 hlen
  obtain ⟨⟨x0, x1, x2, x3, x4, x5, x6, x7, x8⟩, fx⟩ := (HX2.out.1.on HB3.out).nine
  clear x6 x7 x8 fx
  have W3w : Below w.heap.size w w3 := W12 w3 HB3.out
  have HW3 := Aside0.mk W3w
  clear W3w
  obtain ⟨E, hE⟩ : ∃ E : Entry, E = ⟨ek, ⟨a1, a2, a3⟩, ⟨eh, eb⟩⟩ := ⟨_, rfl⟩
  rw [← hE]
  have HE := Aside0.mk hE
  clear hE
  go_upto_if 39 with (fail)
  go_cut [8, 9] (fun v8 v9 wx => ∃ n8 n9 : Nat, v8 = .int .i64 (n8 : Int) ∧ v9 = .int .i64 (n9 : Int) ∧ Aside0 (n8 = (newL T E).length ∧ n9 = szs (newL T E)) ∧ Aside0 (Below w.heap.size w wx ∧ Below W2.heap.size W2 wx))
  case first =>
    have s3 : IntKind.i64.wrap ((n0 : Int) + (n1 : Int) - (n2 : Int)) = (n0 : Int) + (n1 : Int) - (n2 : Int) := IntWalk.i64_in _ (by omega)
    cases hasB with
    | true =>
      go_wp2_with (first | ((with_reducible refine (Z2.out _).mono ?_); rintro e w4 ⟨rfl, hb4⟩; have HB4 := Aside0.mk hb4; clear hb4))
      have hH := HH.out
      have hst := start_some (e := ⟨ek, ⟨a1, a2, a3⟩, ⟨eh, eb⟩⟩) HT.out.srt hH.symm
      have h2 := HN.out
      have h3 : szk T.l ek = o.e.key.size + o.e.val.b.length := by unfold szk; rw [← HOE.out]; rfl
      have h1 := hst.2
      unfold csz at h1
      dsimp only at h1
      go_meet
      refine ⟨(newL T E).length, szs (newL T E), ?_, ?_, ⟨rfl, rfl⟩, ⟨Below.then_ HW3.out HB4.out (Nat.le_refl _), Below.then_ HB3.out HB4.out (Nat.le_refl _)⟩⟩
      · rw [HE.out, hst.1, h2.2.2.2]
      · rw [HE.out]; congr 1; omega
    | false =>
      go_wp2
      have hH := HH.out
      have hst := start_none (e := ⟨ek, ⟨a1, a2, a3⟩, ⟨eh, eb⟩⟩) HT.out.srt hH.symm
      have h2 := HN.out
      have h1 := hst.2
      unfold csz at h1
      dsimp only at h1
      go_meet
      refine ⟨(newL T E).length, szs (newL T E), ?_, ?_, ⟨rfl, rfl⟩, ⟨HW3.out, HB3.out⟩⟩
      · rw [HE.out, hst.1, h2.2.2.2]; rfl
      · rw [HE.out]; congr 1; omega
  case rest =>
    obtain ⟨n8, n9, rfl, rfl, HN8, HW4⟩ := hcut
    obtain ⟨w4, rfl⟩ : ∃ w4, w4 = wc := ⟨_, rfl⟩
    obtain ⟨g, hmg, hce⟩ := HT.out.map
    have HMG := Aside0.mk hmg
    have HCE := Aside0.mk hce
    have HE0 := Aside0.mk e0'
    clear hmg hce x0 x1 x2 x3 x4 x5 r4 re0 e0' e1' e2' e3' e4' e5' rl
    go_wp2
    go_step3
    go_wp2
    go_loopg [8, 9, 10, 11] T.l.length (fun gk v8 v9 v10 v11 wr => ∃ (out : List ByteArray) (n8 n9 : Nat), v11 = .bool true ∧ v8 = .int .i64 (n8 : Int) ∧ v9 = .int .i64 (n9 : Int) ∧ Aside0 (n8 = (newL (drops T out) E).length ∧ n9 = szs (newL (drops T out) E)) ∧ Aside0 (Below w4.heap.size w4 wr) ∧
      Aside0 (wr.ownsRow w4.heap.size 9 1 v10 out.length (out.map Value.string)) ∧ Aside0 (vict T E = (out ++ (vict (drops T out) E).1, (vict (drops T out) E).2)) ∧ Aside0 (gk = (drops T out).l.length ∧ gk + out.length = T.l.length) ∧ Aside0 (∀ k ∈ out, k.size ≤ 140737488351232))
    case atStart => exact ⟨[], n8, n9, rfl, rfl, rfl, HN8, ⟨Below.refl _ _⟩, ⟨own_nil _ _ _ _⟩, ⟨by simp [drops]⟩, ⟨rfl, rfl⟩, ⟨by simp⟩⟩
    case round =>
      clear n8 n9 HN8
      obtain ⟨wo, rfl⟩ : ∃ wo : World, wo = wr := ⟨_, rfl⟩
      obtain ⟨go, rfl⟩ : ∃ go : Nat, go = gk := ⟨_, rfl⟩
      obtain ⟨out, n8, n9, rfl, rfl, rfl, HN8, HB, HOW, HV, HG, HK⟩ := hrel
      have HWR : Aside0 (Below w.heap.size w wo ∧ Below W2.heap.size W2 wo) := ⟨Below.then_ HW4.out.1 HB.out (Nat.le_refl _), Below.then_ HW4.out.2 HB.out (Nat.le_refl _)⟩
      have q0 := pw_cell_below HWR.out.1 p0
      have q1 := pw_cell_below HWR.out.1 p1
      obtain ⟨A', c', rfl, g1, g2, g3⟩ := StrRow.own_C HOW.out HK.out
      have HSL := Aside0.mk (And.intro g1 g2)
      have HFA : Aside0 (∀ ad, A' = some ad → w.heap.size ≤ ad.block) := ⟨fun ad e => Nat.le_trans HW4.out.1.size (g3 ad e)⟩
      clear g1 g2 g3
      go_upto_region 7 with (fail)
      go_cut [62] (fun c wx => ∃ b : Bool, c = .bool b ∧ Aside0 (b = !fits (drops T out) E) ∧ wo = wx)
      case first =>
        have hr : (drops T out).room = T.room := drops_room _ _
        by_cases hA : T.room.cells < (n8 : Int)
        · have HF : Aside0 (true = !fits (drops T out) E) := ⟨by
            have : ¬ fits (drops T out) E = true := fun h => by have := (fits_iff.1 h).1; rw [hr, ← HN8.out.1] at this; omega
            simpa using this⟩
          clear hr
          go_wp2
          go_meet
          exact ⟨true, rfl, HF, rfl⟩
        · by_cases hB : T.room.bytes < (n9 : Int)
          · have HF : Aside0 (true = !fits (drops T out) E) := ⟨by
              have : ¬ fits (drops T out) E = true := fun h => by have := (fits_iff.1 h).2; rw [hr, ← HN8.out.2] at this; omega
              simpa using this⟩
            clear hr
            go_wp2
            go_meet
            exact ⟨true, rfl, HF, rfl⟩
          · have HF : Aside0 (false = !fits (drops T out) E) := ⟨by
              have : fits (drops T out) E = true := fits_iff.2 (by rw [hr, ← HN8.out.1, ← HN8.out.2]; omega)
              rw [this]; rfl⟩
            clear hr
            go_wp2
            go_meet
            exact ⟨false, rfl, HF, rfl⟩
      case rest =>
        obtain ⟨b, rfl, HF, rfl⟩ := hcut
        cases b with
        | false =>
          go_wp2
          try rw [Exit.noGoto_ret]
          obtain ⟨g1, g2⟩ := HSL.out
          have hv := vict_fits HT.out.srt HV.out (by have := HF.out; simpa using this.symm)
          rw [HE.out] at hv
          refine bodyPost_ret (v := .tuple #[.slice A' out.length c', .bool true]) (by simp [results, Try.results62, go_sem]; try rfl) rfl ?_
          exact ⟨A', c', by rw [hv], by rw [hv]; exact g1, by rw [hv]; exact g2, HWR.out.1, HFA.out⟩
        | true =>
          have hmr : MapL wo 9 mb (T.l.map g) := HMG.out.only (Only.of_below [] HWR.out.1) (by simp)
          obtain ⟨wi, hrun, hrg, hbi, hsi⟩ := Rng.begin_ (t := 81) (e := 47) hmr Try.underlying81
          have HRG := Aside0.mk (And.intro hrg (And.intro hbi hsi))
          have q4 := pw_cell_below HWR.out.1 p4
          clear hmr hrg hbi hsi
          go_wp2
          clear hrun
          go_loopg [12, 13] T.l.length (fun gk v12 v13 wx => ∃ (Dc Lc : List Cell) (k : ByteArray) (u : Int), v12 = .string k ∧ v13 = .int .i64 u ∧ Aside0 ((k, u) = accOf (least (Dc.filter (okc ek out)))) ∧ Aside0 (Rng wx 9 mb wo.heap.size (Dc.map g) (Lc.map g)) ∧ Aside0 ((Dc ++ Lc).Perm T.l) ∧ Aside0 (gk = Lc.length) ∧ Aside0 (Below wo.heap.size wo wx))
          case atStart => exact ⟨[], T.l, _, _, rfl, rfl, ⟨rfl⟩, ⟨HRG.out.1⟩, ⟨List.Perm.refl _⟩, ⟨rfl⟩, ⟨HRG.out.2.1⟩⟩
          case round =>
            clear q0 q1 q4
            obtain ⟨Dc, Lc, k, u, rfl, rfl, HAC, HR, HP, HGL, HBX⟩ := hrel
            go_wp2_with (first | (at_next; refine wpList_next_rng rfl _ rfl rfl HR.out ?_ ?_))
            · intro h0
              have hL : Lc = [] := by simpa using h0
              subst hL
              have HPI : Aside0 (pick (drops T out).l E.key = least (Dc.filter (okc ek out))) := ⟨by rw [HE.out]; exact pick_drops HO.out (by have := HP.out; rwa [List.append_nil] at this)⟩
              clear h0
              obtain ⟨ol, hol⟩ : ∃ ol, ol = least (Dc.filter (okc ek out)) := ⟨_, rfl⟩
              have HPK : Aside0 (pick (drops T out).l E.key = ol) := ⟨HPI.out.trans hol.symm⟩
              have hAC := HAC.out
              rw [← hol] at hAC
              clear hol HAC HPI
              have HWX : Aside0 (Below w.heap.size w wr) := ⟨Below.then_ HWR.out.1 HBX.out (Nat.le_refl _)⟩
              have HFF : Aside0 (fits (drops T out) E = false) := ⟨by have := HF.out; simpa using this.symm⟩
              cases ol with
              | none =>
                simp only [accOf, Prod.mk.injEq] at hAC
                obtain ⟨rfl, rfl⟩ := hAC
                go_wp2
                try rw [Exit.noGoto_ret]
                obtain ⟨g1, g2⟩ := HSL.out
                have hv := vict_none HT.out.srt HV.out HFF.out HPK.out
                rw [HE.out] at hv
                refine bodyPost_ret (v := .tuple #[.slice A' out.length c', .bool false]) (by simp [results, Try.results62, go_sem]; try rfl) rfl ?_
                exact ⟨A', c', by rw [hv], by rw [hv]; exact g1, by rw [hv]; exact Kd.C_below g2 HBX.out, HWX.out, HFA.out⟩
              | some d =>
                simp only [accOf, Prod.mk.injEq] at hAC
                obtain ⟨rfl, rfl⟩ := hAC
                obtain ⟨hd1, hd2, hd3⟩ := pick_mem HPK.out
                have hdT := drops_mem hd1
                have hu1 := HU.out d hdT
                have hu0 : (d.used == 0) = false := by simp; omega
                have hnd := newL_drop (drops_srt HT.out.srt out) hd1 hd3
                have hnb := newL_bd (T := T) (e := E) out HT.out.srt
                have hdz := szs_mem hdT
                have HVR := Aside0.mk (vict_round HT.out.srt HV.out HFF.out HPK.out)
                have HLD := Aside0.mk (len_drop (drops_srt HT.out.srt out) hd1)
                rw [← drops_snoc] at hnd
                have hlk := (HT.out.map.look_or d.e.key (by
                  obtain ⟨_, cs, _, x3⟩ := HCE.out d hdT
                  obtain ⟨_, _, _, s0, _⟩ := Cell.open_ x3.now
                  exact s0))
                obtain ⟨od, Ad, cd, hod, hbd, hlk⟩ := hlk
                rw [find_of HT.out.srt hdT] at hod
                obtain rfl : od = d := hod
                have hdk : od.e.key.size ≤ 140737488351232 := by
                  obtain ⟨_, _, _, s0, _⟩ := Cell.open_ hbd.now
                  exact s0
                have hdb : od.e.val.b.length ≤ 140737488351232 := by unfold csz at hdz; omega
                have Z3 := fun w' => Tags.size_calls od.e.key od.e.tag.seq od.e.tag.who od.e.tag.op od.e.val.has Ad cd od.e.val.b w' hdk hdb
                obtain ⟨n5, hn5⟩ : ∃ n, n = od.e.key.size + od.e.val.b.length := ⟨_, rfl⟩
                simp only [← hn5] at Z3
                have Z3 := Aside0.mk Z3
                have hcz : csz od.e = n5 := hn5.symm
                rw [hcz] at hnd hdz
                obtain ⟨hnd1, hnd2⟩ := hnd
                obtain ⟨hnb1, hnb2⟩ := hnb
                rw [← HN8.out.1] at hnd1 hnb1
                rw [← HN8.out.2] at hnd2 hnb2
                have hE1 : csz E = n1 := by rw [HE.out, HN.out.2.1]; rfl
                rw [hE1, ← HN.out.1] at hnb2
                rw [← HN.out.1] at hdz
                rw [← HN.out.2.2.2] at hnb1
                have b8 : 1 ≤ n8 ∧ n8 ≤ 1000001 := by omega
                have b9 : n5 ≤ n9 ∧ n9 ≤ 2000000000000 := by omega
                have HND := Aside0.mk (And.intro hnd1 hnd2)
                obtain ⟨b81, b82⟩ := b8
                obtain ⟨b91, b92⟩ := b9
                have HDK := Aside0.mk hdk
                have hq4 := pw_cell_below HWX.out p4
                have hol2 : out.length + 1 ≤ 1000001 := by have h1 := HG.out; have h2 := HN.out.2.2.2; omega
                have HLK := Aside0.mk hlk
                have HDT := Aside0.mk hdT
                clear hd1 hd2 hd3 hdT hu1 hnd1 hnd2 hnb1 hnb2 hdz hbd hlk hdk hdb hn5 hcz hE1
                have rf := fun w' => field_E od.e.key od.e.tag.seq od.e.tag.who od.e.tag.op od.e.val.has (.slice Ad od.e.val.b.length cd) od.whole od.clean od.used w'
                have s4 : IntKind.i64.wrap ((n8 : Int) - 1) = (n8 : Int) - 1 := IntWalk.i64_in _ (by omega)
                have s5 : IntKind.i64.wrap ((n9 : Int) - (n5 : Int)) = (n9 : Int) - (n5 : Int) := IntWalk.i64_in _ (by omega)
                go_wp2_with (first | (at_builtin; refine print_append (w0 := w4) w4.heap.size rfl _ _ 90 9 (.string ByteArray.empty) 16 rfl Try.underlying90 infoStr rfl (by omega) (.slice A' out.length c') (out.map Value.string) (.string od.e.key) rfl rfl rfl (by rw [List.length_map]; exact pw_own_below HOW.out HBX.out) (Below.then_ HB.out HBX.out (Nat.le_refl _)) (Nat.le_trans HB.out.size HBX.out.size) (by rw [List.length_map]; omega) ?_; intro v1 w7 hown hB7 hg7 _; have HOW7 := Aside0.mk hown; have HB7 := Aside0.mk hB7; have hW7 : Below w.heap.size w w7 := Below.then_ HW4.out.1 hB7 (Nat.le_refl _); have q47 := pw_cell_below hW7 p4; have rl7 := HLK.out false w7 (hW7.block mb hml); dsimp only [ccs] at rl7; clear hown hB7 hg7 hW7) | ((with_reducible refine (Z3.out _).mono ?_); rintro e w8 ⟨rfl, hb8⟩; have HB8 := Aside0.mk hb8; clear hb8))
                go_roundg (drops T (out ++ [od.e.key])).l.length
                case measure => have h1 := HLD.out; have h2 := HG.out; rw [drops_snoc]; omega
                case rel =>
                  refine ⟨out ++ [od.e.key], n8 - 1, n9 - n5, rfl, ?_, ?_, ⟨?_⟩, ⟨Below.then_ HB7.out HB8.out (Nat.le_refl _)⟩, ⟨?_⟩, HVR, ⟨rfl, ?_⟩, ⟨?_⟩⟩
                  · congr 1; omega
                  · congr 1; omega
                  · have h := HND.out; omega
                  · have h := pw_own_below HOW7.out HB8.out; simpa using h
                  · have h1 := HLD.out; have h2 := HG.out; rw [drops_snoc, List.length_append, List.length_singleton]; omega
                  · intro k hk
                    rcases List.mem_append.1 hk with hk | hk
                    · exact HK.out k hk
                    · rw [List.mem_singleton.1 hk]; exact HDK.out
            · intro key v L' w5 hp hr5 ho5 hs5 hen
              obtain ⟨c, l', hp1, hkv, hp2⟩ := map_perm_cons hp
              have hc : c ∈ T.l := HP.out.mem_iff.1 (List.mem_append_right _ (hp1.mem_iff.2 List.mem_cons_self))
              obtain ⟨x1, cs, x2, x3⟩ := HCE.out c hc
              obtain ⟨Ac, ccp, rfl, hbk⟩ := ccs_of x3
              have hgc : g c = (.string c.e.key, .agg (ccs c Ac ccp).toArray) := by rw [← x1, ← x2]
              have hkv2 := hkv.trans hgc
              simp only [Prod.mk.injEq] at hkv2
              obtain ⟨rfl, rfl⟩ := hkv2
              have hb5 : Below wo.heap.size wo w5 := (Only.of_below [wo.heap.size] HBX.out).trans ho5 |>.below (by simp) (Nat.le_refl _)
              have HR5 : Aside0 (Rng w5 9 mb wo.heap.size ((c :: Dc).map g) (l'.map g)) := ⟨hr5.perm (by rw [List.map_cons, hgc]) hp2⟩
              have HP5 : Aside0 (((c :: Dc) ++ l').Perm T.l) := ⟨(List.Perm.trans (by rw [List.cons_append]; exact List.perm_middle.symm) ((hp1.symm).append_left Dc)).trans HP.out⟩
              have HG5 : Aside0 (gk = l'.length + 1) := ⟨by rw [HGL.out, hp1.length_eq]; rfl⟩
              have HB5 := Aside0.mk hb5
              have HC5 := Aside0.mk (And.intro hc hbk)
              clear hp hr5 ho5 hs5 hp1 hkv hp2 hc x1 x2 x3 hbk hgc hb5 HR HP HGL HBX
              obtain ⟨⟨ck, ⟨t1, t2, t3⟩, ⟨vh, vb⟩⟩, cw, cc, cu⟩ := c
              dsimp only [ccs] at hen
              go_upto_region 12 with (fail)
              obtain ⟨W6, hW6⟩ : ∃ W6 : World, W6 = w5.alloc (.cells #[.string ck, .int .i64 t1, .int .i64 t2, .int .i64 t3, .bool vh, .slice Ac vb.length ccp, .bool cw, .bool cc, .int .i64 cu] 47) := ⟨_, rfl⟩
              rw [← hW6]
              have HB6 : Aside0 (Below wo.heap.size wo W6 ∧ Below w5.heap.size w5 W6) := ⟨by rw [hW6]; exact ⟨Below.then_ HB5.out (below_alloc (Below.refl _ _) _) (Nat.le_refl _), below_alloc (Below.refl _ _) _⟩⟩
              have hbx : Blk W6 w5.heap.size [.string ck, .int .i64 t1, .int .i64 t2, .int .i64 t3, .bool vh, .slice Ac vb.length ccp, .bool cw, .bool cc, .int .i64 cu] := by rw [hW6]; exact Blk.new _ _ _
              have y7 := hbx.cell 7 rfl
              have y8 := hbx.cell 8 rfl
              have ye : W6.cell? ⟨w.heap.size, 0, none⟩ = some (.string ek) := pw_cell_below HB6.out.1 (pw_cell_below HWR.out.2 HE0.out)
              have HCO := Aside0.mk (StrRow.contains_calls A' c' out ck W6 (Kd.C_below HSL.out.2 HB6.out.1))
              clear hW6 hbx hen
              obtain ⟨ol, hol⟩ : ∃ ol, ol = least (Dc.filter (okc ek out)) := ⟨_, rfl⟩
              have HOL := Aside0.mk hol
              have hAC := HAC.out
              rw [← hol] at hAC
              have HU1 : Aside0 (∀ d, ol = some d → 1 ≤ d.used) := ⟨fun d hd => HU.out d (HP5.out.mem_iff.1 (List.mem_append_left _ (List.mem_cons_of_mem _ (List.mem_filter.1 (least_mem (hol.symm.trans hd))).1)))⟩
              clear hol HAC
              go_cut [96] (fun s wx => ∃ B : Bool, s = .bool B ∧ Aside0 (B = updB ek out ⟨⟨ck, ⟨t1, t2, t3⟩, ⟨vh, vb⟩⟩, cw, cc, cu⟩ ol) ∧ W6 = wx)
              case first =>
                cases cc with
                | false =>
                  go_wp2
                  go_meet
                  exact ⟨false, rfl, ⟨by cases ol <;> rfl⟩, rfl⟩
                | true =>
                  by_cases hke : ck = ek
                  · subst hke
                    go_wp2
                    go_meet
                    exact ⟨false, rfl, ⟨by cases ol <;> simp [updB, okc, cand]⟩, rfl⟩
                  · have HKE := Aside0.mk hke
                    have hd : (ck.toList == ek.toList) = false := by simpa using StrRow.txt_ne hke
                    clear hke
                    cases ol with
                    | none =>
                      simp only [accOf, Prod.mk.injEq] at hAC
                      obtain ⟨rfl, rfl⟩ := hAC
                      go_wp2_with (first | ((with_reducible refine HCO.out.mono ?_); rintro e w7 ⟨rfl, rfl⟩))
                      go_meet
                      exact ⟨_, rfl, ⟨by simp [updB, okc, cand, HKE.out]⟩, rfl⟩
                    | some d =>
                      simp only [accOf, Prod.mk.injEq] at hAC
                      obtain ⟨rfl, rfl⟩ := hAC
                      have hu1 := HU1.out d rfl
                      have hu0 : (d.used == 0) = false := by simp; omega
                      clear hu1
                      by_cases hlt : cu < d.used
                      · have HLT := Aside0.mk hlt
                        have hl2 : decide (cu < d.used) = true := by simpa using hlt
                        clear hlt
                        go_wp2_with (first | ((with_reducible refine HCO.out.mono ?_); rintro e w7 ⟨rfl, rfl⟩))
                        go_meet
                        exact ⟨_, rfl, ⟨by simp [updB, okc, cand, HKE.out, HLT.out]⟩, rfl⟩
                      · have HLT := Aside0.mk hlt
                        have hl2 : decide (cu < d.used) = false := by simpa using hlt
                        clear hlt
                        go_wp2
                        go_meet
                        exact ⟨_, rfl, ⟨by simp [updB, okc, cand, HKE.out, HLT.out]⟩, rfl⟩
              case rest =>
                obtain ⟨B, rfl, HBB, rfl⟩ := hcut
                have HAU : Aside0 (least ((⟨⟨ck, ⟨t1, t2, t3⟩, ⟨vh, vb⟩⟩, cw, cc, cu⟩ :: Dc).filter (okc ek out)) = if B then some ⟨⟨ck, ⟨t1, t2, t3⟩, ⟨vh, vb⟩⟩, cw, cc, cu⟩ else ol) := ⟨by rw [acc_upd, ← HOL.out, ← HBB.out]⟩
                have HAC := Aside0.mk hAC
                clear hAC HBB
                cases B with
                | false =>
                  go_wp2
                  go_roundg l'.length
                  case measure => have := HG5.out; omega
                  case rel => exact ⟨_, l', k, u, rfl, rfl, ⟨by rw [HAU.out]; exact HAC.out⟩, ⟨HR5.out.below HB6.out.2⟩, HP5, ⟨rfl⟩, ⟨HB6.out.1⟩⟩
                | true =>
                  go_wp2
                  refine Tags.region_tail 4 (by kernel_rfl) (by kernel_rfl) ?_
                  simp only [List.take_succ_cons, List.take_zero, List.drop_succ_cons, List.drop_zero]
                  still_step
                  still_step
                  still_step
                  still_step
                  refine wpStill_nil ?_
                  go_wp2
                  go_roundg l'.length
                  case measure => have := HG5.out; omega
                  case rel => exact ⟨_, l', ck, cu, rfl, rfl, ⟨by rw [HAU.out]; rfl⟩, ⟨(HR5.out.below HB6.out.2).below (below_drew (Below.refl _ _))⟩, HP5, ⟨rfl⟩, ⟨below_drew HB6.out.1⟩⟩
end Tab
end Go.Proofs.Ytgfjkpnaabiecaa
set_option linter.unusedVariables false
set_option linter.unusedSimpArgs false
namespace Go.Proofs.Ytgfjkpnaabiecaa
open Go.RowKit Go.Proofs.YtgfjkpnaabiecaaW.PrintWords
namespace Tab
open StrRow (hasS hasS_iff hasS_no)
def TokOk (T : Tb) (n : Int) : Prop := ∀ x ∈ T.tok, 0 ≤ x ∧ x ≤ n
theorem tok_bump {tok : List Int} {n : Int} (h : ∀ x ∈ tok, 0 ≤ x ∧ x ≤ n) (hn : 0 ≤ n) (i : Nat) : ∀ x ∈ bump tok i, 0 ≤ x ∧ x ≤ n + 1 := by
  intro x hx
  unfold bump at hx
  rcases List.mem_or_eq_of_mem_set hx with hx | rfl
  · have := h x hx; omega
  · rw [List.getD_eq_getElem?_getD]
    cases e : tok[i]? with
    | none => simp; omega
    | some y => have := h y (List.mem_of_getElem? e); simp; omega
theorem bump_len (tok : List Int) (i : Nat) : (bump tok i).length = tok.length := by unfold bump; exact List.length_set
theorem tok_drops {T : Tb} {n : Int} (h : TokOk T n) (hn : 0 ≤ n) (out : List ByteArray) : TokOk (drops T out) (n + out.length) ∧ (drops T out).tok.length = T.tok.length := by
  induction out generalizing T n with
  | nil => exact ⟨fun x hx => by have := h x hx; simp; omega, rfl⟩
  | cons k r ih =>
    have h1 : TokOk (drop T k) (n + 1) := tok_bump h hn _
    obtain ⟨h2, h3⟩ := ih h1 (by omega)
    refine ⟨fun x hx => ?_, h3.trans (bump_len _ _)⟩
    have := h2 x hx
    simp only [List.length_cons]
    omega
theorem drops_uses (T : Tb) (out : List ByteArray) : (drops T out).uses = T.uses := by
  induction out generalizing T with
  | nil => rfl
  | cons k r ih => exact ih (drop T k)
theorem drops_szs (T : Tb) (out : List ByteArray) : szs (drops T out).l ≤ szs T.l := by rw [drops_l]; exact szs_filter _ _
theorem drops_len (T : Tb) (out : List ByteArray) : (drops T out).l.length ≤ T.l.length := by rw [drops_l]; exact List.length_filter_le _ _
theorem vict_len {T : Tb} (e : Entry) (hs : Srt T.l) : (vict T e).1.length ≤ T.l.length ∧ ∀ k ∈ (vict T e).1, ∃ c ∈ T.l, c.e.key = k := by
  generalize hn : T.l.length = n
  induction n using Nat.strongRecOn generalizing T with
  | _ n ih =>
    rw [vict_eq T e hs]
    split
    · exact ⟨Nat.zero_le _, by simp⟩
    · cases hp : pick T.l e.key with
      | none => exact ⟨Nat.zero_le _, by simp⟩
      | some c =>
        have hc := (pick_mem hp).1
        have hl := len_drop hs hc
        obtain ⟨h1, h2⟩ := ih (drop T c.e.key).l.length (by omega) (srt_drop _ hs) rfl
        dsimp only
        refine ⟨by simp only [List.length_cons]; omega, fun k hk => ?_⟩
        rcases List.mem_cons.1 hk with rfl | hk
        · exact ⟨c, hc, rfl⟩
        · obtain ⟨d, hd, hdk⟩ := h2 k hk
          exact ⟨d, (mem_del.1 hd).1, hdk⟩
def makeT (T : Tb) (e : Entry) : Tb := if (vict T e).2 then drops T (vict T e).1 else T
def makeE (T : Tb) (e : Entry) : Int := if (vict T e).2 then 0 else 30
/-- What keeps the numbers in their range. -/
structure Num (T : Tb) (n : Int) : Prop where
  pos : 0 ≤ n ∧ n ≤ 4000000000000000000
  bk : 1 ≤ T.room.buckets ∧ T.room.buckets ≤ 65536
  tl : T.room.buckets = T.tok.length
  tk : TokOk T n
  len : T.l.length ≤ 1000000
  sz : szs T.l ≤ 100000000000
  ky : ∀ c ∈ T.l, c.e.key.size ≤ 1000000 ∧ c.e.val.b.length ≤ 1000000
  us : 0 ≤ T.uses ∧ T.uses ≤ n
  u1 : ∀ c ∈ T.l, 1 ≤ c.used
  ow : Own1 T.l
theorem Num.drops {T : Tb} {n : Int} (h : Num T n) (out : List ByteArray) (m : Int) (hm : n + out.length ≤ m) (hm2 : m ≤ 4000000000000000000) : Num (drops T out) m := by
  obtain ⟨h1, h2⟩ := tok_drops h.tk h.pos.1 out
  have hu := drops_uses T out
  refine ⟨by have := h.pos; omega, by rw [drops_room]; exact h.bk, by rw [drops_room, h2]; exact h.tl, fun x hx => ?_, Nat.le_trans (drops_len T out) h.len, Nat.le_trans (drops_szs T out) h.sz, fun c hc => h.ky c (drops_mem hc), ?_, fun c hc => h.u1 c (drops_mem hc), ?_⟩
  · have := h1 x hx; omega
  · rw [hu]; have := h.us; omega
  · rw [drops_l]; exact own1_filter _ h.ow
set_option maxRecDepth 100000 in
set_option maxHeartbeats 1000000 in
theorem make_calls (p mb tb : Nat) (T : Tb) (e : Entry) (A : Option Addr) (cp : Nat) (n : Int) (w : World) (h : TbR w p mb tb T) (hN : Num T n) (hn : n ≤ 3000000000000000000) (hk : e.key.size ≤ 1000000) (hb : e.val.b.length ≤ 1000000) :
    Calls Try.prog 42 #[.pointer (some ⟨p, 0, none⟩), .agg #[.string e.key, .int .i64 e.tag.seq, .int .i64 e.tag.who, .int .i64 e.tag.op, .bool e.val.has, .slice A e.val.b.length cp]] w (TabTold w p mb tb (makeT T e) (.int .i64 (makeE T e))) := by
  have HV := Aside0.mk (fun w' (hb' : Below w.heap.size w w') => victims_calls p mb tb T e A cp w' (h.below hb') hk hb (by have := hN.sz; omega) hN.len hN.u1 hN.ow)
  have HN := Aside0.mk hN
  have HT := Aside0.mk h
  clear h hN
  obtain ⟨ek, ⟨a1, a2, a3⟩, ⟨eh, eb⟩⟩ := e
  dsimp only at *
  obtain ⟨E, hE⟩ : ∃ E : Entry, E = ⟨ek, ⟨a1, a2, a3⟩, ⟨eh, eb⟩⟩ := ⟨_, rfl⟩
  rw [← hE]
  rw [← hE] at HV
  clear hE
  have hl1 : (vict T E).1.length ≤ 1000000 := Nat.le_trans (vict_len E HT.out.srt).1 HN.out.len
  have HKY : Aside0 (∀ k ∈ (vict T E).1, k.size ≤ 1000000) := ⟨fun k hk => by obtain ⟨c, hc, rfl⟩ := (vict_len E HT.out.srt).2 k hk; exact (HN.out.ky c hc).1⟩
  obtain ⟨out, hout⟩ : ∃ out, out = (vict T E).1 := ⟨_, rfl⟩
  obtain ⟨okB, hok⟩ : ∃ b, b = (vict T E).2 := ⟨_, rfl⟩
  have HVO := Aside0.mk (And.intro hout hok)
  rw [← hout] at hl1 HKY
  clear hout hok
  go_enter Try.func42, Try.ntmps42
  go_wp2_with (first | ((refine (HV.out _ (below_alloc (Below.refl _ _) _)).mono ?_); rintro e w1 ⟨A1, c1, rfl, g1, g2, g3, g4⟩; rw [← HVO.out.1, ← HVO.out.2]; rw [← HVO.out.1] at g1 g2; have H1 := Aside0.mk (And.intro g1 (And.intro g2 (And.intro (Below.then_ (below_alloc (Below.refl _ w) _) g3 (Nat.le_refl _)) (fun ad e => Nat.le_trans (below_alloc (Below.refl w.heap.size w) _).size (g4 ad e))))); clear g1 g2 g3 g4))
  · have hb : okB = false := by
      have : (!okB) = true := by assumption
      simpa using this
    have h2 := HVO.out.2
    rw [hb] at h2
    go_ret
    refine ⟨by unfold makeE; rw [← h2]; rfl, by unfold makeT; rw [← h2]; exact HT.out.below H1.out.2.2.1, Only.of_below _ H1.out.2.2.1⟩
  · have hb : okB = true := by
      have : (!okB) = false := by assumption
      simpa using this
    have h2 := HVO.out.2
    rw [hb] at h2
    have H2 := Aside0.mk h2
    clear h2
    subst hb
    go_loopg [8, 19] out.length (fun gk _ v19 wr => ∃ k : Nat, v19 = .int .i64 (k : Int) ∧ k ≤ out.length ∧ Aside0 (gk + k = out.length) ∧ Aside0 (TbR wr p mb tb (drops T (out.take k))) ∧ Aside0 (Only [p, mb, tb] w wr) ∧ Aside0 (kStr.C wr A1 out.length out))
    case atStart => exact ⟨0, rfl, Nat.zero_le _, ⟨rfl⟩, ⟨HT.out.below H1.out.2.2.1⟩, ⟨Only.of_below _ H1.out.2.2.1⟩, ⟨H1.out.2.1⟩⟩
    case round =>
      obtain ⟨k, rfl, hkl, HGK, HR, HOW, HC⟩ := hrel
      by_cases hlt : k < out.length
      · obtain ⟨ad, x, rfl, HX, hcx, hxs⟩ := StrRow.str_at HC.out k hlt
        have HNk := Aside0.mk (HN.out.drops (out.take k) (n + 1000000) (by rw [List.length_take]; omega) (by omega))
        have hx1 : x.size ≤ 1000000 := HKY.out x (List.mem_of_getElem? HX.out)
        have HD := Aside0.mk (drop_calls p mb tb (drops T (out.take k)) x wr HR.out hx1 (by have := HNk.out.sz; omega) HNk.out.bk HNk.out.tl (fun y hy => by have := HNk.out.tk y hy; have := HNk.out.pos; omega))
        have HTK : Aside0 (out.take (k + 1) = out.take k ++ [x]) := ⟨by rw [List.take_add_one, HX.out]; rfl⟩
        go_wp2_with (first | ((with_reducible refine HD.out.mono ?_); rintro e w5 ⟨rfl, g1, g2⟩; have H5 := Aside0.mk (And.intro g1 g2); clear g1 g2))
        go_roundg (out.length - (k + 1))
        case measure => have := HGK.out; omega
        case rel =>
          refine ⟨k + 1, by go_num, by omega, ⟨by omega⟩, ⟨by rw [HTK.out, drops_snoc]; exact H5.out.1⟩, ⟨HOW.out.trans H5.out.2⟩, ⟨StrRow.C_only HC.out H5.out.2 (fun a e => ?_)⟩⟩
          have h1 := H1.out.2.2.2 a e
          have h2 := HT.out.lt
          simp
          omega
      · obtain rfl : k = out.length := by omega
        go_wp2
        go_ret
        have hR := HR.out
        rw [List.take_length] at hR
        refine ⟨by unfold makeE; rw [← H2.out]; rfl, by unfold makeT; rw [← H2.out, ← HVO.out.1]; exact hR, HOW.out⟩
end Tab
end Go.Proofs.Ytgfjkpnaabiecaa
set_option linter.unusedVariables false
set_option linter.unusedSimpArgs false
namespace Go.Proofs.Ytgfjkpnaabiecaa
open Go.RowKit Go.Proofs.YtgfjkpnaabiecaaW.PrintWords
namespace Tab
open Tags
def tokAt (T : Tb) (k : ByteArray) : Int := T.tok.getD (Hash.bkt k T.room.buckets).toNat 0
/-- Store, past its arguments. -/
def storeOld (T : Tb) (e : Entry) : Option Cell := (find T.l e.key).bind fun c => if 0 ≤ cmpT c.e.tag e.tag then some c else none
def wholeT (T : Tb) (k : ByteArray) : Bool := match find T.l k with
  | some c => c.whole
  | none => tokAt T k == 0
def storeT (T : Tb) (e : Entry) : Tb :=
  if EntOk e ∧ e.tag.seq ≠ 0 then match storeOld T e with
    | some c => lay T c
    | none => if makeE T e = 0 then lay (makeT T e) ⟨e, wholeT T e.key, false, 0⟩ else T
  else T
def storeE (T : Tb) (e : Entry) : Int :=
  if EntOk e ∧ e.tag.seq ≠ 0 then match storeOld T e with
    | some _ => 0
    | none => makeE T e
  else 2
theorem makeE_cases (T : Tb) (e : Entry) : (makeE T e = 0 ∧ makeT T e = drops T (vict T e).1) ∨ (makeE T e = 30 ∧ makeT T e = T) := by
  unfold makeE makeT
  cases (vict T e).2 <;> simp
theorem Num.make {T : Tb} {n : Int} (e : Entry) (h : Num T n) (hs : Srt T.l) (hn : n ≤ 3000000000000000000) : Num (makeT T e) (n + 1000000) := by
  rcases makeE_cases T e with ⟨_, h2⟩ | ⟨_, h2⟩
  · rw [h2]
    have := (vict_len (T := T) e hs).1
    exact h.drops _ _ (by have := h.len; omega) (by omega)
  · rw [h2]
    exact h.drops [] _ (by simp only [List.length_nil]; omega) (by omega)
theorem bk_cell {w : World} {e : Entry} {A : Option Addr} {c : Nat} {x y : Bool} {u : Int} (h : BK Entry.k w e [.string e.key, .int .i64 e.tag.seq, .int .i64 e.tag.who, .int .i64 e.tag.op, .bool e.val.has, .slice A e.val.b.length c]) (hu : InR .i64 u := by exact InR.mk64 (by omega) (by omega)) :
    BK Cell.k w ⟨e, x, y, u⟩ [.string e.key, .int .i64 e.tag.seq, .int .i64 e.tag.who, .int .i64 e.tag.op, .bool e.val.has, .slice A e.val.b.length c, .bool x, .bool y, .int .i64 u] := by
  refine Foot.imp h (fun W' hK => ?_)
  obtain ⟨A5, c5, he, s0, r1, r2, r3, l5, g5⟩ := Entry.open_ hK
  simp only [List.cons.injEq, Value.slice.injEq, true_and, and_true] at he
  obtain ⟨rfl, rfl⟩ := he
  exact Cell.mk_ W' ⟨e, x, y, u⟩ s0 r1 r2 r3 l5 g5 hu
set_option maxRecDepth 100000 in
set_option maxHeartbeats 1000000 in
theorem store_calls (p mb tb : Nat) (T : Tb) (e : Entry) (A : Option Addr) (cp : Nat) (n : Int) (w : World) (h : TbR w p mb tb T) (hN : Num T n) (hn : n ≤ 2000000000000000000)
    (hF : Kd.FK Entry.k w (fun k => k ∉ [p, mb, tb]) e [.string e.key, .int .i64 e.tag.seq, .int .i64 e.tag.who, .int .i64 e.tag.op, .bool e.val.has, .slice A e.val.b.length cp]) (hbl : e.val.b.length ≤ 140737488351232) :
    Calls Try.prog 13 #[.pointer (some ⟨p, 0, none⟩), .agg #[.string e.key, .int .i64 e.tag.seq, .int .i64 e.tag.who, .int .i64 e.tag.op, .bool e.val.has, .slice A e.val.b.length cp]] w (TabTold w p mb tb (storeT T e) (.int .i64 (storeE T e))) := by
  have HT := Aside0.mk h
  have HN := Aside0.mk hN
  have HKE := Aside0.mk hF
  have hks : e.key.size ≤ 140737488351232 := by obtain ⟨_, _, _, hks, _⟩ := Entry.open_ (Kd.FK_now hF); exact hks
  have HR := Aside0.mk (fun w' => right_calls e.key e.tag.seq e.tag.who e.tag.op e.val.has A cp e.val.b w' hks hbl)
  obtain ⟨cap, hcap, hB⟩ := h.blk
  have hpl := h.lt.1
  have hml := h.lt.2.1
  obtain ⟨⟨p0, p1, p2, p3, p4, p5, p6, p7⟩, fx⟩ := hB.eight
  clear fx hB h hN hF
  by_cases hgood : EntOk e ∧ e.tag.seq ≠ 0
  · obtain ⟨ho, hs⟩ := hgood
    have hgd : EntOk e ∧ e.tag.seq ≠ 0 := ⟨ho, hs⟩
    have hr0 := rgt_ok ho
    have hkz : e.key.size ≤ 250 := ho.2.1
    have hbz : e.val.b.length ≤ 60000 := ho.2.2.1
    have hs0 : (e.tag.seq == 0) = false := by simpa using hs
    obtain ⟨E, hE⟩ : ∃ E : Entry, E = e := ⟨_, rfl⟩
    rw [← hE] at hgd
    have HGOOD := Aside0.mk hgd
    clear hgd
    obtain ⟨ek, ⟨a1, a2, a3⟩, ⟨eh, eb⟩⟩ := e
    dsimp only at *
    rw [hr0] at HR
    rw [← hE]
    rw [← hE] at HKE
    have HE := Aside0.mk hE
    clear hE ho hs hr0
    obtain ⟨o, Ao, co, hoe, hbo, hlk⟩ := HT.out.map.look_or ek (by omega)
    obtain ⟨hasB, hhas⟩ : ∃ b, b = (find T.l ek).isSome := ⟨_, rfl⟩
    have rl : ∀ w', Below w.heap.size w w' → (Instr.lookup 81 (.map (some mb)) (.string ek) true).run Try.prog w' = .ok (.tuple #[.agg #[.string o.e.key, .int .i64 o.e.tag.seq, .int .i64 o.e.tag.who, .int .i64 o.e.tag.op, .bool o.e.val.has, .slice Ao o.e.val.b.length co, .bool o.whole, .bool o.clean, .int .i64 o.used], .bool hasB]) w' := fun w' h => by
      have := hlk true w' (h.block mb hml)
      rw [← hhas] at this
      exact this
    have HO := Aside0.mk (And.intro hoe (And.intro hbo hhas))
    clear hlk hoe hbo hhas
    go_enter Try.func13, Try.ntmps13
    go_wp2_with (first | ((with_reducible refine (HR.out _).mono ?_); rintro e w1 ⟨rfl, hb1⟩; have HB1 := Aside0.mk hb1; have hz1 : w.heap.size < w1.heap.size := (by have := hb1.size; simp at this; omega); have hcc := (bcell hb1).1; clear hb1) | ((with_reducible refine (none_calls _ _ _ _).mono ?_); rintro e w2 ⟨rfl, hb2⟩; have HB2 := Aside0.mk hb2; clear hb2))
    have HW2 : Aside0 (Below w.heap.size w w2 ∧ Blk w2 w.heap.size [.string ek, .int .i64 a1, .int .i64 a2, .int .i64 a3, .bool eh, .slice A eb.length cp]) := ⟨Below.then_ (Below.then_ (below_alloc (Below.refl _ w) _) HB1.out (Nat.le_refl _)) HB2.out (Nat.le_refl _), ((Blk.new w _ _).on HB1.out).on HB2.out⟩
    clear hz1 hcc HB1 HB2
    have r4 : ∀ w', Below w2.heap.size w2 w' → w'.cell? ⟨p, 4, none⟩ = some (.map (some mb)) := fun w' h => pw_cell_below (Below.then_ HW2.out.1 h (Nat.le_refl _)) p4
    have re0 : ∀ w', Below w2.heap.size w2 w' → w'.cell? ⟨w.heap.size, 0, none⟩ = some (.string ek) := fun w' h => pw_cell_below h (HW2.out.2.cell 0 rfl)
    have rl1 := fun w' (h : Below w2.heap.size w2 w') => rl w' (Below.then_ HW2.out.1 h (Nat.le_refl _))
    clear rl
    refine wp_region_noPanic ?_
    refine wp_region_held_drew (S := Below w2.heap.size w2) (by kernel_rfl) (below_drew (Below.refl _ _)) (fun hHeld => ?_)
    (refine takeH 0 21 (v := ?_) rfl rfl (by kernel_rfl) (by kernel_rfl) (by kernel_rfl) (fun _ _ _ h => h) hHeld rfl ?_ ?_; rotate_left; (focus (intro w' hSw; go_simp; try with_reducible rfl)))
    (try simp only [Act.put, List.setIfInBounds_toArray, List.set_cons_zero, List.set_cons_succ])
    (refine takeH 1 22 (v := ?_) rfl rfl (by kernel_rfl) (by kernel_rfl) (by kernel_rfl) (fun _ _ _ h => h) hHeld rfl ?_ ?_; rotate_left; (focus (intro w' hSw; go_simp; try with_reducible rfl)))
    (try simp only [Act.put, List.setIfInBounds_toArray, List.set_cons_zero, List.set_cons_succ])
    (refine takeH 2 23 (v := ?_) rfl rfl (by kernel_rfl) (by kernel_rfl) (by kernel_rfl) (fun _ _ _ h => h) hHeld rfl ?_ ?_; rotate_left; (focus (intro w' hSw; go_simp; try with_reducible rfl)))
    (try simp only [Act.put, List.setIfInBounds_toArray, List.set_cons_zero, List.set_cons_succ])
    (refine takeH 3 24 (v := ?_) rfl rfl (by kernel_rfl) (by kernel_rfl) (by kernel_rfl) (fun _ _ _ h => h) hHeld rfl ?_ ?_; rotate_left; (focus (intro w' hSw; go_simp; try with_reducible rfl)))
    (try simp only [Act.put, List.setIfInBounds_toArray, List.set_cons_zero, List.set_cons_succ])
    (refine takeH 4 25 (v := ?_) rfl rfl (by kernel_rfl) (by kernel_rfl) (by kernel_rfl) (fun _ _ _ h => h) hHeld rfl ?_ ?_; rotate_left; (focus (intro w' hSw; go_simp; try with_reducible rfl)))
    (try simp only [Act.put, List.setIfInBounds_toArray, List.set_cons_zero, List.set_cons_succ])
    (refine takeH 5 26 (v := ?_) rfl rfl (by kernel_rfl) (by kernel_rfl) (by kernel_rfl) (fun _ _ _ h => h) hHeld rfl ?_ ?_; rotate_left; (focus (intro w' hSw; go_simp; try with_reducible rfl)))
    (try simp only [Act.put, List.setIfInBounds_toArray, List.set_cons_zero, List.set_cons_succ])
    (refine takeH 6 27 (v := ?_) rfl rfl (by kernel_rfl) (by kernel_rfl) (by kernel_rfl) (fun _ _ _ h => h) hHeld rfl ?_ ?_; rotate_left; (focus (intro w' hSw; go_simp; try with_reducible rfl)))
    (try simp only [Act.put, List.setIfInBounds_toArray, List.set_cons_zero, List.set_cons_succ])
    (refine takeH 7 20 (v := ?_) rfl rfl (by kernel_rfl) (by kernel_rfl) (by kernel_rfl) (fun _ _ _ h => h) hHeld rfl ?_ ?_; rotate_left; (focus (intro w' hSw; go_simp; try with_reducible rfl)))
    (try simp only [Act.put, List.setIfInBounds_toArray, List.set_cons_zero, List.set_cons_succ])
    (refine takeH 8 28 (v := ?_) rfl rfl (by kernel_rfl) (by kernel_rfl) (by kernel_rfl) (fun _ _ _ h => h) hHeld rfl ?_ ?_; rotate_left; (focus (intro w' hSw; go_simp; try with_reducible rfl)))
    (try simp only [Act.put, List.setIfInBounds_toArray, List.set_cons_zero, List.set_cons_succ])
    (refine takeH 9 29 (v := ?_) rfl rfl (by kernel_rfl) (by kernel_rfl) (by kernel_rfl) (fun _ _ _ h => h) hHeld rfl ?_ ?_; rotate_left; (focus (intro w' hSw; go_simp; try with_reducible rfl)))
    (try simp only [Act.put, List.setIfInBounds_toArray, List.set_cons_zero, List.set_cons_succ])
    refine wpAnyH_ready (rs := [10]) (by kernel_rfl) (by simp) ?_
    refine AllReadyH.cons rfl (fun K hK => ?_) AllReadyH.nil
    go_simp
    refine hK.out _ _ (below_alloc (by assumption) _) (fun hHeld => ?_)
    clear hK K
    (try simp only [Act.put, List.setIfInBounds_toArray, List.set_cons_zero, List.set_cons_succ])
    refine wpAnyH_ready (rs := [11]) (by kernel_rfl) (by simp) ?_
    refine AllReadyH.cons rfl (fun K hK => ?_) AllReadyH.nil
    go_simp
    refine hK.out _ _ (below_drew (below_alloc (Below.refl _ _) _)) (fun hHeld => ?_)
    clear hK K
    (try simp only [Act.put, List.setIfInBounds_toArray, List.set_cons_zero, List.set_cons_succ])
    (refine takeH 12 6 (v := ?_) rfl rfl (by kernel_rfl) (by kernel_rfl) (by kernel_rfl) (fun _ _ _ h => h) hHeld rfl ?_ ?_; rotate_left; (focus (intro w' hSw; go_simp; try with_reducible rfl)))
    (try simp only [Act.put, List.setIfInBounds_toArray, List.set_cons_zero, List.set_cons_succ])
    refine wpAnyH_done (by kernel_rfl) ?_ _
    refine NoPanic.normal ?_
    obtain ⟨W3, hW3⟩ : ∃ W3 : World, W3 = (w2.alloc (.cells #[.string o.e.key, .int .i64 o.e.tag.seq, .int .i64 o.e.tag.who, .int .i64 o.e.tag.op, .bool o.e.val.has, .slice Ao o.e.val.b.length co, .bool o.whole, .bool o.clean, .int .i64 o.used] 47)).drew := ⟨_, rfl⟩
    have HX3 : Aside0 (Blk W3 w2.heap.size [.string o.e.key, .int .i64 o.e.tag.seq, .int .i64 o.e.tag.who, .int .i64 o.e.tag.op, .bool o.e.val.has, .slice Ao o.e.val.b.length co, .bool o.whole, .bool o.clean, .int .i64 o.used] ∧ Below w2.heap.size w2 W3) := ⟨by rw [hW3]; exact ⟨(Blk.new w2 _ _).drew, below_drew (below_alloc (Below.refl _ _) _)⟩⟩
    go_upto_region 6 with (fail)
    rw [← hW3]
    clear hW3
    clear r4 re0 rl1 p0 p1 p2 p3 p4 p5 p6 p7
    have HB3 : Aside0 (Below w.heap.size w W3) := ⟨Below.then_ HW2.out.1 HX3.out.2 (Nat.le_refl _)⟩
    have HE3 := HW2.out.2.on HX3.out.2
    obtain ⟨⟨e0, e1, e2, e3, e4, e5⟩, fe⟩ := HE3.six
    obtain ⟨⟨x0, x1, x2, x3, x4, x5, x6, x7, x8⟩, fx⟩ := HX3.out.1.nine
    clear fe fx HE3
    have hc0 := fun w' => compareT_calls o.e.tag ⟨a1, a2, a3⟩ w'
    dsimp only at hc0
    have HC := Aside0.mk hc0
    clear hc0
    have HNE : Aside0 (w.heap.size ∉ [p, mb, tb] ∧ w2.heap.size ∉ [p, mb, tb]) := ⟨by
      have h1 := HT.out.lt
      have h2 := HW2.out.1.size
      simp
      omega⟩
    have hnn := HN.out.us
    have hnp := HN.out.pos
    have hm0 := fun w' (hb' : Below w.heap.size w w') => make_calls p mb tb T ⟨ek, ⟨a1, a2, a3⟩, ⟨eh, eb⟩⟩ A cp n w' (HT.out.below hb') HN.out (by omega) (by dsimp only; omega) (by dsimp only; omega)
    dsimp only at hm0
    rw [← HE.out] at hm0
    have HM := Aside0.mk hm0
    clear hm0
    cases hasB with
    | true =>
      have HFD : Aside0 (find T.l E.key = some o) := ⟨by
        rw [HE.out]
        have h1 := HO.out.1
        cases hf : find T.l ek with
        | none => have h2 := HO.out.2.2; rw [hf] at h2; cases h2
        | some c => rw [hf] at h1; rw [h1]; rfl⟩
      by_cases hcm : 0 ≤ cmpT o.e.tag ⟨a1, a2, a3⟩
      · have hcb : decide (0 ≤ cmpT o.e.tag ⟨a1, a2, a3⟩) = true := by simpa using hcm
        have HS : Aside0 (storeT T E = lay T o ∧ storeE T E = 0) := ⟨by
          have : storeOld T E = some o := by unfold storeOld; rw [HFD.out]; show (if 0 ≤ cmpT o.e.tag E.tag then some o else none) = some o; rw [HE.out, if_pos hcm]
          unfold storeT storeE
          rw [if_pos HGOOD.out, if_pos HGOOD.out, this]
          exact ⟨rfl, rfl⟩⟩
        have hoT := (find_mem HFD.out).1
        have hky := HN.out.ky o hoT
        have HLY := Aside0.mk (fun w' (hb' : Below w.heap.size w w') => lay_calls p mb tb T o Ao co w' (HT.out.below hb') (HO.out.2.1.below hb') (by omega) (by have := HN.out.sz; omega) hky.1 hky.2)
        clear hoT hky hcm
        go_wp2_with (first | ((with_reducible refine (HC.out _).mono ?_); rintro e w4 ⟨rfl, hb4⟩; have HB4 := Aside0.mk hb4; obtain ⟨⟨x0, x1, x2, x3, x4, x5, x6, x7, x8⟩, fx⟩ := (HX3.out.1.on hb4).nine; clear hb4 fx) | ((with_reducible refine (HLY.out _ (Below.then_ HB3.out HB4.out (Nat.le_refl _))).mono ?_); rintro e w5 ⟨rfl, h5, o5⟩; have H5 := Aside0.mk (And.intro h5 o5); clear h5 o5))
        go_ret
        exact ⟨by rw [HS.out.2]; rfl, by rw [HS.out.1]; exact H5.out.1, (Only.of_below _ (Below.then_ HB3.out HB4.out (Nat.le_refl _))).trans H5.out.2⟩
      · have hcb : decide (0 ≤ cmpT o.e.tag ⟨a1, a2, a3⟩) = false := by simpa using hcm
        have HSO : Aside0 (storeOld T E = none) := ⟨by unfold storeOld; rw [HFD.out]; show (if 0 ≤ cmpT o.e.tag E.tag then some o else none) = none; rw [HE.out, if_neg hcm]⟩
        have HWH : Aside0 (wholeT T E.key = o.whole) := ⟨by unfold wholeT; rw [HFD.out]⟩
        clear hcm
        have hmk := makeE_cases T E
        go_wp2_with (first | ((with_reducible refine (HC.out _).mono ?_); rintro e w4 ⟨rfl, hb4⟩; have HB4 := Aside0.mk hb4; obtain ⟨⟨x0, x1, x2, x3, x4, x5, x6, x7, x8⟩, fx⟩ := (HX3.out.1.on hb4).nine; obtain ⟨⟨e0, e1, e2, e3, e4, e5⟩, fe⟩ := ((HW2.out.2.on HX3.out.2).on hb4).six; clear hb4 fx fe) | ((with_reducible refine (HM.out _ (Below.then_ HB3.out HB4.out (Nat.le_refl _))).mono ?_); rintro e w5 ⟨rfl, h5, o5⟩; have H5 := Aside0.mk (And.intro h5 o5); have HE5 := Aside0.mk (((HW2.out.2.on HX3.out.2).on HB4.out).only o5 HNE.out.1); have HX5 := Aside0.mk (((HX3.out.1.on HB4.out).only o5 HNE.out.2).cell 6 rfl); clear h5 o5))
        · have hz : ¬ makeE T E = 0 := by
            have : (makeE T E != 0) = true := by assumption
            simpa using this
          have hme : makeE T E = 30 ∧ makeT T E = T := by
            rcases hmk with h | h
            · exact absurd h.1 hz
            · exact h
          go_ret
          have h1 : storeE T E = 30 ∧ storeT T E = T := by
            unfold storeT storeE
            rw [if_pos HGOOD.out, if_pos HGOOD.out, HSO.out]
            dsimp only
            rw [if_neg hz]
            exact ⟨hme.1, rfl⟩
          have h2 := H5.out.1
          rw [hme.2] at h2
          exact ⟨by rw [h1.1, hme.1]; rfl, by rw [h1.2]; exact h2, (Only.of_below _ (Below.then_ HB3.out HB4.out (Nat.le_refl _))).trans H5.out.2⟩
        · have hz : makeE T E = 0 := by
            have : (makeE T E != 0) = false := by assumption
            simpa using this
          have HZ := Aside0.mk hz
          have hNM := HN.out.make E HT.out.srt (by omega)
          have HNM := Aside0.mk hNM
          clear hz hmk hNM
          clear e0 e1 e2 e3 e4 e5 x0 x1 x2 x3 x4 x5 x6 x7 x8
          obtain ⟨⟨e0, e1, e2, e3, e4, e5⟩, fe⟩ := HE5.out.six
          have x6 := HX5.out
          clear fe
          have re0 : ∀ w', Only [p, mb, tb] w5 w' → w'.cell? ⟨w.heap.size, 0, none⟩ = some (.string ek) := fun w' h => (h.cell (p := ⟨w.heap.size, 0, none⟩) HE5.out.lt HNE.out.1).trans e0
          have re1 : ∀ w', Only [p, mb, tb] w5 w' → w'.cell? ⟨w.heap.size, 1, none⟩ = some (.int .i64 a1) := fun w' h => (h.cell (p := ⟨w.heap.size, 1, none⟩) HE5.out.lt HNE.out.1).trans e1
          have re2 : ∀ w', Only [p, mb, tb] w5 w' → w'.cell? ⟨w.heap.size, 2, none⟩ = some (.int .i64 a2) := fun w' h => (h.cell (p := ⟨w.heap.size, 2, none⟩) HE5.out.lt HNE.out.1).trans e2
          have re3 : ∀ w', Only [p, mb, tb] w5 w' → w'.cell? ⟨w.heap.size, 3, none⟩ = some (.int .i64 a3) := fun w' h => (h.cell (p := ⟨w.heap.size, 3, none⟩) HE5.out.lt HNE.out.1).trans e3
          have re4 : ∀ w', Only [p, mb, tb] w5 w' → w'.cell? ⟨w.heap.size, 4, none⟩ = some (.bool eh) := fun w' h => (h.cell (p := ⟨w.heap.size, 4, none⟩) HE5.out.lt HNE.out.1).trans e4
          have re5 : ∀ w', Only [p, mb, tb] w5 w' → w'.cell? ⟨w.heap.size, 5, none⟩ = some (.slice A eb.length cp) := fun w' h => (h.cell (p := ⟨w.heap.size, 5, none⟩) HE5.out.lt HNE.out.1).trans e5
          have rx6 : ∀ w', Only [p, mb, tb] w5 w' → w'.cell? ⟨w2.heap.size, 6, none⟩ = some (.bool o.whole) := fun w' h => (h.cell (p := ⟨w2.heap.size, 6, none⟩) (World.block_lt_of_cell? _ _ x6) HNE.out.2).trans x6
          clear e0 e1 e2 e3 e4 e5 x6
          have hFK5 : Kd.FK Entry.k w5.drew (fun k => k ∉ [p, mb, tb]) E [.string ek, .int .i64 a1, .int .i64 a2, .int .i64 a3, .bool eh, .slice A eb.length cp] := Kd.FK_below (FK_only (FK_only HKE.out (Only.of_below [p, mb, tb] (Below.then_ HB3.out HB4.out (Nat.le_refl _))) (fun i hi => hi)) H5.out.2 (fun i hi => hi)) (below_drew (Below.refl _ w5))
          have hcp0 := copy_calls E A cp w5.drew (by rw [HE.out]; have := Kd.FK_now hFK5; rw [HE.out] at this; exact this) (by rw [HE.out]; dsimp only; omega)
          rw [HE.out] at hcp0
          dsimp only at hcp0
          rw [← HE.out] at hcp0
          have HCP := Aside0.mk hcp0
          clear hcp0 hFK5
          refine wp_region_noPanic ?_
          refine wp_region_held_drew (S := Only [p, mb, tb] w5) (by kernel_rfl) ((Only.refl [p, mb, tb] w5).drew) (fun hHeld => ?_)
          (refine takeH 0 63 (v := ?_) rfl rfl (by kernel_rfl) (by kernel_rfl) (by kernel_rfl) (fun _ _ _ h => h) hHeld rfl ?_ ?_; rotate_left; (focus (intro w' hSw; go_simp; try with_reducible rfl)))
          (try simp only [Act.put, List.setIfInBounds_toArray, List.set_cons_zero, List.set_cons_succ])
          (refine takeH 1 64 (v := ?_) rfl rfl (by kernel_rfl) (by kernel_rfl) (by kernel_rfl) (fun _ _ _ h => h) hHeld rfl ?_ ?_; rotate_left; (focus (intro w' hSw; go_simp; try with_reducible rfl)))
          (try simp only [Act.put, List.setIfInBounds_toArray, List.set_cons_zero, List.set_cons_succ])
          (refine takeH 3 66 (v := ?_) rfl rfl (by kernel_rfl) (by kernel_rfl) (by kernel_rfl) (fun _ _ _ h => h) hHeld rfl ?_ ?_; rotate_left; (focus (intro w' hSw; go_simp; try with_reducible rfl)))
          (try simp only [Act.put, List.setIfInBounds_toArray, List.set_cons_zero, List.set_cons_succ])
          (refine takeH 4 67 (v := ?_) rfl rfl (by kernel_rfl) (by kernel_rfl) (by kernel_rfl) (fun _ _ _ h => h) hHeld rfl ?_ ?_; rotate_left; (focus (intro w' hSw; go_simp; try with_reducible rfl)))
          (try simp only [Act.put, List.setIfInBounds_toArray, List.set_cons_zero, List.set_cons_succ])
          refine wpAnyH_ready (rs := [2]) (by kernel_rfl) (by simp) ?_
          refine AllReadyH.cons rfl (fun K hK => ?_) AllReadyH.nil
          go_simp
          refine HCP.out.mono ?_
          rintro e w6 ⟨cs, rfl, hbk, hfk, hb6⟩
          obtain ⟨A', c', he, _⟩ := Entry.open_ hbk.now
          have hcs : cs = #[.string ek, .int .i64 a1, .int .i64 a2, .int .i64 a3, .bool eh, .slice A' eb.length c'] := by
            have : cs = cs.toList.toArray := by simp
            rw [this, he, HE.out]
          rw [hcs] at hbk
          subst hcs
          have H6 := Aside0.mk (And.intro hbk hb6)
          clear he hfk hbk
          refine hK.out _ _ ((Only.refl [p, mb, tb] w5).drew.on hb6) (fun hHeld => ?_)
          clear hK K hb6
          (try simp only [Act.put, List.setIfInBounds_toArray, List.set_cons_zero, List.set_cons_succ])
          (refine takeH 5 68 (v := ?_) rfl rfl (by kernel_rfl) (by kernel_rfl) (by kernel_rfl) (fun _ _ _ h => h) hHeld rfl ?_ ?_; rotate_left; (focus (intro w' hSw; go_simp; try with_reducible rfl)))
          (try simp only [Act.put, List.setIfInBounds_toArray, List.set_cons_zero, List.set_cons_succ])
          refine wpAnyH_ready (rs := [6]) (by kernel_rfl) (by simp) ?_
          refine AllReadyH.cons rfl (fun K hK => ?_) AllReadyH.nil
          go_simp
          have hbc : BK Cell.k w6 ⟨⟨ek, ⟨a1, a2, a3⟩, ⟨eh, eb⟩⟩, o.whole, false, 0⟩ [.string ek, .int .i64 a1, .int .i64 a2, .int .i64 a3, .bool eh, .slice A' eb.length c', .bool o.whole, .bool false, .int .i64 0] := bk_cell (by have := H6.out.1; rw [HE.out] at this; exact this)
          have hl := lay_calls p mb tb (makeT T E) ⟨⟨ek, ⟨a1, a2, a3⟩, ⟨eh, eb⟩⟩, o.whole, false, 0⟩ A' c' w6 ((H5.out.1.below (below_drew (Below.refl _ w5))).below H6.out.2) hbc (by have := HNM.out.us; omega) (by have := HNM.out.sz; omega) (by dsimp only; omega) (by dsimp only; omega)
          dsimp only at hl
          refine hl.mono ?_
          rintro e w7 ⟨rfl, h7, o7⟩
          refine hK.out _ _ (((Only.refl [p, mb, tb] w5).drew.on H6.out.2).trans o7) (fun hHeld => ?_)
          have H7 := Aside0.mk (And.intro h7 o7)
          clear hK K hbc hl h7 o7
          (try simp only [Act.put, List.setIfInBounds_toArray, List.set_cons_zero, List.set_cons_succ])
          refine wpAnyH_done (by kernel_rfl) ?_ _
          refine NoPanic.normal ?_
          go_wp2
          go_ret
          have h1 : storeE T E = 0 ∧ storeT T E = lay (makeT T E) ⟨E, o.whole, false, 0⟩ := by
            unfold storeT storeE
            rw [if_pos HGOOD.out, if_pos HGOOD.out, HSO.out]
            dsimp only
            rw [if_pos HZ.out, HWH.out]
            exact ⟨HZ.out, rfl⟩
          refine ⟨by rw [h1.1]; rfl, by rw [h1.2, HE.out]; rw [HE.out] at H7; exact H7.out.1, (((Only.of_below _ (Below.then_ HB3.out HB4.out (Nat.le_refl _))).trans H5.out.2).trans ((Only.refl [p, mb, tb] w5).drew.on H6.out.2)).trans H7.out.2⟩
    | false =>
      have HFN : Aside0 (find T.l E.key = none) := ⟨by
        rw [HE.out]
        cases hf : find T.l ek with
        | none => rfl
        | some c => have h2 := HO.out.2.2; rw [hf] at h2; cases h2⟩
      have HSO : Aside0 (storeOld T E = none) := ⟨by unfold storeOld; rw [HFN.out]; rfl⟩
      obtain ⟨b0, b1⟩ := Hash.bkt_bd ek HN.out.bk.1
      obtain ⟨i, hi⟩ : ∃ i : Nat, Hash.bkt ek T.room.buckets = (i : Int) := ⟨_, (Int.toNat_of_nonneg b0).symm⟩
      rw [hi] at b1
      have HI := Aside0.mk hi
      clear hi b0
      have hil : i < T.tok.length := by have := HN.out.tl; omega
      obtain ⟨x, hx⟩ : ∃ x, x = T.tok[i] := ⟨_, rfl⟩
      have hxi : T.tok[i]? = some x := by rw [List.getElem?_eq_getElem hil, hx]
      have HWH : Aside0 (wholeT T E.key = (x == 0)) := ⟨by
        have : tokAt T ek = x := by unfold tokAt; rw [HI.out, Int.toNat_natCast, List.getD_eq_getElem?_getD, hxi]; rfl
        unfold wholeT; rw [HFN.out]; rw [HE.out]; dsimp only; rw [this]⟩
      obtain ⟨cap, hcap, hB⟩ := HT.out.blk
      have p2 := pw_cell_below HB3.out (hB.cell 2 rfl)
      have p5 := pw_cell_below HB3.out (hB.cell 5 rfl)
      have hcx : W3.cell? ⟨tb, i, none⟩ = some (.int .i64 x) := pw_cell_below HB3.out (HT.out.tok.cell i (by rw [List.getElem?_map, hxi]; rfl))
      have hkk : ek.size ≤ 140737488351232 := by omega
      have Z3 : Aside0 (∀ w', Below W3.heap.size W3 w' → Calls Try.prog 41 #[.pointer (some ⟨p, 0, none⟩), .string ek] w' fun e w'' => e = .returned (.int .i64 (i : Int)) ∧ Below w'.heap.size w' w'') := ⟨fun w' hb => by
        have := bucketT_calls p ek T.room.buckets w' (pw_cell_below hb p2) hkk HN.out.bk.1 HN.out.bk.2
        rw [HI.out] at this
        exact this⟩
      have r5 : ∀ w', Below W3.heap.size W3 w' → w'.cell? ⟨p, 5, none⟩ = some (.slice (some ⟨tb, 0, none⟩) T.tok.length cap) := fun w' h => pw_cell_below h p5
      have rx : ∀ w', Below W3.heap.size W3 w' → w'.cell? ⟨tb, i, none⟩ = some (.int .i64 x) := fun w' h => pw_cell_below h hcx
      have re0 : ∀ w', Below W3.heap.size W3 w' → w'.cell? ⟨w.heap.size, 0, none⟩ = some (.string ek) := fun w' h => pw_cell_below h e0
      have i0 : (0 : Int) ≤ (i : Int) := by omega
      have i1 : (i : Int) < (T.tok.length : Int) := by omega
      clear hx hxi b1 hB hcx p2 p5
      go_wp2
      refine region_calm 11 (Below W3.heap.size W3) (by kernel_rfl) (by kernel_rfl) (below_drew (Below.refl _ _)) ?_
      simp only [List.take_succ_cons, List.take_zero, List.drop_succ_cons, List.drop_zero]
      (refine wpCalm_val (v := ?_) rfl ?_ ?_; rotate_left; (focus (intro w' hSw; go_simp; try with_reducible rfl)))
      (try simp only [Act.put, List.setIfInBounds_toArray, List.set_cons_zero, List.set_cons_succ])
      (refine wpCalm_val (v := ?_) rfl ?_ ?_; rotate_left; (focus (intro w' hSw; go_simp; try with_reducible rfl)))
      (try simp only [Act.put, List.setIfInBounds_toArray, List.set_cons_zero, List.set_cons_succ])
      (refine wpCalm_val (v := ?_) rfl ?_ ?_; rotate_left; (focus (intro w' hSw; go_simp; try with_reducible rfl)))
      (try simp only [Act.put, List.setIfInBounds_toArray, List.set_cons_zero, List.set_cons_succ])
      (refine wpCalm_val (v := ?_) rfl ?_ ?_; rotate_left; (focus (intro w' hSw; go_simp; try with_reducible rfl)))
      (try simp only [Act.put, List.setIfInBounds_toArray, List.set_cons_zero, List.set_cons_succ])
      (refine wpCalm_val (v := ?_) rfl ?_ ?_; rotate_left; (focus (intro w' hSw; go_simp; try with_reducible rfl)))
      (try simp only [Act.put, List.setIfInBounds_toArray, List.set_cons_zero, List.set_cons_succ])
      (refine wpCalm_val (v := ?_) rfl ?_ ?_; rotate_left; (focus (intro w' hSw; go_simp; try with_reducible rfl)))
      (try simp only [Act.put, List.setIfInBounds_toArray, List.set_cons_zero, List.set_cons_succ])
      (refine wpCalm_val (v := ?_) rfl ?_ ?_; rotate_left; (focus (intro w' hSw; go_simp; try with_reducible rfl)))
      (try simp only [Act.put, List.setIfInBounds_toArray, List.set_cons_zero, List.set_cons_succ])
      (refine wpCalm_call (v := .int .i64 (i : Int)) (f := ?_) (args := ?_) rfl ?_ ?_ ?_; rotate_left 2; (focus (intro w' hSw; go_simp; constructor <;> with_reducible rfl)); (focus (intro w' hSw; exact (Z3.out w' hSw).mono fun e w1 ⟨h1, h2⟩ => ⟨h1, Below.then_ hSw h2 (Nat.le_refl _)⟩)))
      (try simp only [Act.put, List.setIfInBounds_toArray, List.set_cons_zero, List.set_cons_succ])
      (refine wpCalm_val (v := ?_) rfl ?_ ?_; rotate_left; (focus (intro w' hSw; go_simp; try with_reducible rfl)))
      (try simp only [Act.put, List.setIfInBounds_toArray, List.set_cons_zero, List.set_cons_succ])
      (refine wpCalm_val (v := ?_) rfl ?_ ?_; rotate_left; (focus (intro w' hSw; go_simp; try with_reducible rfl)))
      (try simp only [Act.put, List.setIfInBounds_toArray, List.set_cons_zero, List.set_cons_succ])
      (refine wpCalm_val (v := ?_) rfl ?_ ?_; rotate_left; (focus (intro w' hSw; go_simp; try with_reducible rfl)))
      (try simp only [Act.put, List.setIfInBounds_toArray, List.set_cons_zero, List.set_cons_succ])
      refine wpCalm_nil ?_
      intro w4 hS4
      have hx4 := HX3.out.1.on hS4
      have HX4 := Aside0.mk hx4
      have x6' := hx4.cell 6 rfl
      have f6' := hx4.frozen 6 rfl
      have HS4 := Aside0.mk hS4
      clear hS4 hx4 r5 rx re0 e0 e1 e2 e3 e4 e5 x0 x1 x2 x3 x4 x5 x6 x7 x8
      go_upto_region 11 with (fail)
      obtain ⟨W4, hW4⟩ : ∃ W4 : World, W4 = w4.setCell ⟨w2.heap.size, 6, none⟩ (.bool (x == 0)) := ⟨_, rfl⟩
      rw [← hW4]
      have HBW : Aside0 (Below w.heap.size w W4) := ⟨by rw [hW4]; exact (Below.then_ HB3.out HS4.out (Nat.le_refl _)).setCell (p := ⟨w2.heap.size, 6, none⟩) HW2.out.1.size _⟩
      have hne2 : w.heap.size ≠ w2.heap.size := by have := HW2.out.2.lt; omega
      have he4 : Blk W4 w.heap.size [.string ek, .int .i64 a1, .int .i64 a2, .int .i64 a3, .bool eh, .slice A eb.length cp] := by rw [hW4]; exact ((HW2.out.2.on HX3.out.2).on HS4.out).set_far hne2.symm 6 _
      have HE4 := Aside0.mk he4
      have HX4' : Aside0 (W4.cell? ⟨w2.heap.size, 6, none⟩ = some (.bool (x == 0))) := ⟨by rw [hW4]; exact (HX4.out.set 6 (.bool (x == 0))).cell 6 rfl⟩
      obtain ⟨⟨e0, e1, e2, e3, e4, e5⟩, fe⟩ := he4.six
      have x0 := HX4'.out
      have x1 := x0
      have x2 := x0
      have x3 := x0
      have x4 := x0
      have x5 := x0
      have x6 := x0
      have x7 := x0
      have x8 := x0
      clear hW4 he4 fe x6' f6' hne2 x1 x2 x3 x4 x5 x6 x7 x8
      have x1 : True := trivial
      have x2 : True := trivial
      have x3 : True := trivial
      have x4 : True := trivial
      have x5 : True := trivial
      have x6 : True := trivial
      have x7 : True := trivial
      have x8 : True := trivial
      have hmk := makeE_cases T E
      go_wp2_with (first | ((with_reducible refine (HM.out _ HBW.out).mono ?_); rintro e w5 ⟨rfl, h5, o5⟩; have H5 := Aside0.mk (And.intro h5 o5); have HE5 := Aside0.mk (HE4.out.only o5 HNE.out.1); have HX5 : Aside0 (w5.cell? ⟨w2.heap.size, 6, none⟩ = some (.bool (x == 0))) := ⟨(o5.cell (p := ⟨w2.heap.size, 6, none⟩) (World.block_lt_of_cell? _ _ HX4'.out) HNE.out.2).trans HX4'.out⟩; clear h5 o5))
      · have hz : ¬ makeE T E = 0 := by
          have : (makeE T E != 0) = true := by assumption
          simpa using this
        have hme : makeE T E = 30 ∧ makeT T E = T := by
          rcases hmk with h | h
          · exact absurd h.1 hz
          · exact h
        go_ret
        have h1 : storeE T E = 30 ∧ storeT T E = T := by
          unfold storeT storeE
          rw [if_pos HGOOD.out, if_pos HGOOD.out, HSO.out]
          dsimp only
          rw [if_neg hz]
          exact ⟨hme.1, rfl⟩
        have h2 := H5.out.1
        rw [hme.2] at h2
        exact ⟨by rw [h1.1, hme.1]; rfl, by rw [h1.2]; exact h2, (Only.of_below _ HBW.out).trans H5.out.2⟩
      · have hz : makeE T E = 0 := by
          have : (makeE T E != 0) = false := by assumption
          simpa using this
        have HZ := Aside0.mk hz
        have hNM := HN.out.make E HT.out.srt (by omega)
        have HNM := Aside0.mk hNM
        clear hz hmk hNM
        clear e0 e1 e2 e3 e4 e5 x0 x1 x2 x3 x4 x5 x6 x7 x8
        obtain ⟨⟨e0, e1, e2, e3, e4, e5⟩, fe⟩ := HE5.out.six
        have x6 := HX5.out
        clear fe
        have re0 : ∀ w', Only [p, mb, tb] w5 w' → w'.cell? ⟨w.heap.size, 0, none⟩ = some (.string ek) := fun w' h => (h.cell (p := ⟨w.heap.size, 0, none⟩) HE5.out.lt HNE.out.1).trans e0
        have re1 : ∀ w', Only [p, mb, tb] w5 w' → w'.cell? ⟨w.heap.size, 1, none⟩ = some (.int .i64 a1) := fun w' h => (h.cell (p := ⟨w.heap.size, 1, none⟩) HE5.out.lt HNE.out.1).trans e1
        have re2 : ∀ w', Only [p, mb, tb] w5 w' → w'.cell? ⟨w.heap.size, 2, none⟩ = some (.int .i64 a2) := fun w' h => (h.cell (p := ⟨w.heap.size, 2, none⟩) HE5.out.lt HNE.out.1).trans e2
        have re3 : ∀ w', Only [p, mb, tb] w5 w' → w'.cell? ⟨w.heap.size, 3, none⟩ = some (.int .i64 a3) := fun w' h => (h.cell (p := ⟨w.heap.size, 3, none⟩) HE5.out.lt HNE.out.1).trans e3
        have re4 : ∀ w', Only [p, mb, tb] w5 w' → w'.cell? ⟨w.heap.size, 4, none⟩ = some (.bool eh) := fun w' h => (h.cell (p := ⟨w.heap.size, 4, none⟩) HE5.out.lt HNE.out.1).trans e4
        have re5 : ∀ w', Only [p, mb, tb] w5 w' → w'.cell? ⟨w.heap.size, 5, none⟩ = some (.slice A eb.length cp) := fun w' h => (h.cell (p := ⟨w.heap.size, 5, none⟩) HE5.out.lt HNE.out.1).trans e5
        have rx6 : ∀ w', Only [p, mb, tb] w5 w' → w'.cell? ⟨w2.heap.size, 6, none⟩ = some (.bool (x == 0)) := fun w' h => (h.cell (p := ⟨w2.heap.size, 6, none⟩) (World.block_lt_of_cell? _ _ x6) HNE.out.2).trans x6
        clear e0 e1 e2 e3 e4 e5 x6
        have hFK5 : Kd.FK Entry.k w5.drew (fun k => k ∉ [p, mb, tb]) E [.string ek, .int .i64 a1, .int .i64 a2, .int .i64 a3, .bool eh, .slice A eb.length cp] := Kd.FK_below (FK_only (FK_only HKE.out (Only.of_below [p, mb, tb] HBW.out) (fun i hi => hi)) H5.out.2 (fun i hi => hi)) (below_drew (Below.refl _ w5))
        have hcp0 := copy_calls E A cp w5.drew (by rw [HE.out]; have := Kd.FK_now hFK5; rw [HE.out] at this; exact this) (by rw [HE.out]; dsimp only; omega)
        rw [HE.out] at hcp0
        dsimp only at hcp0
        rw [← HE.out] at hcp0
        have HCP := Aside0.mk hcp0
        clear hcp0 hFK5
        refine wp_region_noPanic ?_
        refine wp_region_held_drew (S := Only [p, mb, tb] w5) (by kernel_rfl) ((Only.refl [p, mb, tb] w5).drew) (fun hHeld => ?_)
        (refine takeH 0 63 (v := ?_) rfl rfl (by kernel_rfl) (by kernel_rfl) (by kernel_rfl) (fun _ _ _ h => h) hHeld rfl ?_ ?_; rotate_left; (focus (intro w' hSw; go_simp; try with_reducible rfl)))
        (try simp only [Act.put, List.setIfInBounds_toArray, List.set_cons_zero, List.set_cons_succ])
        (refine takeH 1 64 (v := ?_) rfl rfl (by kernel_rfl) (by kernel_rfl) (by kernel_rfl) (fun _ _ _ h => h) hHeld rfl ?_ ?_; rotate_left; (focus (intro w' hSw; go_simp; try with_reducible rfl)))
        (try simp only [Act.put, List.setIfInBounds_toArray, List.set_cons_zero, List.set_cons_succ])
        (refine takeH 3 66 (v := ?_) rfl rfl (by kernel_rfl) (by kernel_rfl) (by kernel_rfl) (fun _ _ _ h => h) hHeld rfl ?_ ?_; rotate_left; (focus (intro w' hSw; go_simp; try with_reducible rfl)))
        (try simp only [Act.put, List.setIfInBounds_toArray, List.set_cons_zero, List.set_cons_succ])
        (refine takeH 4 67 (v := ?_) rfl rfl (by kernel_rfl) (by kernel_rfl) (by kernel_rfl) (fun _ _ _ h => h) hHeld rfl ?_ ?_; rotate_left; (focus (intro w' hSw; go_simp; try with_reducible rfl)))
        (try simp only [Act.put, List.setIfInBounds_toArray, List.set_cons_zero, List.set_cons_succ])
        refine wpAnyH_ready (rs := [2]) (by kernel_rfl) (by simp) ?_
        refine AllReadyH.cons rfl (fun K hK => ?_) AllReadyH.nil
        go_simp
        refine HCP.out.mono ?_
        rintro e w6 ⟨cs, rfl, hbk, hfk, hb6⟩
        obtain ⟨A', c', he, _⟩ := Entry.open_ hbk.now
        have hcs : cs = #[.string ek, .int .i64 a1, .int .i64 a2, .int .i64 a3, .bool eh, .slice A' eb.length c'] := by
          have : cs = cs.toList.toArray := by simp
          rw [this, he, HE.out]
        rw [hcs] at hbk
        subst hcs
        have H6 := Aside0.mk (And.intro hbk hb6)
        clear he hfk hbk
        refine hK.out _ _ ((Only.refl [p, mb, tb] w5).drew.on hb6) (fun hHeld => ?_)
        clear hK K hb6
        (try simp only [Act.put, List.setIfInBounds_toArray, List.set_cons_zero, List.set_cons_succ])
        (refine takeH 5 68 (v := ?_) rfl rfl (by kernel_rfl) (by kernel_rfl) (by kernel_rfl) (fun _ _ _ h => h) hHeld rfl ?_ ?_; rotate_left; (focus (intro w' hSw; go_simp; try with_reducible rfl)))
        (try simp only [Act.put, List.setIfInBounds_toArray, List.set_cons_zero, List.set_cons_succ])
        refine wpAnyH_ready (rs := [6]) (by kernel_rfl) (by simp) ?_
        refine AllReadyH.cons rfl (fun K hK => ?_) AllReadyH.nil
        go_simp
        have hbc : BK Cell.k w6 ⟨⟨ek, ⟨a1, a2, a3⟩, ⟨eh, eb⟩⟩, (x == 0), false, 0⟩ [.string ek, .int .i64 a1, .int .i64 a2, .int .i64 a3, .bool eh, .slice A' eb.length c', .bool (x == 0), .bool false, .int .i64 0] := bk_cell (by have := H6.out.1; rw [HE.out] at this; exact this)
        have hl := lay_calls p mb tb (makeT T E) ⟨⟨ek, ⟨a1, a2, a3⟩, ⟨eh, eb⟩⟩, (x == 0), false, 0⟩ A' c' w6 ((H5.out.1.below (below_drew (Below.refl _ w5))).below H6.out.2) hbc (by have := HNM.out.us; omega) (by have := HNM.out.sz; omega) (by dsimp only; omega) (by dsimp only; omega)
        dsimp only at hl
        refine hl.mono ?_
        rintro e w7 ⟨rfl, h7, o7⟩
        refine hK.out _ _ (((Only.refl [p, mb, tb] w5).drew.on H6.out.2).trans o7) (fun hHeld => ?_)
        have H7 := Aside0.mk (And.intro h7 o7)
        clear hK K hbc hl h7 o7
        (try simp only [Act.put, List.setIfInBounds_toArray, List.set_cons_zero, List.set_cons_succ])
        refine wpAnyH_done (by kernel_rfl) ?_ _
        refine NoPanic.normal ?_
        go_wp2
        go_ret
        have h1 : storeE T E = 0 ∧ storeT T E = lay (makeT T E) ⟨E, (x == 0), false, 0⟩ := by
          unfold storeT storeE
          rw [if_pos HGOOD.out, if_pos HGOOD.out, HSO.out]
          dsimp only
          rw [if_pos HZ.out, HWH.out]
          exact ⟨HZ.out, rfl⟩
        refine ⟨by rw [h1.1]; rfl, by rw [h1.2, HE.out]; rw [HE.out] at H7; exact H7.out.1, (((Only.of_below _ HBW.out).trans H5.out.2).trans ((Only.refl [p, mb, tb] w5).drew.on H6.out.2)).trans H7.out.2⟩
  · have HBAD : Aside0 (storeT T e = T ∧ storeE T e = 2) := ⟨by unfold storeT storeE; rw [if_neg hgood, if_neg hgood]; exact ⟨rfl, rfl⟩⟩
    obtain ⟨ek, ⟨a1, a2, a3⟩, ⟨eh, eb⟩⟩ := e
    dsimp only at *
    by_cases ho : EntOk ⟨ek, ⟨a1, a2, a3⟩, ⟨eh, eb⟩⟩
    · have hs0 : (a1 == 0) = true := by
        have : ¬ a1 ≠ 0 := fun hh => hgood ⟨ho, hh⟩
        simpa using this
      have hr0 := rgt_ok ho
      rw [hr0] at HR
      clear hgood ho hr0
      go_enter Try.func13, Try.ntmps13
      go_wp2_with (first | ((with_reducible refine (HR.out _).mono ?_); rintro e w1 ⟨rfl, hb1⟩; have HB1 := Aside0.mk hb1; have hz1 : w.heap.size < w1.heap.size := (by have := hb1.size; simp at this; omega); have hcc := (bcell hb1).1; clear hb1) | ((with_reducible refine (none_calls _ _ _ _).mono ?_); rintro e w2 ⟨rfl, hb2⟩; have HB2 := Aside0.mk hb2; clear hb2))
      go_ret
      have hbf := Below.then_ (Below.then_ (below_alloc (Below.refl _ w) _) HB1.out (Nat.le_refl _)) HB2.out (Nat.le_refl _)
      exact ⟨by rw [HBAD.out.2]; rfl, by rw [HBAD.out.1]; exact HT.out.below hbf, Only.of_below _ hbf⟩
    · have hr0 := rgt_no ho
      rw [hr0] at HR
      clear hgood ho hr0
      go_enter Try.func13, Try.ntmps13
      go_wp2_with (first | ((with_reducible refine (HR.out _).mono ?_); rintro e w1 ⟨rfl, hb1⟩; have HB1 := Aside0.mk hb1; clear hb1))
      go_ret
      have hbf := Below.then_ (below_alloc (Below.refl _ w) _) HB1.out (Nat.le_refl _)
      exact ⟨by rw [HBAD.out.2]; rfl, by rw [HBAD.out.1]; exact HT.out.below hbf, Only.of_below _ hbf⟩
end Tab
end Go.Proofs.Ytgfjkpnaabiecaa
