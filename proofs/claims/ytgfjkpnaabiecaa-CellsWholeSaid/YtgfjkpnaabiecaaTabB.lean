/- Layer cells: victims, walked. -/
import Derived.Test.YtgfjkpnaabiecaaTabV
import Derived.Test.YtgfjkpnaabiecaaRngM
import Derived.Test.YtgfjkpnaabiecaaTake
import Derived.Deep.DeepCutAuto
import Derived.Deep.LoopGhost
set_option linter.unusedVariables false
set_option linter.unusedSimpArgs false
namespace Go.Proofs.Ytgfjkpnaabiecaa
open Go.RowKit Go.Proofs.YtgfjkpnaabiecaaW.PrintWords
namespace Tab
open StrRow (hasS hasS_iff hasS_no)
/-- What victims tells. -/
def VictTold (w : World) (T : Tb) (e : Entry) (r : Ending) (w' : World) : Prop :=
  ∃ A c, r = .returned (.tuple #[.slice A (vict T e).1.length c, .bool (vict T e).2]) ∧ (vict T e).1.length ≤ c ∧ kStr.C w' A (vict T e).1.length (vict T e).1 ∧ Below w.heap.size w w' ∧ ∀ ad, A = some ad → w.heap.size ≤ ad.block
set_option maxRecDepth 100000 in
set_option maxHeartbeats 1000000 in
theorem victims_calls (p mb tb : Nat) (T : Tb) (e : Entry) (A : Option Addr) (cp : Nat) (w : World) (h : TbR w p mb tb T) (hk : e.key.size ≤ 1000000) (hb : e.val.b.length ≤ 1000000) (hz : szs T.l ≤ 1000000000000) (hl : T.l.length ≤ 1000000)
    (hu : ∀ c ∈ T.l, 1 ≤ c.used) (ho : Own1 T.l) :
    Calls Try.prog 62 #[.pointer (some ⟨p, 0, none⟩), .agg #[.string e.key, .int .i64 e.tag.seq, .int .i64 e.tag.who, .int .i64 e.tag.op, .bool e.val.has, .slice A e.val.b.length cp]] w (VictTold w T e) := by
  have HT := Aside0.mk h
  obtain ⟨⟨cap, hcap, hB⟩, hp, hto, hty, hm, hs⟩ := h
  have hpl := hp.lt
  have hml := hm.lt
  obtain ⟨o, Ao, co, hoe, hbo, hlk⟩ := hm.look_or e.key (by omega)
  obtain ⟨⟨p0, p1, p2, p3, p4, p5, p6, p7⟩, f0, f1, f2, f3, f4, f5, f6, f7⟩ := hB.eight
  obtain ⟨ek, ⟨a1, a2, a3⟩, ⟨eh, eb⟩⟩ := e
  dsimp only at *
  clear f0 f1 f2 f3 f4 f5 f6 f7 hB hp hto hty hm hs
  have HO := Aside0.mk ho
  have HU := Aside0.mk hu
  have HOE := Aside0.mk hoe
  clear ho hu hoe
  have hfs : (find T.l ek).isSome = true ∨ (find T.l ek).isSome = false := by cases (find T.l ek).isSome <;> simp
  obtain ⟨hasB, hhas⟩ : ∃ b, b = (find T.l ek).isSome := ⟨_, rfl⟩
  have rl : ∀ w', Below w.heap.size w w' → (Instr.lookup 81 (.map (some mb)) (.string ek) true).run Try.prog w' = .ok (.tuple #[.agg #[.string o.e.key, .int .i64 o.e.tag.seq, .int .i64 o.e.tag.who, .int .i64 o.e.tag.op, .bool o.e.val.has, .slice Ao o.e.val.b.length co, .bool o.whole, .bool o.clean, .int .i64 o.used], .bool hasB]) w' := fun w' h => by
    have := hlk true w' (h.block mb hml)
    rw [← hhas] at this
    exact this
  have HH := Aside0.mk hhas
  clear hhas hlk hfs
  go_enter Try.func62, Try.ntmps62
  go_wp2
  go_step3
  go_wp2
  have W1B : ∀ w', Below (w.alloc (.cells #[.string ek, .int .i64 a1, .int .i64 a2, .int .i64 a3, .bool eh, .slice A eb.length cp] 37)).heap.size (w.alloc (.cells #[.string ek, .int .i64 a1, .int .i64 a2, .int .i64 a3, .bool eh, .slice A eb.length cp] 37)) w' → Below w.heap.size w w' := fun w' h => Below.then_ (below_alloc (Below.refl _ _) _) h (Nat.le_refl _)
  obtain ⟨W1, hW1⟩ : ∃ W1 : World, W1 = w.alloc (.cells #[.string ek, .int .i64 a1, .int .i64 a2, .int .i64 a3, .bool eh, .slice A eb.length cp] 37) := ⟨_, rfl⟩
  have HX1 : Aside0 (Blk W1 w.heap.size [.string ek, .int .i64 a1, .int .i64 a2, .int .i64 a3, .bool eh, .slice A eb.length cp] ∧ Below w.heap.size w W1) := ⟨by rw [hW1]; exact ⟨Blk.new w _ _, below_alloc (Below.refl _ _) _⟩⟩
  rw [← hW1]
  rw [← hW1] at W1B
  have HS1 : Aside0 (W1.heap.size = w.heap.size + 1) := ⟨by rw [hW1]; simp⟩
  obtain ⟨⟨e0, e1, e2, e3, e4, e5⟩, fx⟩ := HX1.out.1.six
  clear fx
  have r4 : ∀ w', Below W1.heap.size W1 w' → w'.cell? ⟨p, 4, none⟩ = some (.map (some mb)) := fun w' h => pw_cell_below (W1B w' h) p4
  have re0 : ∀ w', Below W1.heap.size W1 w' → w'.cell? ⟨w.heap.size, 0, none⟩ = some (.string ek) := fun w' h => pw_cell_below h e0
  have rl1 := fun w' (h : Below W1.heap.size W1 w') => rl w' (W1B w' h)
  clear hW1
  refine wp_region_noPanic ?_
  refine wp_region_held_drew (S := Below W1.heap.size W1) (by kernel_rfl) (below_drew (Below.refl _ _)) (fun hHeld => ?_)
  (refine takeH 0 17 (v := ?_) rfl rfl (by kernel_rfl) (by kernel_rfl) (by kernel_rfl) (fun _ _ _ h => h) hHeld rfl ?_ ?_; rotate_left; (focus (intro w' hSw; go_simp; try with_reducible rfl)))
  (try simp only [Act.put, List.setIfInBounds_toArray, List.set_cons_zero, List.set_cons_succ])
  (refine takeH 1 18 (v := ?_) rfl rfl (by kernel_rfl) (by kernel_rfl) (by kernel_rfl) (fun _ _ _ h => h) hHeld rfl ?_ ?_; rotate_left; (focus (intro w' hSw; go_simp; try with_reducible rfl)))
  (try simp only [Act.put, List.setIfInBounds_toArray, List.set_cons_zero, List.set_cons_succ])
  (refine takeH 2 19 (v := ?_) rfl rfl (by kernel_rfl) (by kernel_rfl) (by kernel_rfl) (fun _ _ _ h => h) hHeld rfl ?_ ?_; rotate_left; (focus (intro w' hSw; go_simp; try with_reducible rfl)))
  (try simp only [Act.put, List.setIfInBounds_toArray, List.set_cons_zero, List.set_cons_succ])
  (refine takeH 3 20 (v := ?_) rfl rfl (by kernel_rfl) (by kernel_rfl) (by kernel_rfl) (fun _ _ _ h => h) hHeld rfl ?_ ?_; rotate_left; (focus (intro w' hSw; go_simp; try with_reducible rfl)))
  (try simp only [Act.put, List.setIfInBounds_toArray, List.set_cons_zero, List.set_cons_succ])
  (refine takeH 4 21 (v := ?_) rfl rfl (by kernel_rfl) (by kernel_rfl) (by kernel_rfl) (fun _ _ _ h => h) hHeld rfl ?_ ?_; rotate_left; (focus (intro w' hSw; go_simp; try with_reducible rfl)))
  (try simp only [Act.put, List.setIfInBounds_toArray, List.set_cons_zero, List.set_cons_succ])
  (refine takeH 5 22 (v := ?_) rfl rfl (by kernel_rfl) (by kernel_rfl) (by kernel_rfl) (fun _ _ _ h => h) hHeld rfl ?_ ?_; rotate_left; (focus (intro w' hSw; go_simp; try with_reducible rfl)))
  (try simp only [Act.put, List.setIfInBounds_toArray, List.set_cons_zero, List.set_cons_succ])
  (refine takeH 6 23 (v := ?_) rfl rfl (by kernel_rfl) (by kernel_rfl) (by kernel_rfl) (fun _ _ _ h => h) hHeld rfl ?_ ?_; rotate_left; (focus (intro w' hSw; go_simp; try with_reducible rfl)))
  (try simp only [Act.put, List.setIfInBounds_toArray, List.set_cons_zero, List.set_cons_succ])
  (refine takeH 7 16 (v := ?_) rfl rfl (by kernel_rfl) (by kernel_rfl) (by kernel_rfl) (fun _ _ _ h => h) hHeld rfl ?_ ?_; rotate_left; (focus (intro w' hSw; go_simp; try with_reducible rfl)))
  (try simp only [Act.put, List.setIfInBounds_toArray, List.set_cons_zero, List.set_cons_succ])
  (refine takeH 8 24 (v := ?_) rfl rfl (by kernel_rfl) (by kernel_rfl) (by kernel_rfl) (fun _ _ _ h => h) hHeld rfl ?_ ?_; rotate_left; (focus (intro w' hSw; go_simp; try with_reducible rfl)))
  (try simp only [Act.put, List.setIfInBounds_toArray, List.set_cons_zero, List.set_cons_succ])
  (refine takeH 9 25 (v := ?_) rfl rfl (by kernel_rfl) (by kernel_rfl) (by kernel_rfl) (fun _ _ _ h => h) hHeld rfl ?_ ?_; rotate_left; (focus (intro w' hSw; go_simp; try with_reducible rfl)))
  (try simp only [Act.put, List.setIfInBounds_toArray, List.set_cons_zero, List.set_cons_succ])
  refine wpAnyH_ready (rs := [10]) (by kernel_rfl) (by simp) ?_
  refine AllReadyH.cons rfl (fun K hK => ?_) AllReadyH.nil
  go_simp
  refine hK.out _ _ (below_alloc (by assumption) _) (fun hHeld => ?_)
  clear hK K
  (try simp only [Act.put, List.setIfInBounds_toArray, List.set_cons_zero, List.set_cons_succ])
  refine wpAnyH_ready (rs := [11]) (by kernel_rfl) (by simp) ?_
  refine AllReadyH.cons rfl (fun K hK => ?_) AllReadyH.nil
  go_simp
  refine hK.out _ _ (below_drew (below_alloc (Below.refl _ _) _)) (fun hHeld => ?_)
  clear hK K
  (try simp only [Act.put, List.setIfInBounds_toArray, List.set_cons_zero, List.set_cons_succ])
  (refine takeH 12 7 (v := ?_) rfl rfl (by kernel_rfl) (by kernel_rfl) (by kernel_rfl) (fun _ _ _ h => h) hHeld rfl ?_ ?_; rotate_left; (focus (intro w' hSw; go_simp; try with_reducible rfl)))
  (try simp only [Act.put, List.setIfInBounds_toArray, List.set_cons_zero, List.set_cons_succ])
  refine wpAnyH_done (by kernel_rfl) ?_ _
  refine NoPanic.normal ?_
  have W2B : ∀ w', Below ((W1.alloc (.cells #[.string o.e.key, .int .i64 o.e.tag.seq, .int .i64 o.e.tag.who, .int .i64 o.e.tag.op, .bool o.e.val.has, .slice Ao o.e.val.b.length co, .bool o.whole, .bool o.clean, .int .i64 o.used] 47)).drew).heap.size ((W1.alloc (.cells #[.string o.e.key, .int .i64 o.e.tag.seq, .int .i64 o.e.tag.who, .int .i64 o.e.tag.op, .bool o.e.val.has, .slice Ao o.e.val.b.length co, .bool o.whole, .bool o.clean, .int .i64 o.used] 47)).drew) w' → Below W1.heap.size W1 w' := fun w' h => Below.then_ (below_drew (below_alloc (Below.refl _ _) _)) h (Nat.le_refl _)
  obtain ⟨W2, hW2⟩ : ∃ W2 : World, W2 = (W1.alloc (.cells #[.string o.e.key, .int .i64 o.e.tag.seq, .int .i64 o.e.tag.who, .int .i64 o.e.tag.op, .bool o.e.val.has, .slice Ao o.e.val.b.length co, .bool o.whole, .bool o.clean, .int .i64 o.used] 47)).drew := ⟨_, rfl⟩
  have HX2 : Aside0 (Blk W2 W1.heap.size [.string o.e.key, .int .i64 o.e.tag.seq, .int .i64 o.e.tag.who, .int .i64 o.e.tag.op, .bool o.e.val.has, .slice Ao o.e.val.b.length co, .bool o.whole, .bool o.clean, .int .i64 o.used] ∧ Below W1.heap.size W1 W2) := ⟨by rw [hW2]; exact ⟨(Blk.new W1 _ _).drew, below_drew (below_alloc (Below.refl _ _) _)⟩⟩
  rw [← hW2] at W2B
  go_wp2
  rw [← hW2]
  clear hW2
  have W12 : ∀ w', Below W2.heap.size W2 w' → Below w.heap.size w w' := fun w' h => W1B w' (W2B w' h)
  have hoz : o.e.key.size + o.e.val.b.length ≤ szs T.l := by have := szk_le T.l ek; unfold szk at this; rw [← HOE.out] at this; exact this
  have hck : ek.size ≤ 140737488351232 := by omega
  have hcb : eb.length ≤ 140737488351232 := by omega
  have hok : o.e.key.size ≤ 140737488351232 := by omega
  have hob : o.e.val.b.length ≤ 140737488351232 := by omega
  have Z1 := fun w' => Tags.size_calls ek a1 a2 a3 eh A cp eb w' hck hcb
  have Z2 := fun w' => Tags.size_calls o.e.key o.e.tag.seq o.e.tag.who o.e.tag.op o.e.val.has Ao co o.e.val.b w' hok hob
  obtain ⟨n1, hn1⟩ : ∃ n, n = ek.size + eb.length := ⟨_, rfl⟩
  obtain ⟨n2, hn2⟩ : ∃ n, n = o.e.key.size + o.e.val.b.length := ⟨_, rfl⟩
  obtain ⟨n0, hn0⟩ : ∃ n, n = szs T.l := ⟨_, rfl⟩
  obtain ⟨m0, hm0⟩ : ∃ n, n = T.l.length := ⟨_, rfl⟩
  simp only [← hn1] at Z1
  simp only [← hn2] at Z2
  have Z1 := Aside0.mk Z1
  have Z2 := Aside0.mk Z2
  rw [← hn0] at p7
  have hlen := fun w' (h : Below W2.heap.size W2 w') => HT.out.map.len 3 w' ((W12 w' h).block mb hml)
  rw [← hm0] at hlen
  have hbd : n0 ≤ 1000000000000 ∧ m0 ≤ 1000000 ∧ n1 ≤ 2000000 ∧ n2 ≤ n0 := by omega
  have HN := Aside0.mk (And.intro hn0 (And.intro hn1 (And.intro hn2 hm0)))
  clear hn0 hn1 hn2 hm0 hoz
  obtain ⟨hbd0, hbd1, hbd2, hbd3⟩ := hbd
  have e0' := pw_cell_below HX2.out.2 e0
  have e1' := pw_cell_below HX2.out.2 e1
  have e2' := pw_cell_below HX2.out.2 e2
  have e3' := pw_cell_below HX2.out.2 e3
  have e4' := pw_cell_below HX2.out.2 e4
  have e5' := pw_cell_below HX2.out.2 e5
  clear r4 re0 rl1 e0 e1 e2 e3 e4 e5
  have r4 : ∀ w', Below W2.heap.size W2 w' → w'.cell? ⟨p, 4, none⟩ = some (.map (some mb)) := fun w' h => pw_cell_below (W12 w' h) p4
  have r7 : ∀ w', Below W2.heap.size W2 w' → w'.cell? ⟨p, 7, none⟩ = some (.int .i64 (n0 : Int)) := fun w' h => pw_cell_below (W12 w' h) p7
  have re0 : ∀ w', Below W2.heap.size W2 w' → w'.cell? ⟨w.heap.size, 0, none⟩ = some (.string ek) := fun w' h => pw_cell_below h e0'
  have re1 : ∀ w', Below W2.heap.size W2 w' → w'.cell? ⟨w.heap.size, 1, none⟩ = some (.int .i64 a1) := fun w' h => pw_cell_below h e1'
  have re2 : ∀ w', Below W2.heap.size W2 w' → w'.cell? ⟨w.heap.size, 2, none⟩ = some (.int .i64 a2) := fun w' h => pw_cell_below h e2'
  have re3 : ∀ w', Below W2.heap.size W2 w' → w'.cell? ⟨w.heap.size, 3, none⟩ = some (.int .i64 a3) := fun w' h => pw_cell_below h e3'
  have re4 : ∀ w', Below W2.heap.size W2 w' → w'.cell? ⟨w.heap.size, 4, none⟩ = some (.bool eh) := fun w' h => pw_cell_below h e4'
  have re5 : ∀ w', Below W2.heap.size W2 w' → w'.cell? ⟨w.heap.size, 5, none⟩ = some (.slice A eb.length cp) := fun w' h => pw_cell_below h e5'
  have s1 : IntKind.i64.wrap ((m0 : Int) + 1) = (m0 : Int) + 1 := IntWalk.i64_in _ (by omega)
  have s2 : IntKind.i64.wrap ((n0 : Int) + (n1 : Int)) = (n0 : Int) + (n1 : Int) := IntWalk.i64_in _ (by omega)
  refine region_calm 14 (Below W2.heap.size W2) (by kernel_rfl) (by kernel_rfl) (below_drew (Below.refl _ _)) ?_
  simp only [List.take_succ_cons, List.take_zero, List.drop_succ_cons, List.drop_zero]
  (refine wpCalm_val (v := ?_) rfl ?_ ?_; rotate_left; (focus (intro w' hSw; go_simp; try with_reducible rfl)))
  (try simp only [Act.put, List.setIfInBounds_toArray, List.set_cons_zero, List.set_cons_succ])
  (refine wpCalm_val (v := ?_) rfl ?_ ?_; rotate_left; (focus (intro w' hSw; go_simp; try with_reducible rfl)))
  (try simp only [Act.put, List.setIfInBounds_toArray, List.set_cons_zero, List.set_cons_succ])
  (refine wpCalm_val (v := ?_) rfl ?_ ?_; rotate_left; (focus (intro w' hSw; go_simp; try with_reducible rfl)))
  (try simp only [Act.put, List.setIfInBounds_toArray, List.set_cons_zero, List.set_cons_succ])
  (refine wpCalm_val (v := ?_) rfl ?_ ?_; rotate_left; (focus (intro w' hSw; go_simp; try with_reducible rfl)))
  (try simp only [Act.put, List.setIfInBounds_toArray, List.set_cons_zero, List.set_cons_succ])
  (refine wpCalm_val (v := ?_) rfl ?_ ?_; rotate_left; (focus (intro w' hSw; go_simp; try with_reducible rfl)))
  (try simp only [Act.put, List.setIfInBounds_toArray, List.set_cons_zero, List.set_cons_succ])
  (refine wpCalm_val (v := ?_) rfl ?_ ?_; rotate_left; (focus (intro w' hSw; go_simp; try with_reducible rfl)))
  (try simp only [Act.put, List.setIfInBounds_toArray, List.set_cons_zero, List.set_cons_succ])
  (refine wpCalm_val (v := ?_) rfl ?_ ?_; rotate_left; (focus (intro w' hSw; go_simp; try with_reducible rfl)))
  (try simp only [Act.put, List.setIfInBounds_toArray, List.set_cons_zero, List.set_cons_succ])
  (refine wpCalm_val (v := ?_) rfl ?_ ?_; rotate_left; (focus (intro w' hSw; go_simp; try with_reducible rfl)))
  (try simp only [Act.put, List.setIfInBounds_toArray, List.set_cons_zero, List.set_cons_succ])
  (refine wpCalm_val (v := ?_) rfl ?_ ?_; rotate_left; (focus (intro w' hSw; go_simp; try with_reducible rfl)))
  (try simp only [Act.put, List.setIfInBounds_toArray, List.set_cons_zero, List.set_cons_succ])
  (refine wpCalm_val (v := ?_) rfl ?_ ?_; rotate_left; (focus (intro w' hSw; go_simp; try with_reducible rfl)))
  (try simp only [Act.put, List.setIfInBounds_toArray, List.set_cons_zero, List.set_cons_succ])
  (refine wpCalm_val (v := ?_) rfl ?_ ?_; rotate_left; (focus (intro w' hSw; go_simp; try with_reducible rfl)))
  (try simp only [Act.put, List.setIfInBounds_toArray, List.set_cons_zero, List.set_cons_succ])
  (refine wpCalm_call (v := .int .i64 (n1 : Int)) (f := ?_) (args := ?_) rfl ?_ ?_ ?_; rotate_left 2; (focus (intro w' hSw; go_simp; constructor <;> with_reducible rfl)); (focus (intro w' hSw; exact (Z1.out w').mono fun e w1 ⟨h1, h2⟩ => ⟨h1, Below.then_ hSw h2 (Nat.le_refl _)⟩)))
  (try simp only [Act.put, List.setIfInBounds_toArray, List.set_cons_zero, List.set_cons_succ])
  (refine wpCalm_val (v := ?_) rfl ?_ ?_; rotate_left; (focus (intro w' hSw; go_simp; try with_reducible rfl)))
  (try simp only [Act.put, List.setIfInBounds_toArray, List.set_cons_zero, List.set_cons_succ])
  (refine wpCalm_val (v := ?_) rfl ?_ ?_; rotate_left; (focus (intro w' hSw; go_simp; try with_reducible rfl)))
  (try simp only [Act.put, List.setIfInBounds_toArray, List.set_cons_zero, List.set_cons_succ])
  refine wpCalm_nil ?_
  intro w3 hS3
  have HB3 := Aside0.mk hS3
  clear hS3
  clear s1 s2 r7 re1 re2 re3 re4 re5 hlen
  obtain ⟨⟨x0, x1, x2, x3, x4, x5, x6, x7, x8⟩, fx⟩ := (HX2.out.1.on HB3.out).nine
  clear x6 x7 x8 fx
  have W3w : Below w.heap.size w w3 := W12 w3 HB3.out
  have HW3 := Aside0.mk W3w
  clear W3w
  obtain ⟨E, hE⟩ : ∃ E : Entry, E = ⟨ek, ⟨a1, a2, a3⟩, ⟨eh, eb⟩⟩ := ⟨_, rfl⟩
  rw [← hE]
  have HE := Aside0.mk hE
  clear hE
  go_upto_if 39 with (fail)
  go_cut [8, 9] (fun v8 v9 wx => ∃ n8 n9 : Nat, v8 = .int .i64 (n8 : Int) ∧ v9 = .int .i64 (n9 : Int) ∧ Aside0 (n8 = (newL T E).length ∧ n9 = szs (newL T E)) ∧ Aside0 (Below w.heap.size w wx ∧ Below W2.heap.size W2 wx))
  case first =>
    have s3 : IntKind.i64.wrap ((n0 : Int) + (n1 : Int) - (n2 : Int)) = (n0 : Int) + (n1 : Int) - (n2 : Int) := IntWalk.i64_in _ (by omega)
    cases hasB with
    | true =>
      go_wp2_with (first | ((with_reducible refine (Z2.out _).mono ?_); rintro e w4 ⟨rfl, hb4⟩; have HB4 := Aside0.mk hb4; clear hb4))
      have hH := HH.out
      have hst := start_some (e := ⟨ek, ⟨a1, a2, a3⟩, ⟨eh, eb⟩⟩) HT.out.srt hH.symm
      have h2 := HN.out
      have h3 : szk T.l ek = o.e.key.size + o.e.val.b.length := by unfold szk; rw [← HOE.out]; rfl
      have h1 := hst.2
      unfold csz at h1
      dsimp only at h1
      go_meet
      refine ⟨(newL T E).length, szs (newL T E), ?_, ?_, ⟨rfl, rfl⟩, ⟨Below.then_ HW3.out HB4.out (Nat.le_refl _), Below.then_ HB3.out HB4.out (Nat.le_refl _)⟩⟩
      · rw [HE.out, hst.1, h2.2.2.2]
      · rw [HE.out]; congr 1; omega
    | false =>
      go_wp2
      have hH := HH.out
      have hst := start_none (e := ⟨ek, ⟨a1, a2, a3⟩, ⟨eh, eb⟩⟩) HT.out.srt hH.symm
      have h2 := HN.out
      have h1 := hst.2
      unfold csz at h1
      dsimp only at h1
      go_meet
      refine ⟨(newL T E).length, szs (newL T E), ?_, ?_, ⟨rfl, rfl⟩, ⟨HW3.out, HB3.out⟩⟩
      · rw [HE.out, hst.1, h2.2.2.2]; rfl
      · rw [HE.out]; congr 1; omega
  case rest =>
    obtain ⟨n8, n9, rfl, rfl, HN8, HW4⟩ := hcut
    obtain ⟨w4, rfl⟩ : ∃ w4, w4 = wc := ⟨_, rfl⟩
    obtain ⟨g, hmg, hce⟩ := HT.out.map
    have HMG := Aside0.mk hmg
    have HCE := Aside0.mk hce
    have HE0 := Aside0.mk e0'
    clear hmg hce x0 x1 x2 x3 x4 x5 r4 re0 e0' e1' e2' e3' e4' e5' rl
    go_wp2
    go_step3
    go_wp2
    go_loopg [8, 9, 10, 11] T.l.length (fun gk v8 v9 v10 v11 wr => ∃ (out : List ByteArray) (n8 n9 : Nat), v11 = .bool true ∧ v8 = .int .i64 (n8 : Int) ∧ v9 = .int .i64 (n9 : Int) ∧ Aside0 (n8 = (newL (drops T out) E).length ∧ n9 = szs (newL (drops T out) E)) ∧ Aside0 (Below w4.heap.size w4 wr) ∧
      Aside0 (wr.ownsRow w4.heap.size 9 1 v10 out.length (out.map Value.string)) ∧ Aside0 (vict T E = (out ++ (vict (drops T out) E).1, (vict (drops T out) E).2)) ∧ Aside0 (gk = (drops T out).l.length ∧ gk + out.length = T.l.length) ∧ Aside0 (∀ k ∈ out, k.size ≤ 140737488351232))
    case atStart => exact ⟨[], n8, n9, rfl, rfl, rfl, HN8, ⟨Below.refl _ _⟩, ⟨own_nil _ _ _ _⟩, ⟨by simp [drops]⟩, ⟨rfl, rfl⟩, ⟨by simp⟩⟩
    case round =>
      clear n8 n9 HN8
      obtain ⟨wo, rfl⟩ : ∃ wo : World, wo = wr := ⟨_, rfl⟩
      obtain ⟨go, rfl⟩ : ∃ go : Nat, go = gk := ⟨_, rfl⟩
      obtain ⟨out, n8, n9, rfl, rfl, rfl, HN8, HB, HOW, HV, HG, HK⟩ := hrel
      have HWR : Aside0 (Below w.heap.size w wo ∧ Below W2.heap.size W2 wo) := ⟨Below.then_ HW4.out.1 HB.out (Nat.le_refl _), Below.then_ HW4.out.2 HB.out (Nat.le_refl _)⟩
      have q0 := pw_cell_below HWR.out.1 p0
      have q1 := pw_cell_below HWR.out.1 p1
      obtain ⟨A', c', rfl, g1, g2, g3⟩ := StrRow.own_C HOW.out HK.out
      have HSL := Aside0.mk (And.intro g1 g2)
      have HFA : Aside0 (∀ ad, A' = some ad → w.heap.size ≤ ad.block) := ⟨fun ad e => Nat.le_trans HW4.out.1.size (g3 ad e)⟩
      clear g1 g2 g3
      go_upto_region 7 with (fail)
      go_cut [62] (fun c wx => ∃ b : Bool, c = .bool b ∧ Aside0 (b = !fits (drops T out) E) ∧ wo = wx)
      case first =>
        have hr : (drops T out).room = T.room := drops_room _ _
        by_cases hA : T.room.cells < (n8 : Int)
        · have HF : Aside0 (true = !fits (drops T out) E) := ⟨by
            have : ¬ fits (drops T out) E = true := fun h => by have := (fits_iff.1 h).1; rw [hr, ← HN8.out.1] at this; omega
            simpa using this⟩
          clear hr
          go_wp2
          go_meet
          exact ⟨true, rfl, HF, rfl⟩
        · by_cases hB : T.room.bytes < (n9 : Int)
          · have HF : Aside0 (true = !fits (drops T out) E) := ⟨by
              have : ¬ fits (drops T out) E = true := fun h => by have := (fits_iff.1 h).2; rw [hr, ← HN8.out.2] at this; omega
              simpa using this⟩
            clear hr
            go_wp2
            go_meet
            exact ⟨true, rfl, HF, rfl⟩
          · have HF : Aside0 (false = !fits (drops T out) E) := ⟨by
              have : fits (drops T out) E = true := fits_iff.2 (by rw [hr, ← HN8.out.1, ← HN8.out.2]; omega)
              rw [this]; rfl⟩
            clear hr
            go_wp2
            go_meet
            exact ⟨false, rfl, HF, rfl⟩
      case rest =>
        obtain ⟨b, rfl, HF, rfl⟩ := hcut
        cases b with
        | false =>
          go_wp2
          try rw [Exit.noGoto_ret]
          obtain ⟨g1, g2⟩ := HSL.out
          have hv := vict_fits HT.out.srt HV.out (by have := HF.out; simpa using this.symm)
          rw [HE.out] at hv
          refine bodyPost_ret (v := .tuple #[.slice A' out.length c', .bool true]) (by simp [results, Try.results62, go_sem]; try rfl) rfl ?_
          exact ⟨A', c', by rw [hv], by rw [hv]; exact g1, by rw [hv]; exact g2, HWR.out.1, HFA.out⟩
        | true =>
          have hmr : MapL wo 9 mb (T.l.map g) := HMG.out.only (Only.of_below [] HWR.out.1) (by simp)
          obtain ⟨wi, hrun, hrg, hbi, hsi⟩ := Rng.begin_ (t := 81) (e := 47) hmr Try.underlying81
          have HRG := Aside0.mk (And.intro hrg (And.intro hbi hsi))
          have q4 := pw_cell_below HWR.out.1 p4
          clear hmr hrg hbi hsi
          go_wp2
          clear hrun
          go_loopg [12, 13] T.l.length (fun gk v12 v13 wx => ∃ (Dc Lc : List Cell) (k : ByteArray) (u : Int), v12 = .string k ∧ v13 = .int .i64 u ∧ Aside0 ((k, u) = accOf (least (Dc.filter (okc ek out)))) ∧ Aside0 (Rng wx 9 mb wo.heap.size (Dc.map g) (Lc.map g)) ∧ Aside0 ((Dc ++ Lc).Perm T.l) ∧ Aside0 (gk = Lc.length) ∧ Aside0 (Below wo.heap.size wo wx))
          case atStart => exact ⟨[], T.l, _, _, rfl, rfl, ⟨rfl⟩, ⟨HRG.out.1⟩, ⟨List.Perm.refl _⟩, ⟨rfl⟩, ⟨HRG.out.2.1⟩⟩
          case round =>
            clear q0 q1 q4
            obtain ⟨Dc, Lc, k, u, rfl, rfl, HAC, HR, HP, HGL, HBX⟩ := hrel
            go_wp2_with (first | (at_next; refine wpList_next_rng rfl _ rfl rfl HR.out ?_ ?_))
            · intro h0
              have hL : Lc = [] := by simpa using h0
              subst hL
              have HPI : Aside0 (pick (drops T out).l E.key = least (Dc.filter (okc ek out))) := ⟨by rw [HE.out]; exact pick_drops HO.out (by have := HP.out; rwa [List.append_nil] at this)⟩
              clear h0
              obtain ⟨ol, hol⟩ : ∃ ol, ol = least (Dc.filter (okc ek out)) := ⟨_, rfl⟩
              have HPK : Aside0 (pick (drops T out).l E.key = ol) := ⟨HPI.out.trans hol.symm⟩
              have hAC := HAC.out
              rw [← hol] at hAC
              clear hol HAC HPI
              have HWX : Aside0 (Below w.heap.size w wr) := ⟨Below.then_ HWR.out.1 HBX.out (Nat.le_refl _)⟩
              have HFF : Aside0 (fits (drops T out) E = false) := ⟨by have := HF.out; simpa using this.symm⟩
              cases ol with
              | none =>
                simp only [accOf, Prod.mk.injEq] at hAC
                obtain ⟨rfl, rfl⟩ := hAC
                go_wp2
                try rw [Exit.noGoto_ret]
                obtain ⟨g1, g2⟩ := HSL.out
                have hv := vict_none HT.out.srt HV.out HFF.out HPK.out
                rw [HE.out] at hv
                refine bodyPost_ret (v := .tuple #[.slice A' out.length c', .bool false]) (by simp [results, Try.results62, go_sem]; try rfl) rfl ?_
                exact ⟨A', c', by rw [hv], by rw [hv]; exact g1, by rw [hv]; exact Kd.C_below g2 HBX.out, HWX.out, HFA.out⟩
              | some d =>
                simp only [accOf, Prod.mk.injEq] at hAC
                obtain ⟨rfl, rfl⟩ := hAC
                obtain ⟨hd1, hd2, hd3⟩ := pick_mem HPK.out
                have hdT := drops_mem hd1
                have hu1 := HU.out d hdT
                have hu0 : (d.used == 0) = false := by simp; omega
                have hnd := newL_drop (drops_srt HT.out.srt out) hd1 hd3
                have hnb := newL_bd (T := T) (e := E) out HT.out.srt
                have hdz := szs_mem hdT
                have HVR := Aside0.mk (vict_round HT.out.srt HV.out HFF.out HPK.out)
                have HLD := Aside0.mk (len_drop (drops_srt HT.out.srt out) hd1)
                rw [← drops_snoc] at hnd
                have hlk := (HT.out.map.look_or d.e.key (by
                  obtain ⟨_, cs, _, x3⟩ := HCE.out d hdT
                  obtain ⟨_, _, _, s0, _⟩ := Cell.open_ x3.now
                  exact s0))
                obtain ⟨od, Ad, cd, hod, hbd, hlk⟩ := hlk
                rw [find_of HT.out.srt hdT] at hod
                obtain rfl : od = d := hod
                have hdk : od.e.key.size ≤ 140737488351232 := by
                  obtain ⟨_, _, _, s0, _⟩ := Cell.open_ hbd.now
                  exact s0
                have hdb : od.e.val.b.length ≤ 140737488351232 := by unfold csz at hdz; omega
                have Z3 := fun w' => Tags.size_calls od.e.key od.e.tag.seq od.e.tag.who od.e.tag.op od.e.val.has Ad cd od.e.val.b w' hdk hdb
                obtain ⟨n5, hn5⟩ : ∃ n, n = od.e.key.size + od.e.val.b.length := ⟨_, rfl⟩
                simp only [← hn5] at Z3
                have Z3 := Aside0.mk Z3
                have hcz : csz od.e = n5 := hn5.symm
                rw [hcz] at hnd hdz
                obtain ⟨hnd1, hnd2⟩ := hnd
                obtain ⟨hnb1, hnb2⟩ := hnb
                rw [← HN8.out.1] at hnd1 hnb1
                rw [← HN8.out.2] at hnd2 hnb2
                have hE1 : csz E = n1 := by rw [HE.out, HN.out.2.1]; rfl
                rw [hE1, ← HN.out.1] at hnb2
                rw [← HN.out.1] at hdz
                rw [← HN.out.2.2.2] at hnb1
                have b8 : 1 ≤ n8 ∧ n8 ≤ 1000001 := by omega
                have b9 : n5 ≤ n9 ∧ n9 ≤ 2000000000000 := by omega
                have HND := Aside0.mk (And.intro hnd1 hnd2)
                obtain ⟨b81, b82⟩ := b8
                obtain ⟨b91, b92⟩ := b9
                have HDK := Aside0.mk hdk
                have hq4 := pw_cell_below HWX.out p4
                have hol2 : out.length + 1 ≤ 1000001 := by have h1 := HG.out; have h2 := HN.out.2.2.2; omega
                have HLK := Aside0.mk hlk
                have HDT := Aside0.mk hdT
                clear hd1 hd2 hd3 hdT hu1 hnd1 hnd2 hnb1 hnb2 hdz hbd hlk hdk hdb hn5 hcz hE1
                have rf := fun w' => field_E od.e.key od.e.tag.seq od.e.tag.who od.e.tag.op od.e.val.has (.slice Ad od.e.val.b.length cd) od.whole od.clean od.used w'
                have s4 : IntKind.i64.wrap ((n8 : Int) - 1) = (n8 : Int) - 1 := IntWalk.i64_in _ (by omega)
                have s5 : IntKind.i64.wrap ((n9 : Int) - (n5 : Int)) = (n9 : Int) - (n5 : Int) := IntWalk.i64_in _ (by omega)
                go_wp2_with (first | (at_builtin; refine print_append (w0 := w4) w4.heap.size rfl _ _ 90 9 (.string ByteArray.empty) 16 rfl Try.underlying90 infoStr rfl (by omega) (.slice A' out.length c') (out.map Value.string) (.string od.e.key) rfl rfl rfl (by rw [List.length_map]; exact pw_own_below HOW.out HBX.out) (Below.then_ HB.out HBX.out (Nat.le_refl _)) (Nat.le_trans HB.out.size HBX.out.size) (by rw [List.length_map]; omega) ?_; intro v1 w7 hown hB7 hg7 _; have HOW7 := Aside0.mk hown; have HB7 := Aside0.mk hB7; have hW7 : Below w.heap.size w w7 := Below.then_ HW4.out.1 hB7 (Nat.le_refl _); have q47 := pw_cell_below hW7 p4; have rl7 := HLK.out false w7 (hW7.block mb hml); dsimp only [ccs] at rl7; clear hown hB7 hg7 hW7) | ((with_reducible refine (Z3.out _).mono ?_); rintro e w8 ⟨rfl, hb8⟩; have HB8 := Aside0.mk hb8; clear hb8))
                go_roundg (drops T (out ++ [od.e.key])).l.length
                case measure => have h1 := HLD.out; have h2 := HG.out; rw [drops_snoc]; omega
                case rel =>
                  refine ⟨out ++ [od.e.key], n8 - 1, n9 - n5, rfl, ?_, ?_, ⟨?_⟩, ⟨Below.then_ HB7.out HB8.out (Nat.le_refl _)⟩, ⟨?_⟩, HVR, ⟨rfl, ?_⟩, ⟨?_⟩⟩
                  · congr 1; omega
                  · congr 1; omega
                  · have h := HND.out; omega
                  · have h := pw_own_below HOW7.out HB8.out; simpa using h
                  · have h1 := HLD.out; have h2 := HG.out; rw [drops_snoc, List.length_append, List.length_singleton]; omega
                  · intro k hk
                    rcases List.mem_append.1 hk with hk | hk
                    · exact HK.out k hk
                    · rw [List.mem_singleton.1 hk]; exact HDK.out
            · intro key v L' w5 hp hr5 ho5 hs5 hen
              obtain ⟨c, l', hp1, hkv, hp2⟩ := map_perm_cons hp
              have hc : c ∈ T.l := HP.out.mem_iff.1 (List.mem_append_right _ (hp1.mem_iff.2 List.mem_cons_self))
              obtain ⟨x1, cs, x2, x3⟩ := HCE.out c hc
              obtain ⟨Ac, ccp, rfl, hbk⟩ := ccs_of x3
              have hgc : g c = (.string c.e.key, .agg (ccs c Ac ccp).toArray) := by rw [← x1, ← x2]
              have hkv2 := hkv.trans hgc
              simp only [Prod.mk.injEq] at hkv2
              obtain ⟨rfl, rfl⟩ := hkv2
              have hb5 : Below wo.heap.size wo w5 := (Only.of_below [wo.heap.size] HBX.out).trans ho5 |>.below (by simp) (Nat.le_refl _)
              have HR5 : Aside0 (Rng w5 9 mb wo.heap.size ((c :: Dc).map g) (l'.map g)) := ⟨hr5.perm (by rw [List.map_cons, hgc]) hp2⟩
              have HP5 : Aside0 (((c :: Dc) ++ l').Perm T.l) := ⟨(List.Perm.trans (by rw [List.cons_append]; exact List.perm_middle.symm) ((hp1.symm).append_left Dc)).trans HP.out⟩
              have HG5 : Aside0 (gk = l'.length + 1) := ⟨by rw [HGL.out, hp1.length_eq]; rfl⟩
              have HB5 := Aside0.mk hb5
              have HC5 := Aside0.mk (And.intro hc hbk)
              clear hp hr5 ho5 hs5 hp1 hkv hp2 hc x1 x2 x3 hbk hgc hb5 HR HP HGL HBX
              obtain ⟨⟨ck, ⟨t1, t2, t3⟩, ⟨vh, vb⟩⟩, cw, cc, cu⟩ := c
              dsimp only [ccs] at hen
              go_upto_region 12 with (fail)
              obtain ⟨W6, hW6⟩ : ∃ W6 : World, W6 = w5.alloc (.cells #[.string ck, .int .i64 t1, .int .i64 t2, .int .i64 t3, .bool vh, .slice Ac vb.length ccp, .bool cw, .bool cc, .int .i64 cu] 47) := ⟨_, rfl⟩
              rw [← hW6]
              have HB6 : Aside0 (Below wo.heap.size wo W6 ∧ Below w5.heap.size w5 W6) := ⟨by rw [hW6]; exact ⟨Below.then_ HB5.out (below_alloc (Below.refl _ _) _) (Nat.le_refl _), below_alloc (Below.refl _ _) _⟩⟩
              have hbx : Blk W6 w5.heap.size [.string ck, .int .i64 t1, .int .i64 t2, .int .i64 t3, .bool vh, .slice Ac vb.length ccp, .bool cw, .bool cc, .int .i64 cu] := by rw [hW6]; exact Blk.new _ _ _
              have y7 := hbx.cell 7 rfl
              have y8 := hbx.cell 8 rfl
              have ye : W6.cell? ⟨w.heap.size, 0, none⟩ = some (.string ek) := pw_cell_below HB6.out.1 (pw_cell_below HWR.out.2 HE0.out)
              have HCO := Aside0.mk (StrRow.contains_calls A' c' out ck W6 (Kd.C_below HSL.out.2 HB6.out.1))
              clear hW6 hbx hen
              obtain ⟨ol, hol⟩ : ∃ ol, ol = least (Dc.filter (okc ek out)) := ⟨_, rfl⟩
              have HOL := Aside0.mk hol
              have hAC := HAC.out
              rw [← hol] at hAC
              have HU1 : Aside0 (∀ d, ol = some d → 1 ≤ d.used) := ⟨fun d hd => HU.out d (HP5.out.mem_iff.1 (List.mem_append_left _ (List.mem_cons_of_mem _ (List.mem_filter.1 (least_mem (hol.symm.trans hd))).1)))⟩
              clear hol HAC
              go_cut [96] (fun s wx => ∃ B : Bool, s = .bool B ∧ Aside0 (B = updB ek out ⟨⟨ck, ⟨t1, t2, t3⟩, ⟨vh, vb⟩⟩, cw, cc, cu⟩ ol) ∧ W6 = wx)
              case first =>
                cases cc with
                | false =>
                  go_wp2
                  go_meet
                  exact ⟨false, rfl, ⟨by cases ol <;> rfl⟩, rfl⟩
                | true =>
                  by_cases hke : ck = ek
                  · subst hke
                    go_wp2
                    go_meet
                    exact ⟨false, rfl, ⟨by cases ol <;> simp [updB, okc, cand]⟩, rfl⟩
                  · have HKE := Aside0.mk hke
                    have hd : (ck.toList == ek.toList) = false := by simpa using StrRow.txt_ne hke
                    clear hke
                    cases ol with
                    | none =>
                      simp only [accOf, Prod.mk.injEq] at hAC
                      obtain ⟨rfl, rfl⟩ := hAC
                      go_wp2_with (first | ((with_reducible refine HCO.out.mono ?_); rintro e w7 ⟨rfl, rfl⟩))
                      go_meet
                      exact ⟨_, rfl, ⟨by simp [updB, okc, cand, HKE.out]⟩, rfl⟩
                    | some d =>
                      simp only [accOf, Prod.mk.injEq] at hAC
                      obtain ⟨rfl, rfl⟩ := hAC
                      have hu1 := HU1.out d rfl
                      have hu0 : (d.used == 0) = false := by simp; omega
                      clear hu1
                      by_cases hlt : cu < d.used
                      · have HLT := Aside0.mk hlt
                        have hl2 : decide (cu < d.used) = true := by simpa using hlt
                        clear hlt
                        go_wp2_with (first | ((with_reducible refine HCO.out.mono ?_); rintro e w7 ⟨rfl, rfl⟩))
                        go_meet
                        exact ⟨_, rfl, ⟨by simp [updB, okc, cand, HKE.out, HLT.out]⟩, rfl⟩
                      · have HLT := Aside0.mk hlt
                        have hl2 : decide (cu < d.used) = false := by simpa using hlt
                        clear hlt
                        go_wp2
                        go_meet
                        exact ⟨_, rfl, ⟨by simp [updB, okc, cand, HKE.out, HLT.out]⟩, rfl⟩
              case rest =>
                obtain ⟨B, rfl, HBB, rfl⟩ := hcut
                have HAU : Aside0 (least ((⟨⟨ck, ⟨t1, t2, t3⟩, ⟨vh, vb⟩⟩, cw, cc, cu⟩ :: Dc).filter (okc ek out)) = if B then some ⟨⟨ck, ⟨t1, t2, t3⟩, ⟨vh, vb⟩⟩, cw, cc, cu⟩ else ol) := ⟨by rw [acc_upd, ← HOL.out, ← HBB.out]⟩
                have HAC := Aside0.mk hAC
                clear hAC HBB
                cases B with
                | false =>
                  go_wp2
                  go_roundg l'.length
                  case measure => have := HG5.out; omega
                  case rel => exact ⟨_, l', k, u, rfl, rfl, ⟨by rw [HAU.out]; exact HAC.out⟩, ⟨HR5.out.below HB6.out.2⟩, HP5, ⟨rfl⟩, ⟨HB6.out.1⟩⟩
                | true =>
                  go_wp2
                  refine Tags.region_tail 4 (by kernel_rfl) (by kernel_rfl) ?_
                  simp only [List.take_succ_cons, List.take_zero, List.drop_succ_cons, List.drop_zero]
                  still_step
                  still_step
                  still_step
                  still_step
                  refine wpStill_nil ?_
                  go_wp2
                  go_roundg l'.length
                  case measure => have := HG5.out; omega
                  case rel => exact ⟨_, l', ck, cu, rfl, rfl, ⟨by rw [HAU.out]; rfl⟩, ⟨(HR5.out.below HB6.out.2).below (below_drew (Below.refl _ _))⟩, HP5, ⟨rfl⟩, ⟨below_drew HB6.out.1⟩⟩
end Tab
end Go.Proofs.Ytgfjkpnaabiecaa
