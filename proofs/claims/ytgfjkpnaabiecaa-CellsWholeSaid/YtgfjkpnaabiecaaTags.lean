/- Layer tags, and the reference's: what they compute. -/
import Derived.Test.YtgfjkpnaabiecaaKindsC
import Derived.Test.YtgfjkpnaabiecaaFrame
import Derived.WalkSpells
import Derived.StillTailTactics
set_option linter.unusedVariables false
set_option linter.unusedSimpArgs false
namespace Go.Proofs.Ytgfjkpnaabiecaa
open Go.RowKit Go.Proofs.YtgfjkpnaabiecaaW.PrintWords
namespace Tags
def cmp3 (a b : Int) : Int := if a < b then -1 else if b < a then 1 else 0
theorem cmp3_bd (a b : Int) : -1 ≤ cmp3 a b ∧ cmp3 a b ≤ 1 := by unfold cmp3; split <;> (try split) <;> omega
theorem cmp3_lt {a b : Int} (h : a < b) : cmp3 a b = -1 := by unfold cmp3; rw [if_pos h]
theorem cmp3_gt {a b : Int} (h : b < a) : cmp3 a b = 1 := by unfold cmp3; rw [if_neg (by omega), if_pos h]
theorem cmp3_eq (a : Int) : cmp3 a a = 0 := by unfold cmp3; rw [if_neg (by omega), if_neg (by omega)]
/-- The first that is not 0. -/
def or3 (a b c : Int) : Int := if a ≠ 0 then a else if b ≠ 0 then b else c
def cmpT (a b : Tag) : Int := or3 (cmp3 a.seq b.seq) (cmp3 a.who b.who) (cmp3 a.op b.op)
theorem isNaN_calls (a : Int) (w : World) : Calls Try.prog 74 #[.int .i64 a] w fun e w' => e = .returned (.bool false) ∧ w = w' := by
  go_enter Try.func74, Try.ntmps74
  go_wp2
  go_ret
  exact ⟨by simp, rfl⟩
theorem compare_calls (a b : Int) (w : World) : Calls Try.prog 59 #[.int .i64 a, .int .i64 b] w fun e w' => e = .returned (.int .i64 (cmp3 a b)) ∧ w = w' := by
  rcases Int.lt_trichotomy a b with h | h | h
  · have H := Aside0.mk h
    go_enter Try.func59, Try.ntmps59
    go_wp2_with (first | ((with_reducible refine (isNaN_calls _ _).mono ?_); rintro e w' ⟨rfl, rfl⟩))
    go_ret
    exact ⟨by rw [cmp3_lt H.out]; rfl, rfl⟩
  · subst h
    go_enter Try.func59, Try.ntmps59
    go_wp2_with (first | ((with_reducible refine (isNaN_calls _ _).mono ?_); rintro e w' ⟨rfl, rfl⟩))
    go_ret
    exact ⟨by rw [cmp3_eq]; rfl, rfl⟩
  · have H := Aside0.mk h
    have hn : ¬ a < b := by omega
    go_enter Try.func59, Try.ntmps59
    go_wp2_with (first | ((with_reducible refine (isNaN_calls _ _).mono ?_); rintro e w' ⟨rfl, rfl⟩))
    go_ret
    exact ⟨by rw [cmp3_gt H.out]; rfl, rfl⟩
theorem compare_same (a b : Int) (w : World) : Calls Try.prog 59 #[.int .i64 a, .int .i64 b] w fun e w' => e = .returned (.int .i64 (cmp3 a b)) ∧ w' = w := (compare_calls a b w).mono fun _ _ ⟨h1, h2⟩ => ⟨h1, h2.symm⟩
theorem region_tail {P : Program} {id : Nat} {Q : Exit → Act → World → Prop} {a : Act} {w : World} {l : List Oper} (n : Nat) (hm : P.follows .mixedOrders = true) (hB : Region.lexTailB .any l.toArray n = true)
    (h : wpStill P l.toArray w.drew (fun a' => wpList P l.toArray Q (l.drop n) a' w.drew) (l.take n) a) : (Code.region id l.toArray true).wp P Q a w := wp_region_still_tail n hm hB h
def orL : List Int → Int
  | [] => 0
  | x :: r => if x ≠ 0 then x else orL r
theorem orL_drop {xs : List Int} {k : Nat} {x : Int} (h : xs[k]? = some x) : orL (xs.drop k) = if x ≠ 0 then x else orL (xs.drop (k + 1)) := by
  obtain ⟨hk, rfl⟩ := List.getElem?_eq_some_iff.1 h
  rw [List.drop_eq_getElem_cons hk]
  rfl
theorem or_calls (ad : Addr) (c : Nat) (xs : List Int) (w : World) (hc : ∀ k x, xs[k]? = some x → w.cell? (ad.add k) = some (.int .i64 x)) (hn : xs.length ≤ 1000000) :
    Calls Try.prog 58 #[.slice (some ad) xs.length c] w fun e w' => e = .returned (.int .i64 (orL xs)) ∧ w = w' := by
  have HC := Aside0.mk hc
  clear hc
  go_enter Try.func58, Try.ntmps58
  go_wp2
  go_loop [5, 8] (fun _ i => ∃ k : Nat, k ≤ xs.length ∧ i = .int .i64 k ∧ Aside0 (orL (xs.drop k) = orL xs)) (fun _ i => xs.length - (intOf i).toNat)
  case atStart => exact ⟨0, Nat.zero_le _, rfl, ⟨rfl⟩⟩
  case round =>
    obtain ⟨k, hk, rfl, HO⟩ := hrel
    by_cases hlt : k < xs.length
    · obtain ⟨x, hx⟩ : ∃ x, xs[k]? = some x := ⟨_, List.getElem?_eq_getElem hlt⟩
      have hcell := HC.out k x hx
      have HO2 := Aside0.mk (HO.out.symm.trans (orL_drop hx))
      clear hx HO
      by_cases h0 : x = 0
      · subst h0
        go_wp2
        go_round
        case rel => exact ⟨k + 1, by omega, by go_num, ⟨by rw [HO2.out]; rfl⟩⟩
        case measure => simp [intOf]; omega
      · have HN := Aside0.mk h0
        have hb : (x != 0) = true := by simpa using h0
        clear h0
        go_wp2
        go_ret
        exact ⟨by rw [HO2.out, if_pos HN.out]; rfl, rfl⟩
    · obtain rfl : k = xs.length := by omega
      go_wp2
      go_ret
      exact ⟨by rw [← HO.out, List.drop_length]; rfl, rfl⟩
theorem or3_calls (g : Nat) (a b c : Int) (w : World) (h0 : w.cell? ⟨g, 0, none⟩ = some (.int .i64 a)) (h1 : w.cell? ⟨g, 1, none⟩ = some (.int .i64 b)) (h2 : w.cell? ⟨g, 2, none⟩ = some (.int .i64 c)) :
    Calls Try.prog 58 #[.slice (some ⟨g, 0, none⟩) 3 3] w fun e w' => e = .returned (.int .i64 (or3 a b c)) ∧ w = w' := by
  have h := or_calls ⟨g, 0, none⟩ 3 [a, b, c] w (fun k x hx => by
    rw [add_plain]
    rcases k with _ | _ | _ | k
    · simp at hx; subst hx; exact h0
    · simp at hx; subst hx; exact h1
    · simp at hx; subst hx; exact h2
    · simp at hx) (by simp)
  have e : orL [a, b, c] = or3 a b c := by unfold or3; simp only [orL]; split <;> (try split) <;> (try split) <;> simp_all
  rw [e] at h
  exact h
def tagV (a : Tag) : Value := .agg #[.int .i64 a.seq, .int .i64 a.who, .int .i64 a.op]
set_option maxHeartbeats 1000000 in
set_option maxRecDepth 100000 in
theorem compareT_calls (a b : Tag) (w : World) : Calls Try.prog 39 #[.agg #[.int .i64 a.seq, .int .i64 a.who, .int .i64 a.op], .agg #[.int .i64 b.seq, .int .i64 b.who, .int .i64 b.op]] w fun e w' => e = .returned (.int .i64 (cmpT a b)) ∧ Below w.heap.size w w' := by
  obtain ⟨a1, a2, a3⟩ := a
  obtain ⟨b1, b2, b3⟩ := b
  go_enter Try.func39, Try.ntmps39
  go_wp2
  refine region_tail 15 (by kernel_rfl) (by kernel_rfl) ?_
  simp only [List.take_succ_cons, List.take_zero, List.drop_succ_cons, List.drop_zero]
  still_step
  still_step
  still_step
  still_step
  still_call (compare_same _ _ _)
  still_step
  still_step
  still_step
  still_step
  still_call (compare_same _ _ _)
  still_step
  still_step
  still_step
  still_step
  still_call (compare_same _ _ _)
  refine wpStill_nil ?_
  go_wp2_with fail
  refine (or3_calls _ (cmp3 a1 b1) (cmp3 a2 b2) (cmp3 a3 b3) _ (by go_simp) (by go_simp) (by go_simp)).mono ?_
  rintro e w' ⟨rfl, rfl⟩
  go_wp2
  go_ret
  exact ⟨rfl, below_drew (below_alloc (below_alloc (below_alloc (Below.refl _ _) _) _) _)⟩
theorem size_zero (k : ByteArray) : k = ByteArray.empty ↔ k.size = 0 := by
  constructor
  · rintro rfl; rfl
  · intro h; exact ByteArray.ext (Array.eq_empty_of_size_eq_zero h)
theorem ret_i64 {a b : Int} (h : a = b) : Ending.returned (.int .i64 a) = .returned (.int .i64 b) := by rw [h]
def TagOk (t : Tag) : Prop := 0 ≤ t.seq ∧ t.seq ≤ 1099511627775 ∧ 0 ≤ t.who ∧ t.who ≤ 1048575 ∧ 0 ≤ t.op ∧ t.op ≤ 1048575 ∧ (t.seq = 0 → t.who = 0 ∧ t.op = 0)
instance (t : Tag) : Decidable (TagOk t) := by unfold TagOk; infer_instance
def chk (t : Tag) : Int := if TagOk t then 0 else 2
theorem chk_no {t : Tag} (h : ¬ TagOk t) : chk t = 2 := if_neg h
theorem chk_ok {t : Tag} (h : TagOk t) : chk t = 0 := if_pos h
theorem none_calls (a1 a2 a3 : Int) (w : World) : Calls Try.prog 38 #[.agg #[.int .i64 a1, .int .i64 a2, .int .i64 a3]] w fun e w' => e = .returned (.bool (a1 == 0)) ∧ Below w.heap.size w w' := by
  go_enter Try.func38, Try.ntmps38
  go_wp2
  go_ret
  exact ⟨rfl, below_alloc (Below.refl _ _) _⟩
set_option maxRecDepth 100000 in
theorem check_calls (a1 a2 a3 : Int) (w : World) : Calls Try.prog 57 #[.agg #[.int .i64 a1, .int .i64 a2, .int .i64 a3]] w fun e w' => e = .returned (.int .i64 (chk ⟨a1, a2, a3⟩)) ∧ Below w.heap.size w w' := by
  go_enter Try.func57, Try.ntmps57
  go_wp2
  all_goals
    go_ret
    refine ⟨by first | (rw [chk_no (by unfold TagOk; dsimp only; omega)]; rfl) | (rw [chk_ok (by unfold TagOk; dsimp only; omega)]; rfl), ?_⟩
    repeat (first | exact Below.refl _ _ | refine below_alloc ?_ _ | refine below_drew ?_)
def EntOk (e : Entry) : Prop := 1 ≤ e.key.size ∧ e.key.size ≤ 250 ∧ e.val.b.length ≤ 60000 ∧ (e.val.has = false → e.val.b.length = 0) ∧ TagOk e.tag ∧ (e.tag.seq = 0 → e.val.has = false)
instance (e : Entry) : Decidable (EntOk e) := by unfold EntOk; infer_instance
def rgt (e : Entry) : Int := if EntOk e then 0 else 2
theorem rgt_no {e : Entry} (h : ¬ EntOk e) : rgt e = 2 := if_neg h
theorem rgt_ok {e : Entry} (h : EntOk e) : rgt e = 0 := if_pos h
set_option maxRecDepth 100000 in
theorem right_calls (k : ByteArray) (a1 a2 a3 : Int) (h : Bool) (A : Option Addr) (c : Nat) (b : List UInt8) (w : World) (hk : k.size ≤ 140737488351232) (hb : b.length ≤ 140737488351232) :
    Calls Try.prog 37 #[.agg #[.string k, .int .i64 a1, .int .i64 a2, .int .i64 a3, .bool h, .slice A b.length c]] w fun e w' => e = .returned (.int .i64 (rgt ⟨k, ⟨a1, a2, a3⟩, ⟨h, b⟩⟩)) ∧ Below w.heap.size w w' := by
  go_enter Try.func37, Try.ntmps37
  go_wp2_with (first | ((with_reducible refine (check_calls _ _ _ _).mono ?_); rintro e w' ⟨rfl, hb1⟩; have HB := Aside0.mk hb1; have hcc := (bcell hb1).1; have hz : w.heap.size < w'.heap.size := (by have := hb1.size; simp at this; omega); clear hb1) | ((with_reducible refine (none_calls _ _ _ _).mono ?_); rintro e w' ⟨rfl, hb1⟩; have HB2 := Aside0.mk hb1; have hcc2 := (bcell hb1).1; clear hb1))
  all_goals
    have hke : k = ByteArray.empty ↔ k.size = 0 := size_zero k
    go_ret
    refine ⟨?_, ?_⟩
    · refine ret_i64 ?_
      grind [rgt, EntOk, chk]
    · first
      | exact below_alloc (Below.refl _ w) _
      | exact Below.then_ (below_alloc (Below.refl _ w) _) HB.out (Nat.le_refl _)
      | exact Below.then_ (Below.then_ (below_alloc (Below.refl _ w) _) HB.out (Nat.le_refl _)) HB2.out (Nat.le_refl _)
theorem size_calls (k : ByteArray) (a1 a2 a3 : Int) (h : Bool) (A : Option Addr) (c : Nat) (b : List UInt8) (w : World) (hk : k.size ≤ 140737488351232) (hb : b.length ≤ 140737488351232) :
    Calls Try.prog 60 #[.agg #[.string k, .int .i64 a1, .int .i64 a2, .int .i64 a3, .bool h, .slice A b.length c]] w fun e w' => e = .returned (.int .i64 ((k.size + b.length : Nat) : Int)) ∧ Below w.heap.size w w' := by
  go_enter Try.func60, Try.ntmps60
  go_wp2
  go_ret
  exact ⟨ret_i64 (by simp), below_alloc (Below.refl _ _) _⟩
/-- What a copy is: its own bytes. -/
def Copied (W w' : World) (e : Entry) (cs : List Value) : Prop := BK Entry.k w' e cs ∧ Kd.FK Entry.k w' (fun k => W.heap.size ≤ k) e cs ∧ Below W.heap.size W w'
def CopyTold (w : World) (e : Entry) (r : Ending) (w' : World) : Prop := ∃ cs, r = .returned (.agg cs) ∧ Copied w w' e cs.toList
set_option maxRecDepth 100000 in
theorem copy_calls (e : Entry) (A : Option Addr) (c : Nat) (w : World) (hK : Entry.k.K w e [.string e.key, .int .i64 e.tag.seq, .int .i64 e.tag.who, .int .i64 e.tag.op, .bool e.val.has, .slice A e.val.b.length c]) (hl : e.val.b.length ≤ 140737488351232) :
    Calls Try.prog 43 #[.agg #[.string e.key, .int .i64 e.tag.seq, .int .i64 e.tag.who, .int .i64 e.tag.op, .bool e.val.has, .slice A e.val.b.length c]] w (CopyTold w e) := by
  obtain ⟨A5, c5, he, s0, r1, r2, r3, l5, g5⟩ := Entry.open_ hK
  simp only [List.cons.injEq, Value.slice.injEq, true_and, and_true] at he
  obtain ⟨rfl, rfl⟩ := he
  have HG := Aside0.mk g5
  have HR := Aside0.mk (And.intro s0 (And.intro r1 (And.intro r2 r3)))
  clear hK g5 r1 r2 r3 s0
  obtain ⟨ek, ⟨a1, a2, a3⟩, ⟨h, b⟩⟩ := e
  dsimp only at *
  go_enter Try.func43, Try.ntmps43
  go_wp2_with (first | (at_builtin; refine ownB_copy rfl _ _ rfl rfl (A := A) (c := c) (xs := b) rfl (Kd.C_below HG.out (below_alloc (below_alloc (Below.refl _ _) _) _)) (by omega) ?_; intro A' c' w1 hl1 hC1 hF1 hB1; have H1 := Aside0.mk (And.intro hl1 (And.intro hC1 (And.intro hF1 hB1))); have hz : w.heap.size + 1 < w1.heap.size := (by have := hB1.size; simp at this; omega); have B0 := (((Blk.new w [.string ek, .int .i64 a1, .int .i64 a2, .int .i64 a3, .bool h, .slice A b.length c] 37).alloc (.cells #[.string ByteArray.empty, .int .i64 0, .int .i64 0, .int .i64 0, .bool false, .slice none 0 0] 37)).on hB1).six; have B1 := ((Blk.new_ (w.alloc (.cells #[.string ek, .int .i64 a1, .int .i64 a2, .int .i64 a3, .bool h, .slice A b.length c] 37)) #[.string ByteArray.empty, .int .i64 0, .int .i64 0, .int .i64 0, .bool false, .slice none 0 0] 37 (g := w.heap.size + 1) (by simp) rfl).on hB1).six; obtain ⟨⟨x0, x1, x2, x3, x4, x5⟩, f0, f1, f2, f3, f4, f5⟩ := B0; obtain ⟨⟨y0, y1, y2, y3, y4, y5⟩, g0, g1, g2, g3, g4, g5⟩ := B1; clear hl1 hC1 hF1 hB1))
  obtain ⟨⟨h1, h2, h3, h4⟩⟩ := H1
  refine bodyPost_ret (v := .agg #[.string ek, .int .i64 a1, .int .i64 a2, .int .i64 a3, .bool h, .slice A' b.length c']) (by simp [results, Try.results43, go_sem, x0, x1, x2, x3, x4, x5, y0, y1, y2, y3, y4, y5]; try rfl) rfl ?_
  have ho : Only [w.heap.size, w.heap.size + 1] w1 _ := (((((((Only.refl _ w1).set (p := ⟨w.heap.size, 5, none⟩) (.slice A' b.length c') (by simp)).set (p := ⟨w.heap.size + 1, 0, none⟩) (.string ek) (by simp)).set (p := ⟨w.heap.size + 1, 1, none⟩) (.int .i64 a1) (by simp)).set (p := ⟨w.heap.size + 1, 2, none⟩) (.int .i64 a2) (by simp)).set (p := ⟨w.heap.size + 1, 3, none⟩) (.int .i64 a3) (by simp)).set (p := ⟨w.heap.size + 1, 4, none⟩) (.bool h) (by simp)).set (p := ⟨w.heap.size + 1, 5, none⟩) (.slice A' b.length c') (by simp)
  have hn : ∀ ad, A' = some ad → ad.block ∉ [w.heap.size, w.heap.size + 1] := fun ad e => by have := (h3 ad e).1; simp at this; simp; omega
  have hf := Foot.only (kU8_in (ok := fun k => w.heap.size + 2 ≤ k) h2 (fun ad e => by have := (h3 ad e).1; simp at this; omega)) ho (fun i hi => by simp; omega)
  have hg := kU8_in (ok := fun k => Ty w1 5 k ∧ k ∉ [w.heap.size, w.heap.size + 1]) h2 (fun ad e => ⟨(h3 ad e).2, hn ad e⟩)
  have hg := Foot.mono (Foot.only hg ho (fun i hi => hi.2)) (ok' := Ty _ 5) (fun i hi => hi.1.only ho hi.2)
  refine ⟨_, rfl, fun W' hW => Entry.mk_ W' ⟨ek, ⟨a1, a2, a3⟩, ⟨h, b⟩⟩ HR.out.1 HR.out.2.1 HR.out.2.2.1 HR.out.2.2.2 h1 (hg W' hW), fun W' hW => Entry.mk_ W' ⟨ek, ⟨a1, a2, a3⟩, ⟨h, b⟩⟩ HR.out.1 HR.out.2.1 HR.out.2.2.1 HR.out.2.2.2 h1 ?_, ?_⟩
  · exact hf W' (fun k hk hlt => hW k (by omega) hlt)
  · exact (Only.of_below [w.heap.size, w.heap.size + 1] (Below.then_ (below_alloc (below_alloc (Below.refl _ w) _) _) h4 (Nat.le_refl _))).trans ho |>.below (by simp) (Nat.le_refl _)
end Tags
end Go.Proofs.Ytgfjkpnaabiecaa
