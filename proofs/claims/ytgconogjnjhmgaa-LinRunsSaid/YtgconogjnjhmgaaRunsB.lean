/- LinRuns: words for its end: a row whose things lie elsewhere, and what bounds a history's notes. -/
import Derived.Test.YtgconogjnjhmgaaRunsA
namespace Go.Proofs.Ytgconogjnjhmgaa
open Go.RowKit Go.Proofs.YtgconogjnjhmgaaW.PrintWords
namespace RunsB
open LinA LinB LinC LinD LinE LinF LinG LinH RightA DeedA DeedsB KeysA LinearA CallsP CallsW RunsP RunsA SameA SameB
theorem heapNote : Kd.Heap Note.k := Kd.heap_iso _ (Kd.heap_pair Kd.heap_bool (Kd.heap_pair
  (Kd.heap_iso _ (Kd.heap_pair ⟨fun _ h => h⟩ (Kd.heap_pair ⟨fun _ h => h⟩ (Kd.heap_pair ⟨fun _ h => h⟩ (Kd.heap_slice _ ⟨fun _ h => h⟩)))))
  (Kd.heap_iso _ (Kd.heap_pair ⟨fun _ h => h⟩ (Kd.heap_pair ⟨fun _ h => h⟩ (Kd.heap_iso _ (Kd.heap_pair Kd.heap_bool (Kd.heap_slice _ ⟨fun _ h => h⟩))))))))
/-- A note whose things lie elsewhere than in this row. -/
def RFN (W : World) (row : Option Nat) (x : Note) (cs : List Value) : Prop := cs.length = 9 ∧ Kd.FK Note.k W (fun k => some k ≠ row) x cs
theorem RFN.one {W : World} {row : Option Nat} {x : Note} {cs : List Value} (h : RFN W row x cs) : ∀ u ∈ cs, u.oneCell' = true := Note.k.K_one (Kd.FK_now h.2)
theorem RFN.grown {W W1 : World} {v v1 : Value} {x : Note} {cs : List Value} (h : RFN W v.ownBlock x cs) (hg : W.grownBy W1 v.ownBlock) (hat : v1.ownBlock = v.ownBlock ∨ ∃ b, v1.ownBlock = some b ∧ W.heap.size ≤ b) : RFN W1 v1.ownBlock x cs := by
  refine ⟨h.1, Foot.mono ((Foot.bound h.2).step (fun k hk hlt => hg.block k hlt hk.1)) (fun k hk => ?_)⟩
  rcases hat with hat | ⟨b, hat, hlt⟩
  · rw [hat]; exact hk.1
  · rw [hat]
    intro e
    injection e with e
    have := hk.2
    omega
theorem rn_rfn {w W : World} {row : Option Nat} {x : Note} {cs : List Value} (h : RN w x cs) (hb : Below w.heap.size w W) (hr : ∀ b, row = some b → w.heap.size ≤ b) : RFN W row x cs := by
  refine ⟨h.1, fun W' hW => heapNote.K (w := w) (fun k hk => ?_) (h.2.2 w (Below.refl _ _))⟩
  rw [hW k (fun e => by have := hr k e.symm; omega) (Nat.lt_of_lt_of_le hk hb.size)]
  exact hb.block k hk
theorem reads2' {R : Note → List Value → Prop} {W : World} {x y : Note} {cs ds : List Value} {g : Nat} (h : R x cs) (l1 : cs.length = 9) (h2 : R y ds) (l2 : ds.length = 9) (hB : Blk W g (cs ++ ds)) : ReadsRow R 9 W (some ⟨g, 0, none⟩) 2 [x, y] := by
  refine ⟨rfl, by omega, fun _ => ⟨_, rfl, fun j p hj => ?_⟩⟩
  rcases j with _ | _ | j
  · simp at hj
    subst hj
    refine ⟨cs, l1, h, fun i u hu => ?_⟩
    rw [add_plain]
    have := hB.cell i (v := u) (by rw [List.getElem?_append_left (List.getElem?_eq_some_iff.1 hu).1]; exact hu)
    simpa using this
  · simp at hj
    subst hj
    refine ⟨ds, l2, h2, fun i u hu => ?_⟩
    rw [add_plain]
    have := hB.cell (9 + i) (v := u) (by rw [List.getElem?_append_right (by rw [l1]; omega), l1]; simpa using hu)
    simpa using this
  · simp at hj
theorem kU8_foot2 {w : World} {A : Option Addr} {n : Nat} {xs : List UInt8} {ok : Nat → Prop} (h : kU8.C w A n xs) (hA : ∀ ad, A = some ad → ok ad.block) : Foot (fun W => kU8.C W A n xs) w ok := by
  intro W' hW
  obtain ⟨h1, h2, h3⟩ := h
  refine ⟨h1, h2, fun hn => ?_⟩
  obtain ⟨ad, e, hc⟩ := h3 hn
  refine ⟨ad, e, fun j p hj => ?_⟩
  obtain ⟨cs, k1, k2, k3⟩ := hc j p hj
  refine ⟨cs, k1, k2, fun q u hq => ?_⟩
  have hx := k3 q u hq
  have hb := World.block_lt_of_cell? w _ hx
  rw [← hx]
  refine World.cell?_of_block (w := w) (hW _ ?_ hb)
  rw [adr_block]
  exact hA ad e
/-- Bytes in a block of the call's own. -/
theorem kU8_blk {W : World} {g : Nat} {bs : List UInt8} (h : ∀ i v, (bs.map fun b => Value.int .u8 (b.toNat : Int))[i]? = some v → W.cell? ⟨g, i, none⟩ = some v) (hl : bs.length ≤ 9223372036854775807) : kU8.C W (some ⟨g, 0, none⟩) bs.length bs := by
  refine ⟨rfl, hl, fun _ => ⟨_, rfl, fun j p hj => ⟨[.int .u8 (p.toNat : Int)], rfl, rfl, fun i u hu => ?_⟩⟩⟩
  rcases i with _ | i
  · simp at hu
    subst hu
    rw [add_plain]
    have e1 : j * kU8.sz + 0 = j := by show j * 1 + 0 = j; omega
    have := h j (.int .u8 (p.toNat : Int)) (by rw [List.getElem?_map, hj]; rfl)
    rw [e1]
    exact this
  · simp at hu
theorem rfn_c50 (W : World) (row : Option Nat) : RFN W row c50 (cells_ 50 1 kk none 0 0) :=
  ⟨rfl, fun W' _ => Note.mk_ W' c50 (inr_nat (n := 50) (by decide)) (inr_nat (n := 1) (by decide)) (show kk.size ≤ 140737488351232 by decide) (Nat.le_refl _) (nil8 _) inr0 inr0 (Nat.le_refl _) (nil8 _)⟩
def acs (i : Int) (h : Bool) (A : Option Addr) (n c : Nat) : List Value := [.bool true, .int .i64 0, .int .i64 0, .string ByteArray.empty, .slice none 0 0, .int .i64 i, .int .i64 0, .bool h, .slice A n c]
theorem rfn_a50 {W : World} {row : Option Nat} {g : Nat} (hk : kU8.C W (some ⟨g, 0, none⟩) 27 never) (hne : some g ≠ row) : RFN W row a50 (acs 50 true (some ⟨g, 0, none⟩) 27 27) :=
  ⟨rfl, fun W' hW => Note.mk_ W' a50 inr0 inr0 (show ByteArray.empty.size ≤ 140737488351232 by decide) (Nat.le_refl _) (nil8 _) (inr_nat (n := 50) (by decide)) inr0 (Nat.le_refl 27) (kU8_foot2 (ok := fun k => some k ≠ row) hk (fun ad e => by injection e with e; subst e; exact hne) W' hW)⟩
def neverV : List Value := [.int .u8 119, .int .u8 104, .int .u8 97, .int .u8 116, .int .u8 32, .int .u8 119, .int .u8 97, .int .u8 115, .int .u8 32, .int .u8 110, .int .u8 101, .int .u8 118, .int .u8 101, .int .u8 114, .int .u8 32, .int .u8 119, .int .u8 114, .int .u8 105, .int .u8 116, .int .u8 116, .int .u8 101, .int .u8 110, .int .u8 32, .int .u8 104, .int .u8 101, .int .u8 114, .int .u8 101]
theorem never_map : (never.map fun b => Value.int .u8 (b.toNat : Int)) = neverV := rfl
theorem never_C {w : World} {t : TypeId} {fr : Nat × Nat} {o : Obj} : kU8.C ((w.alloc (.cells neverV.toArray t fr)).alloc o) (some ⟨w.heap.size, 0, none⟩) 27 never :=
  kU8_blk (bs := never) (fun i v h => cell_alloc (cell_new w _ t fr i v (by rw [never_map] at h; simpa using h)) o) (by decide)
variable {xs : List Call}
theorem hv_len (hb : ∀ x ∈ xs, x.b.length ≤ 20) : ∀ k, (hv xs k).b.length ≤ 20
  | 0 => Nat.zero_le _
  | k + 1 => by
    rw [hv_succ]
    split
    · exact hv_len hb k
    · split
      · rcases Nat.lt_or_ge k xs.length with h | h
        · exact hb _ (by rw [List.getD_eq_getElem?_getD, List.getElem?_eq_getElem h]; exact List.getElem_mem h)
        · rw [List.getD_eq_getElem?_getD, List.getElem?_eq_none h]; exact Nat.zero_le _
      · exact Nat.zero_le _
theorem aV_len (hb : ∀ x ∈ xs, x.b.length ≤ 20) (j : Nat) : (aV xs j).b.length ≤ 20 := by
  unfold aV
  split
  · exact hv_len hb j
  · exact Nat.zero_le _
theorem inter_bd (hb : ∀ x ∈ xs, x.b.length ≤ 20) {b e : Nat} {h : List Note} (hi : Inter xs b e h) : ∀ x ∈ h, NBd x := by
  induction hi with
  | nil => intro x hx; cases hx
  | @call b e h hi hlt ih =>
    intro x hx
    rcases List.mem_append.1 hx with h1 | h1
    · exact ih x h1
    · rw [List.mem_singleton] at h1
      subst h1
      have := hb (xs.getD b Call.z) (by rw [List.getD_eq_getElem?_getD, List.getElem?_eq_getElem hlt]; exact List.getElem_mem hlt)
      exact ⟨by show (xs.getD b Call.z).b.length ≤ _; omega, by show 0 ≤ _; omega⟩
  | @answer b e h hi hlt ih =>
    intro x hx
    rcases List.mem_append.1 hx with h1 | h1
    · exact ih x h1
    · rw [List.mem_singleton] at h1
      subst h1
      have := aV_len hb e
      exact ⟨by show 0 ≤ _; omega, by show (aV xs e).b.length ≤ _; omega⟩
theorem bd2 {h : List Note} (hb : ∀ x ∈ h, NBd x) : ∀ x ∈ h ++ [c50, a50], NBd x := by
  intro x hx
  rcases List.mem_append.1 hx with h1 | h1
  · exact hb x h1
  · simp at h1
    rcases h1 with rfl | rfl
    · exact ⟨by show 0 ≤ _; omega, by show 0 ≤ _; omega⟩
    · exact ⟨by show 0 ≤ _; omega, by show 27 ≤ _; omega⟩
end RunsB
end Go.Proofs.Ytgconogjnjhmgaa
