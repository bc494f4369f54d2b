/- LinCalls, walked: the statement's own function returns true. -/
import Derived.Test.YtgconogjnjhmgaaCallsP
import Derived.Test.YtgconogjnjhmgaaSameB
import Derived.Test.YtgconogjnjhmgaaLinI
namespace Go.Proofs.Ytgconogjnjhmgaa
open Go.RowKit Go.Proofs.YtgconogjnjhmgaaW.PrintWords
namespace CallsW
open LinA LinB LinC LinD LinE LinF LinG LinH LinI RightA DeedA DeedsB KeysA LinearA CallsP SameB
attribute [local go_sem ↓] Go.wp_at_zero Go.wp_at_succ
def isC (xs : List Note) (i : Nat) : Bool := !(xs.getD i Note.z).isAnswer
/-- How many calls are among the first k notes. -/
def nTo (xs : List Note) (k : Nat) : Nat := ((List.range k).filter (isC xs)).length
theorem nTo_succ (xs : List Note) (k : Nat) : nTo xs (k + 1) = nTo xs k + (if isC xs k then 1 else 0) := by
  unfold nTo
  rw [List.range_succ, List.filter_append, List.length_append]
  cases h : isC xs k <;> simp [h]
theorem nTo_le (xs : List Note) (k : Nat) : nTo xs k ≤ k := by
  unfold nTo
  exact Nat.le_trans (List.length_filter_le _ _) (by simp)
theorem nTo_mono (xs : List Note) {j k : Nat} (h : j ≤ k) : nTo xs j ≤ nTo xs k := by
  induction h with
  | refl => exact Nat.le_refl _
  | step _ ih => rw [nTo_succ]; omega
def NTold (n : Nat) (w : World) (e : Ending) (w' : World) : Prop := e = .returned (.int .i64 n) ∧ Below w.heap.size w w'
set_option maxRecDepth 100000 in
set_option maxHeartbeats 1000000 in
theorem ncalls_calls (A : Option Addr) (c : Nat) (xs : List Note) (w : World) (hr : Note.k.C w A xs.length xs) (hn : xs.length ≤ 1300000000000) :
    Calls Try.prog 16 #[.slice A xs.length c] w (NTold (nTo xs xs.length) w) := by
  have HR := Aside0.mk hr
  clear hr
  go_enter Try.func16, Try.ntmps16
  go_wp2_with fail
  go_loopw [3, 4] (fun v3 v4 wr => ∃ k : Nat, v4 = .int .i64 k ∧ v3 = .int .i64 (nTo xs k) ∧ k ≤ xs.length ∧ Aside0 (Below w.heap.size w wr)) (fun _ v _ => xs.length - (intOf v).toNat)
  case atStart => exact ⟨0, rfl, rfl, Nat.zero_le _, ⟨Below.refl _ _⟩⟩
  case round =>
    obtain ⟨k, rfl, rfl, hk, HB⟩ := hrel
    by_cases hlt : k < xs.length
    · obtain ⟨ad, x, A4, c4, A8, c8, rfl, HA, x0, x1, x2, x3, x4, x5, x6, x7, x8, HKX⟩ := Note.at_ (Kd.C_below HR.out HB.out) k hlt
      have hXK : isC xs k = !x.isAnswer := by unfold isC; rw [List.getD_eq_getElem?_getD, HA.out]; rfl
      have h0 : (0 : Int) ≤ (k : Int) := by omega
      have h1 : (k : Int) < (xs.length : Int) := by omega
      have hle := nTo_le xs k
      have hs := nTo_succ xs k
      rw [hXK] at hs
      have HS := Aside0.mk hs
      clear x1 x2 x3 x4 x5 x6 x7 x8 HKX hs hXK
      obtain ⟨xa, xc, xb⟩ := x
      cases xa with
      | true =>
        go_wp2_with fail
        go_roundw
        case rel => exact ⟨k + 1, by go_num, by rw [HS.out]; rfl, by omega, HB⟩
        case measure => simp [intOf]; omega
      | false =>
        have hw : IntKind.i64.wrap ((nTo xs k : Nat) + 1) = ((nTo xs k : Nat) : Int) + 1 := wrap_small _ (by omega) (by omega)
        go_wp2_with fail
        go_roundw
        case rel => exact ⟨k + 1, by go_num, by rw [HS.out]; simp, by omega, HB⟩
        case measure => simp [intOf]; omega
    · obtain rfl : k = xs.length := by omega
      go_wp2_with fail
      go_ret
      exact ⟨rfl, HB.out⟩
/-- The call of note i, numbered anew. -/
def cOf (i : Nat) (x : Note) : Note := ⟨false, ⟨2 * (i : Int), x.call.kind, x.call.key, x.call.b⟩, Answer.z⟩
def cTo (xs : List Note) (k : Nat) : List Note := ((List.range k).filter (isC xs)).map (fun i => cOf i (xs.getD i Note.z))
theorem cTo_succ (xs : List Note) (k : Nat) : cTo xs (k + 1) = cTo xs k ++ (if isC xs k then [cOf k (xs.getD k Note.z)] else []) := by
  unfold cTo
  rw [List.range_succ, List.filter_append, List.map_append]
  cases h : isC xs k <;> simp [h]
theorem cTo_length (xs : List Note) (k : Nat) : (cTo xs k).length = nTo xs k := by unfold cTo nTo; rw [List.length_map]
theorem cTo_calm (xs : List Note) (k : Nat) : CallsP.Calm (cTo xs k) := by
  refine ⟨fun x hx => ?_, ?_, fun x hx => ?_⟩
  · unfold cTo at hx
    obtain ⟨i, _, rfl⟩ := List.mem_map.1 hx
    rfl
  · unfold cTo
    rw [List.pairwise_map]
    refine List.Pairwise.filter _ ?_
    refine List.Pairwise.imp ?_ List.pairwise_lt_range
    intro a b hab e
    have e' : 2 * (a : Int) = 2 * (b : Int) := e
    omega
  · unfold cTo at hx
    obtain ⟨i, _, rfl⟩ := List.mem_map.1 hx
    show 2 * (i : Int) ≠ 99
    omega
theorem cTo_mem {xs : List Note} {k : Nat} (hk : k ≤ xs.length) {x : Note} (hx : x ∈ cTo xs k) : ∃ i, i < xs.length ∧ x = cOf i (xs.getD i Note.z) := by
  unfold cTo at hx
  obtain ⟨i, hi, rfl⟩ := List.mem_map.1 hx
  rw [List.mem_filter, List.mem_range] at hi
  exact ⟨i, by omega, rfl⟩
/-- A note that reads so in every world that is to come. -/
def RN (w : World) (x : Note) (cs : List Value) : Prop := cs.length = 9 ∧ (∀ u ∈ cs, u.oneCell' = true) ∧ ∀ W', Below w.heap.size w W' → Note.k.K W' x cs
theorem reads1 {w W : World} {x : Note} {cs : List Value} {g : Nat} (h : RN w x cs) (hB : Blk W g cs) : ReadsRow (RN w) 9 W (some ⟨g, 0, none⟩) 1 [x] := by
  refine ⟨rfl, by omega, fun _ => ⟨_, rfl, fun j p hj => ?_⟩⟩
  rcases j with _ | j
  · simp at hj
    subst hj
    exact ⟨cs, h.1, h, fun i u hu => by rw [add_plain]; simpa using hB.cell i hu⟩
  · simp at hj
theorem reads2 {w W : World} {x y : Note} {cs ds : List Value} {g : Nat} (h : RN w x cs) (h2 : RN w y ds) (hB : Blk W g (cs ++ ds)) : ReadsRow (RN w) 9 W (some ⟨g, 0, none⟩) 2 [x, y] := by
  refine ⟨rfl, by omega, fun _ => ⟨_, rfl, fun j p hj => ?_⟩⟩
  rcases j with _ | _ | j
  · simp at hj
    subst hj
    refine ⟨cs, h.1, h, fun i u hu => ?_⟩
    rw [add_plain]
    have := hB.cell i (v := u) (by rw [List.getElem?_append_left (List.getElem?_eq_some_iff.1 hu).1]; exact hu)
    simpa using this
  · simp at hj
    subst hj
    refine ⟨ds, h2.1, h2, fun i u hu => ?_⟩
    rw [add_plain]
    have := hB.cell (9 + i) (v := u) (by rw [List.getElem?_append_right (by rw [h.1]; omega), h.1]; simpa using hu)
    simpa using this
  · simp at hj
def cells_ (i : Int) (k : Int) (key : ByteArray) (A : Option Addr) (n c : Nat) : List Value := [.bool false, .int .i64 i, .int .i64 k, .string key, .slice A n c, .int .i64 0, .int .i64 0, .bool false, .slice none 0 0]
theorem inr0 : InR .i64 0 := InR.mk64 (by decide) (by decide)
theorem rn_call {w : World} {x : Note} {A4 A8 : Option Addr} {c4 c8 : Nat} (i : Nat) (hi : i ≤ 1300000000000) (h : Note.k.K w x [.bool x.isAnswer, .int .i64 x.call.id_, .int .i64 x.call.kind, .string x.call.key, .slice A4 x.call.b.length c4, .int .i64 x.answer.id_, .int .i64 x.answer.e, .bool x.answer.val.has, .slice A8 x.answer.val.b.length c8]) :
    RN w (cOf i x) (cells_ (2 * (i : Int)) x.call.kind x.call.key A4 x.call.b.length c4) := by
  obtain ⟨_, _, _, _, he, r1, r2, s3, l4, g4, r5, r6, l8, g8⟩ := Note.open_ h
  simp only [List.cons.injEq, Value.slice.injEq, true_and, and_true] at he
  obtain ⟨⟨rfl, rfl⟩, rfl, rfl⟩ := he
  refine ⟨rfl, by intro u hu; simp [cells_] at hu; rcases hu with rfl | rfl | rfl | rfl | rfl | rfl | rfl | rfl | rfl <;> rfl, fun W' hW => ?_⟩
  exact Note.mk_ W' (cOf i x) (InR.mk64 (by show (-9223372036854775808 : Int) ≤ 2 * (i : Int); omega) (by show 2 * (i : Int) ≤ 9223372036854775807; omega)) r2 s3 l4 (Kd.C_below g4 hW) inr0 inr0 (Nat.le_refl _) (nil8 _)
theorem rn99 (w : World) : RN w n99 (cells_ 99 1 ⟨#[113]⟩ none 0 0) := by
  refine ⟨rfl, by intro u hu; simp [cells_] at hu; rcases hu with rfl | rfl | rfl | rfl | rfl | rfl | rfl | rfl | rfl <;> rfl, fun W' _ => ?_⟩
  exact Note.mk_ W' n99 (inr_nat (n := 99) (by decide)) (inr_nat (n := 1) (by decide)) (by decide) (Nat.le_refl _) (nil8 _) inr0 inr0 (Nat.le_refl _) (nil8 _)
def acells : List Value := [.bool true, .int .i64 0, .int .i64 0, .string ByteArray.empty, .slice none 0 0, .int .i64 99, .int .i64 0, .bool false, .slice none 0 0]
theorem rna99 (w : World) : RN w a99 acells := by
  refine ⟨rfl, by intro u hu; simp [acells] at hu; rcases hu with rfl | rfl | rfl | rfl | rfl | rfl | rfl | rfl | rfl <;> rfl, fun W' _ => ?_⟩
  exact Note.mk_ W' a99 inr0 inr0 (by decide) (Nat.le_refl _) (nil8 _) (inr_nat (n := 99) (by decide)) inr0 (Nat.le_refl _) (nil8 _)
theorem full_bd {xs : List Note} (hb : ∀ x ∈ xs, NBd x) : ∀ x ∈ full99 (cTo xs xs.length), NBd x := by
  intro x hx
  unfold full99 at hx
  rcases List.mem_append.1 hx with h | h
  · obtain ⟨i, hi, rfl⟩ := cTo_mem (Nat.le_refl _) h
    exact ⟨(hb _ (getD_mem hi)).1, by show 0 ≤ _; omega⟩
  · simp at h
    rcases h with rfl | rfl <;> exact ⟨by show 0 ≤ _; omega, by show 0 ≤ _; omega⟩
theorem cut_take (A : Option Addr) (n c m : Nat) (hm : m ≤ c) (W : World) : (Instr.slice 37 (.slice A n c) none (some (.int .i64 (m : Int))) none).run Try.prog W = .ok (.slice A m c) W := by
  have hel : Try.prog.elem 37 = 59 := by simp [Program.elem, Try.underlying37]
  have hu : Try.prog.underlying 37 = some (.slice (Try.prog.elem 37)) := by rw [hel]; exact Try.underlying37
  obtain ⟨i, hi, hzz⟩ := Option.map_eq_some_iff.1 infoN
  simp only [Prod.mk.injEq] at hzz
  rw [run_slice_h W 37 A n c hu .i64 (m : Int) (Int.natCast_nonneg _) (by omega), hel]
  simp [sizeOf, typeInfo, hi, hzz.2.1, sliced, Result.andThen]
  intro _
  cases A <;> simp [Addr.add]
def TrueTold (w : World) (e : Ending) (w' : World) : Prop := e = .returned (.bool true) ∧ Below w.heap.size w w'
set_option maxRecDepth 100000 in
set_option maxHeartbeats 8000000 in
theorem linCalls_calls (A : Option Addr) (c : Nat) (xs : List Note) (w : World) (hr : Note.k.C w A xs.length xs) (hn : xs.length ≤ 1300000000000) (hc : xs.length ≤ c) (hb : ∀ x ∈ xs, NBd x) :
    Calls Try.prog 7 #[.slice A xs.length c] w (TrueTold w) := by
  have HR := Aside0.mk hr
  have HBD := Aside0.mk hb
  clear hr hb
  have HLO := Aside0.mk (longH_calls A c xs w HR.out (by omega))
  have HNC : Aside0 (∀ W, Below w.heap.size w W → Calls Try.prog 16 #[.slice A xs.length c] W (NTold (nTo xs xs.length) W)) := ⟨fun W hW => ncalls_calls A c xs W (Kd.C_below HR.out hW) hn⟩
  have hnl := nTo_le xs xs.length
  go_enter Try.func7, Try.ntmps7
  go_wp2_with fail
  refine HLO.out.mono ?_
  rintro e w1 ⟨z, rfl, hb1⟩
  have HB1 := Aside0.mk hb1
  clear hb1
  by_cases hz : 30 < z
  · go_wp2_with (first | ((with_reducible refine (known_true _).mono ?_); rintro e w2 ⟨rfl, hb2⟩; have HB2 := Aside0.mk hb2; clear hb2))
    go_ret
    exact ⟨rfl, below_step HB1.out HB2.out⟩
  · go_wp2_with fail
    refine (HNC.out _ HB1.out).mono ?_
    rintro e w2 ⟨rfl, hb2⟩
    have HB2 := Aside0.mk (below_step HB1.out hb2)
    clear hb2
    by_cases h7 : 7 < nTo xs xs.length
    · have h7' : (7 : Int) < ((nTo xs xs.length : Nat) : Int) := by omega
      go_wp2_with (first | ((with_reducible refine (known_true _).mono ?_); rintro e w3 ⟨rfl, hb3⟩; have HB3 := Aside0.mk hb3; clear hb3))
      go_ret
      exact ⟨rfl, below_step HB2.out HB3.out⟩
    · have h7' : ¬ (7 : Int) < ((nTo xs xs.length : Nat) : Int) := by omega
      go_wp2_with fail
      go_loopw [3, 4] (fun v3 v4 wr => ∃ k : Nat, v4 = .int .i64 k ∧ k ≤ xs.length ∧ Aside0 (Below w.heap.size w wr) ∧ Aside0 (OwnRow (RN w) 59 9 wr w.heap.size v3 (cTo xs k))) (fun _ v4 _ => xs.length - (intOf v4).toNat)
      case atStart => exact ⟨0, rfl, Nat.zero_le _, HB2, ⟨OwnRow.none_ _ _ _ _ _⟩⟩
      case round =>
        obtain ⟨k, rfl, hk, HB, HO⟩ := hrel
        by_cases hlt : k < xs.length
        · obtain ⟨ad, x, A4, c4, A8, c8, rfl, HE, hx0, hx1, hx2, hx3, hx4, hx5, hx6, hx7, hx8, HMM⟩ := Note.at_ HR.out k hlt
          have HXK : Aside0 (xs.getD k Note.z = x) := ⟨by rw [List.getD_eq_getElem?_getD, HE.out]; rfl⟩
          have z0 := pw_cell_below HB.out hx0
          have z1 := pw_cell_below HB.out hx1
          have z2 : wr.cell? ⟨(ad.add (k * 9)).block, (ad.add (k * 9)).off + 1 + 1, none⟩ = _ := pw_cell_below HB.out hx2
          have z3 : wr.cell? ⟨(ad.add (k * 9)).block, (ad.add (k * 9)).off + 1 + 2, none⟩ = _ := pw_cell_below HB.out hx3
          have z4 : wr.cell? ⟨(ad.add (k * 9)).block, (ad.add (k * 9)).off + 1 + 3, none⟩ = _ := pw_cell_below HB.out hx4
          have HRN := Aside0.mk (rn_call k (by omega) HMM.out)
          have HSU := Aside0.mk (cTo_succ xs k)
          have hle : (cTo xs k).length ≤ 7 := by rw [cTo_length]; have := nTo_mono xs hk; omega
          have h0 : (0 : Int) ≤ (k : Int) := by omega
          have h1 : (k : Int) < (xs.length : Int) := by omega
          have hw : IntKind.i64.wrap (2 * (k : Int)) = 2 * (k : Int) := wrap_small _ (by omega) (by omega)
          clear hx0 hx1 hx2 hx3 hx4 hx5 hx6 hx7 hx8 HMM
          obtain ⟨xa, ⟨ci, ck, cy, cb⟩, ⟨ai, ae, av⟩⟩ := x
          cases xa with
          | true =>
            go_wp2_with fail
            go_roundw
            case rel => exact ⟨k + 1, by go_num, by omega, HB, ⟨by rw [HSU.out, if_neg (by unfold isC; rw [HXK.out]; simp), List.append_nil]; exact HO.out⟩⟩
            case measure => simp [intOf]; omega
          | false =>
            go_wp2_with (first | (at_builtin; refine own_append_rows (w0 := w) (R := RN w) w.heap.size rfl _ _ 37 59 _ 9 112 rfl Try.underlying37 infoN rfl (by omega) (by omega) u3 (cTo xs k) [cOf k ⟨false, ⟨ci, ck, cy, cb⟩, ⟨ai, ae, av⟩⟩] (some ⟨wr.heap.size + 1, 0, none⟩) 1 1 rfl (by show Value.slice _ 1 1 = _; simp) (HO.out.below (below_alloc (below_alloc (Below.refl _ _) _) _)) (reads1 HRN.out (Blk.new_ _ _ _ (by simp) rfl)) (fun _ _ h => h.2.1) (below_alloc (below_alloc HB.out _) _) (below_alloc (below_alloc HB.out _) _).size (by omega) ?_; intro v1 w3 hown hB3 hg3 hat3; have HOW := Aside0.mk hown; have HB3 := Aside0.mk hB3; clear hown hB3 hg3 hat3))
            go_roundw
            case rel => exact ⟨k + 1, by go_num, by omega, HB3, ⟨by rw [HSU.out, if_pos (by unfold isC; rw [HXK.out]; rfl), HXK.out]; exact HOW.out⟩⟩
            case measure => simp [intOf]; omega
        · obtain rfl : k = xs.length := by omega
          have hle : (cTo xs xs.length).length ≤ 7 := by rw [cTo_length]; omega
          go_wp2_with (first | (at_builtin; refine own_append_rows (w0 := w) (R := RN w) w.heap.size rfl _ _ 37 59 _ 9 112 rfl Try.underlying37 infoN rfl (by omega) (by omega) u3 (cTo xs xs.length) [n99, a99] (some ⟨wr.heap.size, 0, none⟩) 2 2 rfl (by show Value.slice _ 2 2 = _; simp) (HO.out.below (below_alloc (Below.refl _ _) _)) (reads2 (rn99 w) (rna99 w) (Blk.new_ _ _ _ (by simp) rfl)) (fun _ _ h => h.2.1) (below_alloc HB.out _) (below_alloc HB.out _).size (by omega) ?_; intro v1 w3 hown hB3 hg3 hat3; have HOW := Aside0.mk hown; have HB3 := Aside0.mk hB3; clear hown hB3 hg3 hat3))
          obtain ⟨A', c', rfl, hl2, hC2⟩ := OwnRow.reads (OwnRow.imp_ HOW.out (fun _ _ h => h.2.2 w3 HB3.out))
          have hl3 : (full99 (cTo xs xs.length)).length ≤ 9 := by rw [len99]; omega
          have HLI := Aside0.mk (linear_calls A' c' (full99 (cTo xs xs.length)) w3 hC2 (by omega) hl2 (full_bd HBD.out) (fun key => Nat.le_trans (dTo_length key _ _) (by omega)))
          clear hl2 hC2
          refine HLI.out.mono ?_
          rintro e w4 ⟨b, cc, rfl, hsp, hb4⟩
          obtain ⟨rfl, rfl⟩ := spec99 (cTo_calm xs xs.length) hle hsp
          have HB4 := Aside0.mk (below_step HB3.out hb4)
          clear hsp hb4 HLI
          have HRI : Aside0 (∀ W, Below w.heap.size w W → Calls Try.prog 23 #[.slice A xs.length c] W (fun e w' => e = .returned (.int .i64 (rightC xs)) ∧ Below W.heap.size W w')) := ⟨fun W hW => right_calls A c xs W (Kd.C_below HR.out hW) hn⟩
          by_cases h0 : xs.length = 0
          · have h0' : ((xs.length : Nat) : Int) = 0 := by omega
            go_wp2_with (first | ((with_reducible refine (known_true _).mono ?_); rintro e w5 ⟨rfl, hb5⟩; have HB5 := Aside0.mk hb5; clear hb5))
            go_ret
            exact ⟨rfl, below_step HB4.out HB5.out⟩
          · have h0' : (0 : Int) < ((xs.length : Nat) : Int) := by omega
            cases hrt : rightB xs with
            | false =>
              have hrc : rightC xs = 2 := by unfold rightC; rw [hrt]; rfl
              rw [hrc] at HRI
              clear hrc hrt
              go_wp2_with (first | (refine (HRI.out _ HB4.out).mono ?_; rintro e w5 ⟨rfl, hb5⟩; have HB5 := Aside0.mk hb5; clear hb5) | ((with_reducible refine (known_true _).mono ?_); rintro e w6 ⟨rfl, hb6⟩; have HB6 := Aside0.mk hb6; clear hb6))
              go_ret
              exact ⟨rfl, below_step (below_step HB4.out HB5.out) HB6.out⟩
            | true =>
              have hrc : rightC xs = 0 := by unfold rightC; rw [hrt]; rfl
              rw [hrc] at HRI
              have hrt2 := right_take hrt (xs.length - 1) (by omega)
              have hrc2 : rightC (xs.take (xs.length - 1)) = 0 := by unfold rightC; rw [hrt2]; rfl
              have HRC2 := Aside0.mk hrc2
              clear hrc hrt hrc2 hrt2
              have hct := fun W => cut_take A xs.length c (xs.length - 1) (by omega) W
              have hs1 : IntKind.i64.wrap ((xs.length : Int) - 1) = ((xs.length - 1 : Nat) : Int) := by rw [wrap_small _ (by omega) (by omega)]; omega
              have HRJ : Aside0 (∀ W, Below w.heap.size w W → Calls Try.prog 23 #[.slice A (xs.length - 1) c] W (fun e w' => e = .returned (.int .i64 0) ∧ Below W.heap.size W w')) := ⟨fun W hW => by
                have hl : (xs.take (xs.length - 1)).length = xs.length - 1 := by rw [List.length_take]; omega
                have := right_calls A c (xs.take (xs.length - 1)) W (Kd.C_take (Kd.C_below HR.out hW) (by omega)) (by omega)
                rw [hl, HRC2.out] at this
                exact this⟩
              go_wp2_with (first | (with_reducible refine (HRI.out _ HB4.out).mono ?_; rintro e w5 ⟨rfl, hb5⟩; have HB5 := Aside0.mk (below_step HB4.out hb5); clear hb5))
              refine (HRJ.out _ HB5.out).mono ?_
              rintro e w6 ⟨rfl, hb6⟩
              have HB6 := Aside0.mk (below_step HB5.out hb6)
              clear hb6
              go_wp2_with (first | ((with_reducible refine (known_true _).mono ?_); rintro e w7 ⟨rfl, hb7⟩; have HB7 := Aside0.mk hb7; clear hb7))
              go_ret
              exact ⟨rfl, below_step HB6.out HB7.out⟩
theorem bd_len {xs : List Note} (h : BdS 112 Note.Bd xs) : xs.length ≤ 1300000000000 := by have := h.1; omega
theorem bd_n {xs : List Note} (h : BdS 112 Note.Bd xs) : ∀ x ∈ xs, NBd x := by
  intro x hx
  have hb := h.2 x hx
  exact ⟨by have := hb.2.1.2.2.2.1; omega, by have := hb.2.2.2.2.2.1; omega⟩
end CallsW
end Go.Proofs.Ytgconogjnjhmgaa
