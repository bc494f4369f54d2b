/- Layer hash: sums of bytes, the bucket of a text. -/
import Derived.Test.YtgfjkpnaabiecaaFrame
import Derived.Laws.Bits64
import Derived.WalkSpells
import Derived.IntWalk
set_option linter.unusedVariables false
set_option linter.unusedSimpArgs false
namespace Go.Proofs.Ytgfjkpnaabiecaa
open Go.RowKit Go.Proofs.YtgfjkpnaabiecaaW.PrintWords
namespace Hash
def stepN (h c : Nat) : Nat := ((h ^^^ c) * 1099511628211) % 18446744073709551616
def foldN (h : Nat) : Nat := h ^^^ h / 8589934592
def stirN (h : Nat) : Nat := foldN (foldN (foldN h * 18397679294719823053 % 18446744073709551616) * 14181476777654086739 % 18446744073709551616)
def foldB (f : Nat → Nat → Nat) (h : Nat) (l : List UInt8) : Nat := l.foldl (fun h c => f h c.toNat) h
theorem foldB_append (f : Nat → Nat → Nat) (h : Nat) (a b : List UInt8) : foldB f h (a ++ b) = foldB f (foldB f h a) b := List.foldl_append
theorem foldB_snoc (f : Nat → Nat → Nat) (h : Nat) {l : List UInt8} {k : Nat} {x : UInt8} (hx : l[k]? = some x) : foldB f h (l.take (k + 1)) = f (foldB f h (l.take k)) x.toNat := by
  rw [List.take_add_one, hx, foldB_append]; rfl
theorem foldB_flat (f : Nat → Nat → Nat) (h : Nat) {l : List (List UInt8)} {k : Nat} {x : List UInt8} (hx : l[k]? = some x) : foldB f h (l.take (k + 1)).flatten = foldB f (foldB f h (l.take k).flatten) x := by
  rw [List.take_add_one, hx, List.flatten_append, foldB_append]; simp
def sumB (h : Nat) (l : List UInt8) : Nat := foldB stepN h l
def sum0 (l : List UInt8) : Nat := sumB 14695981039346656037 l
def keyN (s : ByteArray) : Nat := stirN (sum0 s.data.toList)
def bkt (s : ByteArray) (n : Int) : Int := ((keyN s % n.toNat : Nat) : Int)
theorem stepN_lt (h c : Nat) : stepN h c < 18446744073709551616 := Nat.mod_lt _ (by decide)
theorem foldN_lt {h : Nat} (hh : h < 18446744073709551616) : foldN h < 18446744073709551616 := Nat.xor_lt_two_pow (n := 64) (by omega) (by omega)
theorem stirN_lt (h : Nat) : stirN h < 18446744073709551616 := foldN_lt (Nat.mod_lt _ (by decide))
theorem sumB_lt {h : Nat} (l : List UInt8) (hh : h < 18446744073709551616) : sumB h l < 18446744073709551616 := by
  induction l generalizing h with
  | nil => exact hh
  | cons c l ih => exact ih (stepN_lt _ _)
theorem sumB_append (h : Nat) (a b : List UInt8) : sumB h (a ++ b) = sumB (sumB h a) b := foldB_append stepN h a b
theorem bkt_bd (s : ByteArray) {n : Int} (hn : 1 ≤ n) : 0 ≤ bkt s n ∧ bkt s n < n := by
  unfold bkt
  have : keyN s % n.toNat < n.toNat := Nat.mod_lt _ (by omega)
  omega
theorem bkt_one (s : ByteArray) : bkt s 1 = 0 := by have := bkt_bd s (n := 1) (by omega); omega
theorem step_calls (h c : Nat) (hh : h < 18446744073709551616) (hc : c < 256) (w : World) : Calls Try.prog 100 #[.int .u64 (h : Int), .int .u8 (c : Int)] w fun e w' => e = .returned (.int .u64 ((stepN h c : Nat) : Int)) ∧ w = w' := by
  have e1 : Go.bits .xor .u64 (h : Int) (c : Int) = ((h ^^^ c : Nat) : Int) := bits_xor_u64_nat _ _ hh (by omega)
  have hx : h ^^^ c < 18446744073709551616 := Nat.xor_lt_two_pow (n := 64) (by omega) (by omega)
  have e2 : IntKind.u64.wrap (((h ^^^ c : Nat) : Int) * 1099511628211) = ((stepN h c : Nat) : Int) := by rw [IntKind.wrap_u64]; unfold stepN; omega
  have e3 : IntKind.u64.wrap (c : Int) = (c : Int) := by rw [IntKind.wrap_u64]; omega
  generalize h ^^^ c = x at e1 e2 hx
  generalize stepN h c = y at e2
  go_enter Try.func100, Try.ntmps100
  go_wp2
  go_ret
  exact ⟨rfl, rfl⟩
theorem fold_calls (h : Nat) (hh : h < 18446744073709551616) (w : World) : Calls Try.prog 99 #[.int .u64 (h : Int)] w fun e w' => e = .returned (.int .u64 ((foldN h : Nat) : Int)) ∧ w = w' := by
  have e1 : Go.bits .xor .u64 (h : Int) ((h : Int) / 8589934592) = ((foldN h : Nat) : Int) := xorShift_u64 h 8589934592 hh
  generalize foldN h = y at e1
  go_enter Try.func99, Try.ntmps99
  go_wp2
  go_ret
  exact ⟨rfl, rfl⟩
theorem stir_calls (h : Nat) (hh : h < 18446744073709551616) (w : World) : Calls Try.prog 83 #[.int .u64 (h : Int)] w fun e w' => e = .returned (.int .u64 ((stirN h : Nat) : Int)) ∧ w = w' := by
  obtain ⟨a, ha⟩ : ∃ a, a = foldN h := ⟨_, rfl⟩
  obtain ⟨b, hb⟩ : ∃ b, b = a * 18397679294719823053 % 18446744073709551616 := ⟨_, rfl⟩
  obtain ⟨c, hc⟩ : ∃ c, c = foldN b := ⟨_, rfl⟩
  obtain ⟨d, hd⟩ : ∃ d, d = c * 14181476777654086739 % 18446744073709551616 := ⟨_, rfl⟩
  obtain ⟨x, hx⟩ : ∃ x, x = foldN d := ⟨_, rfl⟩
  have e1 : IntKind.u64.wrap ((a : Int) * 18397679294719823053) = (b : Int) := by rw [IntKind.wrap_u64]; omega
  have e2 : IntKind.u64.wrap ((c : Int) * 14181476777654086739) = (d : Int) := by rw [IntKind.wrap_u64]; omega
  have e : stirN h = x := by rw [hx, hd, hc, hb, ha]; rfl
  have lb : b < 18446744073709551616 := by rw [hb]; exact Nat.mod_lt _ (by decide)
  have ld : d < 18446744073709551616 := by rw [hd]; exact Nat.mod_lt _ (by decide)
  rw [e]
  have H1 := fold_calls h hh
  have H2 := fold_calls b lb
  have H3 := fold_calls d ld
  rw [← ha] at H1
  rw [← hc] at H2
  rw [← hx] at H3
  have H1 := Aside0.mk H1
  have H2 := Aside0.mk H2
  have H3 := Aside0.mk H3
  clear ha hb hc hd hx e
  go_enter Try.func83, Try.ntmps83
  go_wp2_with (first | ((with_reducible refine (H1.out _).mono ?_); rintro e w' ⟨rfl, rfl⟩) | ((with_reducible refine (H2.out _).mono ?_); rintro e w' ⟨rfl, rfl⟩) | ((with_reducible refine (H3.out _).mono ?_); rintro e w' ⟨rfl, rfl⟩))
  go_ret
  exact ⟨rfl, rfl⟩
def kRow : Kd (List UInt8) := Kd.slice 5 kU8
theorem row_at {w : World} {A : Option Addr} {n : Nat} {xs : List (List UInt8)} (h : kRow.C w A n xs) (k : Nat) (h1 : k < n) : ∃ ad x A1 c1, A = some ad ∧ Aside0 (xs[k]? = some x) ∧ w.cell? (ad.add k) = some (.slice A1 x.length c1) ∧ Aside0 (kU8.C w A1 x.length x) := by
  have hl : xs.length = n := h.1
  obtain ⟨ad, c, e, _, hK, hc0⟩ := Kd.C_get h [] (k : Int) (by omega) (by omega)
  have hc : ∀ j u, c[j]? = some u → w.cell? (ad.add (k * 1 + j)) = some u := hc0
  have hx : xs[k]? = some (xs.getD k []) := by simp [List.getD_eq_getElem?_getD, show k < xs.length by omega]
  have hK' : kRow.K w (xs.getD k []) c := hK
  generalize xs.getD k [] = x at hK' hx
  obtain ⟨A1, c1, rfl, l1, g1⟩ := hK'
  exact ⟨ad, x, A1, c1, e, ⟨hx⟩, by have := hc 0 _ rfl; simpa using this, ⟨g1⟩⟩
theorem u8_at {w : World} {A : Option Addr} {n : Nat} {xs : List UInt8} (h : kU8.C w A n xs) (k : Nat) (h1 : k < n) : ∃ ad x, A = some ad ∧ Aside0 (xs[k]? = some x) ∧ w.cell? (ad.add k) = some (.int .u8 (x.toNat : Int)) := by
  have hl : xs.length = n := h.1
  obtain ⟨ad, c, e, _, hK, hc0⟩ := Kd.C_get h 0 (k : Int) (by omega) (by omega)
  have hc : ∀ j u, c[j]? = some u → w.cell? (ad.add (k * 1 + j)) = some u := hc0
  have hx : xs[k]? = some (xs.getD k 0) := by simp [List.getD_eq_getElem?_getD, show k < xs.length by omega]
  have hK' : kU8.K w (xs.getD k 0) c := hK
  generalize xs.getD k 0 = x at hK' hx
  obtain rfl : c = [.int .u8 (x.toNat : Int)] := hK'
  exact ⟨ad, x, e, ⟨hx⟩, by have := hc 0 _ rfl; simpa using this⟩
theorem sumB_snoc {h : Nat} {l : List UInt8} {k : Nat} {x : UInt8} (hx : l[k]? = some x) : sumB h (l.take (k + 1)) = stepN (sumB h (l.take k)) x.toNat := foldB_snoc stepN h hx
theorem flat_snoc {l : List (List UInt8)} {k : Nat} {x : List UInt8} (h : Nat) (hx : l[k]? = some x) : sumB h (l.take (k + 1)).flatten = sumB (sumB h (l.take k).flatten) x := foldB_flat stepN h hx
set_option maxRecDepth 100000 in
theorem sum_calls (A : Option Addr) (c : Nat) (xs : List (List UInt8)) (w : World) (hr : kRow.C w A xs.length xs) :
    Calls Try.prog 84 #[.slice A xs.length c] w fun e w' => e = .returned (.int .u64 ((sum0 xs.flatten : Nat) : Int)) ∧ w = w' := by
  have hm : xs.length ≤ 9223372036854775807 := hr.2.1
  have HR := Aside0.mk hr
  clear hr
  go_enter Try.func84, Try.ntmps84
  go_wp2
  go_step3
  go_wp2
  go_step3
  go_wp2
  go_loop [3, 10] (fun h i => ∃ (k q : Nat), k ≤ xs.length ∧ i = .int .i64 k ∧ h = .int .u64 (q : Int) ∧ q < 18446744073709551616 ∧ Aside0 (q = sumB 14695981039346656037 (xs.take k).flatten)) (fun _ i => xs.length - (intOf i).toNat)
  case atStart => exact ⟨0, 14695981039346656037, Nat.zero_le _, rfl, rfl, by omega, ⟨rfl⟩⟩
  case round =>
    obtain ⟨k, q, hk, rfl, rfl, hq, HQ⟩ := hrel
    by_cases hlt : k < xs.length
    · obtain ⟨ad, x, A1, c1, rfl, HX, hcell, HC⟩ := row_at HR.out k hlt
      have HF := Aside0.mk ((flat_snoc 14695981039346656037 HX.out).trans (by rw [← HQ.out]))
      have hx1 : x.length ≤ 9223372036854775807 := HC.out.2.1
      clear HX HQ
      by_cases h0 : x.length = 0
      · have H0 := Aside0.mk h0
        have hb0 : ((x.length : Int) == 0) = true := by simp [h0]
        clear h0
        go_wp2
        go_round
        case rel => exact ⟨k + 1, q, by omega, by go_num, rfl, hq, ⟨by rw [HF.out, List.eq_nil_of_length_eq_zero H0.out]; rfl⟩⟩
        case measure => simp [intOf]; omega
      · have hb0 : ((x.length : Int) == 0) = false := by simpa using h0
        clear h0
        go_wp2
        go_loop [3, 19] (fun h i => ∃ (j p : Nat), j ≤ x.length ∧ i = .int .i64 j ∧ h = .int .u64 (p : Int) ∧ p < 18446744073709551616 ∧ Aside0 (p = sumB q (x.take j))) (fun _ i => x.length - (intOf i).toNat)
        case atStart => exact ⟨0, q, Nat.zero_le _, rfl, rfl, hq, ⟨rfl⟩⟩
        case round =>
          obtain ⟨j, p, hj, rfl, rfl, hp, HP⟩ := hrel
          by_cases hlj : j < x.length
          · obtain ⟨ad1, y, rfl, HY, hcy⟩ := u8_at HC.out j hlj
            have HS := Aside0.mk ((sumB_snoc (h := q) HY.out).trans (by rw [← HP.out]))
            have hy : y.toNat < 256 := y.toNat_lt
            clear HY HP
            go_wp2_with (first | ((with_reducible refine (step_calls p y.toNat hp hy _).mono ?_); rintro e w' ⟨rfl, rfl⟩))
            go_round
            case rel => exact ⟨j + 1, _, by omega, by go_num, rfl, stepN_lt _ _, ⟨HS.out.symm⟩⟩
            case measure => simp [intOf]; omega
          · obtain rfl : j = x.length := by omega
            go_wp2
            go_round
            case rel => exact ⟨k + 1, p, by omega, by go_num, rfl, hp, ⟨by rw [HF.out, HP.out, List.take_length]⟩⟩
            case measure => simp [intOf]; omega
    · obtain rfl : k = xs.length := by omega
      go_wp2
      go_ret
      exact ⟨by rw [HQ.out, List.take_length]; rfl, rfl⟩
theorem bytes_C (W : World) (s : ByteArray) (hs : s.size ≤ 9223372036854775807) : kU8.C (Lib.bytesWorld W 5 s) (some ⟨W.heap.size, 0, none⟩) s.data.toList.length s.data.toList := by
  refine ⟨rfl, by rw [data_length]; exact hs, fun _ => ⟨_, rfl, fun j p hj => ⟨[.int .u8 (p.toNat : Int)], rfl, rfl, fun i u hu => ?_⟩⟩⟩
  have hjl : j < s.size := by rw [← data_length]; exact (List.getElem?_eq_some_iff.1 hj).1
  obtain rfl : i = 0 := by rcases i with _ | i <;> simp_all
  simp at hu
  subst hu
  rw [show j * kU8.sz + 0 = j from by show j * 1 + 0 = j; omega, add_plain, Lib.bytesWorld_cell W 5 s j hjl]
  have h' : j < s.data.toList.length := by rw [data_length]; exact hjl
  rw [List.getElem?_eq_getElem h'] at hj
  injection hj with hj
  rw [← hj, List.getD_eq_getElem?_getD, List.getElem?_eq_getElem h']
  rfl
theorem row_one {w : World} {g : Nat} {A : Option Addr} {c : Nat} {x : List UInt8} (hg : w.cell? ⟨g, 0, none⟩ = some (.slice A x.length c)) (hl : x.length ≤ c) (h : kU8.C w A x.length x) : kRow.C w (some ⟨g, 0, none⟩) [x].length [x] := by
  refine ⟨rfl, by simp, fun _ => ⟨_, rfl, fun j p hj => ?_⟩⟩
  obtain rfl : j = 0 := by rcases j with _ | j <;> simp_all
  simp at hj
  subst hj
  refine ⟨[.slice A x.length c], rfl, ⟨A, c, rfl, hl, h⟩, fun i u hu => ?_⟩
  obtain rfl : i = 0 := by rcases i with _ | i <;> simp_all
  simp at hu
  subst hu
  rw [add_plain]
  exact hg
set_option maxRecDepth 100000 in
theorem key_calls (s : ByteArray) (w : World) (hs : s.size ≤ 140737488351232) :
    Calls Try.prog 75 #[.string s] w fun e w' => e = .returned (.int .u64 ((keyN s : Nat) : Int)) ∧ Below w.heap.size w w' := by
  have kb := fun W => print_bytes (P := Try.prog) 9 33 5 Try.underlying9 Try.underlying33 Try.underlying5 s W
  have HB := Aside0.mk (below_alloc (bytes_below (Below.refl w.heap.size w) (Nat.le_refl _) 5 s) (.cells #[.slice (some ⟨w.heap.size, 0, none⟩) s.size (grownCap w s.size 0 5)] 33))
  have HC : kRow.C ((Lib.bytesWorld w 5 s).alloc (.cells #[.slice (some ⟨w.heap.size, 0, none⟩) s.size (grownCap w s.size 0 5)] 33)) (some ⟨(Lib.bytesWorld w 5 s).heap.size, 0, none⟩) [s.data.toList].length [s.data.toList] := by
    refine row_one (A := some ⟨w.heap.size, 0, none⟩) (c := grownCap w s.size 0 5) (by rw [data_length]; exact cell_new _ _ _ _ 0 _ rfl) (by rw [data_length]; exact grownCap_ge w _ 0 5) (Kd.C_below (bytes_C w s (by omega)) (below_alloc (Below.refl _ _) _))
  have hs0 := sum_calls _ 1 _ _ HC
  rw [show [s.data.toList].length = 1 from rfl, show [s.data.toList].flatten = s.data.toList by simp] at hs0
  have HS := Aside0.mk hs0
  clear hs0
  have HT := Aside0.mk (stir_calls (sum0 s.data.toList) (sumB_lt _ (by decide)))
  have HE : Aside0 (stirN (sum0 s.data.toList) = keyN s) := ⟨rfl⟩
  clear HC
  go_enter Try.func75, Try.ntmps75
  go_wp2_with (first | ((with_reducible refine HS.out.mono ?_); rintro e w' ⟨rfl, rfl⟩) | ((with_reducible refine (HT.out _).mono ?_); rintro e w' ⟨rfl, rfl⟩))
  go_ret
  exact ⟨by rw [HE.out]; rfl, HB.out⟩
theorem bucket_calls (s : ByteArray) (n : Int) (w : World) (hs : s.size ≤ 140737488351232) (h1 : 1 ≤ n) (h2 : n ≤ 65536) :
    Calls Try.prog 61 #[.string s, .int .i64 n] w fun e w' => e = .returned (.tuple #[.int .i64 (bkt s n), .int .i64 0]) ∧ Below w.heap.size w w' := by
  obtain ⟨m, rfl⟩ : ∃ m : Nat, n = (m : Int) := ⟨n.toNat, by omega⟩
  have HK := Aside0.mk (key_calls s w hs)
  have e1 : IntKind.u64.wrap (m : Int) = (m : Int) := by rw [IntKind.wrap_u64]; omega
  have hk : keyN s < 18446744073709551616 := stirN_lt _
  obtain ⟨r, hr⟩ : ∃ r : Nat, r = keyN s % m := ⟨_, rfl⟩
  have e2 : ((keyN s : Nat) : Int) % (m : Int) = (r : Int) := by omega
  have e3 : IntKind.i64.wrap (r : Int) = (r : Int) := by
    have : r < m := by rw [hr]; exact Nat.mod_lt _ (by omega)
    exact IntWalk.i64_in _ (by omega)
  have HE : Aside0 ((r : Int) = bkt s m) := ⟨by unfold bkt; rw [hr]; simp⟩
  clear hr
  generalize keyN s = q at *
  go_enter Try.func61, Try.ntmps61
  go_wp2_with (first | ((with_reducible refine HK.out.mono ?_); rintro e w' ⟨rfl, hb⟩; have HB := Aside0.mk hb; clear hb))
  refine bodyPost_ret (v := .tuple #[.int .i64 (r : Int), .int .i64 0]) (by simp [results, Try.results61, go_sem]; try rfl) rfl ?_
  exact ⟨by rw [← HE.out], HB.out⟩
end Hash
end Go.Proofs.Ytgfjkpnaabiecaa
