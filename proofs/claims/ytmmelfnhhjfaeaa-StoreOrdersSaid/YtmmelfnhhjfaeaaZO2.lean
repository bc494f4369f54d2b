/- Lemmas for the row (words on memory, contracts of the program's functions): PackB, PackC, DiskA, Take, Calm, DiskB, DiskC, WalA, WalB, RowF, WalC, EntM, EntW. -/
import Derived.Deep.RegionHeld3
import Derived.StillTail
import Derived.StringKeys
import Derived.Test.YtmmelfnhhjfaeaaZO1
set_option linter.unusedVariables false
set_option linter.unusedSimpArgs false
namespace Go.Proofs.Ytmmelfnhhjfaeaa
open Go.RowKit Go.Proofs.YtmmelfnhhjfaeaaW.PrintWords
namespace Pack
open Tags
theorem tEnt8 : (5 : TypeId) ≠ 30 := by decide
theorem tInt8 : (5 : TypeId) ≠ 3 := by decide
set_option maxRecDepth 100000 in
set_option maxHeartbeats 1000000 in
theorem entB_calls (e : Entry) (A : Option Addr) (c : Nat) (w : World) (hE : EntOk e) (h : kU8.C w A e.val.b.length e.val.b) :
    Calls Try.prog 18 #[.agg #[.string e.key, .int .i64 e.tag.seq, .int .i64 e.tag.who, .int .i64 e.tag.op, .bool e.val.has, .slice A e.val.b.length c]] w fun r w' => ∃ v, r = .returned (.tuple #[v, .int .i64 0]) ∧ Grow kU8 5 (fun _ => False) w.heap.size w w' v (entB e) := by
  have HC := Aside0.mk h
  have HEO := Aside0.mk hE
  have hkl : e.key.size ≤ 250 := hE.2.1
  have hbl : e.val.b.length ≤ 60000 := hE.2.2.1
  have HR : Aside0 (∀ w', Calls Try.prog 15 #[.agg #[.string e.key, .int .i64 e.tag.seq, .int .i64 e.tag.who, .int .i64 e.tag.op, .bool e.val.has, .slice A e.val.b.length c]] w' fun r w'' => r = .returned (.int .i64 0) ∧ Below w'.heap.size w' w'') := ⟨fun w' => by
    have := right_calls e.key e.tag.seq e.tag.who e.tag.op e.val.has A c e.val.b w' (by omega) (by omega)
    rw [show (⟨e.key, ⟨e.tag.seq, e.tag.who, e.tag.op⟩, ⟨e.val.has, e.val.b⟩⟩ : Entry) = e from rfl, rgt_ok hE] at this
    exact this⟩
  have HRW : Aside0 (∀ W, Calls Try.prog 26 #[.slice (some ⟨W.heap.size, 0, none⟩) e.key.size (grownCap W e.key.size 0 5)] (Lib.bytesWorld W 5 e.key) fun r w' => ∃ v, r = .returned (.tuple #[v, .int .i64 0]) ∧ Grow kU8 5 (fun _ => False) (Lib.bytesWorld W 5 e.key).heap.size (Lib.bytesWorld W 5 e.key) w' v (rowB e.key.data.toList)) := ⟨fun W => by
    have := row_calls e.key.data.toList (some ⟨W.heap.size, 0, none⟩) (grownCap W e.key.size 0 5) (Lib.bytesWorld W 5 e.key) (by rw [data_length]; omega) (Hash.bytes_C W e.key (by omega))
    rw [data_length] at this
    exact this⟩
  have HNS : Aside0 (InR .i64 e.tag.seq ∧ InR .i64 e.tag.who ∧ InR .i64 e.tag.op) := ⟨by
    obtain ⟨_, _, _, _, ⟨t1, t2, t3, t4, t5, t6, _⟩, _⟩ := hE
    exact ⟨InR.mk64 (by omega) (by omega), InR.mk64 (by omega) (by omega), InR.mk64 (by omega) (by omega)⟩⟩
  have kb := fun W => print_bytes (P := Try.prog) 9 24 5 Try.underlying9 Try.underlying24 Try.underlying5 e.key W
  clear h hE
  obtain ⟨ek, ⟨a1, a2, a3⟩, ⟨eh, eb⟩⟩ := e
  dsimp only at *
  go_enter Try.func18, Try.ntmps18
  go_upto_region 1 with (fail)
  generalize hX : World.alloc _ _ = W0
  have HB0 : Aside0 (Below w.heap.size w W0) := ⟨by rw [← hX]; exact below_alloc (Below.refl _ _) _⟩
  have HX : Aside0 (Blk W0 w.heap.size [.string ek, .int .i64 a1, .int .i64 a2, .int .i64 a3, .bool eh, .slice A eb.length c] ∧ Ty W0 30 w.heap.size) := ⟨by rw [← hX]; exact ⟨Blk.new_ _ _ _ rfl rfl, Ty.new _ _ _ _⟩⟩
  clear hX
  obtain ⟨⟨k0, k1, k2, k3, k4, k5⟩, _⟩ := HX.out.1.six
  go_upto_region 4 with (first | ((with_reducible refine (HR.out _).mono ?_); rintro r w1 ⟨rfl, hb⟩; have HB1 := Aside0.mk hb; clear hb))
  have HX1 := Aside0.mk (And.intro (HX.out.1.on HB1.out) (HX.out.2.below HB1.out))
  have HBW1 := Aside0.mk (Below.then_ HB0.out HB1.out (Nat.le_refl _))
  clear k0 k1 k2 k3 k4 k5
  obtain ⟨⟨k0, k1, k2, k3, k4, k5⟩, _⟩ := HX1.out.1.six
  have HYB : Aside0 (Below w1.heap.size w1 (Lib.bytesWorld w1 5 ek)) := ⟨bytes_below (Below.refl _ _) (Nat.le_refl _) 5 ek⟩
  go_upto_region 5 with (first | ((with_reducible refine (HRW.out _).mono ?_); rintro r w2 ⟨v5, rfl, hG⟩; have HG2 := Aside0.mk (hG.elder8 (ok' := fun _ => False) (Below.then_ HBW1.out HYB.out (Nat.le_refl _))); have HBG := Aside0.mk (HYB.out.trans (hG.bl.mono HYB.out.size)); clear hG))
  have HX2 := Aside0.mk (And.intro (HX1.out.1.on HBG.out) (HX1.out.2.below HBG.out))
  clear k0 k1 k2 k3 k4 k5
  obtain ⟨⟨k0, k1, k2, k3, k4, k5⟩, _⟩ := HX2.out.1.six
  go_upto_region 6 with (fail)
  generalize hX : World.alloc _ _ = W3
  have HB3 : Aside0 (Below w2.heap.size w2 W3) := ⟨by rw [← hX]; exact below_alloc (Below.refl _ _) _⟩
  have HN3 : Aside0 (Blk W3 w2.heap.size [.int .i64 a1, .int .i64 a2, .int .i64 a3] ∧ Ty W3 3 w2.heap.size) := ⟨by rw [← hX]; exact ⟨Blk.new_ _ _ _ rfl rfl, Ty.new _ _ _ _⟩⟩
  have HE3 := Aside0.mk (And.intro (HX2.out.1.on HB3.out) (HX2.out.2.below HB3.out))
  have HG3 := Aside0.mk (HG2.out.below HB3.out)
  obtain ⟨nb, hnb⟩ : ∃ nb, nb = w2.heap.size := ⟨_, rfl⟩
  rw [← hnb] at HN3 ⊢
  have HRK : Aside0 ((rowB ek.data.toList).length ≤ 300) := ⟨by have := rowB_le ek.data.toList; rw [data_length] at this; omega⟩
  obtain ⟨rk, hrk⟩ : ∃ rk, rk = rowB ek.data.toList := ⟨_, rfl⟩
  rw [← hrk] at HG3 HRK
  have HRE := Aside0.mk hrk
  clear hX hnb k0 k1 k2 k3 k4 k5 HG2 HRW HR hrk kb
  have HNU : Aside0 (∀ a W, InR .i64 a → Calls Try.prog 32 #[.int .i64 a] W (BytesOwn W (numB a))) := ⟨fun a W h => num_calls a W h⟩
  go_loopg [5, 34] 3 (fun gk v5 v wr => ∃ k : Nat, v = .int .i64 (k : Int) ∧ k ≤ 3 ∧ Aside0 (gk + k = 3) ∧ Aside0 (Grow kU8 5 (fun _ => False) w.heap.size w wr v5 (rk ++ (([a1, a2, a3].take k).map numB).flatten)) ∧ Aside0 (Blk wr nb [.int .i64 a1, .int .i64 a2, .int .i64 a3] ∧ Ty wr 3 nb) ∧ Aside0 (Blk wr w.heap.size [.string ek, .int .i64 a1, .int .i64 a2, .int .i64 a3, .bool eh, .slice A eb.length c] ∧ Ty wr 30 w.heap.size))
  case atStart => exact ⟨0, rfl, by omega, ⟨rfl⟩, ⟨by simpa using HG3.out⟩, HN3, HE3⟩
  case round =>
    obtain ⟨k, rfl, hk, HG, HS, HN, HE⟩ := hrel
    by_cases hlt : k < 3
    · have hk' : k = 0 ∨ k = 1 ∨ k = 2 := by omega
      rcases hk' with rfl | rfl | rfl
      · have c0 := HN.out.1.cell 0 rfl
        have HLL : Aside0 ((rk ++ (([a1, a2, a3].take 0).map numB).flatten).length ≤ 400) := ⟨by
          have := HRK.out
          have h1 := numB_le a1
          have h2 := numB_le a2
          have h3 := numB_le a3
          simp
          omega⟩
        have HFL : Aside0 (rk ++ (([a1, a2, a3].take (0 + 1)).map numB).flatten = (rk ++ (([a1, a2, a3].take 0).map numB).flatten) ++ numB a1) := ⟨by simp⟩
        have HNV := Aside0.mk (HNU.out a1 wr HNS.out.1)
        go_wp2_with (first
          | ((with_reducible refine HNV.out.mono ?_); rintro r w5 ⟨vn, rfl, hG⟩; obtain ⟨An, cn, rfl, hcn, hF⟩ := hG.foot; have HF5 := Aside0.mk (Kd.F_now hF); have HB5 := Aside0.mk hG.bl; clear hG hF hcn)
          | (at_builtin; refine Grow.cat3 rfl _ _ 24 _ rfl Try.underlying24 info8 rfl (HS.out.below HB5.out) (numB a1) An (numB a1).length cn rfl rfl HF5.out (by have := HLL.out; have := numB_le a1; omega) ?_; intro v1 w9 hG9 o9; have HG9 := Aside0.mk hG9; have HN9 := Aside0.mk (And.intro ((HN.out.1.on HB5.out).only o9 ((HS.out.below HB5.out).ne (HN.out.2.below HB5.out) tInt8)) ((HN.out.2.below HB5.out).only o9 ((HS.out.below HB5.out).ne (HN.out.2.below HB5.out) tInt8))); have HE9 := Aside0.mk (And.intro ((HE.out.1.on HB5.out).only o9 ((HS.out.below HB5.out).ne (HE.out.2.below HB5.out) tEnt8)) ((HE.out.2.below HB5.out).only o9 ((HS.out.below HB5.out).ne (HE.out.2.below HB5.out) tEnt8))); clear hG9 o9))
        go_roundg (3 - (0 + 1))
        case measure => have := HG.out; omega
        case rel => exact ⟨0 + 1, by go_num, by omega, ⟨by omega⟩, ⟨by rw [HFL.out]; exact HG9.out⟩, HN9, HE9⟩
      · have c0 := HN.out.1.cell 1 rfl
        have HLL : Aside0 ((rk ++ (([a1, a2, a3].take 1).map numB).flatten).length ≤ 400) := ⟨by
          have := HRK.out
          have h1 := numB_le a1
          have h2 := numB_le a2
          have h3 := numB_le a3
          simp
          omega⟩
        have HFL : Aside0 (rk ++ (([a1, a2, a3].take (1 + 1)).map numB).flatten = (rk ++ (([a1, a2, a3].take 1).map numB).flatten) ++ numB a2) := ⟨by simp⟩
        have HNV := Aside0.mk (HNU.out a2 wr HNS.out.2.1)
        go_wp2_with (first
          | ((with_reducible refine HNV.out.mono ?_); rintro r w5 ⟨vn, rfl, hG⟩; obtain ⟨An, cn, rfl, hcn, hF⟩ := hG.foot; have HF5 := Aside0.mk (Kd.F_now hF); have HB5 := Aside0.mk hG.bl; clear hG hF hcn)
          | (at_builtin; refine Grow.cat3 rfl _ _ 24 _ rfl Try.underlying24 info8 rfl (HS.out.below HB5.out) (numB a2) An (numB a2).length cn rfl rfl HF5.out (by have := HLL.out; have := numB_le a2; omega) ?_; intro v1 w9 hG9 o9; have HG9 := Aside0.mk hG9; have HN9 := Aside0.mk (And.intro ((HN.out.1.on HB5.out).only o9 ((HS.out.below HB5.out).ne (HN.out.2.below HB5.out) tInt8)) ((HN.out.2.below HB5.out).only o9 ((HS.out.below HB5.out).ne (HN.out.2.below HB5.out) tInt8))); have HE9 := Aside0.mk (And.intro ((HE.out.1.on HB5.out).only o9 ((HS.out.below HB5.out).ne (HE.out.2.below HB5.out) tEnt8)) ((HE.out.2.below HB5.out).only o9 ((HS.out.below HB5.out).ne (HE.out.2.below HB5.out) tEnt8))); clear hG9 o9))
        go_roundg (3 - (1 + 1))
        case measure => have := HG.out; omega
        case rel => exact ⟨1 + 1, by go_num, by omega, ⟨by omega⟩, ⟨by rw [HFL.out]; exact HG9.out⟩, HN9, HE9⟩
      · have c0 := HN.out.1.cell 2 rfl
        have HLL : Aside0 ((rk ++ (([a1, a2, a3].take 2).map numB).flatten).length ≤ 400) := ⟨by
          have := HRK.out
          have h1 := numB_le a1
          have h2 := numB_le a2
          have h3 := numB_le a3
          simp
          omega⟩
        have HFL : Aside0 (rk ++ (([a1, a2, a3].take (2 + 1)).map numB).flatten = (rk ++ (([a1, a2, a3].take 2).map numB).flatten) ++ numB a3) := ⟨by simp⟩
        have HNV := Aside0.mk (HNU.out a3 wr HNS.out.2.2)
        go_wp2_with (first
          | ((with_reducible refine HNV.out.mono ?_); rintro r w5 ⟨vn, rfl, hG⟩; obtain ⟨An, cn, rfl, hcn, hF⟩ := hG.foot; have HF5 := Aside0.mk (Kd.F_now hF); have HB5 := Aside0.mk hG.bl; clear hG hF hcn)
          | (at_builtin; refine Grow.cat3 rfl _ _ 24 _ rfl Try.underlying24 info8 rfl (HS.out.below HB5.out) (numB a3) An (numB a3).length cn rfl rfl HF5.out (by have := HLL.out; have := numB_le a3; omega) ?_; intro v1 w9 hG9 o9; have HG9 := Aside0.mk hG9; have HN9 := Aside0.mk (And.intro ((HN.out.1.on HB5.out).only o9 ((HS.out.below HB5.out).ne (HN.out.2.below HB5.out) tInt8)) ((HN.out.2.below HB5.out).only o9 ((HS.out.below HB5.out).ne (HN.out.2.below HB5.out) tInt8))); have HE9 := Aside0.mk (And.intro ((HE.out.1.on HB5.out).only o9 ((HS.out.below HB5.out).ne (HE.out.2.below HB5.out) tEnt8)) ((HE.out.2.below HB5.out).only o9 ((HS.out.below HB5.out).ne (HE.out.2.below HB5.out) tEnt8))); clear hG9 o9))
        go_roundg (3 - (2 + 1))
        case measure => have := HG.out; omega
        case rel => exact ⟨2 + 1, by go_num, by omega, ⟨by omega⟩, ⟨by rw [HFL.out]; exact HG9.out⟩, HN9, HE9⟩
    · obtain rfl : k = 3 := by omega
      have hfl : rk ++ (([a1, a2, a3].take 3).map numB).flatten = rk ++ numB a1 ++ numB a2 ++ numB a3 := by simp
      rw [hfl] at HS
      obtain ⟨pb, hpb⟩ : ∃ pb, pb = rk ++ numB a1 ++ numB a2 ++ numB a3 := ⟨_, rfl⟩
      rw [← hpb] at HS
      have HPL : Aside0 (pb.length ≤ 400) := ⟨by
        have h0 := HRK.out
        have h1 := numB_le a1
        have h2 := numB_le a2
        have h3 := numB_le a3
        rw [hpb]
        simp
        omega⟩
      have HSP : Aside0 (entB ⟨ek, ⟨a1, a2, a3⟩, ⟨eh, eb⟩⟩ = pb ++ truthB eh ++ (if eh then rowB eb else [])) := ⟨by rw [hpb, HRE.out]; rfl⟩
      clear hfl hpb
      obtain ⟨⟨k0, k1, k2, k3, k4, k5⟩, _⟩ := HE.out.1.six
      have HTV := Aside0.mk (truth_calls eh wr)
      have HTL := Aside0.mk (truthB_len eh)
      go_upto_region 11 with (first
        | ((with_reducible refine HTV.out.mono ?_); rintro r w5 ⟨vn, rfl, hG⟩; obtain ⟨An, cn, rfl, hcn, hF⟩ := hG.foot; have HF5 := Aside0.mk (Kd.F_now hF); have HB5 := Aside0.mk hG.bl; clear hG hF hcn)
        | (at_builtin; refine Grow.cat3 rfl _ _ 24 _ rfl Try.underlying24 info8 rfl (HS.out.below HB5.out) (truthB eh) An (truthB eh).length cn rfl rfl HF5.out (by have := HPL.out; have := HTL.out; omega) ?_; intro v1 w9 hG9 o9; have HG9 := Aside0.mk hG9; have HE9 := Aside0.mk ((HE.out.1.on HB5.out).only o9 ((HS.out.below HB5.out).ne (HE.out.2.below HB5.out) tEnt8)); clear hG9 o9))
      clear k0 k1 k2 k3 k4 k5
      obtain ⟨⟨k0, k1, k2, k3, k4, k5⟩, _⟩ := HE9.out.six
      cases eh with
      | false =>
        go_wp2
        go_ret2
        exact ⟨_, rfl, by rw [HSP.out]; simpa using HG9.out⟩
      | true =>
        have HRV := Aside0.mk (row_calls eb A c w9 (by omega) (Kd.C_below HC.out HG9.out.bl))
        have HRL := Aside0.mk (rowB_le eb)
        go_wp2_with (first
          | ((with_reducible refine HRV.out.mono ?_); rintro r w10 ⟨vr, rfl, hG⟩; obtain ⟨Ar, cr, rfl, hcr, hF⟩ := hG.foot; have HF10 := Aside0.mk (Kd.F_now hF); have HB10 := Aside0.mk hG.bl; clear hG hF hcr)
          | (at_builtin; refine Grow.cat3 rfl _ _ 24 _ rfl Try.underlying24 info8 rfl (HG9.out.below HB10.out) (rowB eb) Ar (rowB eb).length cr rfl rfl HF10.out (by have h1 := HPL.out; have h2 := HTL.out; have h3 := HRL.out; rw [List.length_append]; omega) ?_; intro v11 w11 hG11 o11; have HG11 := Aside0.mk hG11; clear hG11 o11))
        go_ret2
        exact ⟨_, rfl, by rw [HSP.out]; exact HG11.out⟩
end Pack
end Go.Proofs.Ytmmelfnhhjfaeaa
set_option linter.unusedVariables false
set_option linter.unusedSimpArgs false
namespace Go.Proofs.Ytmmelfnhhjfaeaa
open Go.RowKit Go.Proofs.YtmmelfnhhjfaeaaW.PrintWords
namespace Pack
theorem byte_of (n d : Nat) (m : Int) (h : m = ((n / d : Nat) : Int)) : IntKind.u8.wrap m = ((UInt8.ofNat (n / d % 256)).toNat : Int) := by
  have e1 : IntKind.u8.wrap m = m % 256 := by simp [IntKind.wrap, IntKind.bits, IntKind.signed]
  rw [e1, h, UInt8.toNat_ofNat', Nat.mod_eq_of_lt (Nat.mod_lt _ (by decide))]
  omega
set_option maxRecDepth 100000 in
theorem four_calls (n : Nat) (w : World) (hn : n < 4294967296) : Calls Try.prog 44 #[.int .u32 (n : Int)] w (BytesOwn w (fourB n)) := by
  have b3 := byte_of n 16777216 ((n : Int) / 16777216) (by omega)
  have b2 := byte_of n 65536 ((n : Int) / 65536) (by omega)
  have b1 := byte_of n 256 ((n : Int) / 256) (by omega)
  have b0 := byte_of n 1 (n : Int) (by simp)
  rw [Nat.div_one] at b0
  have HF : Aside0 (∀ w : World, Grow kU8 5 (fun _ => False) w.heap.size w (w.alloc (.cells #[.int .u8 ((UInt8.ofNat (n / 16777216 % 256)).toNat : Int), .int .u8 ((UInt8.ofNat (n / 65536 % 256)).toNat : Int), .int .u8 ((UInt8.ofNat (n / 256 % 256)).toNat : Int), .int .u8 ((UInt8.ofNat (n % 256)).toNat : Int)] 5)) (.slice (some ⟨w.heap.size, 0, none⟩) 4 4) (fourB n)) := ⟨fun w => Grow.lit8 w _ (fourB n) _ rfl (by rw [fourB_len]; decide)⟩
  generalize ((UInt8.ofNat (n / 16777216 % 256)).toNat : Int) = x3 at *
  generalize ((UInt8.ofNat (n / 65536 % 256)).toNat : Int) = x2 at *
  generalize ((UInt8.ofNat (n / 256 % 256)).toNat : Int) = x1 at *
  generalize ((UInt8.ofNat (n % 256)).toNat : Int) = x0 at *
  go_enter Try.func44, Try.ntmps44
  go_wp2
  go_ret
  exact ⟨_, rfl, HF.out w⟩
theorem wrap_u32' (n : Int) : IntKind.u32.wrap n = n % 4294967296 := by simp [IntKind.wrap, IntKind.bits, IntKind.signed]
theorem bits_xor_u32_nat (a b : Nat) (ha : a < 4294967296) (hb : b < 4294967296) : Go.bits .xor .u32 (a : Int) (b : Int) = ((a ^^^ b : Nat) : Int) := by
  have h1 : (BitVec.ofInt 32 (a : Int)).toNat = a := by simp [BitVec.toNat_ofInt]; omega
  have h2 : (BitVec.ofInt 32 (b : Int)).toNat = b := by simp [BitVec.toNat_ofInt]; omega
  have hx : a ^^^ b < 4294967296 := Nat.xor_lt_two_pow (n := 32) (by omega) (by omega)
  show IntKind.u32.wrap ((BitVec.ofInt 32 (a : Int) ^^^ BitVec.ofInt 32 (b : Int)).toNat : Int) = _
  rw [BitVec.toNat_xor, h1, h2, wrap_u32']
  omega
theorem checkN_lt (b : List UInt8) : checkN b < 4294967296 := by
  have h := Hash.sumB_lt (h := 14695981039346656037) b (by decide)
  unfold checkN
  exact Nat.xor_lt_two_pow (n := 32) (by unfold Hash.sum0; omega) (by omega)
set_option maxRecDepth 100000 in
theorem check_calls (A : Option Addr) (c : Nat) (xs : List (List UInt8)) (w : World) (hr : Hash.kRow.C w A xs.length xs) :
    Calls Try.prog 45 #[.slice A xs.length c] w fun e w' => e = .returned (.int .u32 ((checkN xs.flatten : Nat) : Int)) ∧ w = w' := by
  have HS := Aside0.mk (Hash.sum_calls A c xs w hr)
  obtain ⟨s, hs⟩ : ∃ s, s = Hash.sum0 xs.flatten := ⟨_, rfl⟩
  have hl : s < 18446744073709551616 := by rw [hs]; exact Hash.sumB_lt _ (by decide)
  have e1 : IntKind.u32.wrap ((s : Int) / 4294967296) = ((s / 4294967296 : Nat) : Int) := by rw [wrap_u32']; omega
  have e2 : IntKind.u32.wrap (s : Int) = ((s % 4294967296 : Nat) : Int) := by rw [wrap_u32']; omega
  have e3 : Go.bits .xor .u32 ((s / 4294967296 : Nat) : Int) ((s % 4294967296 : Nat) : Int) = ((checkN xs.flatten : Nat) : Int) := by
    rw [bits_xor_u32_nat _ _ (by omega) (by omega), hs]; rfl
  rw [← hs] at HS
  generalize ((s / 4294967296 : Nat) : Int) = y1 at *
  generalize ((s % 4294967296 : Nat) : Int) = y2 at *
  generalize checkN xs.flatten = y at *
  clear hs hr
  go_enter Try.func45, Try.ntmps45
  go_wp2_with (first | ((with_reducible refine HS.out.mono ?_); rintro e w' ⟨rfl, rfl⟩))
  go_ret
  exact ⟨rfl, rfl⟩
set_option maxRecDepth 100000 in
theorem one_calls (k : UInt8) (b : List UInt8) (A : Option Addr) (c : Nat) (w : World) (hb : b.length ≤ 65536) (h : kU8.C w A b.length b) :
    Calls Try.prog 34 #[.int .u8 (k.toNat : Int), .slice A b.length c] w fun r w' => ∃ v, r = .returned (.tuple #[v, .int .i64 0]) ∧ Grow kU8 5 (fun _ => False) w.heap.size w w' v (frameB k b) := by
  have HC := Aside0.mk h
  have hbi : ¬ (65536 : Int) < (b.length : Int) := by omega
  have hw : IntKind.u32.wrap (b.length : Int) = (b.length : Int) := by rw [wrap_u32']; omega
  have HL := Aside0.mk (Grow.lit8 w (fun _ => False) [165, k] #[.int .u8 165, .int .u8 (k.toNat : Int)] rfl (by simp))
  have HFC : Aside0 (∀ W, Calls Try.prog 44 #[.int .u32 (b.length : Int)] W (BytesOwn W (fourB b.length))) := ⟨fun W => four_calls b.length W (by omega)⟩
  have HHE : Aside0 (headB k b = [165, k] ++ fourB b.length ++ b ∧ frameB k b = headB k b ++ fourB (checkN (headB k b)) ∧ (headB k b).length = b.length + 6) := ⟨rfl, rfl, headB_len k b⟩
  obtain ⟨l1, hl1⟩ : ∃ l1, l1 = fourB b.length := ⟨_, rfl⟩
  have HF1 := Aside0.mk (And.intro hl1 (show l1.length = 4 by rw [hl1]; rfl))
  rw [← hl1] at HFC HHE
  clear h hl1
  go_enter Try.func34, Try.ntmps34
  go_upto_region 5 with (first
    | ((with_reducible refine (HFC.out _).mono ?_); rintro r w5 ⟨vn, rfl, hG⟩; obtain ⟨An, cn, rfl, hcn, hF⟩ := hG.foot; have HF5 := Aside0.mk (Kd.F_now hF); have HB5 := Aside0.mk hG.bl; clear hG hF hcn)
    | (at_builtin; refine Grow.cat3 rfl _ _ 24 _ rfl Try.underlying24 info8 rfl (HL.out.below HB5.out) l1 An l1.length cn rfl rfl HF5.out (by have := HF1.out.2; simp; omega) ?_; intro v6 w6 hG6 o6; have HG6 := Aside0.mk hG6; clear hG6 o6)
    | (at_builtin; refine Grow.cat3 rfl _ _ 24 _ rfl Try.underlying24 info8 rfl HG6.out b A b.length c rfl rfl (Kd.C_below HC.out HG6.out.bl) (by have := HF1.out.2; simp; omega) ?_; intro v7 w7 hG7 o7; have HG7 := Aside0.mk hG7; clear hG7 o7))
  rw [← HHE.out.1] at HG7
  obtain ⟨hb1, hhb⟩ : ∃ hb1, hb1 = headB k b := ⟨_, rfl⟩
  rw [← hhb] at HG7 HHE
  have HBL := Aside0.mk HHE.out.2.2
  have HFE := Aside0.mk HHE.out.2.1
  obtain ⟨A7, c7, rfl, hc7, hF7⟩ := HG7.out.foot
  have HF7 := Aside0.mk (Kd.F_now hF7)
  have HB8 : Aside0 (Below w7.heap.size w7 (w7.alloc (.cells #[.slice A7 hb1.length c7] 24))) := ⟨below_alloc (Below.refl _ _) _⟩
  have HCK := Aside0.mk (check_calls _ 1 [hb1] _ (Hash.row_one (w := w7.alloc (.cells #[.slice A7 hb1.length c7] 24)) (g := w7.heap.size) (A := A7) (c := c7) (cell_new _ _ _ _ 0 _ rfl) hc7 (Kd.C_below HF7.out HB8.out)))
  rw [show [hb1].length = 1 from rfl, show [hb1].flatten = hb1 by simp] at HCK
  obtain ⟨q, hq⟩ : ∃ q, q = checkN hb1 := ⟨_, rfl⟩
  have HFQ : Aside0 (∀ W, Calls Try.prog 44 #[.int .u32 (q : Int)] W (BytesOwn W (fourB q))) := ⟨fun W => four_calls q W (by rw [hq]; exact checkN_lt _)⟩
  rw [← hq] at HCK HFE
  obtain ⟨l2, hl2⟩ : ∃ l2, l2 = fourB q := ⟨_, rfl⟩
  have HF2 := Aside0.mk (show l2.length = 4 by rw [hl2]; rfl)
  rw [← hl2] at HFQ HFE
  clear hF7 hq hl2 hhb HFC HHE
  go_wp2_with (first
    | ((with_reducible refine HCK.out.mono ?_); rintro e w' ⟨rfl, rfl⟩)
    | ((with_reducible refine (HFQ.out _).mono ?_); rintro r w9 ⟨vn, rfl, hG⟩; obtain ⟨An, cn, rfl, hcn, hF⟩ := hG.foot; have HF9 := Aside0.mk (Kd.F_now hF); have HB9 := Aside0.mk (Below.then_ HB8.out hG.bl (Nat.le_refl _)); clear hG hF hcn)
    | (at_builtin; refine Grow.cat3 rfl _ _ 24 _ rfl Try.underlying24 info8 rfl (HG7.out.below HB9.out) l2 An l2.length cn rfl rfl HF9.out (by have := HF2.out; have := HBL.out; omega) ?_; intro v10 w10 hG10 o10; have HG10 := Aside0.mk hG10; clear hG10 o10))
  go_ret2
  exact ⟨_, rfl, by rw [HFE.out]; exact HG10.out⟩
end Pack
end Go.Proofs.Ytmmelfnhhjfaeaa
set_option linter.unusedVariables false
set_option linter.unusedSimpArgs false
namespace Go.Proofs.Ytmmelfnhhjfaeaa
open Go.RowKit Go.Proofs.YtmmelfnhhjfaeaaW.PrintWords
/-- A row of bytes that its owner alone has. -/
def Own8 (w : World) (v : Value) (xs : List UInt8) : Prop := OwnRow (fun (x : UInt8) (cs : List Value) => cs = [.int .u8 (x.toNat : Int)]) 5 1 w 0 v xs
namespace Own8
variable {w w' W : World} {v : Value} {xs : List UInt8} {k : Nat}
theorem none_ (w : World) : Own8 w (.slice none 0 0) [] := OwnRow.none_ _ _ _ _ _
theorem of {ok : Nat → Prop} {N : Nat} {w0 : World} (h : Grow kU8 5 ok N w0 W v xs) : Own8 W v xs := by
  obtain ⟨inner, ho, hr⟩ := h.row
  exact ⟨inner, own_weaken ho (Nat.zero_le _), hr.imp_ (fun p c hp => Kd.FK_now hp)⟩
theorem ty (h : Own8 w v xs) (hk : v.ownBlock = some k) : Ty w 5 k := by
  obtain ⟨inner, ho, _⟩ := h
  obtain ⟨cells, hc⟩ := own_typed ho k hk
  exact ⟨cells, _, hc⟩
theorem lt (h : Own8 w v xs) (hk : v.ownBlock = some k) : k < w.heap.size := (h.ty hk).lt
theorem ne (h : Own8 w v xs) {t' : TypeId} {b : Nat} (hT : Ty w t' b) (hne : (5 : TypeId) ≠ t') : v.ownBlock ≠ some b := fun e => (h.ty e).ne hne hT
theorem nmem (h : Own8 w v xs) {t' : TypeId} {b : Nat} (hT : Ty w t' b) (hne : (5 : TypeId) ≠ t') : b ∉ v.ownBlock.toList := fun e => by
  rw [Option.mem_toList] at e
  exact h.ne hT hne e
theorem only {S : List Nat} (h : Own8 w v xs) (o : Only S w w') (hS : ∀ k ∈ S, v.ownBlock ≠ some k) : Own8 w' v xs := by
  obtain ⟨inner, ho, hr⟩ := h
  exact ⟨inner, own_move ho (fun k hk => o.block k (own_lt ho k hk) (fun hm => hS k hm hk)), hr⟩
theorem on (h : Own8 w v xs) (hb : Below w.heap.size w w') : Own8 w' v xs := h.only (Only.of_below [] hb) (by simp)
theorem reads (h : Own8 w v xs) : ∃ A c, v = .slice A xs.length c ∧ xs.length ≤ c ∧ kU8.C w A xs.length xs := by
  have h' : OwnRow (kU8.K w) 5 1 w 0 v xs := by
    obtain ⟨inner, ho, hr⟩ := h
    exact ⟨inner, ho, hr.imp_ (fun p c hp => hp)⟩
  exact OwnRow.reads h'
/-- What is read of it lies in its block. -/
theorem at_ {A : Option Addr} {n c : Nat} (h : Own8 w (.slice A n c) xs) : ∀ ad, A = some ad → (Value.slice A n c).ownBlock = some ad.block := by
  rintro ad rfl
  rfl
section
variable {ops : Array Oper} {rest : List Oper} {o : Oper} {a : Act} {Q : Exit → Act → World → Prop} {K : Act → World → Prop} {E : Prop} {ys : List UInt8}
theorem cat_rows {A : Option Addr} {m : Nat} (HC : kU8.C W A m ys) : ReadsRow (fun (x : UInt8) (cs : List Value) => cs = [.int .u8 (x.toNat : Int)]) 1 W A m ys := HC
/-- append(v, ys...). -/
theorem cat (hgd : o.guard = none) (s x : Operand)
    (ho : o.op = .call { callee := .builtin .append, args := #[s, x], argTypes := #[24, 24] })
    (H : Own8 W v xs) (A : Option Addr) (m c : Nat) (hs : a.eval s = v) (hx : a.eval x = .slice A m c) (HC : kU8.C W A m ys) (hl : xs.length + m ≤ 140737488355328)
    (h : ∀ v1 w1, Own8 w1 v1 (xs ++ ys) → Only v.ownBlock.toList W w1 → (v1.ownBlock = v.ownBlock ∨ ∃ b, v1.ownBlock = some b ∧ W.heap.size ≤ b) → wpList Try.prog ops Q rest (a.put o.dst v1) w1) :
    wpList Try.prog ops Q (o :: rest) a W := by
  refine own_append_rows (w0 := W) 0 hgd s x 24 5 (.int .u8 0) 1 1 ho Try.underlying24 info8 rfl (by omega) (by omega) v xs ys A m c hs hx H HC (fun q cs hq => by rw [hq]; simp [Value.oneCell']) (Below.refl _ _) (Nat.zero_le _) (by omega) ?_
  intro v1 w1 hown hB hg hat
  exact h v1 w1 hown ((Only.refl _ W).grown hg (fun k hk => .inl (Option.mem_toList.2 hk))) hat
/-- The same as a step of a region that draws. -/
theorem step_cat (hgd : o.guard = none) (s x : Operand)
    (ho : o.op = .call { callee := .builtin .append, args := #[s, x], argTypes := #[24, 24] })
    (H : Own8 W v xs) (A : Option Addr) (m c : Nat) (hs : a.eval s = v) (hx : a.eval x = .slice A m c) (HC : kU8.C W A m ys) (hl : xs.length + m ≤ 140737488355328)
    (h : ∀ v1 w1, Own8 w1 v1 (xs ++ ys) → Only v.ownBlock.toList W w1 → (v1.ownBlock = v.ownBlock ∨ ∃ b, v1.ownBlock = some b ∧ W.heap.size ≤ b) → K (a.put o.dst v1) w1) :
    if Region.wanted o (yielded ops a.tmps) = true then Oper.wp Try.prog o a W K Q else E := by
  refine step_append_rows 0 hgd s x 24 5 (.int .u8 0) 1 1 ho Try.underlying24 info8 rfl (by omega) (by omega) v xs ys A m c hs hx H HC (fun q cs hq => by rw [hq]; simp [Value.oneCell']) (Nat.zero_le _) (by omega) ?_
  intro v1 w1 hown hg hat
  exact h v1 w1 hown ((Only.refl _ W).grown hg (fun k hk => .inl (Option.mem_toList.2 hk))) hat
end
end Own8
/-- What a call may turn of what it owns: own; own' is what it owns then. -/
structure Next (own own' : List Nat) (w w' : World) : Prop where
  only : Only own w w'
  own : ∀ k ∈ own', k ∈ own ∨ w.heap.size ≤ k
namespace Next
variable {o1 o2 o3 : List Nat} {w w1 w2 : World}
theorem refl (o1 : List Nat) (w : World) : Next o1 o1 w w := ⟨Only.refl _ _, fun _ h => .inl h⟩
theorem trans (h : Next o1 o2 w w1) (k : Next o2 o3 w1 w2) : Next o1 o3 w w2 :=
  ⟨h.only.then_ k.only h.own, fun i hi => by
    rcases k.own i hi with h1 | h1
    · exact h.own i h1
    · exact .inr (Nat.le_trans h.only.size h1)⟩
theorem on (h : Next o1 o2 w w1) (k : Below w1.heap.size w1 w2) : Next o1 o2 w w2 := ⟨h.only.on k, h.own⟩
theorem ahead (k : Below w.heap.size w w1) (h : Next o1 o2 w1 w2) : Next o1 o2 w w2 :=
  ⟨(Only.of_below o1 k).trans h.only, fun i hi => by
    rcases h.own i hi with h1 | h1
    · exact .inl h1
    · exact .inr (Nat.le_trans k.size h1)⟩
/-- What lies elsewhere stays, and lies elsewhere. -/
theorem foot {P : World → Prop} (h : Next o1 o2 w w1) (f : Foot P w (fun i => i ∉ o1)) : Foot P w1 (fun i => i ∉ o2) := by
  have f1 : Foot P w1 (fun i => i ∉ o1 ∧ i < w.heap.size) := Foot.step (Foot.bound f) (fun i hi _ => h.only.block i hi.2 hi.1)
  refine Foot.mono f1 (fun i hi hm => ?_)
  rcases h.own i hm with h1 | h1
  · exact hi.1 h1
  · omega
end Next
structure DiskT (w : World) (d : Nat) (lv tv : Value) (L T : List UInt8) (n : Int) : Prop where
  blk : Blk w d [lv, tv, .int .i64 n]
  ty : Ty w 92 d
  lo : Own8 w lv L
  tl : Own8 w tv T
  ne : ∀ k, lv.ownBlock = some k → tv.ownBlock ≠ some k
def dOwn (d : Nat) (lv tv : Value) : List Nat := d :: (lv.ownBlock.toList ++ tv.ownBlock.toList)
/-- A disk: what lasts of it, its tail, how often it was synced. -/
def DiskR (w : World) (own : List Nat) (d : Nat) (L T : List UInt8) (n : Int) : Prop := ∃ lv tv, own = dOwn d lv tv ∧ DiskT w d lv tv L T n
theorem tDisk8 : (5 : TypeId) ≠ 92 := by decide
theorem mem_dOwn {d : Nat} {lv tv : Value} {k : Nat} : k ∈ dOwn d lv tv ↔ k = d ∨ lv.ownBlock = some k ∨ tv.ownBlock = some k := by
  simp [dOwn]
theorem DiskR.only {w w' : World} {own S : List Nat} {d : Nat} {L T : List UInt8} {n : Int} (h : DiskR w own d L T n) (o : Only S w w') (hS : ∀ k ∈ own, k ∉ S) : DiskR w' own d L T n := by
  obtain ⟨lv, tv, rfl, h⟩ := h
  have hd := hS d (mem_dOwn.2 (.inl rfl))
  exact ⟨lv, tv, rfl, h.blk.only o hd, h.ty.only o hd, h.lo.only o (fun k hk e => hS k (mem_dOwn.2 (.inr (.inl e))) hk), h.tl.only o (fun k hk e => hS k (mem_dOwn.2 (.inr (.inr e))) hk), h.ne⟩
theorem DiskR.on {w w' : World} {own : List Nat} {d : Nat} {L T : List UInt8} {n : Int} (h : DiskR w own d L T n) (k : Below w.heap.size w w') : DiskR w' own d L T n := h.only (Only.of_below [] k) (by simp)
theorem DiskR.lt {w : World} {own : List Nat} {d : Nat} {L T : List UInt8} {n : Int} (h : DiskR w own d L T n) : ∀ k ∈ own, k < w.heap.size := by
  obtain ⟨lv, tv, rfl, h⟩ := h
  intro k hk
  rcases mem_dOwn.1 hk with rfl | e | e
  · exact h.blk.lt
  · exact h.lo.lt e
  · exact h.tl.lt e
set_option maxRecDepth 100000 in
theorem diskNew_calls (w : World) : Calls Try.prog 28 #[] w fun e w' => ∃ d own, e = .returned (.pointer (some ⟨d, 0, none⟩)) ∧ DiskR w' own d [] [] 0 ∧ (∀ k ∈ own, w.heap.size ≤ k) ∧ Below w.heap.size w w' := by
  go_enter Try.func28, Try.ntmps28
  go_wp2
  go_ret
  refine ⟨w.heap.size, dOwn w.heap.size (.slice none 0 0) (.slice none 0 0), rfl, ⟨_, _, rfl, Blk.new_ _ _ _ rfl rfl, Ty.new _ _ _ _, Own8.none_ _, Own8.none_ _, fun k h => by cases h⟩, fun k hk => ?_, below_alloc (Below.refl _ _) _⟩
  rcases mem_dOwn.1 hk with rfl | e | e
  · exact Nat.le_refl _
  · cases e
  · cases e
end Go.Proofs.Ytmmelfnhhjfaeaa
namespace Go.Proofs.Ytmmelfnhhjfaeaa
open Go.RowKit
section
variable {P : Program} {ops : Array Oper} {Q : Exit → Act → World → Prop} {md : Region.Mode} {S : World → Prop}
/-- Number i is wanted and yields v in every world that meets S. -/
theorem takeH (i d : Nat) {oi : Oper} {v : Value} {fuel : Nat} {listed : Array Bool} {a : Act} {w : World} (hi : ops[i]? = some oi) (hd : oi.dst = some d)
    (hs : Region.noSelect ops = true) (hf : Region.free md ops listed i = true) (hr : (Region.ready md ops listed).contains i = true)
    (hQ : ∀ c a w, Q (.panic c) (a.put (some d) v) w → Q (.panic c) a w) (hS : S w) (hw : Region.wanted oi (yielded ops a.tmps) = true) (hy : ∀ w, S w → (execOp a.eval oi).run P w = .ok (.value v) w)
    (h : wpAnyH P md ops Q S fuel (listed.setIfInBounds i true) (a.put (some d) v) w) : wpAnyH P md ops Q S (fuel + 1) listed a w := by
  rw [← hd] at h hQ
  exact wpAnyH_take hi hs hf hr hQ (.inl ⟨hw, hy⟩) hS h
/-- Number i is not wanted. -/
theorem skipH (i d : Nat) {oi : Oper} {fuel : Nat} {listed : Array Bool} {a : Act} {w : World} (hi : ops[i]? = some oi) (hd : oi.dst = some d)
    (hs : Region.noSelect ops = true) (hf : Region.free md ops listed i = true) (hr : (Region.ready md ops listed).contains i = true)
    (hQ : ∀ c a w, Q (.panic c) (a.put (some d) undef) w → Q (.panic c) a w) (hS : S w) (hw : Region.wanted oi (yielded ops a.tmps) = false)
    (h : wpAnyH P md ops Q S fuel (listed.setIfInBounds i true) (a.put (some d) undef) w) : wpAnyH P md ops Q S (fuel + 1) listed a w := by
  rw [← hd] at h hQ
  exact wpAnyH_take hi hs hf hr hQ (.inr ⟨hw, rfl⟩) hS h
end
end Go.Proofs.Ytmmelfnhhjfaeaa
set_option linter.unusedVariables false
namespace Go.Proofs.Ytmmelfnhhjfaeaa
open Go.RowKit
section
variable {P : Program} {ops : Array Oper} {md : Region.Mode} {S : World → Prop}
/-- What comes of a run: the value v, in a world that meets S. -/
def CalmRun (P : Program) (S : World → Prop) (v : Value) : Result Go.Next → Prop
  | .ok (.value u) w' => u = v ∧ S w'
  | .ok .skip w' => v = undef ∧ S w'
  | .ok (.enter f args) w' => Calls P f args w' (fun e w'' => e = .returned v ∧ S w'')
  | _ => False
def CalmAt (P : Program) (ops : Array Oper) (S : World → Prop) (o : Oper) (v : Value) (a : Act) : Prop :=
  (Region.wanted o (yielded ops a.tmps) = true ∧ ∀ w, S w → CalmRun P S v ((execOp a.eval o).run P w)) ∨ (Region.wanted o (yielded ops a.tmps) = false ∧ v = undef)
theorem CalmAt.of_same {o : Oper} {v : Value} {a a' : Act} (hy : CalmAt P ops S o v a) (he : execOp a'.eval o = execOp a.eval o)
    (hw : Region.wanted o (yielded ops a'.tmps) = Region.wanted o (yielded ops a.tmps)) : CalmAt P ops S o v a' := by
  unfold CalmAt at *
  rw [he, hw]
  exact hy
theorem CalmAt.wpOp {i : Nat} {o : Oper} {v : Value} {a : Act} {w : World} {Q : Exit → Act → World → Prop} {K : Act → World → Prop} (hi : ops[i]? = some o) (hy : CalmAt P ops S o v a) (hS : S w) (h : ∀ w', S w' → K (a.put o.dst v) w') : wpOp P ops Q i K a w := by
  unfold Go.wpOp
  simp only [hi]
  rcases hy with ⟨hw, hv⟩ | ⟨hw, rfl⟩
  · simp only [hw, if_true]
    refine .inl ?_
    have h1 := hv w hS
    unfold Oper.wp
    generalize (execOp a.eval o).run P w = r at *
    cases r with
    | ok n w' =>
      cases n <;> simp only [CalmRun] at h1 <;> simp only [Oper.upon]
      case value u => obtain ⟨rfl, h2⟩ := h1; exact h _ h2
      case skip => obtain ⟨rfl, h2⟩ := h1; exact h _ h2
      case enter f args => exact h1.mono fun e w'' ⟨he, hs⟩ => by subst he; exact h _ hs
    | halt x w' => simp only [CalmRun] at h1
  · simp only [hw, Bool.false_eq_true, if_false]; exact h _ hS
/-- Whatever comes up of the head, it is calm; behind the head stands L. -/
def wpAnyC (P : Program) (md : Region.Mode) (ops : Array Oper) (S : World → Prop) (n : Nat) (L : Array Bool → Act → Prop) : Nat → Array Bool → Act → Prop
  | 0, listed, a => L listed a
  | f + 1, listed, a => Region.ready md ops listed ≠ [] ∧ ∀ i ∈ Region.ready md ops listed, i < n ∧ ∃ o v, ops[i]? = some o ∧ CalmAt P ops S o v a ∧ wpAnyC P md ops S n L f (listed.setIfInBounds i true) (a.put o.dst v)
theorem wpAny_of_calm {n g : Nat} {L : Array Bool → Act → Prop} {Q : Exit → Act → World → Prop} (hL : ∀ listed a w, L listed a → S w → wpAny P md ops Q g listed a w) :
    ∀ (f : Nat) (listed : Array Bool) (a : Act) (w : World), S w → wpAnyC P md ops S n L f listed a → wpAny P md ops Q (f + g) listed a w
  | 0, listed, a, w, hS, h => by rw [Nat.zero_add]; exact hL _ _ _ h hS
  | f + 1, listed, a, w, hS, h => by
    rw [show f + 1 + g = (f + g) + 1 by omega]
    refine ⟨fun h0 => absurd h0 h.1, fun i hi => ?_⟩
    obtain ⟨_, o, v, ho, hc, hr⟩ := h.2 i hi
    exact hc.wpOp ho hS (fun w' hS' => wpAny_of_calm hL f _ _ w' hS' hr)
theorem wpAnyC_first {n i : Nat} {oi : Oper} {v : Value} {L : Array Bool → Act → Prop} (hi : ops[i]? = some oi) (hsel : ∀ (j : Nat) (o : Oper) cs b, ops[j]? = some o → o.op ≠ .select cs b)
    (hs : Region.sinkB md ops n = true) (hc : Region.chainB md ops n = true) (hn : n < ops.size) (hin : i < n)
    (hdone : ∀ listed a, L listed a → ∀ j ∈ Region.ready md ops listed, n ≤ j) :
    ∀ (f : Nat) (listed : Array Bool) (a : Act), HeadInv md ops n listed →
      (∀ j oj, ops[j]? = some oj → j ≠ i → listed.getD j true = false → (∀ e ∈ oj.after, Region.binds md e = true → e.on ≠ i) → oi.apart ops oj = true) →
      i ∈ Region.ready md ops listed → CalmAt P ops S oi v a →
      wpAnyC P md ops S n L f (listed.setIfInBounds i true) (a.put oi.dst v) → wpAnyC P md ops S n L (f + 1) listed a := by
  intro f
  induction f with
  | zero =>
    intro listed a inv _ hr hy H
    have hun := (mem_ready.1 hr).1
    refine ⟨fun h => (by rw [h] at hr; cases hr), fun j hj => ?_⟩
    have hjn : j < n := by
      rcases Nat.lt_or_ge j n with h | h
      · exact h
      · exact absurd hj (tail_waits hs hc hn inv _ i rfl hin hun j h)
    refine ⟨hjn, ?_⟩
    by_cases hji : j = i
    · subst hji; exact ⟨oi, v, hi, hy, H⟩
    · have := hdone _ _ H j (ready_mono hj hji)
      omega
  | succ f ih =>
    intro listed a inv hfree hr hy H
    have hun := (mem_ready.1 hr).1
    refine ⟨fun h => (by rw [h] at hr; cases hr), fun j hj => ?_⟩
    have hjn : j < n := by
      rcases Nat.lt_or_ge j n with h | h
      · exact h
      · exact absurd hj (tail_waits hs hc hn inv _ i rfl hin hun j h)
    refine ⟨hjn, ?_⟩
    by_cases hji : j = i
    · subst hji; exact ⟨oi, v, hi, hy, H⟩
    · obtain ⟨_, oj, u, hoj, hcj, hrj⟩ := H.2 j (ready_mono hj hji)
      obtain ⟨hjun, oj', hoj', hall⟩ := mem_ready.1 hj
      obtain rfl : oj = oj' := Option.some.inj (hoj.symm.trans hoj')
      have hnot : ∀ e ∈ oj.after, Region.binds md e = true → e.on ≠ i := fun e he hb heq => by
        have h1 := hall e he hb
        rw [heq, getD_both hun] at h1
        cases h1
      have hap := hfree j oj hoj hji hjun hnot
      obtain ⟨h1, h2, h3⟩ := Oper.apart_spec hap
      have hsj := fun cs b => hsel j oj cs b hoj
      have hsi := fun cs b => hsel i oi cs b hi
      have hfree' : ∀ k ok, ops[k]? = some ok → k ≠ i → (listed.setIfInBounds j true).getD k true = false →
          (∀ e ∈ ok.after, Region.binds md e = true → e.on ≠ i) → oi.apart ops ok = true := fun k ok hk hki hun hno => by
        refine hfree k ok hk hki ?_ hno
        by_cases hjk : j = k
        · subst hjk; exact hjun
        · rw [getD_set_ne true hjk] at hun; exact hun
      refine ⟨oj, u, hoj, hcj.of_same (execOp_put oj hsj a oi.dst v h1).symm (wanted_put oj a oi.dst v h1).symm, ?_⟩
      refine ih (listed.setIfInBounds j true) _ (inv.set hj hjn) hfree' (ready_mono hr (Ne.symm hji)) (hy.of_same (execOp_put oi hsi a oj.dst u h3) (wanted_put oi a oj.dst u h3)) ?_
      rw [Array.setIfInBounds_comm _ _ hji, ← Act.put_comm a v u h2]
      exact hrj
/-- The head, in the order of the text. -/
def wpCalm (P : Program) (ops : Array Oper) (S : World → Prop) (Q : Act → Prop) : List Oper → Act → Prop
  | [], a => Q a
  | o :: rest, a => ∃ v, CalmAt P ops S o v a ∧ wpCalm P ops S Q rest (a.put o.dst v)
theorem wpCalm_nil {Q : Act → Prop} {a : Act} (h : Q a) : wpCalm P ops S Q [] a := h
theorem wpCalm_val {Q : Act → Prop} {a : Act} {o : Oper} {rest : List Oper} {v : Value} (hw : Region.wanted o (yielded ops a.tmps) = true) (hy : ∀ w, S w → (execOp a.eval o).run P w = .ok (.value v) w) (h : wpCalm P ops S Q rest (a.put o.dst v)) : wpCalm P ops S Q (o :: rest) a :=
  ⟨v, .inl ⟨hw, fun w hS => by rw [hy w hS]; exact ⟨rfl, hS⟩⟩, h⟩
theorem wpCalm_skip {Q : Act → Prop} {a : Act} {o : Oper} {rest : List Oper} (hw : Region.wanted o (yielded ops a.tmps) = false) (h : wpCalm P ops S Q rest (a.put o.dst undef)) : wpCalm P ops S Q (o :: rest) a :=
  ⟨undef, .inr ⟨hw, rfl⟩, h⟩
theorem wpCalm_call {Q : Act → Prop} {a : Act} {o : Oper} {rest : List Oper} {v : Value} {f : FuncId} {args : Array Value} (hw : Region.wanted o (yielded ops a.tmps) = true) (hy : ∀ w, S w → (execOp a.eval o).run P w = .ok (.enter f args) w) (hc : ∀ w, S w → Calls P f args w (fun e w'' => e = .returned v ∧ S w''))
    (h : wpCalm P ops S Q rest (a.put o.dst v)) : wpCalm P ops S Q (o :: rest) a :=
  ⟨v, .inl ⟨hw, fun w hS => by rw [hy w hS]; exact hc w hS⟩, h⟩
theorem wpAnyC_lex {n g : Nat} {Lq : Act → Prop} (hsel : Region.noSelect ops = true) (hs : Region.sinkB md ops n = true) (hc : Region.chainB md ops n = true) (hn : n < ops.size) :
    ∀ (l : List Oper) (k : Nat) (listed : Array Bool) (a : Act), (∀ j, j < l.length → l[j]? = ops[k + j]?) → k + l.length = n → HeadInv md ops n listed →
    Region.lexHead md ops g l.length k listed = true → wpCalm P ops S Lq l a →
    wpAnyC P md ops S n (fun listed' a' => Region.seqB md ops g n listed' = true ∧ Lq a') l.length listed a
  | [], k, listed, a, _, hk, _, hB, h => by
    have : k = n := by simpa using hk
    subst this
    exact ⟨by simpa [Region.lexHead] using hB, h⟩
  | o :: l, k, listed, a, hl, hk, inv, hB, h => by
    have h0 : ops[k]? = some o := by simpa using (hl 0 (by simp)).symm
    simp only [List.length_cons, Region.lexHead, Bool.and_eq_true] at hB
    obtain ⟨⟨hr, hf⟩, hB'⟩ := hB
    have hkn : k < n := by simp only [List.length_cons] at hk; omega
    have hr' : k ∈ Region.ready md ops listed := by simpa using hr
    obtain ⟨v, hy, hK⟩ := h
    exact wpAnyC_first h0 (Region.noSelect_spec hsel) hs hc hn hkn (fun listed' a' hL => seqB_ready hL.1) l.length listed a inv (Region.free_spec h0 hf) hr' hy
      (wpAnyC_lex hsel hs hc hn l (k + 1) _ _ (fun j hj => by have := hl (j + 1) (by simp; omega); simpa [Nat.add_assoc, Nat.add_comm 1 j] using this) (by simp only [List.length_cons] at hk; omega) (inv.set hr' hkn) hB' hK)
/-- The law. -/
theorem region_calm {id : Nat} {Q : Exit → Act → World → Prop} {a : Act} {w : World} {l : List Oper} (n : Nat) (S : World → Prop) (hm : P.follows .mixedOrders = true) (hB : Region.lexTailB .any l.toArray n = true) (hS : S w.drew)
    (h : wpCalm P l.toArray S (fun a' => ∀ w', S w' → wpList P l.toArray Q (l.drop n) a' w') (l.take n) a) : (Code.region id l.toArray true).wp P Q a w := by
  simp only [Region.lexTailB, Bool.and_eq_true, decide_eq_true_eq] at hB
  obtain ⟨⟨⟨⟨hsel, hn⟩, hs⟩, hc⟩, hlex⟩ := hB
  have hn' : n < l.length := by simpa using hn
  have htl : (l.take n).length = n := by simp; omega
  have hdl : (l.drop n).length = l.toArray.size - n := by simp
  have inv0 : HeadInv .any l.toArray n (Array.replicate l.toArray.size false) :=
    ⟨by simp, fun j oj _ hl => (by rw [getD_replicate_false] at hl; cases hl), fun t _ ht => getD_in (by simpa using ht) (getD_replicate_false _ _)⟩
  have H := wpAnyC_lex (md := .any) (g := l.toArray.size - n) hsel hs hc hn (l.take n) 0 _ a (fun j hj => by
    have hj' : j < n := by rw [htl] at hj; exact hj
    simp [hj']) (by simpa using htl) inv0 (by rw [htl]; exact hlex) h
  refine wp_region_any hm ?_
  have := wpAny_of_calm (Q := Q) (g := l.toArray.size - n) (fun listed a' w' hL hS' => by
    have := wpAny_of_seq (md := .any) (Q' := Q) (l.drop n) n listed a' w' (fun j => by simp [List.getElem?_drop]) (by rw [hdl]; exact hL.1) (hL.2 w' hS')
    rwa [hdl] at this) _ _ _ w.drew hS H
  rw [htl, show n + (l.toArray.size - n) = l.toArray.size by omega] at this
  exact this
end
end Go.Proofs.Ytmmelfnhhjfaeaa
set_option linter.unusedVariables false
set_option linter.unusedSimpArgs false
namespace Go.Proofs.Ytmmelfnhhjfaeaa
open Go.RowKit Go.Proofs.YtmmelfnhhjfaeaaW.PrintWords
theorem Blk.three {w : World} {b : Nat} {x0 x1 x2 : Value} (h : Blk w b [x0, x1, x2]) : (w.cell? ⟨b, 0, none⟩ = some x0 ∧ w.cell? ⟨b, 1, none⟩ = some x1 ∧ w.cell? ⟨b, 2, none⟩ = some x2) ∧ w.frozen? ⟨b, 0, none⟩ = false ∧ w.frozen? ⟨b, 1, none⟩ = false ∧ w.frozen? ⟨b, 2, none⟩ = false :=
  ⟨⟨h.cell 0 rfl, h.cell 1 rfl, h.cell 2 rfl⟩, h.frozen 0 rfl, h.frozen 1 rfl, h.frozen 2 rfl⟩
def SyncTold (own : List Nat) (d : Nat) (L T : List UInt8) (n : Int) (w : World) (e : Ending) (w' : World) : Prop := ∃ own' n', e = .returned (.int .i64 0) ∧ DiskR w' own' d (L ++ T) [] n' ∧ (0 ≤ n' ∧ n' ≤ n + 1) ∧ Next own own' w w'
set_option maxRecDepth 100000 in
theorem diskSync_calls (w : World) (own : List Nat) (d : Nat) (L T : List UInt8) (n : Int) (h : DiskR w own d L T n) (hn : 0 ≤ n ∧ n ≤ 1000000000000) (hl : L.length + T.length ≤ 140737488355328) :
    Calls Try.prog 37 #[.pointer (some ⟨d, 0, none⟩)] w (SyncTold own d L T n w) := by
  obtain ⟨lv, tv, rfl, h⟩ := h
  have HD := Aside0.mk h
  obtain ⟨TA, tc, rfl, htc, hT⟩ := h.tl.reads
  have HT := Aside0.mk hT
  have HL := Aside0.mk hl
  clear h hl hT htc
  obtain ⟨⟨k0, k1, k2⟩, g0, g1, g2⟩ := HD.out.blk.three
  go_enter Try.func37, Try.ntmps37
  by_cases h0 : T.length = 0
  · have hb : ¬ (0 : Int) < (T.length : Int) := by omega
    have H0 := Aside0.mk h0
    clear h0
    go_upto_region 5 with (fail)
    obtain ⟨Wx, hWx, HDW, HOW⟩ : ∃ Wx, w = Wx ∧ Aside0 (DiskT Wx d lv (.slice TA T.length tc) L T (n)) ∧ Aside0 (Only [d] w Wx) := ⟨w, rfl, ⟨HD.out⟩, ⟨Only.refl [d] w⟩⟩
    rw [hWx]
    clear hWx k0 k1 k2 g0 g1 g2 HD
    obtain ⟨w4, hw4⟩ : ∃ w4, w4 = World.drew Wx := ⟨_, rfl⟩
    have HS4 : Aside0 (Below Wx.heap.size Wx w4) := ⟨by rw [hw4]; exact below_drew (Below.refl _ _)⟩
    have HD4 := Aside0.mk (And.intro (HDW.out.blk.on HS4.out) (And.intro (HDW.out.ty.below HS4.out) (And.intro (HDW.out.lo.on HS4.out) (HDW.out.tl.on HS4.out))))
    have HOD := Aside0.mk (Only.of_below (dOwn d lv (.slice TA T.length tc)) HS4.out)
    obtain ⟨⟨k0, k1, k2⟩, g0, g1, g2⟩ := HD4.out.1.three
    obtain ⟨TA', tc', hte, htc, hT⟩ := HD4.out.2.2.2.reads
    injection hte with e1 e2 e3
    subst e1 e3
    have HT4 := Aside0.mk hT
    clear e2 htc hT
    refine wp_region_noPanic ?_
    refine wp_region_held_drew (S := Only (dOwn d lv (.slice TA T.length tc)) Wx) (by kernel_rfl) ((Only.refl _ _).drew) (fun hHeld => ?_)
    rw [← hw4]
    clear hw4 hHeld
    have hHeld := HOD.out
    (refine takeH 0 18 (v := ?_) rfl rfl (by kernel_rfl) (by kernel_rfl) (by kernel_rfl) (fun _ _ _ h => h) hHeld rfl ?_ ?_; rotate_left; (focus (intro w' hSw; go_simp; try with_reducible rfl)))
    (try simp only [Act.put, List.setIfInBounds_toArray, List.set_cons_zero, List.set_cons_succ])
    (refine takeH 1 19 (v := ?_) rfl rfl (by kernel_rfl) (by kernel_rfl) (by kernel_rfl) (fun _ _ _ h => h) hHeld rfl ?_ ?_; rotate_left; (focus (intro w' hSw; go_simp; try with_reducible rfl)))
    (try simp only [Act.put, List.setIfInBounds_toArray, List.set_cons_zero, List.set_cons_succ])
    (refine takeH 2 20 (v := ?_) rfl rfl (by kernel_rfl) (by kernel_rfl) (by kernel_rfl) (fun _ _ _ h => h) hHeld rfl ?_ ?_; rotate_left; (focus (intro w' hSw; go_simp; try with_reducible rfl)))
    (try simp only [Act.put, List.setIfInBounds_toArray, List.set_cons_zero, List.set_cons_succ])
    (refine takeH 3 21 (v := ?_) rfl rfl (by kernel_rfl) (by kernel_rfl) (by kernel_rfl) (fun _ _ _ h => h) hHeld rfl ?_ ?_; rotate_left; (focus (intro w' hSw; go_simp; try with_reducible rfl)))
    (try simp only [Act.put, List.setIfInBounds_toArray, List.set_cons_zero, List.set_cons_succ])
    (refine takeH 4 22 (v := ?_) rfl rfl (by kernel_rfl) (by kernel_rfl) (by kernel_rfl) (fun _ _ _ h => h) hHeld rfl ?_ ?_; rotate_left; (focus (intro w' hSw; go_simp; try with_reducible rfl)))
    (try simp only [Act.put, List.setIfInBounds_toArray, List.set_cons_zero, List.set_cons_succ])
    (refine takeH 6 24 (v := ?_) rfl rfl (by kernel_rfl) (by kernel_rfl) (by kernel_rfl) (fun _ _ _ h => h) hHeld rfl ?_ ?_; rotate_left; (focus (intro w' hSw; go_simp; try with_reducible rfl)))
    (try simp only [Act.put, List.setIfInBounds_toArray, List.set_cons_zero, List.set_cons_succ])
    (refine takeH 7 25 (v := ?_) rfl rfl (by kernel_rfl) (by kernel_rfl) (by kernel_rfl) (fun _ _ _ h => h) hHeld rfl ?_ ?_; rotate_left; (focus (intro w' hSw; go_simp; try with_reducible rfl)))
    (try simp only [Act.put, List.setIfInBounds_toArray, List.set_cons_zero, List.set_cons_succ])
    (refine takeH 8 26 (v := ?_) rfl rfl (by kernel_rfl) (by kernel_rfl) (by kernel_rfl) (fun _ _ _ h => h) hHeld rfl ?_ ?_; rotate_left; (focus (intro w' hSw; go_simp; try with_reducible rfl)))
    (try simp only [Act.put, List.setIfInBounds_toArray, List.set_cons_zero, List.set_cons_succ])
    refine wpAnyH_ready (rs := [5, 9]) (by kernel_rfl) (by simp) ?_
    refine AllReadyH.cons rfl (fun K hK => ?_) (AllReadyH.cons rfl (fun K hK => ?_) AllReadyH.nil)
    · go_simp
      refine hK.out _ _ HOD.out (fun hHeld => ?_)
      clear hK K
      (try simp only [Act.put, List.setIfInBounds_toArray, List.set_cons_zero, List.set_cons_succ])
      refine wpAnyH_ready (rs := [9]) (by kernel_rfl) (by simp) ?_
      refine AllReadyH.cons rfl (fun K hK => ?_) AllReadyH.nil
      go_simp
      refine hK.out _ _ (HOD.out) (fun hHeld => ?_)
      clear hK K
      (try simp only [Act.put, List.setIfInBounds_toArray, List.set_cons_zero, List.set_cons_succ])
      refine wpAnyH_ready (rs := [10]) (by kernel_rfl) (by simp) ?_
      refine AllReadyH.cons rfl (fun K hK => ?_) AllReadyH.nil
      refine Own8.step_cat rfl _ _ rfl HD4.out.2.2.1 TA T.length tc rfl rfl HT4.out (by have := HL.out; omega) ?_
      intro v5 w5 hv5 o5 hown5
      obtain ⟨A5, c5, rfl, _, _⟩ := hv5.reads
      rw [List.length_append] at hv5 hown5 ⊢
      have HV5 := Aside0.mk hv5
      have HO5 := Aside0.mk o5
      have HW5 := Aside0.mk hown5
      have HD5 := Aside0.mk (And.intro (HD4.out.1.only o5 (HD4.out.2.2.1.nmem HD4.out.2.1 tDisk8)) (HD4.out.2.1.only o5 (HD4.out.2.2.1.nmem HD4.out.2.1 tDisk8)))
      have HOA := Aside0.mk (HOD.out.trans (HO5.out.mono (S' := dOwn d lv (.slice TA T.length tc)) (fun i hi => .inl (mem_dOwn.2 (.inr (.inl (by simpa using hi)))))))
      clear hv5 o5 hown5 k0 k1 k2 g0 g1 g2
      obtain ⟨⟨k0, k1, k2⟩, g0, g1, g2⟩ := HD5.out.1.three
      refine hK.out _ _ HOA.out (fun hHeld => ?_)
      clear hK K
      (try simp only [Act.put, List.setIfInBounds_toArray, List.set_cons_zero, List.set_cons_succ])
      (refine takeH 11 29 (v := ?_) rfl rfl (by kernel_rfl) (by kernel_rfl) (by kernel_rfl) (fun _ _ _ h => h) hHeld rfl ?_ ?_; rotate_left; (focus (intro w' hSw; go_simp; try with_reducible rfl)))
      (try simp only [Act.put, List.setIfInBounds_toArray, List.set_cons_zero, List.set_cons_succ])
      (refine takeH 12 30 (v := ?_) rfl rfl (by kernel_rfl) (by kernel_rfl) (by kernel_rfl) (fun _ _ _ h => h) hHeld rfl ?_ ?_; rotate_left; (focus (intro w' hSw; go_simp; try with_reducible rfl)))
      (try simp only [Act.put, List.setIfInBounds_toArray, List.set_cons_zero, List.set_cons_succ])
      refine wpAnyH_ready (rs := [13]) (by kernel_rfl) (by simp) ?_
      refine AllReadyH.cons rfl (fun K hK => ?_) AllReadyH.nil
      go_simp
      refine hK.out _ _ (HOA.out.set (p := ⟨d, 0, none⟩) _ (.inl (mem_dOwn.2 (.inl rfl)))) (fun hHeld => ?_)
      clear hK K
      (try simp only [Act.put, List.setIfInBounds_toArray, List.set_cons_zero, List.set_cons_succ])
      (refine takeH 14 31 (v := ?_) rfl rfl (by kernel_rfl) (by kernel_rfl) (by kernel_rfl) (fun _ _ _ h => h) hHeld rfl ?_ ?_; rotate_left; (focus (intro w' hSw; go_simp; try with_reducible rfl)))
      (try simp only [Act.put, List.setIfInBounds_toArray, List.set_cons_zero, List.set_cons_succ])
      (refine takeH 15 32 (v := ?_) rfl rfl (by kernel_rfl) (by kernel_rfl) (by kernel_rfl) (fun _ _ _ h => h) hHeld rfl ?_ ?_; rotate_left; (focus (intro w' hSw; go_simp; try with_reducible rfl)))
      (try simp only [Act.put, List.setIfInBounds_toArray, List.set_cons_zero, List.set_cons_succ])
      refine wpAnyH_ready (rs := [16]) (by kernel_rfl) (by simp) ?_
      refine AllReadyH.cons rfl (fun K hK => ?_) AllReadyH.nil
      go_simp
      refine hK.out _ _ ((HOA.out.set (p := ⟨d, 0, none⟩) _ (.inl (mem_dOwn.2 (.inl rfl)))).set (p := ⟨d, 1, none⟩) _ (.inl (mem_dOwn.2 (.inl rfl)))) (fun hHeld => ?_)
      clear hK K
      (try simp only [Act.put, List.setIfInBounds_toArray, List.set_cons_zero, List.set_cons_succ])
      refine wpAnyH_done (by kernel_rfl) ?_ _
      refine NoPanic.normal ?_
      go_wp2
      go_ret
      obtain ⟨h1, h2, h3, h4⟩ := HD4.out
      have hn0 : Only (dOwn d lv (.slice TA T.length tc)) w5 ((w5.setCell ⟨d, 0, none⟩ (.slice A5 (L.length + T.length) c5)).setCell ⟨d, 1, none⟩ (.slice none 0 0)) := ((Only.refl _ _).set (p := ⟨d, 0, none⟩) _ (.inl (mem_dOwn.2 (.inl rfl)))).set (p := ⟨d, 1, none⟩) _ (.inl (mem_dOwn.2 (.inl rfl)))
      have hn1 : Only (dOwn d lv (.slice TA T.length tc)) w Wx := HOW.out.mono (fun i hi => .inl (mem_dOwn.2 (.inl (by simpa using hi))))
      have hn2 : Only (dOwn d lv (.slice TA T.length tc)) w4 w5 := HO5.out.mono (fun i hi => .inl (mem_dOwn.2 (.inr (.inl (by simpa using hi)))))
      have hs := hn1.size
      have hs4 := HS4.out.size
      refine ⟨dOwn d (.slice A5 (L.length + T.length) c5) (.slice none 0 0), n, rfl, ⟨_, _, rfl, (HD5.out.1.set 0 _).set 1 _, (HD5.out.2.set _ _).set _ _, ?_, Own8.none_ _, fun k _ e => by cases e⟩, by omega, ((hn1.on HS4.out).trans hn2).trans hn0, fun k hk => ?_⟩
      · refine HV5.out.only (S := [d]) (((Only.refl _ _).set _ (.inl (by simp))).set _ (.inl (by simp))) (fun k hk => ?_)
        obtain rfl : k = d := by simpa using hk
        exact HV5.out.ne HD5.out.2 tDisk8
      · rcases mem_dOwn.1 hk with rfl | e | e
        · exact .inl (mem_dOwn.2 (.inl rfl))
        · rcases HW5.out with h | ⟨b, h, hb⟩
          · exact .inl (mem_dOwn.2 (.inr (.inl (h ▸ e))))
          · rw [h] at e
            injection e with e
            exact .inr (by omega)
        · cases e
    · go_simp
      refine hK.out _ _ HOD.out (fun hHeld => ?_)
      clear hK K
      (try simp only [Act.put, List.setIfInBounds_toArray, List.set_cons_zero, List.set_cons_succ])
      refine wpAnyH_ready (rs := [5]) (by kernel_rfl) (by simp) ?_
      refine AllReadyH.cons rfl (fun K hK => ?_) AllReadyH.nil
      go_simp
      refine hK.out _ _ (HOD.out) (fun hHeld => ?_)
      clear hK K
      (try simp only [Act.put, List.setIfInBounds_toArray, List.set_cons_zero, List.set_cons_succ])
      refine wpAnyH_ready (rs := [10]) (by kernel_rfl) (by simp) ?_
      refine AllReadyH.cons rfl (fun K hK => ?_) AllReadyH.nil
      refine Own8.step_cat rfl _ _ rfl HD4.out.2.2.1 TA T.length tc rfl rfl HT4.out (by have := HL.out; omega) ?_
      intro v5 w5 hv5 o5 hown5
      obtain ⟨A5, c5, rfl, _, _⟩ := hv5.reads
      rw [List.length_append] at hv5 hown5 ⊢
      have HV5 := Aside0.mk hv5
      have HO5 := Aside0.mk o5
      have HW5 := Aside0.mk hown5
      have HD5 := Aside0.mk (And.intro (HD4.out.1.only o5 (HD4.out.2.2.1.nmem HD4.out.2.1 tDisk8)) (HD4.out.2.1.only o5 (HD4.out.2.2.1.nmem HD4.out.2.1 tDisk8)))
      have HOA := Aside0.mk (HOD.out.trans (HO5.out.mono (S' := dOwn d lv (.slice TA T.length tc)) (fun i hi => .inl (mem_dOwn.2 (.inr (.inl (by simpa using hi)))))))
      clear hv5 o5 hown5 k0 k1 k2 g0 g1 g2
      obtain ⟨⟨k0, k1, k2⟩, g0, g1, g2⟩ := HD5.out.1.three
      refine hK.out _ _ HOA.out (fun hHeld => ?_)
      clear hK K
      (try simp only [Act.put, List.setIfInBounds_toArray, List.set_cons_zero, List.set_cons_succ])
      (refine takeH 11 29 (v := ?_) rfl rfl (by kernel_rfl) (by kernel_rfl) (by kernel_rfl) (fun _ _ _ h => h) hHeld rfl ?_ ?_; rotate_left; (focus (intro w' hSw; go_simp; try with_reducible rfl)))
      (try simp only [Act.put, List.setIfInBounds_toArray, List.set_cons_zero, List.set_cons_succ])
      (refine takeH 12 30 (v := ?_) rfl rfl (by kernel_rfl) (by kernel_rfl) (by kernel_rfl) (fun _ _ _ h => h) hHeld rfl ?_ ?_; rotate_left; (focus (intro w' hSw; go_simp; try with_reducible rfl)))
      (try simp only [Act.put, List.setIfInBounds_toArray, List.set_cons_zero, List.set_cons_succ])
      refine wpAnyH_ready (rs := [13]) (by kernel_rfl) (by simp) ?_
      refine AllReadyH.cons rfl (fun K hK => ?_) AllReadyH.nil
      go_simp
      refine hK.out _ _ (HOA.out.set (p := ⟨d, 0, none⟩) _ (.inl (mem_dOwn.2 (.inl rfl)))) (fun hHeld => ?_)
      clear hK K
      (try simp only [Act.put, List.setIfInBounds_toArray, List.set_cons_zero, List.set_cons_succ])
      (refine takeH 14 31 (v := ?_) rfl rfl (by kernel_rfl) (by kernel_rfl) (by kernel_rfl) (fun _ _ _ h => h) hHeld rfl ?_ ?_; rotate_left; (focus (intro w' hSw; go_simp; try with_reducible rfl)))
      (try simp only [Act.put, List.setIfInBounds_toArray, List.set_cons_zero, List.set_cons_succ])
      (refine takeH 15 32 (v := ?_) rfl rfl (by kernel_rfl) (by kernel_rfl) (by kernel_rfl) (fun _ _ _ h => h) hHeld rfl ?_ ?_; rotate_left; (focus (intro w' hSw; go_simp; try with_reducible rfl)))
      (try simp only [Act.put, List.setIfInBounds_toArray, List.set_cons_zero, List.set_cons_succ])
      refine wpAnyH_ready (rs := [16]) (by kernel_rfl) (by simp) ?_
      refine AllReadyH.cons rfl (fun K hK => ?_) AllReadyH.nil
      go_simp
      refine hK.out _ _ ((HOA.out.set (p := ⟨d, 0, none⟩) _ (.inl (mem_dOwn.2 (.inl rfl)))).set (p := ⟨d, 1, none⟩) _ (.inl (mem_dOwn.2 (.inl rfl)))) (fun hHeld => ?_)
      clear hK K
      (try simp only [Act.put, List.setIfInBounds_toArray, List.set_cons_zero, List.set_cons_succ])
      refine wpAnyH_done (by kernel_rfl) ?_ _
      refine NoPanic.normal ?_
      go_wp2
      go_ret
      obtain ⟨h1, h2, h3, h4⟩ := HD4.out
      have hn0 : Only (dOwn d lv (.slice TA T.length tc)) w5 ((w5.setCell ⟨d, 0, none⟩ (.slice A5 (L.length + T.length) c5)).setCell ⟨d, 1, none⟩ (.slice none 0 0)) := ((Only.refl _ _).set (p := ⟨d, 0, none⟩) _ (.inl (mem_dOwn.2 (.inl rfl)))).set (p := ⟨d, 1, none⟩) _ (.inl (mem_dOwn.2 (.inl rfl)))
      have hn1 : Only (dOwn d lv (.slice TA T.length tc)) w Wx := HOW.out.mono (fun i hi => .inl (mem_dOwn.2 (.inl (by simpa using hi))))
      have hn2 : Only (dOwn d lv (.slice TA T.length tc)) w4 w5 := HO5.out.mono (fun i hi => .inl (mem_dOwn.2 (.inr (.inl (by simpa using hi)))))
      have hs := hn1.size
      have hs4 := HS4.out.size
      refine ⟨dOwn d (.slice A5 (L.length + T.length) c5) (.slice none 0 0), n, rfl, ⟨_, _, rfl, (HD5.out.1.set 0 _).set 1 _, (HD5.out.2.set _ _).set _ _, ?_, Own8.none_ _, fun k _ e => by cases e⟩, by omega, ((hn1.on HS4.out).trans hn2).trans hn0, fun k hk => ?_⟩
      · refine HV5.out.only (S := [d]) (((Only.refl _ _).set _ (.inl (by simp))).set _ (.inl (by simp))) (fun k hk => ?_)
        obtain rfl : k = d := by simpa using hk
        exact HV5.out.ne HD5.out.2 tDisk8
      · rcases mem_dOwn.1 hk with rfl | e | e
        · exact .inl (mem_dOwn.2 (.inl rfl))
        · rcases HW5.out with h | ⟨b, h, hb⟩
          · exact .inl (mem_dOwn.2 (.inr (.inl (h ▸ e))))
          · rw [h] at e
            injection e with e
            exact .inr (by omega)
        · cases e
  · have hb : (0 : Int) < (T.length : Int) := by omega
    clear h0
    go_upto_region 5 with (fail)
    obtain ⟨Wx, hWx, HDW, HOW⟩ : ∃ Wx, w.setCell ⟨d, 2, none⟩ (.int .i64 (n + 1)) = Wx ∧ Aside0 (DiskT Wx d lv (.slice TA T.length tc) L T (n + 1)) ∧ Aside0 (Only [d] w Wx) := ⟨w.setCell ⟨d, 2, none⟩ (.int .i64 (n + 1)), rfl, ⟨⟨HD.out.blk.set 2 (.int .i64 (n + 1)), HD.out.ty.set _ _, HD.out.lo.only (S := [d]) ((Only.refl _ _).set _ (.inl (by simp))) (fun k hk => by rw [show k = d by simpa using hk]; exact HD.out.lo.ne HD.out.ty tDisk8), HD.out.tl.only (S := [d]) ((Only.refl _ _).set _ (.inl (by simp))) (fun k hk => by rw [show k = d by simpa using hk]; exact HD.out.tl.ne HD.out.ty tDisk8), HD.out.ne⟩⟩, ⟨(Only.refl [d] w).set (p := ⟨d, 2, none⟩) (.int .i64 (n + 1)) (.inl (by simp))⟩⟩
    rw [hWx]
    clear hWx k0 k1 k2 g0 g1 g2 HD
    obtain ⟨w4, hw4⟩ : ∃ w4, w4 = World.drew Wx := ⟨_, rfl⟩
    have HS4 : Aside0 (Below Wx.heap.size Wx w4) := ⟨by rw [hw4]; exact below_drew (Below.refl _ _)⟩
    have HD4 := Aside0.mk (And.intro (HDW.out.blk.on HS4.out) (And.intro (HDW.out.ty.below HS4.out) (And.intro (HDW.out.lo.on HS4.out) (HDW.out.tl.on HS4.out))))
    have HOD := Aside0.mk (Only.of_below (dOwn d lv (.slice TA T.length tc)) HS4.out)
    obtain ⟨⟨k0, k1, k2⟩, g0, g1, g2⟩ := HD4.out.1.three
    obtain ⟨TA', tc', hte, htc, hT⟩ := HD4.out.2.2.2.reads
    injection hte with e1 e2 e3
    subst e1 e3
    have HT4 := Aside0.mk hT
    clear e2 htc hT
    refine wp_region_noPanic ?_
    refine wp_region_held_drew (S := Only (dOwn d lv (.slice TA T.length tc)) Wx) (by kernel_rfl) ((Only.refl _ _).drew) (fun hHeld => ?_)
    rw [← hw4]
    clear hw4 hHeld
    have hHeld := HOD.out
    (refine takeH 0 18 (v := ?_) rfl rfl (by kernel_rfl) (by kernel_rfl) (by kernel_rfl) (fun _ _ _ h => h) hHeld rfl ?_ ?_; rotate_left; (focus (intro w' hSw; go_simp; try with_reducible rfl)))
    (try simp only [Act.put, List.setIfInBounds_toArray, List.set_cons_zero, List.set_cons_succ])
    (refine takeH 1 19 (v := ?_) rfl rfl (by kernel_rfl) (by kernel_rfl) (by kernel_rfl) (fun _ _ _ h => h) hHeld rfl ?_ ?_; rotate_left; (focus (intro w' hSw; go_simp; try with_reducible rfl)))
    (try simp only [Act.put, List.setIfInBounds_toArray, List.set_cons_zero, List.set_cons_succ])
    (refine takeH 2 20 (v := ?_) rfl rfl (by kernel_rfl) (by kernel_rfl) (by kernel_rfl) (fun _ _ _ h => h) hHeld rfl ?_ ?_; rotate_left; (focus (intro w' hSw; go_simp; try with_reducible rfl)))
    (try simp only [Act.put, List.setIfInBounds_toArray, List.set_cons_zero, List.set_cons_succ])
    (refine takeH 3 21 (v := ?_) rfl rfl (by kernel_rfl) (by kernel_rfl) (by kernel_rfl) (fun _ _ _ h => h) hHeld rfl ?_ ?_; rotate_left; (focus (intro w' hSw; go_simp; try with_reducible rfl)))
    (try simp only [Act.put, List.setIfInBounds_toArray, List.set_cons_zero, List.set_cons_succ])
    (refine takeH 4 22 (v := ?_) rfl rfl (by kernel_rfl) (by kernel_rfl) (by kernel_rfl) (fun _ _ _ h => h) hHeld rfl ?_ ?_; rotate_left; (focus (intro w' hSw; go_simp; try with_reducible rfl)))
    (try simp only [Act.put, List.setIfInBounds_toArray, List.set_cons_zero, List.set_cons_succ])
    (refine takeH 6 24 (v := ?_) rfl rfl (by kernel_rfl) (by kernel_rfl) (by kernel_rfl) (fun _ _ _ h => h) hHeld rfl ?_ ?_; rotate_left; (focus (intro w' hSw; go_simp; try with_reducible rfl)))
    (try simp only [Act.put, List.setIfInBounds_toArray, List.set_cons_zero, List.set_cons_succ])
    (refine takeH 7 25 (v := ?_) rfl rfl (by kernel_rfl) (by kernel_rfl) (by kernel_rfl) (fun _ _ _ h => h) hHeld rfl ?_ ?_; rotate_left; (focus (intro w' hSw; go_simp; try with_reducible rfl)))
    (try simp only [Act.put, List.setIfInBounds_toArray, List.set_cons_zero, List.set_cons_succ])
    (refine takeH 8 26 (v := ?_) rfl rfl (by kernel_rfl) (by kernel_rfl) (by kernel_rfl) (fun _ _ _ h => h) hHeld rfl ?_ ?_; rotate_left; (focus (intro w' hSw; go_simp; try with_reducible rfl)))
    (try simp only [Act.put, List.setIfInBounds_toArray, List.set_cons_zero, List.set_cons_succ])
    refine wpAnyH_ready (rs := [5, 9]) (by kernel_rfl) (by simp) ?_
    refine AllReadyH.cons rfl (fun K hK => ?_) (AllReadyH.cons rfl (fun K hK => ?_) AllReadyH.nil)
    · go_simp
      refine hK.out _ _ HOD.out (fun hHeld => ?_)
      clear hK K
      (try simp only [Act.put, List.setIfInBounds_toArray, List.set_cons_zero, List.set_cons_succ])
      refine wpAnyH_ready (rs := [9]) (by kernel_rfl) (by simp) ?_
      refine AllReadyH.cons rfl (fun K hK => ?_) AllReadyH.nil
      go_simp
      refine hK.out _ _ (HOD.out) (fun hHeld => ?_)
      clear hK K
      (try simp only [Act.put, List.setIfInBounds_toArray, List.set_cons_zero, List.set_cons_succ])
      refine wpAnyH_ready (rs := [10]) (by kernel_rfl) (by simp) ?_
      refine AllReadyH.cons rfl (fun K hK => ?_) AllReadyH.nil
      refine Own8.step_cat rfl _ _ rfl HD4.out.2.2.1 TA T.length tc rfl rfl HT4.out (by have := HL.out; omega) ?_
      intro v5 w5 hv5 o5 hown5
      obtain ⟨A5, c5, rfl, _, _⟩ := hv5.reads
      rw [List.length_append] at hv5 hown5 ⊢
      have HV5 := Aside0.mk hv5
      have HO5 := Aside0.mk o5
      have HW5 := Aside0.mk hown5
      have HD5 := Aside0.mk (And.intro (HD4.out.1.only o5 (HD4.out.2.2.1.nmem HD4.out.2.1 tDisk8)) (HD4.out.2.1.only o5 (HD4.out.2.2.1.nmem HD4.out.2.1 tDisk8)))
      have HOA := Aside0.mk (HOD.out.trans (HO5.out.mono (S' := dOwn d lv (.slice TA T.length tc)) (fun i hi => .inl (mem_dOwn.2 (.inr (.inl (by simpa using hi)))))))
      clear hv5 o5 hown5 k0 k1 k2 g0 g1 g2
      obtain ⟨⟨k0, k1, k2⟩, g0, g1, g2⟩ := HD5.out.1.three
      refine hK.out _ _ HOA.out (fun hHeld => ?_)
      clear hK K
      (try simp only [Act.put, List.setIfInBounds_toArray, List.set_cons_zero, List.set_cons_succ])
      (refine takeH 11 29 (v := ?_) rfl rfl (by kernel_rfl) (by kernel_rfl) (by kernel_rfl) (fun _ _ _ h => h) hHeld rfl ?_ ?_; rotate_left; (focus (intro w' hSw; go_simp; try with_reducible rfl)))
      (try simp only [Act.put, List.setIfInBounds_toArray, List.set_cons_zero, List.set_cons_succ])
      (refine takeH 12 30 (v := ?_) rfl rfl (by kernel_rfl) (by kernel_rfl) (by kernel_rfl) (fun _ _ _ h => h) hHeld rfl ?_ ?_; rotate_left; (focus (intro w' hSw; go_simp; try with_reducible rfl)))
      (try simp only [Act.put, List.setIfInBounds_toArray, List.set_cons_zero, List.set_cons_succ])
      refine wpAnyH_ready (rs := [13]) (by kernel_rfl) (by simp) ?_
      refine AllReadyH.cons rfl (fun K hK => ?_) AllReadyH.nil
      go_simp
      refine hK.out _ _ (HOA.out.set (p := ⟨d, 0, none⟩) _ (.inl (mem_dOwn.2 (.inl rfl)))) (fun hHeld => ?_)
      clear hK K
      (try simp only [Act.put, List.setIfInBounds_toArray, List.set_cons_zero, List.set_cons_succ])
      (refine takeH 14 31 (v := ?_) rfl rfl (by kernel_rfl) (by kernel_rfl) (by kernel_rfl) (fun _ _ _ h => h) hHeld rfl ?_ ?_; rotate_left; (focus (intro w' hSw; go_simp; try with_reducible rfl)))
      (try simp only [Act.put, List.setIfInBounds_toArray, List.set_cons_zero, List.set_cons_succ])
      (refine takeH 15 32 (v := ?_) rfl rfl (by kernel_rfl) (by kernel_rfl) (by kernel_rfl) (fun _ _ _ h => h) hHeld rfl ?_ ?_; rotate_left; (focus (intro w' hSw; go_simp; try with_reducible rfl)))
      (try simp only [Act.put, List.setIfInBounds_toArray, List.set_cons_zero, List.set_cons_succ])
      refine wpAnyH_ready (rs := [16]) (by kernel_rfl) (by simp) ?_
      refine AllReadyH.cons rfl (fun K hK => ?_) AllReadyH.nil
      go_simp
      refine hK.out _ _ ((HOA.out.set (p := ⟨d, 0, none⟩) _ (.inl (mem_dOwn.2 (.inl rfl)))).set (p := ⟨d, 1, none⟩) _ (.inl (mem_dOwn.2 (.inl rfl)))) (fun hHeld => ?_)
      clear hK K
      (try simp only [Act.put, List.setIfInBounds_toArray, List.set_cons_zero, List.set_cons_succ])
      refine wpAnyH_done (by kernel_rfl) ?_ _
      refine NoPanic.normal ?_
      go_wp2
      go_ret
      obtain ⟨h1, h2, h3, h4⟩ := HD4.out
      have hn0 : Only (dOwn d lv (.slice TA T.length tc)) w5 ((w5.setCell ⟨d, 0, none⟩ (.slice A5 (L.length + T.length) c5)).setCell ⟨d, 1, none⟩ (.slice none 0 0)) := ((Only.refl _ _).set (p := ⟨d, 0, none⟩) _ (.inl (mem_dOwn.2 (.inl rfl)))).set (p := ⟨d, 1, none⟩) _ (.inl (mem_dOwn.2 (.inl rfl)))
      have hn1 : Only (dOwn d lv (.slice TA T.length tc)) w Wx := HOW.out.mono (fun i hi => .inl (mem_dOwn.2 (.inl (by simpa using hi))))
      have hn2 : Only (dOwn d lv (.slice TA T.length tc)) w4 w5 := HO5.out.mono (fun i hi => .inl (mem_dOwn.2 (.inr (.inl (by simpa using hi)))))
      have hs := hn1.size
      have hs4 := HS4.out.size
      refine ⟨dOwn d (.slice A5 (L.length + T.length) c5) (.slice none 0 0), n + 1, rfl, ⟨_, _, rfl, (HD5.out.1.set 0 _).set 1 _, (HD5.out.2.set _ _).set _ _, ?_, Own8.none_ _, fun k _ e => by cases e⟩, by omega, ((hn1.on HS4.out).trans hn2).trans hn0, fun k hk => ?_⟩
      · refine HV5.out.only (S := [d]) (((Only.refl _ _).set _ (.inl (by simp))).set _ (.inl (by simp))) (fun k hk => ?_)
        obtain rfl : k = d := by simpa using hk
        exact HV5.out.ne HD5.out.2 tDisk8
      · rcases mem_dOwn.1 hk with rfl | e | e
        · exact .inl (mem_dOwn.2 (.inl rfl))
        · rcases HW5.out with h | ⟨b, h, hb⟩
          · exact .inl (mem_dOwn.2 (.inr (.inl (h ▸ e))))
          · rw [h] at e
            injection e with e
            exact .inr (by omega)
        · cases e
    · go_simp
      refine hK.out _ _ HOD.out (fun hHeld => ?_)
      clear hK K
      (try simp only [Act.put, List.setIfInBounds_toArray, List.set_cons_zero, List.set_cons_succ])
      refine wpAnyH_ready (rs := [5]) (by kernel_rfl) (by simp) ?_
      refine AllReadyH.cons rfl (fun K hK => ?_) AllReadyH.nil
      go_simp
      refine hK.out _ _ (HOD.out) (fun hHeld => ?_)
      clear hK K
      (try simp only [Act.put, List.setIfInBounds_toArray, List.set_cons_zero, List.set_cons_succ])
      refine wpAnyH_ready (rs := [10]) (by kernel_rfl) (by simp) ?_
      refine AllReadyH.cons rfl (fun K hK => ?_) AllReadyH.nil
      refine Own8.step_cat rfl _ _ rfl HD4.out.2.2.1 TA T.length tc rfl rfl HT4.out (by have := HL.out; omega) ?_
      intro v5 w5 hv5 o5 hown5
      obtain ⟨A5, c5, rfl, _, _⟩ := hv5.reads
      rw [List.length_append] at hv5 hown5 ⊢
      have HV5 := Aside0.mk hv5
      have HO5 := Aside0.mk o5
      have HW5 := Aside0.mk hown5
      have HD5 := Aside0.mk (And.intro (HD4.out.1.only o5 (HD4.out.2.2.1.nmem HD4.out.2.1 tDisk8)) (HD4.out.2.1.only o5 (HD4.out.2.2.1.nmem HD4.out.2.1 tDisk8)))
      have HOA := Aside0.mk (HOD.out.trans (HO5.out.mono (S' := dOwn d lv (.slice TA T.length tc)) (fun i hi => .inl (mem_dOwn.2 (.inr (.inl (by simpa using hi)))))))
      clear hv5 o5 hown5 k0 k1 k2 g0 g1 g2
      obtain ⟨⟨k0, k1, k2⟩, g0, g1, g2⟩ := HD5.out.1.three
      refine hK.out _ _ HOA.out (fun hHeld => ?_)
      clear hK K
      (try simp only [Act.put, List.setIfInBounds_toArray, List.set_cons_zero, List.set_cons_succ])
      (refine takeH 11 29 (v := ?_) rfl rfl (by kernel_rfl) (by kernel_rfl) (by kernel_rfl) (fun _ _ _ h => h) hHeld rfl ?_ ?_; rotate_left; (focus (intro w' hSw; go_simp; try with_reducible rfl)))
      (try simp only [Act.put, List.setIfInBounds_toArray, List.set_cons_zero, List.set_cons_succ])
      (refine takeH 12 30 (v := ?_) rfl rfl (by kernel_rfl) (by kernel_rfl) (by kernel_rfl) (fun _ _ _ h => h) hHeld rfl ?_ ?_; rotate_left; (focus (intro w' hSw; go_simp; try with_reducible rfl)))
      (try simp only [Act.put, List.setIfInBounds_toArray, List.set_cons_zero, List.set_cons_succ])
      refine wpAnyH_ready (rs := [13]) (by kernel_rfl) (by simp) ?_
      refine AllReadyH.cons rfl (fun K hK => ?_) AllReadyH.nil
      go_simp
      refine hK.out _ _ (HOA.out.set (p := ⟨d, 0, none⟩) _ (.inl (mem_dOwn.2 (.inl rfl)))) (fun hHeld => ?_)
      clear hK K
      (try simp only [Act.put, List.setIfInBounds_toArray, List.set_cons_zero, List.set_cons_succ])
      (refine takeH 14 31 (v := ?_) rfl rfl (by kernel_rfl) (by kernel_rfl) (by kernel_rfl) (fun _ _ _ h => h) hHeld rfl ?_ ?_; rotate_left; (focus (intro w' hSw; go_simp; try with_reducible rfl)))
      (try simp only [Act.put, List.setIfInBounds_toArray, List.set_cons_zero, List.set_cons_succ])
      (refine takeH 15 32 (v := ?_) rfl rfl (by kernel_rfl) (by kernel_rfl) (by kernel_rfl) (fun _ _ _ h => h) hHeld rfl ?_ ?_; rotate_left; (focus (intro w' hSw; go_simp; try with_reducible rfl)))
      (try simp only [Act.put, List.setIfInBounds_toArray, List.set_cons_zero, List.set_cons_succ])
      refine wpAnyH_ready (rs := [16]) (by kernel_rfl) (by simp) ?_
      refine AllReadyH.cons rfl (fun K hK => ?_) AllReadyH.nil
      go_simp
      refine hK.out _ _ ((HOA.out.set (p := ⟨d, 0, none⟩) _ (.inl (mem_dOwn.2 (.inl rfl)))).set (p := ⟨d, 1, none⟩) _ (.inl (mem_dOwn.2 (.inl rfl)))) (fun hHeld => ?_)
      clear hK K
      (try simp only [Act.put, List.setIfInBounds_toArray, List.set_cons_zero, List.set_cons_succ])
      refine wpAnyH_done (by kernel_rfl) ?_ _
      refine NoPanic.normal ?_
      go_wp2
      go_ret
      obtain ⟨h1, h2, h3, h4⟩ := HD4.out
      have hn0 : Only (dOwn d lv (.slice TA T.length tc)) w5 ((w5.setCell ⟨d, 0, none⟩ (.slice A5 (L.length + T.length) c5)).setCell ⟨d, 1, none⟩ (.slice none 0 0)) := ((Only.refl _ _).set (p := ⟨d, 0, none⟩) _ (.inl (mem_dOwn.2 (.inl rfl)))).set (p := ⟨d, 1, none⟩) _ (.inl (mem_dOwn.2 (.inl rfl)))
      have hn1 : Only (dOwn d lv (.slice TA T.length tc)) w Wx := HOW.out.mono (fun i hi => .inl (mem_dOwn.2 (.inl (by simpa using hi))))
      have hn2 : Only (dOwn d lv (.slice TA T.length tc)) w4 w5 := HO5.out.mono (fun i hi => .inl (mem_dOwn.2 (.inr (.inl (by simpa using hi)))))
      have hs := hn1.size
      have hs4 := HS4.out.size
      refine ⟨dOwn d (.slice A5 (L.length + T.length) c5) (.slice none 0 0), n + 1, rfl, ⟨_, _, rfl, (HD5.out.1.set 0 _).set 1 _, (HD5.out.2.set _ _).set _ _, ?_, Own8.none_ _, fun k _ e => by cases e⟩, by omega, ((hn1.on HS4.out).trans hn2).trans hn0, fun k hk => ?_⟩
      · refine HV5.out.only (S := [d]) (((Only.refl _ _).set _ (.inl (by simp))).set _ (.inl (by simp))) (fun k hk => ?_)
        obtain rfl : k = d := by simpa using hk
        exact HV5.out.ne HD5.out.2 tDisk8
      · rcases mem_dOwn.1 hk with rfl | e | e
        · exact .inl (mem_dOwn.2 (.inl rfl))
        · rcases HW5.out with h | ⟨b, h, hb⟩
          · exact .inl (mem_dOwn.2 (.inr (.inl (h ▸ e))))
          · rw [h] at e
            injection e with e
            exact .inr (by omega)
        · cases e
end Go.Proofs.Ytmmelfnhhjfaeaa
set_option linter.unusedVariables false
set_option linter.unusedSimpArgs false
namespace Go.Proofs.Ytmmelfnhhjfaeaa
open Go.RowKit Go.Proofs.YtmmelfnhhjfaeaaW.PrintWords
def AppTold (own : List Nat) (d : Nat) (L T : List UInt8) (n : Int) (w : World) (e : Ending) (w' : World) : Prop := ∃ own', e = .returned (.int .i64 0) ∧ DiskR w' own' d L T n ∧ Next own own' w w'
set_option maxRecDepth 100000 in
theorem diskAppend_calls (w : World) (own : List Nat) (d : Nat) (L T : List UInt8) (n : Int) (h : DiskR w own d L T n) (x : List UInt8) (A : Option Addr) (c : Nat) (hx : Hash.kRow.C w A 1 [x]) (hl : L.length + T.length + x.length ≤ 4194304) :
    Calls Try.prog 35 #[.pointer (some ⟨d, 0, none⟩), .slice A 1 c] w (AppTold own d L (T ++ x) n w) := by
  obtain ⟨lv, tv, rfl, h⟩ := h
  obtain ⟨ad, x', A1, c1, rfl, HX, hcell, HC⟩ := Hash.row_at hx 0 (by omega)
  obtain rfl : x = x' := by simpa using HX.out
  have HD := Aside0.mk h
  obtain ⟨TA, tc, rfl, htc, hT⟩ := h.tl.reads
  obtain ⟨LA, lc, rfl, hlc, hL⟩ := h.lo.reads
  have hll : L.length ≤ 4194304 := by omega
  have htl : T.length ≤ 4194304 := by omega
  have hxl : x.length ≤ 4194304 := by omega
  have hgt : ¬ (4194304 : Int) < (L.length : Int) + (T.length : Int) + (x.length : Int) := by omega
  have hgt0 : ¬ (4194304 : Int) < (L.length : Int) + (T.length : Int) := by omega
  clear h hT hL hlc htc hx HX hl
  obtain ⟨⟨k0, k1, k2⟩, _⟩ := HD.out.blk.three
  have k0 := fun w' (h : Below w.heap.size w w') => pw_cell_below h k0
  have k1 := fun w' (h : Below w.heap.size w w') => pw_cell_below h k1
  go_enter Try.func35, Try.ntmps35
  go_wp2
  go_step3
  go_wp2
  refine wp_region_noPanic ?_
  refine wp_region_held_drew (S := Below w.heap.size w) (by kernel_rfl) (below_drew (Below.refl _ _)) (fun hHeld => ?_)
  (refine takeH 0 12 (v := ?_) rfl rfl (by kernel_rfl) (by kernel_rfl) (by kernel_rfl) (fun _ _ _ h => h) hHeld rfl ?_ ?_; rotate_left; (focus (intro w' hSw; go_simp; try with_reducible rfl)))
  (try simp only [Act.put, List.setIfInBounds_toArray, List.set_cons_zero, List.set_cons_succ])
  (refine takeH 1 13 (v := ?_) rfl rfl (by kernel_rfl) (by kernel_rfl) (by kernel_rfl) (fun _ _ _ h => h) hHeld rfl ?_ ?_; rotate_left; (focus (intro w' hSw; go_simp; try with_reducible rfl)))
  (try simp only [Act.put, List.setIfInBounds_toArray, List.set_cons_zero, List.set_cons_succ])
  (refine takeH 2 14 (v := ?_) rfl rfl (by kernel_rfl) (by kernel_rfl) (by kernel_rfl) (fun _ _ _ h => h) hHeld rfl ?_ ?_; rotate_left; (focus (intro w' hSw; go_simp; try with_reducible rfl)))
  (try simp only [Act.put, List.setIfInBounds_toArray, List.set_cons_zero, List.set_cons_succ])
  (refine takeH 3 15 (v := ?_) rfl rfl (by kernel_rfl) (by kernel_rfl) (by kernel_rfl) (fun _ _ _ h => h) hHeld rfl ?_ ?_; rotate_left; (focus (intro w' hSw; go_simp; try with_reducible rfl)))
  (try simp only [Act.put, List.setIfInBounds_toArray, List.set_cons_zero, List.set_cons_succ])
  (refine takeH 4 16 (v := ?_) rfl rfl (by kernel_rfl) (by kernel_rfl) (by kernel_rfl) (fun _ _ _ h => h) hHeld rfl ?_ ?_; rotate_left; (focus (intro w' hSw; go_simp; try with_reducible rfl)))
  (try simp only [Act.put, List.setIfInBounds_toArray, List.set_cons_zero, List.set_cons_succ])
  (refine takeH 5 17 (v := ?_) rfl rfl (by kernel_rfl) (by kernel_rfl) (by kernel_rfl) (fun _ _ _ h => h) hHeld rfl ?_ ?_; rotate_left; (focus (intro w' hSw; go_simp; try with_reducible rfl)))
  (try simp only [Act.put, List.setIfInBounds_toArray, List.set_cons_zero, List.set_cons_succ])
  (refine takeH 6 18 (v := ?_) rfl rfl (by kernel_rfl) (by kernel_rfl) (by kernel_rfl) (fun _ _ _ h => h) hHeld rfl ?_ ?_; rotate_left; (focus (intro w' hSw; go_simp; try with_reducible rfl)))
  (try simp only [Act.put, List.setIfInBounds_toArray, List.set_cons_zero, List.set_cons_succ])
  (refine takeH 7 19 (v := ?_) rfl rfl (by kernel_rfl) (by kernel_rfl) (by kernel_rfl) (fun _ _ _ h => h) hHeld rfl ?_ ?_; rotate_left; (focus (intro w' hSw; go_simp; try with_reducible rfl)))
  (try simp only [Act.put, List.setIfInBounds_toArray, List.set_cons_zero, List.set_cons_succ])
  (refine takeH 8 20 (v := ?_) rfl rfl (by kernel_rfl) (by kernel_rfl) (by kernel_rfl) (fun _ _ _ h => h) hHeld rfl ?_ ?_; rotate_left; (focus (intro w' hSw; go_simp; try with_reducible rfl)))
  (try simp only [Act.put, List.setIfInBounds_toArray, List.set_cons_zero, List.set_cons_succ])
  (refine takeH 9 21 (v := ?_) rfl rfl (by kernel_rfl) (by kernel_rfl) (by kernel_rfl) (fun _ _ _ h => h) hHeld rfl ?_ ?_; rotate_left; (focus (intro w' hSw; go_simp; try with_reducible rfl)))
  (try simp only [Act.put, List.setIfInBounds_toArray, List.set_cons_zero, List.set_cons_succ])
  (refine takeH 10 22 (v := ?_) rfl rfl (by kernel_rfl) (by kernel_rfl) (by kernel_rfl) (fun _ _ _ h => h) hHeld rfl ?_ ?_; rotate_left; (focus (intro w' hSw; go_simp; try with_reducible rfl)))
  (try simp only [Act.put, List.setIfInBounds_toArray, List.set_cons_zero, List.set_cons_succ])
  (refine takeH 11 5 (v := ?_) rfl rfl (by kernel_rfl) (by kernel_rfl) (by kernel_rfl) (fun _ _ _ h => h) hHeld rfl ?_ ?_; rotate_left; (focus (intro w' hSw; go_simp; try with_reducible rfl)))
  (try simp only [Act.put, List.setIfInBounds_toArray, List.set_cons_zero, List.set_cons_succ])
  refine wpAnyH_done (by kernel_rfl) ?_ _
  refine NoPanic.normal ?_
  clear k0 k1 k2
  obtain ⟨w4, hw4⟩ : ∃ w4, w4 = World.drew w := ⟨_, rfl⟩
  have HS4 : Aside0 (Below w.heap.size w w4) := ⟨by rw [hw4]; exact below_drew (Below.refl _ _)⟩
  rw [← hw4]
  clear hw4
  have HD4 : Aside0 (DiskT w4 d (.slice LA L.length lc) (.slice TA T.length tc) L T n) := ⟨HD.out.blk.on HS4.out, HD.out.ty.below HS4.out, HD.out.lo.on HS4.out, HD.out.tl.on HS4.out, HD.out.ne⟩
  have HC4 := Aside0.mk (Kd.C_below HC.out HS4.out)
  have hcell : w4.cell? ad = some (.slice A1 x.length c1) := by
    have h := pw_cell_below HS4.out hcell
    rw [show ad.add 0 = ad from by unfold Addr.add; split <;> simp_all] at h
    exact h
  have hw1 : IntKind.i64.wrap ((L.length : Int) + (T.length : Int)) = (L.length : Int) + (T.length : Int) := IntWalk.i64_in _ (by omega)
  rw [hw1]
  have HB4 := Aside0.mk (Only.of_below (dOwn d (.slice LA L.length lc) (.slice TA T.length tc)) HS4.out)
  clear hw1 HC HD HS4
  go_wp2
  go_step3
  go_wp2
  go_loop [5, 25] (fun v5 v25 => ∃ j : Nat, j ≤ 1 ∧ v25 = .int .i64 (j : Int) ∧ v5 = .int .i64 ((L.length : Int) + (T.length : Int) + (j : Int) * (x.length : Int))) (fun _ i => 1 - (intOf i).toNat)
  case atStart => exact ⟨0, by omega, rfl, by simp⟩
  case round =>
    obtain ⟨j, hj, rfl, rfl⟩ := hrel
    have hj' : j = 0 ∨ j = 1 := by omega
    rcases hj' with rfl | rfl
    · simp only [Int.ofNat_zero, Int.zero_mul, Int.add_zero, Int.natCast_zero]
      go_wp2
      go_round
      case rel => exact ⟨1, by omega, by go_num, by go_num⟩
      case measure => simp [intOf]
    · simp only [Int.natCast_one, Int.one_mul]
      go_wp2
      go_loopg [40] 1 (fun gk v40 wr => ∃ j : Nat, v40 = .int .i64 (j : Int) ∧ j ≤ 1 ∧ Aside0 (gk + j = 1) ∧ Aside0 ((j = 0 ∧ wr = w4) ∨ (j = 1 ∧ ∃ own', DiskR wr own' d L (T ++ x) n ∧ Next (dOwn d (.slice LA L.length lc) (.slice TA T.length tc)) own' w wr)))
      case atStart => exact ⟨0, rfl, by omega, ⟨rfl⟩, ⟨.inl ⟨rfl, rfl⟩⟩⟩
      case round =>
        obtain ⟨j, rfl, hj, HG, HS⟩ := hrel
        have hj' : j = 0 ∨ j = 1 := by omega
        rcases hj' with rfl | rfl
        · obtain rfl : wr = w4 := by simpa using HS.out
          obtain ⟨⟨k0, k1, k2⟩, g0, g1, g2⟩ := HD4.out.blk.three
          go_wp2_with (at_builtin; refine Own8.cat rfl _ _ rfl HD4.out.tl A1 x.length c1 rfl rfl HC4.out (by omega) ?_; intro v5 w5 hv5 o5 hown5; obtain ⟨A5, c5, rfl, _, _⟩ := hv5.reads; rw [List.length_append] at hv5 hown5 ⊢; have HV5 := Aside0.mk hv5; have HO5 := Aside0.mk o5; have HW5 := Aside0.mk hown5; have HD5 := Aside0.mk (And.intro (HD4.out.blk.only o5 (HD4.out.tl.nmem HD4.out.ty tDisk8)) (HD4.out.ty.only o5 (HD4.out.tl.nmem HD4.out.ty tDisk8))); clear hv5 o5 hown5 k0 k1 k2 g0 g1 g2; obtain ⟨⟨k0, k1, k2⟩, g0, g1, g2⟩ := HD5.out.1.three)
          go_roundg 0
          case measure => have := HG.out; omega
          case rel =>
            have hon : Only [d] w5 (w5.setCell ⟨d, 1, none⟩ (.slice A5 (T.length + x.length) c5)) := (Only.refl _ _).set _ (.inl (by simp))
            refine ⟨1, by go_num, by omega, ⟨rfl⟩, ⟨.inr ⟨rfl, dOwn d (.slice LA L.length lc) (.slice A5 (T.length + x.length) c5), ⟨_, _, rfl, HD5.out.1.set 1 _, HD5.out.2.set _ _, ?_, ?_, ?_⟩, ?_, ?_⟩⟩⟩
            · refine (HD4.out.lo.only HO5.out (fun k hk e => HD4.out.ne k e (by simpa using hk))).only hon (fun k hk => ?_)
              rw [show k = d by simpa using hk]
              exact HD4.out.lo.ne HD4.out.ty tDisk8
            · refine HV5.out.only hon (fun k hk => ?_)
              rw [show k = d by simpa using hk]
              exact HV5.out.ne HD5.out.2 tDisk8
            · intro k e1 e2
              rcases HW5.out with h | ⟨b, h, hb⟩
              · exact HD4.out.ne k e1 (h ▸ e2)
              · rw [h] at e2
                injection e2 with e2
                have := HD4.out.lo.lt e1
                omega
            · refine (HB4.out.trans (HO5.out.mono (fun i hi => .inl (mem_dOwn.2 (.inr (.inr (by simpa using hi))))))).trans (hon.mono (fun i hi => .inl (mem_dOwn.2 (.inl (by simpa using hi)))))
            · intro k hk
              have hs := HB4.out.size
              rcases mem_dOwn.1 hk with rfl | e | e
              · exact .inl (mem_dOwn.2 (.inl rfl))
              · exact .inl (mem_dOwn.2 (.inr (.inl e)))
              · rcases HW5.out with h | ⟨b, h, hb⟩
                · exact .inl (mem_dOwn.2 (.inr (.inr (h ▸ e))))
                · rw [h] at e
                  injection e with e
                  exact .inr (by omega)
        · have HE := Aside0.mk (show ∃ own', DiskR wr own' d L (T ++ x) n ∧ Next (dOwn d (.slice LA L.length lc) (.slice TA T.length tc)) own' w wr by simpa using HS.out)
          go_wp2
          go_ret
          obtain ⟨own', h1, h2⟩ := HE.out
          exact ⟨own', rfl, h1, h2⟩
end Go.Proofs.Ytmmelfnhhjfaeaa
set_option linter.unusedVariables false
set_option linter.unusedSimpArgs false
namespace Go.Proofs.Ytmmelfnhhjfaeaa
open Go.RowKit Go.Proofs.YtmmelfnhhjfaeaaW.PrintWords
structure LogT (w : World) (ok : Nat → Prop) (b d : Nat) (rv : Value) (dn : List Nat) (L T : List UInt8) (n : Int) (rs : List Record) (last : Int) : Prop where
  blk : Blk w b [.pointer (some ⟨d, 0, none⟩), rv, .int .i64 last]
  ty : Ty w 70 b
  rows : OwnRow (fun (x : Record) (cs : List Value) => Kd.FK Record.k w ok x cs) 81 Record.k.sz w 0 rv rs
  disk : DiskR w dn d L T n
  nb : b ∉ dn
  nr : ∀ k, rv.ownBlock = some k → k ∉ dn
/-- A log: its disk, its records, how many of them last. What the records lead to lies in ok. -/
def LogR (w : World) (ok : Nat → Prop) (own : List Nat) (b : Nat) (L T : List UInt8) (n : Int) (rs : List Record) (last : Int) : Prop := ∃ d rv dn, own = b :: (rv.ownBlock.toList ++ dn) ∧ LogT w ok b d rv dn L T n rs last
def WalNewTold (w : World) (e : Ending) (w' : World) : Prop := ∃ b own, e = .returned (.pointer (some ⟨b, 0, none⟩)) ∧ LogR w' (fun _ => False) own b [] [] 0 [] 0 ∧ (∀ k ∈ own, w.heap.size ≤ k) ∧ Below w.heap.size w w'
set_option maxRecDepth 100000 in
theorem walNew_calls (w : World) : Calls Try.prog 14 #[] w (WalNewTold w) := by
  have HN := Aside0.mk (diskNew_calls w)
  go_enter Try.func14, Try.ntmps14
  go_wp2_with (first | ((with_reducible refine HN.out.mono ?_); rintro e w1 ⟨d, dn, rfl, hd, hdn, hb⟩; have HD := Aside0.mk hd; have HDN := Aside0.mk hdn; have HB := Aside0.mk hb; clear hd hdn hb))
  go_ret
  have hb1 := below_alloc (Below.refl w1.heap.size w1) (.cells #[.pointer (some ⟨d, 0, none⟩), .slice none 0 0, .int .i64 0] 70)
  have hs := HB.out.size
  refine ⟨w1.heap.size, w1.heap.size :: dn, rfl, ⟨d, .slice none 0 0, dn, rfl, Blk.new_ _ _ _ rfl rfl, Ty.new _ _ _ _, OwnRow.none_ _ _ _ _ _, HD.out.on hb1, fun hm => ?_, fun k h => by cases h⟩, fun k hk => ?_, Below.then_ HB.out hb1 (Nat.le_refl _)⟩
  · have := HD.out.lt _ hm
    omega
  · rcases List.mem_cons.1 hk with rfl | hk
    · exact hs
    · exact HDN.out k hk
end Go.Proofs.Ytmmelfnhhjfaeaa
set_option linter.unusedVariables false
set_option linter.unusedSimpArgs false
namespace Go.Proofs.Ytmmelfnhhjfaeaa
open Go.RowKit Go.Proofs.YtmmelfnhhjfaeaaW.PrintWords
def WalSyncTold (ok : Nat → Prop) (own : List Nat) (b : Nat) (L T : List UInt8) (n : Int) (rs : List Record) (w : World) (e : Ending) (w' : World) : Prop := ∃ own' n', e = .returned (.int .i64 0) ∧ LogR w' (fun i => ok i ∧ i < w.heap.size) own' b (L ++ T) [] n' rs rs.length ∧ (0 ≤ n' ∧ n' ≤ n + 1) ∧ Next own own' w w'
set_option maxRecDepth 100000 in
theorem walSync_calls (w : World) (ok : Nat → Prop) (own : List Nat) (b : Nat) (L T : List UInt8) (n : Int) (rs : List Record) (last : Int) (h : LogR w ok own b L T n rs last) (hok : ∀ i, ok i → i ∉ own) (hn : 0 ≤ n ∧ n ≤ 1000000000000) (hl : L.length + T.length ≤ 140737488355328) :
    Calls Try.prog 21 #[.pointer (some ⟨b, 0, none⟩)] w (WalSyncTold ok own b L T n rs w) := by
  obtain ⟨d, rv, dn, rfl, h⟩ := h
  have HD := Aside0.mk h
  obtain ⟨RA, rc, rfl, hrc, _⟩ := OwnRow.reads h.rows
  have HB := Aside0.mk (h.blk.set 2 (.int .i64 (rs.length : Int)))
  have HDD : Aside0 (DiskR (w.setCell ⟨b, 2, none⟩ (.int .i64 (rs.length : Int))) dn d L T n) := ⟨h.disk.only (S := [b]) ((Only.refl _ _).set _ (.inl (by simp))) (fun k hk e => h.nb (by simp at e; exact e ▸ hk))⟩
  have HSY := Aside0.mk (diskSync_calls _ _ _ _ _ _ HDD.out hn hl)
  clear h hn hl
  obtain ⟨⟨k0, k1, k2⟩, g0, g1, g2⟩ := HD.out.blk.three
  go_enter Try.func21, Try.ntmps21
  go_wp2_with (first | ((with_reducible refine HSY.out.mono ?_); rintro e w1 ⟨dn1, n1, rfl, hd, hn1, hx⟩; have HD1 := Aside0.mk hd; have HN1 := Aside0.mk hn1; have HX1 := Aside0.mk hx; clear hd hn1 hx))
  go_ret
  have hx0 : Only (b :: dn) w (w.setCell ⟨b, 2, none⟩ (.int .i64 (rs.length : Int))) := (Only.refl _ _).set (p := ⟨b, 2, none⟩) _ (.inl (by simp))
  have hx1 : Only (b :: dn) w w1 := hx0.trans (HX1.out.only.mono (fun i hi => .inl (List.mem_cons_of_mem _ hi)))
  have hs0 : (w.setCell ⟨b, 2, none⟩ (.int .i64 (rs.length : Int))).heap.size = w.heap.size := by simp [World.setCell]
  have hbl := HD.out.blk.lt
  refine ⟨b :: ((Value.slice RA rs.length rc).ownBlock.toList ++ dn1), n1, rfl, ⟨d, _, dn1, rfl, HB.out.only HX1.out.only HD.out.nb, (HD.out.ty.set _ _).only HX1.out.only HD.out.nb, ?_, HD1.out, fun hm => ?_, fun k hk hm => ?_⟩, HN1.out, ⟨hx1.mono (fun i hi => .inl ?_), fun k hk => ?_⟩⟩
  · obtain ⟨inner, ho, hr⟩ := HD.out.rows
    refine ⟨inner, own_move ho (fun k hk => hx1.block k (own_lt ho k hk) (fun hm => ?_)), hr.imp_ (fun p c hp => FK_only (Foot.bound hp) hx1 (fun i hi hm => ?_))⟩
    · rcases List.mem_cons.1 hm with rfl | hm
      · obtain ⟨cells, hc⟩ := own_typed ho k hk
        exact absurd HD.out.ty (Ty.ne ⟨cells, _, hc⟩ (by decide))
      · exact HD.out.nr k hk hm
    · refine hok i hi.1 ?_
      rcases List.mem_cons.1 hm with rfl | hm
      · exact List.mem_cons_self
      · exact List.mem_cons_of_mem _ (List.mem_append_right _ hm)
  · rcases HX1.out.own _ hm with h | h
    · exact HD.out.nb h
    · omega
  · rcases HX1.out.own _ hm with h | h
    · exact HD.out.nr k hk h
    · obtain ⟨inner, ho, _⟩ := HD.out.rows
      have := own_lt ho k hk
      omega
  · rcases List.mem_cons.1 hi with rfl | hi
    · exact List.mem_cons_self
    · exact List.mem_cons_of_mem _ (List.mem_append_right _ hi)
  · rcases List.mem_cons.1 hk with rfl | hk
    · exact .inl List.mem_cons_self
    · rcases List.mem_append.1 hk with hk | hk
      · exact .inl (List.mem_cons_of_mem _ (List.mem_append_left _ hk))
      · rcases HX1.out.own _ hk with h | h
        · exact .inl (List.mem_cons_of_mem _ (List.mem_append_right _ h))
        · exact .inr (by omega)
end Go.Proofs.Ytmmelfnhhjfaeaa
set_option linter.unusedVariables false
set_option linter.unusedSimpArgs false
namespace Go.Proofs.Ytmmelfnhhjfaeaa
open Go.RowKit Go.Proofs.YtmmelfnhhjfaeaaW.PrintWords
/-- A row that its owner alone has; what its elements lead to lies in ok. -/
abbrev OwnF {α : Type} (d : Kd α) (t : TypeId) (w : World) (ok : Nat → Prop) (v : Value) (xs : List α) : Prop := OwnRow (fun (x : α) (cs : List Value) => Kd.FK d w ok x cs) t d.sz w 0 v xs
namespace OwnF
variable {α : Type} {d : Kd α} {t : TypeId} {w w' W : World} {ok ok' : Nat → Prop} {v : Value} {xs : List α} {y : α} {k : Nat}
theorem none_ (d : Kd α) (t : TypeId) (w : World) (ok : Nat → Prop) : OwnF d t w ok (.slice none 0 0) [] := OwnRow.none_ _ _ _ _ _
theorem ty (h : OwnF d t w ok v xs) (hk : v.ownBlock = some k) : Ty w t k := by
  obtain ⟨inner, ho, _⟩ := h
  obtain ⟨cells, hc⟩ := own_typed ho k hk
  exact ⟨cells, _, hc⟩
theorem lt (h : OwnF d t w ok v xs) (hk : v.ownBlock = some k) : k < w.heap.size := (h.ty hk).lt
theorem ne (h : OwnF d t w ok v xs) {t' : TypeId} {b : Nat} (hT : Ty w t' b) (hne : t ≠ t') : v.ownBlock ≠ some b := fun e => (h.ty e).ne hne hT
theorem only {S : List Nat} (h : OwnF d t w ok v xs) (o : Only S w w') (hS : ∀ k ∈ S, v.ownBlock ≠ some k) (hn : ∀ i, ok i → i < w.heap.size → i ∉ S) : OwnF d t w' ok v xs := by
  obtain ⟨inner, ho, hr⟩ := h
  exact ⟨inner, own_move ho (fun k hk => o.block k (own_lt ho k hk) (fun hm => hS k hm hk)), hr.imp_ (fun p c hp => Foot.step hp (fun i hi hl => o.block i hl (hn i hi hl)))⟩
theorem on (h : OwnF d t w ok v xs) (hb : Below w.heap.size w w') : OwnF d t w' ok v xs := h.only (Only.of_below [] hb) (by simp) (by simp)
theorem mono (h : OwnF d t w ok v xs) (hk : ∀ i, ok i → ok' i) : OwnF d t w ok' v xs := OwnRow.imp_ h (fun _ _ hp => Foot.mono hp hk)
theorem bound (h : OwnF d t w ok v xs) : OwnF d t w (fun i => ok i ∧ i < w.heap.size) v xs := OwnRow.imp_ h (fun _ _ hp => Foot.bound hp)
theorem reads (h : OwnF d t w ok v xs) : ∃ A c, v = .slice A xs.length c ∧ xs.length ≤ c ∧ d.C w A xs.length xs := OwnRow.reads (show OwnRow (d.K w) t d.sz w 0 v xs from OwnRow.imp_ h (fun _ _ hp => Kd.FK_now hp))
section
variable {P : Program} {ops : Array Oper} {rest : List Oper} {o : Oper} {a : Act} {Q : Exit → Act → World → Prop}
theorem one_rows (cells : Array Value) (hy : Kd.FK d W ok y cells.toList) : ReadsRow (fun (x : α) (cs : List Value) => Kd.FK d (W.alloc (.cells cells t)) ok x cs) d.sz (W.alloc (.cells cells t)) (some ⟨W.heap.size, 0, none⟩) 1 [y] := by
  have hb := below_alloc (Below.refl W.heap.size W) (.cells cells t)
  have hy' : Kd.FK d (W.alloc (.cells cells t)) ok y cells.toList := Foot.step hy (fun i _ hl => hb.block i hl)
  have hB := Blk.new_ W cells t rfl rfl
  refine ⟨rfl, by omega, fun _ => ⟨_, rfl, fun j p hj => ?_⟩⟩
  rcases j with _ | j
  · simp at hj
    subst hj
    exact ⟨cells.toList, d.K_len (Kd.FK_now hy'), hy', fun i u hu => by rw [add_plain]; simpa using hB.cell i hu⟩
  · simp at hj
/-- append(v, y): y lies in a block of its own. -/
theorem push (hgd : o.guard = none) (s x : Operand) (ts : TypeId) (z : Value) (bytes : Nat)
    (ho : o.op = .call { callee := .builtin .append, args := #[s, x], argTypes := #[ts, ts] })
    (ht : P.underlying ts = some (.slice t)) (hinfo : (P.info? t).map (fun i => (i.zero, i.size, i.bytes)) = some (some z, d.sz, bytes)) (hz : z.cells.size = d.sz) (hs0 : 0 < d.sz) (hb0 : 0 < bytes)
    (G : OwnF d t W ok v xs) (hok : ∀ k, v.ownBlock = some k → ¬ ok k) (cells : Array Value) (hy : Kd.FK d W ok y cells.toList) (hs : a.eval s = v) (hx : a.eval x = .slice (some ⟨W.heap.size, 0, none⟩) 1 1)
    (hl : (xs.length + 1) * bytes ≤ 140737488355328)
    (h : ∀ v1 w1, OwnF d t w1 ok v1 (xs ++ [y]) → Only v.ownBlock.toList W w1 → (v1.ownBlock = v.ownBlock ∨ ∃ b, v1.ownBlock = some b ∧ W.heap.size ≤ b) → wpList P ops Q rest (a.put o.dst v1) w1) :
    wpList P ops Q (o :: rest) a (W.alloc (.cells cells t)) := by
  have hb := below_alloc (Below.refl W.heap.size W) (.cells cells t)
  refine own_append_rows (w0 := W) 0 hgd s x ts t z d.sz bytes ho ht hinfo hz hs0 hb0 v xs [y] (some ⟨W.heap.size, 0, none⟩) 1 1 hs hx (G.on hb) (one_rows cells hy) (fun q cs hq => d.K_one (Kd.FK_now hq)) (hb.mono (Nat.zero_le _)) (Nat.zero_le _) hl ?_
  intro v1 w1 hown hB1 hg hat
  have hon : Only v.ownBlock.toList (W.alloc (.cells cells t)) w1 := (Only.refl _ _).grown hg (fun k hk => .inl (Option.mem_toList.2 hk))
  refine h v1 w1 (OwnRow.imp_ hown (fun _ _ hr => Foot.step hr (fun i hi hl => hon.block i hl (fun hm => hok i (Option.mem_toList.1 hm) hi)))) ((Only.of_below _ hb).trans hon) ?_
  rcases hat with h | ⟨b, h, h2⟩
  · exact .inl h
  · exact .inr ⟨b, h, Nat.le_trans hb.size h2⟩
/-- The same as a step of a region that draws. -/
theorem step_push {K : Act → World → Prop} {E : Prop} (hgd : o.guard = none) (s x : Operand) (ts : TypeId) (z : Value) (bytes : Nat)
    (ho : o.op = .call { callee := .builtin .append, args := #[s, x], argTypes := #[ts, ts] })
    (ht : P.underlying ts = some (.slice t)) (hinfo : (P.info? t).map (fun i => (i.zero, i.size, i.bytes)) = some (some z, d.sz, bytes)) (hz : z.cells.size = d.sz) (hs0 : 0 < d.sz) (hb0 : 0 < bytes)
    (G : OwnF d t W ok v xs) (hok : ∀ k, v.ownBlock = some k → ¬ ok k) (cells : Array Value) (hy : Kd.FK d W ok y cells.toList) (hs : a.eval s = v) (hx : a.eval x = .slice (some ⟨W.heap.size, 0, none⟩) 1 1)
    (hl : (xs.length + 1) * bytes ≤ 140737488355328)
    (h : ∀ v1 w1, OwnF d t w1 ok v1 (xs ++ [y]) → Only v.ownBlock.toList W w1 → (v1.ownBlock = v.ownBlock ∨ ∃ b, v1.ownBlock = some b ∧ W.heap.size ≤ b) → K (a.put o.dst v1) w1) :
    if Region.wanted o (yielded ops a.tmps) = true then Oper.wp P o a (W.alloc (.cells cells t)) K Q else E := by
  have hb := below_alloc (Below.refl W.heap.size W) (.cells cells t)
  refine step_append_rows 0 hgd s x ts t z d.sz bytes ho ht hinfo hz hs0 hb0 v xs [y] (some ⟨W.heap.size, 0, none⟩) 1 1 hs hx (G.on hb) (one_rows cells hy) (fun q cs hq => d.K_one (Kd.FK_now hq)) (Nat.zero_le _) hl ?_
  intro v1 w1 hown hg hat
  have hon : Only v.ownBlock.toList (W.alloc (.cells cells t)) w1 := (Only.refl _ _).grown hg (fun k hk => .inl (Option.mem_toList.2 hk))
  refine h v1 w1 (OwnRow.imp_ hown (fun _ _ hr => Foot.step hr (fun i hi hl => hon.block i hl (fun hm => hok i (Option.mem_toList.1 hm) hi)))) ((Only.of_below _ hb).trans hon) ?_
  rcases hat with h | ⟨b, h, h2⟩
  · exact .inl h
  · exact .inr ⟨b, h, Nat.le_trans hb.size h2⟩
end
end OwnF
end Go.Proofs.Ytmmelfnhhjfaeaa
set_option linter.unusedVariables false
set_option linter.unusedSimpArgs false
namespace Go.Proofs.Ytmmelfnhhjfaeaa
open Go.RowKit Go.Proofs.YtmmelfnhhjfaeaaW.PrintWords
/-- What is fresh and not of one's own may be led to, too. -/
def more (ok : Nat → Prop) (own' : List Nat) (w : World) : Nat → Prop := fun i => (ok i ∧ i < w.heap.size) ∨ (w.heap.size ≤ i ∧ i ∉ own')
def WalAppTold (ok : Nat → Prop) (own : List Nat) (b : Nat) (L T : List UInt8) (n : Int) (rs : List Record) (last : Int) (w : World) (e : Ending) (w' : World) : Prop := ∃ own', e = .returned (.int .i64 0) ∧ LogR w' (more ok own' w) own' b L T n rs last ∧ Next own own' w w'
theorem infoRow : (Try.prog.info? 24).map (fun i => (i.zero, i.size, i.bytes)) = some (some (.slice none 0 0), 1, 24) := by kernel_rfl
theorem infoRec : (Try.prog.info? 81).map (fun i => (i.zero, i.size, i.bytes)) = some (some (.agg #[.int .u8 0, .slice none 0 0]), 2, 32) := by kernel_rfl
theorem Row.fk {w : World} {ok : Nat → Prop} {A : Option Addr} {c : Nat} {x : List UInt8} (hc : x.length ≤ c) (h : Kd.F kU8 w ok A x.length x) : Kd.FK Hash.kRow w ok x [.slice A x.length c] := fun W' hW => ⟨A, c, rfl, hc, h W' hW⟩
theorem Record.fk {w : World} {ok : Nat → Prop} {x : Record} {A : Option Addr} {c : Nat} (hc : x.b.length ≤ c) (h : Kd.F kU8 w ok A x.b.length x.b) : Kd.FK Record.k w ok x [.int .u8 (x.kind.toNat : Int), .slice A x.b.length c] := fun W' hW => Record.mk_ W' x hc (h W' hW)
theorem tRec8 : (5 : TypeId) ≠ 81 := by decide
theorem tLogRec : (81 : TypeId) ≠ 70 := by decide
/-- What stands when a record has come to a log's. -/
theorem walFin {w wr w2 w4 w5 : World} {ok ok5 : Nat → Prop} {b d : Nat} {RA : Option Addr} {rc : Nat} {dn dn2 : List Nat} {L T f x : List UInt8} {k : UInt8} {n last : Int} {rs : List Record}
    (HL : Aside0 (LogT w ok b d (.slice RA rs.length rc) dn L T n rs last)) (HOK : Aside0 (∀ i, ok i → i ∉ b :: ((Value.slice RA rs.length rc).ownBlock.toList ++ dn))) (hb1 : Below w.heap.size w wr) (HN2 : Aside0 (Next dn dn2 wr w2)) (HD2 : Aside0 (DiskR w2 dn2 d L (T ++ f) n)) (hb4 : Below w2.heap.size w2 w4) (hb5 : Below w4.heap.size w4 w5) (hok5 : ok5 = fun i => (ok i ∧ i < w.heap.size) ∨ (w4.heap.size ≤ i ∧ i < w5.heap.size)) :
    ∀ (A6 : Option Addr) (c6 : Nat) (w6 : World), OwnF Record.k 81 w6 ok5 (.slice A6 (rs.length + [(⟨k, x⟩ : Record)].length) c6) (rs ++ [⟨k, x⟩]) → Only (Value.slice RA rs.length rc).ownBlock.toList w5 w6 → ((Value.slice A6 (rs.length + [(⟨k, x⟩ : Record)].length) c6).ownBlock = (Value.slice RA rs.length rc).ownBlock ∨ ∃ q, (Value.slice A6 (rs.length + [(⟨k, x⟩ : Record)].length) c6).ownBlock = some q ∧ w5.heap.size ≤ q) →
      ∃ own', LogR (w6.setCell ⟨b, 1, none⟩ (.slice A6 (rs.length + [(⟨k, x⟩ : Record)].length) c6)) (more ok own' w) own' b L (T ++ f) n (rs ++ [⟨k, x⟩]) last ∧ Next (b :: ((Value.slice RA rs.length rc).ownBlock.toList ++ dn)) own' w (w6.setCell ⟨b, 1, none⟩ (.slice A6 (rs.length + [(⟨k, x⟩ : Record)].length) c6)) := by
  intro A6 c6 w6 hv6 o6 hown6
  generalize hV6 : Value.slice A6 (rs.length + [(⟨k, x⟩ : Record)].length) c6 = v6 at *
  generalize hRV : Value.slice RA rs.length rc = rv at *
  have hL := HL.out
  have hN2 := HN2.out
  have s1 := hb1.size
  have s2 := hN2.only.size
  have s4 := hb4.size
  have s5 := hb5.size
  have hR0 : OwnF Record.k 81 w ok rv rs := hL.rows
  have hrlt : ∀ q, rv.ownBlock = some q → q < w.heap.size := fun q hq => hR0.lt hq
  have hblt := hL.blk.lt
  have hbrv : rv.ownBlock ≠ some b := hR0.ne hL.ty tLogRec
  have hb2 : Blk w2 b _ := (hL.blk.on hb1).only hN2.only hL.nb
  have ht2 : Ty w2 70 b := (hL.ty.below hb1).only hN2.only hL.nb
  have hb5' := ((hb2.on hb4).on hb5).only o6 (fun hm => hbrv (Option.mem_toList.1 hm))
  have ht5' := ((ht2.below hb4).below hb5).only o6 (fun hm => hbrv (Option.mem_toList.1 hm))
  have hd2 : ∀ q ∈ dn2, q ∈ dn ∨ wr.heap.size ≤ q := hN2.own
  have hdlt : ∀ q ∈ dn2, q < w2.heap.size := HD2.out.lt
  have hnb2 : b ∉ dn2 := fun hm => by
    rcases hd2 b hm with h | h
    · exact hL.nb h
    · omega
  have hnr2 : ∀ q, rv.ownBlock = some q → q ∉ dn2 := fun q hq hm => by
    have := hrlt q hq
    rcases hd2 q hm with h | h
    · exact hL.nr q hq h
    · omega
  have hD6 : DiskR w6 dn2 d L (T ++ f) n := ((HD2.out.on hb4).on hb5).only o6 (fun q hq hm => hnr2 q (Option.mem_toList.1 hm) hq)
  have hon : Only [b] w6 (w6.setCell ⟨b, 1, none⟩ v6) := (Only.refl _ _).set _ (.inl (by simp))
  have hok5b : ∀ i, ok5 i → i ≠ b := by
    rintro i hi rfl
    rw [hok5] at hi
    rcases hi with ⟨h, _⟩ | ⟨h, _⟩
    · exact HOK.out _ h List.mem_cons_self
    · omega
  refine ⟨b :: (v6.ownBlock.toList ++ dn2), ⟨d, v6, dn2, rfl, hb5'.set 1 _, ht5'.set _ _, ?_, hD6.only hon (fun q hq hm => hnb2 (by rwa [show q = b by simpa using hm] at hq)), hnb2, ?_⟩, ?_, ?_⟩
  · refine ((hv6.only hon (fun q hq => ?_) (fun i hi _ hm => hok5b i hi (by simpa using hm))).mono (fun i hi => ?_))
    · rw [show q = b by simpa using hq]
      exact hv6.ne ht5' tLogRec
    · rw [hok5] at hi
      rcases hi with h | ⟨h, h2⟩
      · exact .inl h
      · refine .inr ⟨by omega, fun hm => ?_⟩
        rcases List.mem_cons.1 hm with rfl | hm
        · omega
        · rcases List.mem_append.1 hm with hm | hm
          · have hm := Option.mem_toList.1 hm
            rcases hown6 with e | ⟨q, e, hq⟩
            · have := hrlt i (e ▸ hm)
              omega
            · rw [e] at hm
              injection hm with hm
              omega
          · have := hdlt i hm
            omega
  · intro q hq hm
    rcases hown6 with e | ⟨q', e, hq'⟩
    · exact hnr2 q (e ▸ hq) hm
    · rw [e] at hq
      injection hq with hq
      have := hdlt q hm
      omega
  · refine (((((Only.of_below _ hb1).trans (hN2.only.mono (fun i hi => .inl (List.mem_cons_of_mem _ (List.mem_append_right _ hi))))).on hb4).on hb5).trans (o6.mono (fun i hi => .inl (List.mem_cons_of_mem _ (List.mem_append_left _ hi))))).trans (hon.mono (fun i hi => .inl (by rw [show i = b by simpa using hi]; exact List.mem_cons_self)))
  · intro q hq
    rcases List.mem_cons.1 hq with rfl | hq
    · exact .inl List.mem_cons_self
    · rcases List.mem_append.1 hq with hq | hq
      · have hq := Option.mem_toList.1 hq
        rcases hown6 with e | ⟨q', e, hq'⟩
        · exact .inl (List.mem_cons_of_mem _ (List.mem_append_left _ (Option.mem_toList.2 (e ▸ hq))))
        · rw [e] at hq
          injection hq with hq
          exact .inr (by omega)
      · rcases hd2 q hq with h | h
        · exact .inl (List.mem_cons_of_mem _ (List.mem_append_right _ h))
        · exact .inr (by omega)
set_option maxRecDepth 100000 in
theorem walAppend_calls (w : World) (ok : Nat → Prop) (own : List Nat) (b : Nat) (L T : List UInt8) (n : Int) (rs : List Record) (last : Int) (h : LogR w ok own b L T n rs last) (hok : ∀ i, ok i → i ∉ own) (k : UInt8) (hk : k ≠ 0) (x : List UInt8) (A : Option Addr) (c : Nat) (hx : Kd.F Hash.kRow w (fun i => i ∉ own) A 1 [x]) (hl : L.length + T.length + x.length + 10 ≤ 4194304) (hx2 : x.length ≤ 65536) (hrs : rs.length ≤ 1000000) :
    Calls Try.prog 19 #[.pointer (some ⟨b, 0, none⟩), .int .u8 (k.toNat : Int), .slice A 1 c] w (WalAppTold ok own b L (T ++ Pack.frameB k x) n (rs ++ [⟨k, x⟩]) last w) := by
  obtain ⟨d, rv, dn, rfl, h⟩ := h
  have HL := Aside0.mk h
  have HX := Aside0.mk hx
  have HOK := Aside0.mk hok
  obtain ⟨RA, rc, rfl, hrc, _⟩ := OwnRow.reads h.rows
  obtain ⟨ad, x', A1, c1, rfl, HX1, hcell, HC⟩ := Hash.row_at (Kd.F_now hx) 0 (by omega)
  obtain rfl : x = x' := by simpa using HX1.out
  rw [show ad.add 0 = ad from by unfold Addr.add; split <;> simp_all] at hcell
  have hk0 : ((k.toNat : Int) == 0) = false := by simpa using (fun e => hk (UInt8.toNat_inj.1 (by simpa using e)) : ¬ (k.toNat : Int) = 0)
  have HLL : Aside0 (L.length + T.length + (Pack.frameB k x).length ≤ 4194304) := ⟨by rw [Pack.frameB_len]; omega⟩
  have HLX := Aside0.mk hx2
  have HLR := Aside0.mk hrs
  have HON := Aside0.mk (Pack.one_calls k x A1 c1 w (by omega) HC.out)
  clear h hx hok HX1 HC hk hl hx2 hrs hrc
  go_enter Try.func19, Try.ntmps19
  go_wp2
  go_step3
  go_wp2
  go_step3
  go_wp2
  go_loopg [7, 8, 22] 1 (fun gk v7 v8 v22 wr => ∃ j : Nat, v22 = .int .i64 (j : Int) ∧ j ≤ 1 ∧ v8 = .int .i64 0 ∧ Aside0 (gk + j = 1) ∧ Aside0 ((j = 0 ∧ wr = w ∧ v7 = .slice none 0 0) ∨ (j = 1 ∧ Below w.heap.size w wr ∧ OwnF Hash.kRow 24 wr (fun _ => True) v7 [Pack.frameB k x])))
  case atStart => exact ⟨0, rfl, by omega, rfl, ⟨rfl⟩, ⟨.inl ⟨rfl, rfl, rfl⟩⟩⟩
  case round =>
    obtain ⟨j, rfl, hj, rfl, HG, HS⟩ := hrel
    have hj' : j = 0 ∨ j = 1 := by omega
    rcases hj' with rfl | rfl
    · obtain ⟨rfl, rfl⟩ : wr = w ∧ u7 = .slice none 0 0 := by simpa using HS.out
      go_wp2_with (first
        | ((with_reducible refine HON.out.mono ?_); rintro e w1 ⟨v1, rfl, hG⟩; obtain ⟨A1', c1', rfl, hc1, hF⟩ := hG.foot; have HF := Aside0.mk (Kd.F_mono hF (ok' := fun i => wr.heap.size ≤ i) (fun i hi => hi.elim (fun h => h.elim) id)); have HB := Aside0.mk hG.bl; have HC1 := Aside0.mk hc1; clear hG hF hc1)
        | (at_builtin; refine OwnF.push (d := Hash.kRow) (ok := fun _ => True) rfl _ _ 77 (.slice none 0 0) 24 rfl Try.underlying77 infoRow rfl (by decide) (by omega) (OwnF.none_ _ _ _ _) (fun k hk => by cases hk) #[.slice A1' (Pack.frameB k x).length c1'] (Foot.mono (Row.fk HC1.out HF.out) (fun _ _ => trivial)) rfl rfl (by simp) ?_; intro v2 w2 hv2 o2 _; have HV2 := Aside0.mk hv2; have HB2 := Aside0.mk (HB.out.trans (o2.below (by intro i hi; cases hi) HB.out.size)); clear hv2 o2))
      go_roundg 0
      case measure => have := HG.out; omega
      case rel => exact ⟨1, by go_num, by omega, rfl, ⟨rfl⟩, ⟨.inr ⟨rfl, HB2.out, HV2.out⟩⟩⟩
    · obtain ⟨w1, rfl⟩ : ∃ w1, w1 = wr := ⟨_, rfl⟩
      have HE := Aside0.mk (show Below w.heap.size w w1 ∧ OwnF Hash.kRow 24 w1 (fun _ => True) u7 [Pack.frameB k x] by simpa using HS.out)
      obtain ⟨A7, c7, rfl, hc7, hC7⟩ := HE.out.2.reads
      have HD := Aside0.mk (diskAppend_calls w1 dn d L T n (HL.out.disk.on HE.out.1) (Pack.frameB k x) A7 c7 hC7 HLL.out)
      have HBK := Aside0.mk (HL.out.blk.on HE.out.1)
      obtain ⟨⟨k0, k1, k2⟩, g0, g1, g2⟩ := HBK.out.three
      clear hc7 hC7
      go_wp2_with (first
        | ((with_reducible refine HD.out.mono ?_); rintro e w2 ⟨dn2, rfl, hd2, hn2⟩; have HD2 := Aside0.mk hd2; have HN2 := Aside0.mk hn2; clear hd2 hn2))
      have HN02 : Aside0 (Next (b :: ((Value.slice RA rs.length rc).ownBlock.toList ++ dn)) (b :: ((Value.slice RA rs.length rc).ownBlock.toList ++ dn2)) w w2) := ⟨Next.ahead HE.out.1 ⟨HN2.out.only.mono (fun i hi => .inl (List.mem_cons_of_mem _ (List.mem_append_right _ hi))), fun q hq => by
        rcases List.mem_cons.1 hq with rfl | hq
        · exact .inl List.mem_cons_self
        · rcases List.mem_append.1 hq with hq | hq
          · exact .inl (List.mem_cons_of_mem _ (List.mem_append_left _ hq))
          · rcases HN2.out.own q hq with h | h
            · exact .inl (List.mem_cons_of_mem _ (List.mem_append_right _ h))
            · exact .inr h⟩⟩
      have HX2 := Aside0.mk (HN02.out.foot HX.out)
      obtain ⟨ad2, x2, A2, c2, had, HXE2, hcell2, HC2⟩ := Hash.row_at (Kd.F_now HX2.out) 0 (by omega)
      injection had with had
      subst had
      obtain rfl : x = x2 := by simpa using HXE2.out
      rw [show ad.add 0 = ad from by unfold Addr.add; split <;> simp_all] at hcell2
      have HB2 := Aside0.mk (And.intro (HBK.out.only HN2.out.only HL.out.nb) ((HL.out.ty.below HE.out.1).only HN2.out.only HL.out.nb))
      have HR2 : Aside0 (OwnF Record.k 81 w2 (fun i => ok i ∧ i < w.heap.size) (.slice RA rs.length rc) rs) := ⟨by
        have h0 : OwnF Record.k 81 w ok (.slice RA rs.length rc) rs := HL.out.rows
        refine (h0.bound.on HE.out.1).only HN2.out.only (fun q hq e => HL.out.nr q e hq) (fun i hi _ hm => HOK.out i hi.1 (List.mem_cons_of_mem _ (List.mem_append_right _ hm)))⟩
      clear k0 k1 k2 g0 g1 g2 HXE2 hcell HBK
      go_loopg [53] 1 (fun gk v53 wx => ∃ j : Nat, v53 = .int .i64 (j : Int) ∧ j ≤ 1 ∧ Aside0 (gk + j = 1) ∧ Aside0 ((j = 0 ∧ wx = w2) ∨ (j = 1 ∧ ∃ own', LogR wx (more ok own' w) own' b L (T ++ Pack.frameB k x) n (rs ++ [⟨k, x⟩]) last ∧ Next (b :: ((Value.slice RA rs.length rc).ownBlock.toList ++ dn)) own' w wx)))
      case atStart => exact ⟨0, rfl, by omega, ⟨rfl⟩, ⟨.inl ⟨rfl, rfl⟩⟩⟩
      case round =>
        obtain ⟨j, rfl, hj, HG, HS⟩ := hrel
        have hj' : j = 0 ∨ j = 1 := by omega
        rcases hj' with rfl | rfl
        · obtain rfl : w2 = wr := by simpa [eq_comm] using HS.out
          go_wp2
          obtain ⟨w4, hw4⟩ : ∃ w4, w4 = World.drew w2 := ⟨_, rfl⟩
          have HB4b : Aside0 (Below w2.heap.size w2 w4) := ⟨by rw [hw4]; exact below_drew (Below.refl _ _)⟩
          have HB4 := Aside0.mk (And.intro (HB2.out.1.on HB4b.out) (HB2.out.2.below HB4b.out))
          have HR4 := Aside0.mk (HR2.out.on HB4b.out)
          have HC4 := Aside0.mk (Kd.C_below HC2.out HB4b.out)
          have HOD := Aside0.mk (Only.of_below (b :: (Value.slice RA rs.length rc).ownBlock.toList) HB4b.out)
          obtain ⟨⟨k0, k1, k2⟩, g0, g1, g2⟩ := HB4.out.1.three
          refine wp_region_noPanic ?_
          refine wp_region_held_drew (S := Only (b :: (Value.slice RA rs.length rc).ownBlock.toList) w2) (by kernel_rfl) ((Only.refl _ _).drew) (fun hHeld => ?_)
          rw [← hw4]
          clear hw4 hHeld
          have hHeld := HOD.out
          (refine takeH 0 57 (v := ?_) rfl rfl (by kernel_rfl) (by kernel_rfl) (by kernel_rfl) (fun _ _ _ h => h) hHeld rfl ?_ ?_; rotate_left; (focus (intro w' hSw; go_simp; try with_reducible rfl)))
          (try simp only [Act.put, List.setIfInBounds_toArray, List.set_cons_zero, List.set_cons_succ])
          (refine takeH 1 58 (v := ?_) rfl rfl (by kernel_rfl) (by kernel_rfl) (by kernel_rfl) (fun _ _ _ h => h) hHeld rfl ?_ ?_; rotate_left; (focus (intro w' hSw; go_simp; try with_reducible rfl)))
          (try simp only [Act.put, List.setIfInBounds_toArray, List.set_cons_zero, List.set_cons_succ])
          (refine takeH 2 59 (v := ?_) rfl rfl (by kernel_rfl) (by kernel_rfl) (by kernel_rfl) (fun _ _ _ h => h) hHeld rfl ?_ ?_; rotate_left; (focus (intro w' hSw; go_simp; try with_reducible rfl)))
          (try simp only [Act.put, List.setIfInBounds_toArray, List.set_cons_zero, List.set_cons_succ])
          (refine takeH 3 60 (v := ?_) rfl rfl (by kernel_rfl) (by kernel_rfl) (by kernel_rfl) (fun _ _ _ h => h) hHeld rfl ?_ ?_; rotate_left; (focus (intro w' hSw; go_simp; try with_reducible rfl)))
          (try simp only [Act.put, List.setIfInBounds_toArray, List.set_cons_zero, List.set_cons_succ])
          (refine takeH 4 61 (v := ?_) rfl rfl (by kernel_rfl) (by kernel_rfl) (by kernel_rfl) (fun _ _ _ h => h) hHeld rfl ?_ ?_; rotate_left; (focus (intro w' hSw; go_simp; try with_reducible rfl)))
          (try simp only [Act.put, List.setIfInBounds_toArray, List.set_cons_zero, List.set_cons_succ])
          (refine takeH 6 63 (v := ?_) rfl rfl (by kernel_rfl) (by kernel_rfl) (by kernel_rfl) (fun _ _ _ h => h) hHeld rfl ?_ ?_; rotate_left; (focus (intro w' hSw; go_simp; try with_reducible rfl)))
          (try simp only [Act.put, List.setIfInBounds_toArray, List.set_cons_zero, List.set_cons_succ])
          (refine takeH 7 64 (v := ?_) rfl rfl (by kernel_rfl) (by kernel_rfl) (by kernel_rfl) (fun _ _ _ h => h) hHeld rfl ?_ ?_; rotate_left; (focus (intro w' hSw; go_simp; try with_reducible rfl)))
          (try simp only [Act.put, List.setIfInBounds_toArray, List.set_cons_zero, List.set_cons_succ])
          refine wpAnyH_ready (rs := [5, 8]) (by kernel_rfl) (by simp) ?_
          refine AllReadyH.cons rfl (fun K hK => ?_) (AllReadyH.cons rfl (fun K hK => ?_) AllReadyH.nil)
          · go_simp
            refine hK.out _ _ HOD.out (fun hHeld => ?_)
            clear hK K
            (try simp only [Act.put, List.setIfInBounds_toArray, List.set_cons_zero, List.set_cons_succ])
            refine wpAnyH_ready (rs := [8]) (by kernel_rfl) (by simp) ?_
            refine AllReadyH.cons rfl (fun K hK => ?_) AllReadyH.nil
            refine step_copy rfl _ _ rfl rfl (c := c2) rfl HC4.out (by have := HLX.out; omega) ?_
            intro A5 c5 w5 hc5 hC5 hf5 hb5
            have HBB5 := Aside0.mk hb5
            obtain ⟨ok5, hok5⟩ : ∃ ok5 : Nat → Prop, ok5 = fun i => (ok i ∧ i < w.heap.size) ∨ (w4.heap.size ≤ i ∧ i < w5.heap.size) := ⟨_, rfl⟩
            have HF5 : Aside0 (Kd.FK Record.k w5 ok5 ⟨k, x⟩ [.int .u8 (k.toNat : Int), .slice A5 x.length c5]) := ⟨Record.fk (x := ⟨k, x⟩) hc5 (kU8_in hC5 (fun ad e => by rw [hok5]; exact .inr (hf5 ad e)))⟩
            have HR5 : Aside0 (OwnF Record.k 81 w5 ok5 (.slice RA rs.length rc) rs) := ⟨(HR4.out.on hb5).mono (fun i hi => by rw [hok5]; exact .inl hi)⟩
            have HOK5 : Aside0 (∀ q, (Value.slice RA rs.length rc).ownBlock = some q → ¬ ok5 q) := ⟨fun q hq ho => by
              rw [hok5] at ho
              have hlt := HR4.out.lt hq
              rcases ho with ⟨h1, _⟩ | ⟨h1, _⟩
              · exact HOK.out q h1 (List.mem_cons_of_mem _ (List.mem_append_left _ (Option.mem_toList.2 hq)))
              · omega⟩
            have HB5 := Aside0.mk (And.intro (HB4.out.1.on hb5) (HB4.out.2.below hb5))
            have HOD5 := Aside0.mk (HOD.out.on hb5)
            have HFIN := Aside0.mk (walFin (k := k) (x := x) HL HOK HE.out.1 HN2 HD2 HB4b.out hb5 hok5)
            clear hc5 hC5 hf5 hb5 hok5 k0 k1 k2 g0 g1 g2
            obtain ⟨⟨k0, k1, k2⟩, g0, g1, g2⟩ := HB5.out.1.three
            refine hK.out _ _ HOD5.out (fun hHeld => ?_)
            clear hK K
            (try simp only [Act.put, List.setIfInBounds_toArray, List.set_cons_zero, List.set_cons_succ])
            (refine takeH 9 66 (v := ?_) rfl rfl (by kernel_rfl) (by kernel_rfl) (by kernel_rfl) (fun _ _ _ h => h) hHeld rfl ?_ ?_; rotate_left; (focus (intro w' hSw; go_simp; try with_reducible rfl)))
            (try simp only [Act.put, List.setIfInBounds_toArray, List.set_cons_zero, List.set_cons_succ])
            refine wpAnyH_ready (rs := [10]) (by kernel_rfl) (by simp) ?_
            refine AllReadyH.cons rfl (fun K hK => ?_) AllReadyH.nil
            go_simp
            refine hK.out _ _ ((HOD5.out.alloc _)) (fun hHeld => ?_)
            clear hK K
            (try simp only [Act.put, List.setIfInBounds_toArray, List.set_cons_zero, List.set_cons_succ])
            refine wpAnyH_ready (rs := [11]) (by kernel_rfl) (by simp) ?_
            refine AllReadyH.cons rfl (fun K hK => ?_) AllReadyH.nil
            refine OwnF.step_push (d := Record.k) (y := ⟨k, x⟩) (ok := ok5) rfl _ _ 66 (.agg #[.int .u8 0, .slice none 0 0]) 32 rfl Try.underlying66 infoRec rfl (by decide) (by omega) HR5.out HOK5.out #[.int .u8 (k.toNat : Int), .slice A5 x.length c5] HF5.out rfl rfl (by have := HLR.out; omega) ?_
            intro v6 w6 hv6 o6 hown6
            obtain ⟨A6, c6, rfl, _, _⟩ := hv6.reads
            rw [List.length_append] at hv6 hown6 ⊢
            have HV6 := Aside0.mk hv6
            have HO6 := Aside0.mk o6
            have HW6 := Aside0.mk hown6
            have HB6 := Aside0.mk (And.intro (HB5.out.1.only o6 (fun hm => HR5.out.ne HB5.out.2 tLogRec (Option.mem_toList.1 hm))) (HB5.out.2.only o6 (fun hm => HR5.out.ne HB5.out.2 tLogRec (Option.mem_toList.1 hm))))
            have HSB6 := Aside0.mk (HOD5.out.trans (HO6.out.mono (S' := b :: (Value.slice RA rs.length rc).ownBlock.toList) (fun i hi => .inl (List.mem_cons_of_mem _ hi))))
            clear hv6 o6 hown6 k0 k1 k2 g0 g1 g2
            obtain ⟨⟨k0, k1, k2⟩, g0, g1, g2⟩ := HB6.out.1.three
            refine hK.out _ _ HSB6.out (fun hHeld => ?_)
            clear hK K
            (try simp only [Act.put, List.setIfInBounds_toArray, List.set_cons_zero, List.set_cons_succ])
            (refine takeH 12 69 (v := ?_) rfl rfl (by kernel_rfl) (by kernel_rfl) (by kernel_rfl) (fun _ _ _ h => h) hHeld rfl ?_ ?_; rotate_left; (focus (intro w' hSw; go_simp; try with_reducible rfl)))
            (try simp only [Act.put, List.setIfInBounds_toArray, List.set_cons_zero, List.set_cons_succ])
            (refine takeH 13 70 (v := ?_) rfl rfl (by kernel_rfl) (by kernel_rfl) (by kernel_rfl) (fun _ _ _ h => h) hHeld rfl ?_ ?_; rotate_left; (focus (intro w' hSw; go_simp; try with_reducible rfl)))
            (try simp only [Act.put, List.setIfInBounds_toArray, List.set_cons_zero, List.set_cons_succ])
            (refine takeH 14 71 (v := ?_) rfl rfl (by kernel_rfl) (by kernel_rfl) (by kernel_rfl) (fun _ _ _ h => h) hHeld rfl ?_ ?_; rotate_left; (focus (intro w' hSw; go_simp; try with_reducible rfl)))
            (try simp only [Act.put, List.setIfInBounds_toArray, List.set_cons_zero, List.set_cons_succ])
            refine wpAnyH_ready (rs := [15]) (by kernel_rfl) (by simp) ?_
            refine AllReadyH.cons rfl (fun K hK => ?_) AllReadyH.nil
            go_simp
            refine hK.out _ _ (HSB6.out.set (p := ⟨b, 1, none⟩) _ (.inl List.mem_cons_self)) (fun hHeld => ?_)
            clear hK K
            (try simp only [Act.put, List.setIfInBounds_toArray, List.set_cons_zero, List.set_cons_succ])
            refine wpAnyH_done (by kernel_rfl) ?_ _
            refine NoPanic.normal ?_
            go_wp2
            go_roundg 0
            case measure => have := HG.out; omega
            case rel => exact ⟨1, by go_num, by omega, ⟨rfl⟩, ⟨.inr ⟨rfl, HFIN.out A6 c6 w6 HV6.out HO6.out HW6.out⟩⟩⟩
          · refine step_copy rfl _ _ rfl rfl (c := c2) rfl HC4.out (by have := HLX.out; omega) ?_
            intro A5 c5 w5 hc5 hC5 hf5 hb5
            have HBB5 := Aside0.mk hb5
            obtain ⟨ok5, hok5⟩ : ∃ ok5 : Nat → Prop, ok5 = fun i => (ok i ∧ i < w.heap.size) ∨ (w4.heap.size ≤ i ∧ i < w5.heap.size) := ⟨_, rfl⟩
            have HF5 : Aside0 (Kd.FK Record.k w5 ok5 ⟨k, x⟩ [.int .u8 (k.toNat : Int), .slice A5 x.length c5]) := ⟨Record.fk (x := ⟨k, x⟩) hc5 (kU8_in hC5 (fun ad e => by rw [hok5]; exact .inr (hf5 ad e)))⟩
            have HR5 : Aside0 (OwnF Record.k 81 w5 ok5 (.slice RA rs.length rc) rs) := ⟨(HR4.out.on hb5).mono (fun i hi => by rw [hok5]; exact .inl hi)⟩
            have HOK5 : Aside0 (∀ q, (Value.slice RA rs.length rc).ownBlock = some q → ¬ ok5 q) := ⟨fun q hq ho => by
              rw [hok5] at ho
              have hlt := HR4.out.lt hq
              rcases ho with ⟨h1, _⟩ | ⟨h1, _⟩
              · exact HOK.out q h1 (List.mem_cons_of_mem _ (List.mem_append_left _ (Option.mem_toList.2 hq)))
              · omega⟩
            have HB5 := Aside0.mk (And.intro (HB4.out.1.on hb5) (HB4.out.2.below hb5))
            have HOD5 := Aside0.mk (HOD.out.on hb5)
            have HFIN := Aside0.mk (walFin (k := k) (x := x) HL HOK HE.out.1 HN2 HD2 HB4b.out hb5 hok5)
            clear hc5 hC5 hf5 hb5 hok5 k0 k1 k2 g0 g1 g2
            obtain ⟨⟨k0, k1, k2⟩, g0, g1, g2⟩ := HB5.out.1.three
            refine hK.out _ _ HOD5.out (fun hHeld => ?_)
            clear hK K
            (try simp only [Act.put, List.setIfInBounds_toArray, List.set_cons_zero, List.set_cons_succ])
            (refine takeH 9 66 (v := ?_) rfl rfl (by kernel_rfl) (by kernel_rfl) (by kernel_rfl) (fun _ _ _ h => h) hHeld rfl ?_ ?_; rotate_left; (focus (intro w' hSw; go_simp; try with_reducible rfl)))
            (try simp only [Act.put, List.setIfInBounds_toArray, List.set_cons_zero, List.set_cons_succ])
            refine wpAnyH_ready (rs := [5, 10]) (by kernel_rfl) (by simp) ?_
            refine AllReadyH.cons rfl (fun K hK => ?_) (AllReadyH.cons rfl (fun K hK => ?_) AllReadyH.nil)
            · go_simp
              refine hK.out _ _ HOD5.out (fun hHeld => ?_)
              clear hK K
              (try simp only [Act.put, List.setIfInBounds_toArray, List.set_cons_zero, List.set_cons_succ])
              refine wpAnyH_ready (rs := [10]) (by kernel_rfl) (by simp) ?_
              refine AllReadyH.cons rfl (fun K hK => ?_) AllReadyH.nil
              go_simp
              refine hK.out _ _ ((HOD5.out.alloc _)) (fun hHeld => ?_)
              clear hK K
              (try simp only [Act.put, List.setIfInBounds_toArray, List.set_cons_zero, List.set_cons_succ])
              refine wpAnyH_ready (rs := [11]) (by kernel_rfl) (by simp) ?_
              refine AllReadyH.cons rfl (fun K hK => ?_) AllReadyH.nil
              refine OwnF.step_push (d := Record.k) (y := ⟨k, x⟩) (ok := ok5) rfl _ _ 66 (.agg #[.int .u8 0, .slice none 0 0]) 32 rfl Try.underlying66 infoRec rfl (by decide) (by omega) HR5.out HOK5.out #[.int .u8 (k.toNat : Int), .slice A5 x.length c5] HF5.out rfl rfl (by have := HLR.out; omega) ?_
              intro v6 w6 hv6 o6 hown6
              obtain ⟨A6, c6, rfl, _, _⟩ := hv6.reads
              rw [List.length_append] at hv6 hown6 ⊢
              have HV6 := Aside0.mk hv6
              have HO6 := Aside0.mk o6
              have HW6 := Aside0.mk hown6
              have HB6 := Aside0.mk (And.intro (HB5.out.1.only o6 (fun hm => HR5.out.ne HB5.out.2 tLogRec (Option.mem_toList.1 hm))) (HB5.out.2.only o6 (fun hm => HR5.out.ne HB5.out.2 tLogRec (Option.mem_toList.1 hm))))
              have HSB6 := Aside0.mk (HOD5.out.trans (HO6.out.mono (S' := b :: (Value.slice RA rs.length rc).ownBlock.toList) (fun i hi => .inl (List.mem_cons_of_mem _ hi))))
              clear hv6 o6 hown6 k0 k1 k2 g0 g1 g2
              obtain ⟨⟨k0, k1, k2⟩, g0, g1, g2⟩ := HB6.out.1.three
              refine hK.out _ _ HSB6.out (fun hHeld => ?_)
              clear hK K
              (try simp only [Act.put, List.setIfInBounds_toArray, List.set_cons_zero, List.set_cons_succ])
              (refine takeH 12 69 (v := ?_) rfl rfl (by kernel_rfl) (by kernel_rfl) (by kernel_rfl) (fun _ _ _ h => h) hHeld rfl ?_ ?_; rotate_left; (focus (intro w' hSw; go_simp; try with_reducible rfl)))
              (try simp only [Act.put, List.setIfInBounds_toArray, List.set_cons_zero, List.set_cons_succ])
              (refine takeH 13 70 (v := ?_) rfl rfl (by kernel_rfl) (by kernel_rfl) (by kernel_rfl) (fun _ _ _ h => h) hHeld rfl ?_ ?_; rotate_left; (focus (intro w' hSw; go_simp; try with_reducible rfl)))
              (try simp only [Act.put, List.setIfInBounds_toArray, List.set_cons_zero, List.set_cons_succ])
              (refine takeH 14 71 (v := ?_) rfl rfl (by kernel_rfl) (by kernel_rfl) (by kernel_rfl) (fun _ _ _ h => h) hHeld rfl ?_ ?_; rotate_left; (focus (intro w' hSw; go_simp; try with_reducible rfl)))
              (try simp only [Act.put, List.setIfInBounds_toArray, List.set_cons_zero, List.set_cons_succ])
              refine wpAnyH_ready (rs := [15]) (by kernel_rfl) (by simp) ?_
              refine AllReadyH.cons rfl (fun K hK => ?_) AllReadyH.nil
              go_simp
              refine hK.out _ _ (HSB6.out.set (p := ⟨b, 1, none⟩) _ (.inl List.mem_cons_self)) (fun hHeld => ?_)
              clear hK K
              (try simp only [Act.put, List.setIfInBounds_toArray, List.set_cons_zero, List.set_cons_succ])
              refine wpAnyH_done (by kernel_rfl) ?_ _
              refine NoPanic.normal ?_
              go_wp2
              go_roundg 0
              case measure => have := HG.out; omega
              case rel => exact ⟨1, by go_num, by omega, ⟨rfl⟩, ⟨.inr ⟨rfl, HFIN.out A6 c6 w6 HV6.out HO6.out HW6.out⟩⟩⟩
            · go_simp
              refine hK.out _ _ (HOD5.out.alloc _) (fun hHeld => ?_)
              clear hK K
              (try simp only [Act.put, List.setIfInBounds_toArray, List.set_cons_zero, List.set_cons_succ])
              have kk0 := pw_cell_below (below_alloc (Below.refl _ _) (.cells #[.int .u8 (k.toNat : Int), .slice A5 x.length c5] 81)) k1
              refine wpAnyH_ready (rs := [5]) (by kernel_rfl) (by simp) ?_
              refine AllReadyH.cons rfl (fun K hK => ?_) AllReadyH.nil
              go_simp
              refine hK.out _ _ ((HOD5.out.alloc _)) (fun hHeld => ?_)
              clear hK K
              (try simp only [Act.put, List.setIfInBounds_toArray, List.set_cons_zero, List.set_cons_succ])
              refine wpAnyH_ready (rs := [11]) (by kernel_rfl) (by simp) ?_
              refine AllReadyH.cons rfl (fun K hK => ?_) AllReadyH.nil
              refine OwnF.step_push (d := Record.k) (y := ⟨k, x⟩) (ok := ok5) rfl _ _ 66 (.agg #[.int .u8 0, .slice none 0 0]) 32 rfl Try.underlying66 infoRec rfl (by decide) (by omega) HR5.out HOK5.out #[.int .u8 (k.toNat : Int), .slice A5 x.length c5] HF5.out rfl rfl (by have := HLR.out; omega) ?_
              intro v6 w6 hv6 o6 hown6
              obtain ⟨A6, c6, rfl, _, _⟩ := hv6.reads
              rw [List.length_append] at hv6 hown6 ⊢
              have HV6 := Aside0.mk hv6
              have HO6 := Aside0.mk o6
              have HW6 := Aside0.mk hown6
              have HB6 := Aside0.mk (And.intro (HB5.out.1.only o6 (fun hm => HR5.out.ne HB5.out.2 tLogRec (Option.mem_toList.1 hm))) (HB5.out.2.only o6 (fun hm => HR5.out.ne HB5.out.2 tLogRec (Option.mem_toList.1 hm))))
              have HSB6 := Aside0.mk (HOD5.out.trans (HO6.out.mono (S' := b :: (Value.slice RA rs.length rc).ownBlock.toList) (fun i hi => .inl (List.mem_cons_of_mem _ hi))))
              clear hv6 o6 hown6 k0 k1 k2 g0 g1 g2
              obtain ⟨⟨k0, k1, k2⟩, g0, g1, g2⟩ := HB6.out.1.three
              refine hK.out _ _ HSB6.out (fun hHeld => ?_)
              clear hK K
              (try simp only [Act.put, List.setIfInBounds_toArray, List.set_cons_zero, List.set_cons_succ])
              (refine takeH 12 69 (v := ?_) rfl rfl (by kernel_rfl) (by kernel_rfl) (by kernel_rfl) (fun _ _ _ h => h) hHeld rfl ?_ ?_; rotate_left; (focus (intro w' hSw; go_simp; try with_reducible rfl)))
              (try simp only [Act.put, List.setIfInBounds_toArray, List.set_cons_zero, List.set_cons_succ])
              (refine takeH 13 70 (v := ?_) rfl rfl (by kernel_rfl) (by kernel_rfl) (by kernel_rfl) (fun _ _ _ h => h) hHeld rfl ?_ ?_; rotate_left; (focus (intro w' hSw; go_simp; try with_reducible rfl)))
              (try simp only [Act.put, List.setIfInBounds_toArray, List.set_cons_zero, List.set_cons_succ])
              (refine takeH 14 71 (v := ?_) rfl rfl (by kernel_rfl) (by kernel_rfl) (by kernel_rfl) (fun _ _ _ h => h) hHeld rfl ?_ ?_; rotate_left; (focus (intro w' hSw; go_simp; try with_reducible rfl)))
              (try simp only [Act.put, List.setIfInBounds_toArray, List.set_cons_zero, List.set_cons_succ])
              refine wpAnyH_ready (rs := [15]) (by kernel_rfl) (by simp) ?_
              refine AllReadyH.cons rfl (fun K hK => ?_) AllReadyH.nil
              go_simp
              refine hK.out _ _ (HSB6.out.set (p := ⟨b, 1, none⟩) _ (.inl List.mem_cons_self)) (fun hHeld => ?_)
              clear hK K
              (try simp only [Act.put, List.setIfInBounds_toArray, List.set_cons_zero, List.set_cons_succ])
              refine wpAnyH_done (by kernel_rfl) ?_ _
              refine NoPanic.normal ?_
              go_wp2
              go_roundg 0
              case measure => have := HG.out; omega
              case rel => exact ⟨1, by go_num, by omega, ⟨rfl⟩, ⟨.inr ⟨rfl, HFIN.out A6 c6 w6 HV6.out HO6.out HW6.out⟩⟩⟩
        · have HE2 := Aside0.mk (show ∃ own', LogR wr (more ok own' w) own' b L (T ++ Pack.frameB k x) n (rs ++ [⟨k, x⟩]) last ∧ Next (b :: ((Value.slice RA rs.length rc).ownBlock.toList ++ dn)) own' w wr by simpa using HS.out)
          go_wp2
          go_ret
          obtain ⟨own', h1, h2⟩ := HE2.out
          exact ⟨own', rfl, h1, h2⟩
end Go.Proofs.Ytmmelfnhhjfaeaa
set_option linter.unusedVariables false
set_option linter.unusedSimpArgs false
namespace Go.Proofs.Ytmmelfnhhjfaeaa
open Go.RowKit Go.Proofs.YtmmelfnhhjfaeaaW.PrintWords
namespace Sto
abbrev kl (c : Entry) : List UInt8 := c.key.data.toList
theorem key_ext {a b : ByteArray} (h : a.data.toList = b.data.toList) : a = b := ByteArray.ext (Array.toList_inj.1 h)
def Srt (l : List Entry) : Prop := l.Pairwise (fun a b => kl a < kl b)
def find (l : List Entry) (k : ByteArray) : Option Entry := l.find? (fun c => decide (c.key = k))
def del (l : List Entry) (k : ByteArray) : List Entry := l.filter (fun c => decide (c.key ≠ k))
/-- In place of its key's, or at its place. -/
def put : List Entry → Entry → List Entry
  | [], c => [c]
  | x :: r, c => if x.key = c.key then c :: r else if kl c < kl x then c :: x :: r else x :: put r c
theorem lt_irr (a : List UInt8) : ¬ a < a := List.lt_irrefl a
theorem lt_tr {a b c : List UInt8} (h : a < b) (k : b < c) : a < c := List.lt_trans h k
theorem lt_of {a b : List UInt8} (h : ¬ a < b) (hn : a ≠ b) : b < a := by
  rcases Decidable.em (b < a) with h1 | h1
  · exact h1
  · exact absurd (List.le_antisymm (List.not_lt.1 h1) (List.not_lt.1 h)) hn
theorem ne_of {a b : Entry} (h : kl a < kl b) : a.key ≠ b.key := fun e => by
  unfold kl at h; rw [e] at h; exact lt_irr _ h
theorem find_mem {l : List Entry} {k : ByteArray} {c : Entry} (h : find l k = some c) : c ∈ l ∧ c.key = k := by
  unfold find at h
  exact ⟨List.mem_of_find?_eq_some h, by have := List.find?_some h; simpa using this⟩
theorem find_none {l : List Entry} {k : ByteArray} (h : find l k = none) : ∀ c ∈ l, c.key ≠ k := by
  unfold find at h
  intro c hc
  have := List.find?_eq_none.1 h c hc
  simpa using this
theorem find_of {l : List Entry} {c : Entry} (hs : Srt l) (h : c ∈ l) : find l c.key = some c := by
  induction l with
  | nil => cases h
  | cons x r ih =>
    have hs' := List.pairwise_cons.1 hs
    unfold find
    rw [List.find?_cons]
    rcases List.mem_cons.1 h with rfl | h'
    · simp
    · have := ne_of (hs'.1 c h')
      simp only [this, decide_false]
      exact ih hs'.2 h'
theorem find_no {l : List Entry} {k : ByteArray} (h : ∀ c ∈ l, c.key ≠ k) : find l k = none := by
  unfold find
  rw [List.find?_eq_none]
  intro c hc
  simpa using h c hc
theorem del_perm {l : List Entry} {k : ByteArray} {c : Entry} (hs : Srt l) (h : find l k = some c) : l.Perm (c :: del l k) := by
  induction l with
  | nil => cases h
  | cons x r ih =>
    have hs' := List.pairwise_cons.1 hs
    unfold find at h
    rw [List.find?_cons] at h
    by_cases hx : x.key = k
    · simp only [hx, decide_true, Option.some.injEq] at h
      subst h
      have hr : del r k = r := by
        unfold del
        rw [List.filter_eq_self]
        intro a ha
        have := ne_of (hs'.1 a ha)
        simp only [decide_eq_true_eq]
        rw [← hx]; exact this.symm
      unfold del at hr ⊢
      simp only [List.filter_cons, hx, ne_eq, not_true_eq_false, decide_false, Bool.false_eq_true, if_false]
      rw [show (fun c : Entry => decide (¬ c.key = k)) = (fun c => decide (c.key ≠ k)) from rfl, hr]
    · simp only [hx, decide_false] at h
      have := ih hs'.2 h
      unfold del at this ⊢
      simp only [List.filter_cons, ne_eq, hx, not_false_eq_true, decide_true, if_true]
      exact (this.cons x).trans (List.Perm.swap _ _ _)
theorem del_none {l : List Entry} {k : ByteArray} (h : find l k = none) : del l k = l := by
  unfold del
  rw [List.filter_eq_self]
  intro a ha
  simpa using find_none h a ha
theorem put_perm {l : List Entry} {c : Entry} (hs : Srt l) : (put l c).Perm (c :: del l c.key) := by
  induction l with
  | nil => exact List.Perm.refl _
  | cons x r ih =>
    have hs' := List.pairwise_cons.1 hs
    unfold put
    by_cases hx : x.key = c.key
    · rw [if_pos hx]
      have hr : del r c.key = r := by
        unfold del
        rw [List.filter_eq_self]
        intro a ha
        have := ne_of (hs'.1 a ha)
        simp only [decide_eq_true_eq]
        rw [← hx]; exact this.symm
      have hd : del (x :: r) c.key = del r c.key := by unfold del; rw [List.filter_cons]; simp [hx]
      rw [hd, hr]
    · rw [if_neg hx]
      have hd : del (x :: r) c.key = x :: del r c.key := by unfold del; rw [List.filter_cons]; simp [hx]
      rw [hd]
      split
      · rename_i hlt
        have hr : del r c.key = r := by
          unfold del
          rw [List.filter_eq_self]
          intro a ha
          have h1 := hs'.1 a ha
          have := ne_of (a := c) (b := a) (lt_tr hlt h1)
          simp only [decide_eq_true_eq]
          exact this.symm
        rw [hr]
      · exact ((ih hs'.2).cons x).trans (List.Perm.swap _ _ _)
theorem mem_put {l : List Entry} {c x : Entry} (hs : Srt l) : x ∈ put l c ↔ x = c ∨ (x ∈ l ∧ x.key ≠ c.key) := by
  rw [(put_perm hs).mem_iff, List.mem_cons]
  unfold del
  rw [List.mem_filter]
  simp
theorem mem_del {l : List Entry} {k : ByteArray} {x : Entry} : x ∈ del l k ↔ x ∈ l ∧ x.key ≠ k := by
  unfold del
  rw [List.mem_filter]
  simp
theorem srt_del {l : List Entry} (k : ByteArray) (hs : Srt l) : Srt (del l k) := List.Pairwise.sublist List.filter_sublist hs
theorem put_head {l : List Entry} {c y : Entry} (hs : Srt l) (h : ∀ x ∈ l, kl y < kl x) (hc : kl y < kl c) : ∀ x ∈ put l c, kl y < kl x := by
  intro x hx
  rcases (mem_put hs).1 hx with rfl | ⟨h1, _⟩
  · exact hc
  · exact h x h1
theorem srt_put {l : List Entry} {c : Entry} (hs : Srt l) : Srt (put l c) := by
  induction l with
  | nil => exact List.pairwise_singleton _ _
  | cons x r ih =>
    have hs' := List.pairwise_cons.1 hs
    unfold put
    by_cases hx : x.key = c.key
    · rw [if_pos hx]
      refine List.pairwise_cons.2 ⟨fun a ha => ?_, hs'.2⟩
      have := hs'.1 a ha
      unfold kl at this ⊢
      rw [← hx]; exact this
    · rw [if_neg hx]
      split
      · rename_i hlt
        refine List.pairwise_cons.2 ⟨fun a ha => ?_, hs⟩
        rcases List.mem_cons.1 ha with rfl | ha
        · exact hlt
        · exact lt_tr hlt (hs'.1 a ha)
      · rename_i hlt
        exact List.pairwise_cons.2 ⟨put_head hs'.2 hs'.1 (lt_of hlt (fun e => hx (key_ext e).symm)), ih hs'.2⟩
end Sto
end Go.Proofs.Ytmmelfnhhjfaeaa
set_option linter.unusedVariables false
set_option linter.unusedSimpArgs false
namespace Go.Proofs.Ytmmelfnhhjfaeaa
open Go.RowKit Go.Proofs.YtmmelfnhhjfaeaaW.PrintWords
open Go.Maps (Keyed)
namespace Sto
theorem lawK : Keyed Try.prog 9 := Go.Maps.string_keyed Try.underlying9
theorem keyS {s : ByteArray} (h : s.size ≤ 140737488351232) : IsKey 9 (.string s) := ⟨_, Go.WideMaps.keyOf_string_mk Try.underlying9 (by unfold maxLen; omega)⟩
def CEF (w : World) (ok : Nat → Prop) (c : Entry) (x : Value × Value) : Prop := x.1 = .string c.key ∧ ∃ cs, x.2 = .agg cs ∧ Kd.FK Entry.k w ok c cs.toList
theorem CEF.only {w w1 : World} {ok : Nat → Prop} {c : Entry} {x : Value × Value} {S : List Nat} (h : CEF w ok c x) (k : Only S w w1) (hn : ∀ i, ok i → i ∉ S) : CEF w1 ok c x := by
  obtain ⟨h1, cs, h2, h3⟩ := h
  exact ⟨h1, cs, h2, Foot.only h3 k hn⟩
/-- Block b is a map of the entries l. -/
def MapE (w : World) (ok : Nat → Prop) (b : Nat) (l : List Entry) : Prop := ∃ g : Entry → Value × Value, MapL w 9 b (l.map g) ∧ ∀ c ∈ l, CEF w ok c (g c)
theorem zeroE (w : World) : (zeroValue 30).run Try.prog w = .ok (.agg #[.string ByteArray.empty, .int .i64 0, .int .i64 0, .int .i64 0, .bool false, .slice none 0 0]) w := by kernel_rfl
section
variable {w w1 : World} {ok ok' : Nat → Prop} {b : Nat} {l : List Entry}
theorem MapE.noTy (h : MapE w ok b l) (t : TypeId) : ¬ Ty w t b := by obtain ⟨g, h1, _⟩ := h; exact h1.noTy
theorem MapE.only {S : List Nat} (h : MapE w ok b l) (k : Only S w w1) (hb : b ∉ S) (hn : ∀ i, ok i → i ∉ S) : MapE w1 ok b l := by
  obtain ⟨g, h1, h2⟩ := h
  exact ⟨g, h1.only k hb, fun c hc => (h2 c hc).only k hn⟩
theorem MapE.below (h : MapE w ok b l) (k : Below w.heap.size w w1) : MapE w1 ok b l := h.only (S := []) (Only.of_below [] k) (by simp) (by simp)
theorem MapE.mono (h : MapE w ok b l) (hk : ∀ i, ok i → ok' i) : MapE w ok' b l := by
  obtain ⟨g, h1, h2⟩ := h
  exact ⟨g, h1, fun c hc => by obtain ⟨e1, cs, e2, e3⟩ := h2 c hc; exact ⟨e1, cs, e2, Foot.mono e3 hk⟩⟩
theorem MapE.bound (h : MapE w ok b l) : MapE w (fun i => ok i ∧ i < w.heap.size) b l := by
  obtain ⟨g, h1, h2⟩ := h
  exact ⟨g, h1, fun c hc => by obtain ⟨e1, cs, e2, e3⟩ := h2 c hc; exact ⟨e1, cs, e2, Foot.bound e3⟩⟩
theorem MapE.lt (h : MapE w ok b l) : b < w.heap.size := by obtain ⟨g, h1, _⟩ := h; exact h1.lt
theorem MapE.perm {l' : List Entry} (h : MapE w ok b l) (p : l.Perm l') : MapE w ok b l' := by
  obtain ⟨g, h1, h2⟩ := h
  exact ⟨g, h1.perm (p.map g), fun c hc => h2 c (p.mem_iff.2 hc)⟩
theorem MapE.key_no (h : MapE w ok b l) {k : ByteArray} (hf : find l k = none) {g : Entry → Value × Value} (hg : ∀ c ∈ l, CEF w ok c (g c)) : ∀ v, (Value.string k, v) ∉ l.map g := by
  intro v hv
  obtain ⟨c, hc, he⟩ := List.mem_map.1 hv
  have h1 := (hg c hc).1
  rw [he] at h1
  injection h1 with h1
  exact find_none hf c hc h1.symm
/-- The cells of an entry. -/
abbrev ecs (e : Entry) (A : Option Addr) (c : Nat) : List Value := [.string e.key, .int .i64 e.tag.seq, .int .i64 e.tag.who, .int .i64 e.tag.op, .bool e.val.has, .slice A e.val.b.length c]
theorem ecs_of {w : World} {ok : Nat → Prop} {c : Entry} {cs : Array Value} (h : Kd.FK Entry.k w ok c cs.toList) : ∃ A cp, cs = (ecs c A cp).toArray ∧ Kd.FK Entry.k w ok c (ecs c A cp) := by
  obtain ⟨A, cp, he, _⟩ := Entry.open_ (Kd.FK_now h)
  exact ⟨A, cp, by rw [show ecs c A cp = cs.toList from he.symm], by rw [show ecs c A cp = cs.toList from he.symm]; exact h⟩
theorem fk_z (w : World) (ok : Nat → Prop) : Kd.FK Entry.k w ok Entry.z (ecs Entry.z none 0) := fun W' _ => Entry.mk_ W' Entry.z (by decide) (InR.mk64 (by decide) (by decide)) (InR.mk64 (by decide) (by decide)) (InR.mk64 (by decide) (by decide)) (Nat.le_refl _) (Kd.C_nil _ _)
/-- m[k], there or not. -/
theorem MapE.look_or (h : MapE w ok b l) (k : ByteArray) (hk : k.size ≤ 140737488351232) :
    ∃ o A cp, o = (find l k).getD Entry.z ∧ Kd.FK Entry.k w ok o (ecs o A cp) ∧ ∀ q w', w'.heap[b]? = w.heap[b]? → (Instr.lookup 52 (.map (some b)) (.string k) q).run Try.prog w' = .ok (if q then .tuple #[.agg (ecs o A cp).toArray, .bool (find l k).isSome] else .agg (ecs o A cp).toArray) w' := by
  have h' := h
  obtain ⟨g, h1, h2⟩ := h
  cases hf : find l k with
  | none =>
    exact ⟨Entry.z, none, 0, rfl, fk_z w ok, fun q w' he => (h1.move he).look_new lawK Try.underlying52 (zeroE w') q (keyS hk) (h'.key_no hf h2)⟩
  | some c =>
    obtain ⟨hc, rfl⟩ := find_mem hf
    obtain ⟨e1, cs, e2, e3⟩ := h2 c hc
    obtain ⟨A, cp, rfl, e4⟩ := ecs_of e3
    exact ⟨c, A, cp, rfl, e4, fun q w' he => (h1.move he).look_old lawK Try.underlying52 q (keyS hk) (List.mem_map.2 ⟨c, hc, by rw [← e1, ← e2]⟩)⟩
/-- m[k] = c. -/
theorem MapE.put (h : MapE w ok b l) (hs : Srt l) {c : Entry} {cs : Array Value} (hk : c.key.size ≤ 140737488351232) (hc : Kd.FK Entry.k w ok c cs.toList) (hb : ∀ i, ok i → i ≠ b) :
    ∃ w', (Instr.mapUpdate 52 (.map (some b)) (.string c.key) (.agg cs)).run Try.prog w = .ok () w' ∧ MapE w' ok b (put l c) ∧ w.grownBy w' (some b) := by
  have h' := h
  obtain ⟨g, h1, h2⟩ := h
  have hn : ∀ i, ok i → i ∉ [b] := fun i hi hm => hb i hi (by simpa using hm)
  have key : ∀ w', MapL w' 9 b ((.string c.key, .agg cs) :: (del l c.key).map g) → w.grownBy w' (some b) → MapE w' ok b (Sto.put l c) := by
    intro w' hm hg
    have ho : Only [b] w w' := (Only.refl [b] w).grown hg (fun k hk => by injection hk with hk; subst hk; exact .inl (by simp))
    refine MapE.perm (l := c :: del l c.key) ⟨fun x => if x.key = c.key then (.string c.key, .agg cs) else g x, ?_, fun x hx => ?_⟩ (put_perm hs).symm
    · rw [List.map_cons]
      simp only [if_true]
      have : (del l c.key).map (fun x => if x.key = c.key then (Value.string c.key, Value.agg cs) else g x) = (del l c.key).map g := List.map_congr_left (fun x hx => if_neg (mem_del.1 hx).2)
      rw [this]
      exact hm
    · rcases List.mem_cons.1 hx with rfl | hx
      · simp only [if_true]
        exact ⟨rfl, cs, rfl, Foot.only hc ho hn⟩
      · simp only [if_neg (mem_del.1 hx).2]
        exact (h2 x (mem_del.1 hx).1).only ho hn
  cases hf : find l c.key with
  | none =>
    obtain ⟨w', r1, r2, r3⟩ := h1.put_new lawK Try.underlying52 (.agg cs) (keyS hk) (h'.key_no hf h2)
    exact ⟨w', r1, key w' (by rw [del_none hf]; exact r2) r3, r3⟩
  | some c0 =>
    obtain ⟨hm0, hk0⟩ := find_mem hf
    obtain ⟨e1, cs0, e2, _⟩ := h2 c0 hm0
    have hp : (l.map g).Perm ((.string c.key, .agg cs0) :: (del l c.key).map g) := by
      have := (del_perm hs hf).map g
      rw [List.map_cons, show g c0 = (.string c.key, .agg cs0) from by rw [← hk0, ← e1, ← e2]] at this
      exact this
    obtain ⟨w', r1, r2, r3⟩ := h1.put_old lawK Try.underlying52 (.agg cs) (keyS hk) hp
    exact ⟨w', r1, key w' r2 r3, r3⟩
end
end Sto
end Go.Proofs.Ytmmelfnhhjfaeaa
