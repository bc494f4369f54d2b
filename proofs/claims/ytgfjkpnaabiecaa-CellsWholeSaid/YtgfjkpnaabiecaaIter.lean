/- Contracts of the library that this program calls (a map's keys, sorted): laid by the shelf of the kit. -/
import Derived.Shelf.SlIter.Nil
import Derived.Shelf.SortM.Plain
import Derived.Shelf.SortM.SortNone
import Derived.Test.YtgfjkpnaabiecaaProg
namespace Go.Proofs
open Go.RowKit Go.Maps Go.Sort Go.Shelf
def Try.keys45_ren : Go.Shelf.Ren := ⟨fun | 7 => 45 | 10 => 65 | n => n, fun | 23 => 81 | 26 => 9 | 3 => 47 | 28 => 93 | 0 => 0 | 27 => 92 | 33 => 50 | 4 => 4 | n => n, fun | n => n⟩
theorem Try.keys45 : Go.Proofs.SlLaysZ.n7 Try.prog Try.keys45_ren := {
  mixed := by kernel_rfl
  f7 := ⟨Try.f45.name, by decide, Try.func45.trans (congrArg some (by kernel_rfl))⟩
  f10 := ⟨Try.f65.name, by decide, Try.func65.trans (congrArg some (by kernel_rfl))⟩
  t0 := Try.underlying0
  a0 := Try.isAgg0
  z0 := Try.sizeOf0
  v0 := Try.zeroValue0
  t4 := Try.underlying4
  a4 := Try.isAgg4
  z4 := Try.sizeOf4
  v4 := Try.zeroValue4
  t23 := Try.underlying81
  a23 := Try.isAgg81
  z23 := Try.sizeOf81
  v23 := Try.zeroValue81
  t26 := Try.underlying9
  a26 := Try.isAgg9
  z26 := Try.sizeOf9
  v26 := Try.zeroValue9
  t27 := Try.underlying92
  a27 := Try.isAgg92
  z27 := Try.sizeOf92
  v27 := Try.zeroValue92
  t28 := Try.underlying93
  a28 := Try.isAgg93
  z28 := Try.sizeOf93
  v28 := Try.zeroValue93
  t33 := Try.underlying50
  a33 := Try.isAgg50
  z33 := Try.sizeOf50
  v33 := Try.zeroValue50 }
def Try.sorted44_ren : Go.Shelf.Ren := ⟨fun | 6 => 44 | 8 => 63 | 9 => 64 | 11 => 77 | 13 => 79 | 12 => 78 | 23 => 95 | 24 => 96 | 14 => 86 | 15 => 87 | 16 => 88 | 17 => 89 | 18 => 90 | 19 => 91 | 20 => 92 | 21 => 93 | 22 => 94 | 25 => 101 | 26 => 102 | 27 => 103 | 28 => 104 | 29 => 105 | 30 => 106 | 31 => 109 | n => n, fun | 26 => 9 | 28 => 93 | 24 => 90 | 0 => 0 | 3 => 3 | 37 => 130 | 48 => 146 | 50 => 124 | 4 => 4 | 40 => 138 | 39 => 137 | 45 => 143 | 5 => 5 | 9 => 9 | 51 => 151 | 55 => 155 | 57 => 158 | 58 => 60 | 33 => 50 | n => n, fun | n => n⟩
theorem Try.sorted44 : Go.Proofs.SlLaysZ.n6 Try.prog Try.sorted44_ren := {
  mixed := by kernel_rfl
  f6 := ⟨Try.f44.name, by decide, Try.func44.trans (congrArg some (by kernel_rfl))⟩
  f8 := ⟨Try.f63.name, by decide, Try.func63.trans (congrArg some (by kernel_rfl))⟩
  f11 := ⟨Try.f77.name, by decide, Try.func77.trans (congrArg some (by kernel_rfl))⟩
  t0 := Try.underlying0
  a0 := Try.isAgg0
  z0 := Try.sizeOf0
  v0 := Try.zeroValue0
  t24 := Try.underlying90
  a24 := Try.isAgg90
  z24 := Try.sizeOf90
  v24 := Try.zeroValue90
  t26 := Try.underlying9
  a26 := Try.isAgg9
  z26 := Try.sizeOf9
  v26 := Try.zeroValue9
  t28 := Try.underlying93
  a28 := Try.isAgg93
  z28 := Try.sizeOf93
  v28 := Try.zeroValue93
  i26 := by kernel_rfl }
def Try.sort64_ren : Go.Shelf.Ren := ⟨fun | 6 => 64 | 8 => 79 | 9 => 78 | 19 => 95 | 20 => 96 | 21 => 86 | 22 => 87 | 23 => 88 | 24 => 89 | 25 => 90 | 26 => 91 | 27 => 92 | 28 => 93 | 29 => 94 | 36 => 101 | 31 => 102 | 32 => 103 | 37 => 104 | 38 => 105 | 39 => 106 | 41 => 109 | n => n, fun | 27 => 90 | 29 => 9 | 3 => 3 | 32 => 130 | 26 => 90 | 0 => 0 | 44 => 146 | 46 => 124 | 4 => 4 | 36 => 138 | 35 => 137 | 41 => 143 | 5 => 5 | 9 => 9 | 53 => 151 | 57 => 155 | 63 => 158 | 64 => 60 | n => n, fun | n => n⟩
theorem Try.sort64 : Go.Proofs.SlLaysM.n6 Try.prog Try.sort64_ren := {
  mixed := by kernel_rfl
  f6 := ⟨Try.f64.name, by decide, Try.func64.trans (congrArg some (by kernel_rfl))⟩
  f8 := Try.func79.trans (congrArg some (by kernel_rfl))
  f9 := ⟨Try.f78.name, by decide, Try.func78.trans (congrArg some (by kernel_rfl))⟩
  f19 := Try.func95.trans (congrArg some (by kernel_rfl))
  f20 := Try.func96.trans (congrArg some (by kernel_rfl))
  f21 := ⟨Try.f86.name, by decide, Try.func86.trans (congrArg some (by kernel_rfl))⟩
  f22 := ⟨Try.f87.name, by decide, Try.func87.trans (congrArg some (by kernel_rfl))⟩
  f23 := ⟨Try.f88.name, by decide, Try.func88.trans (congrArg some (by kernel_rfl))⟩
  f24 := ⟨Try.f89.name, by decide, Try.func89.trans (congrArg some (by kernel_rfl))⟩
  f25 := ⟨Try.f90.name, by decide, Try.func90.trans (congrArg some (by kernel_rfl))⟩
  f26 := ⟨Try.f91.name, by decide, Try.func91.trans (congrArg some (by kernel_rfl))⟩
  f27 := ⟨Try.f92.name, by decide, Try.func92.trans (congrArg some (by kernel_rfl))⟩
  f28 := ⟨Try.f93.name, by decide, Try.func93.trans (congrArg some (by kernel_rfl))⟩
  f29 := ⟨Try.f94.name, by decide, Try.func94.trans (congrArg some (by kernel_rfl))⟩
  f31 := Try.func102.trans (congrArg some (by kernel_rfl))
  f32 := Try.func103.trans (congrArg some (by kernel_rfl))
  f36 := ⟨Try.f101.name, by decide, Try.func101.trans (congrArg some (by kernel_rfl))⟩
  f37 := ⟨Try.f104.name, by decide, Try.func104.trans (congrArg some (by kernel_rfl))⟩
  f38 := ⟨Try.f105.name, by decide, Try.func105.trans (congrArg some (by kernel_rfl))⟩
  f39 := ⟨Try.f106.name, by decide, Try.func106.trans (congrArg some (by kernel_rfl))⟩
  f41 := ⟨Try.f109.name, by decide, Try.func109.trans (congrArg some (by kernel_rfl))⟩
  t0 := Try.underlying0
  a0 := Try.isAgg0
  z0 := Try.sizeOf0
  v0 := Try.zeroValue0
  t3 := Try.underlying3
  a3 := Try.isAgg3
  z3 := Try.sizeOf3
  v3 := Try.zeroValue3
  t4 := Try.underlying4
  a4 := Try.isAgg4
  z4 := Try.sizeOf4
  v4 := Try.zeroValue4
  t5 := Try.underlying5
  a5 := Try.isAgg5
  z5 := Try.sizeOf5
  v5 := Try.zeroValue5
  t9 := Try.underlying9
  a9 := Try.isAgg9
  z9 := Try.sizeOf9
  v9 := Try.zeroValue9
  t26 := Try.underlying90
  a26 := Try.isAgg90
  z26 := Try.sizeOf90
  v26 := Try.zeroValue90
  t27 := Try.underlying90
  a27 := Try.isAgg90
  z27 := Try.sizeOf90
  v27 := Try.zeroValue90
  t29 := Try.underlying9
  a29 := Try.isAgg9
  z29 := Try.sizeOf9
  v29 := Try.zeroValue9
  t32 := Try.underlying130
  a32 := Try.isAgg130
  z32 := Try.sizeOf130
  v32 := Try.zeroValue130
  t35 := Try.underlying137
  a35 := Try.isAgg137
  z35 := Try.sizeOf137
  v35 := Try.zeroValue137
  t36 := Try.underlying138
  a36 := Try.isAgg138
  z36 := Try.sizeOf138
  v36 := Try.zeroValue138
  t41 := Try.underlying143
  a41 := Try.isAgg143
  z41 := Try.sizeOf143
  v41 := Try.zeroValue143
  t44 := Try.underlying146
  a44 := Try.isAgg146
  z44 := Try.sizeOf146
  v44 := Try.zeroValue146
  t46 := Try.underlying124
  a46 := Try.isAgg124
  z46 := Try.sizeOf124
  v46 := Try.zeroValue124
  t53 := Try.underlying151
  a53 := Try.isAgg151
  z53 := Try.sizeOf151
  v53 := Try.zeroValue151
  t57 := Try.underlying155
  a57 := Try.isAgg155
  z57 := Try.sizeOf155
  v57 := Try.zeroValue155
  t63 := Try.underlying158
  a63 := Try.isAgg158
  z63 := Try.sizeOf158
  v63 := Try.zeroValue158
  t64 := Try.underlying60
  a64 := Try.isAgg60
  z64 := Try.sizeOf60
  v64 := Try.zeroValue60 }


theorem Try.sorts44 (m : Nat) : AnyZ.SortsIn Try.prog Try.sorted44_ren Fence.wide m :=
  ⟨fun blk off cap ss W hH hblk hsz => callsIn_wide.2 (AnyM.slices_Sort_string Try.sort64 blk off cap ss W hH hblk hsz),
   fun p cap W => callsIn_wide.2 (AnyM.slices_Sort_string_none Try.sort64 p cap W)⟩

theorem Try.maps_Keys_45 (mb : Option Nat) (W : World) : CallsIn Fence.wide 5 Try.prog 45 #[.map mb] W fun e w' => e = .returned (.func (.func 65) #[] #[.pointer (some ⟨W.heap.size, 0, none⟩)]) ∧ w' = W.alloc (.cells #[.map mb] 81) :=
  AnyZ.keys_in Try.keys45 Fence.wide 5 trivial rfl mb W

set_option maxHeartbeats 1000000 in
theorem Try.slices_Sorted_keys_44_45 {H : Type} (b nn : Nat) (D0 : DataW H) (R : Value → Option (DataW H × List MemPlace)) (w : World) (hown : w.ownsMap Try.prog 9 R b nn D0) (hmax : Maps.size D0 ≤ maxLen) (hbytes : Maps.size D0 * 16 ≤ 140737488355328) :
    CallsIn Fence.wide 5 Try.prog 44 #[.func (.func 65) #[] #[.pointer (some ⟨w.heap.size, 0, none⟩)]] (w.alloc (.cells #[.map (some b)] 81)) fun e w' => ∃ (v : Value) (ss : List (List UInt8)), e = .returned v ∧ ss.Perm (strKeys D0) ∧
      w'.ownsRow (w.alloc (.cells #[.map (some b)] 81)).heap.size 9 1 v ss.length ((ss.mergeSort (fun x y => decide (x ≤ y))).map encStr) ∧ (v = .slice none 0 0 ↔ ss = []) ∧ Below (w.alloc (.cells #[.map (some b)] 81)).heap.size (w.alloc (.cells #[.map (some b)] 81)) w' := by
  have hbl := hown.lt
  have hseq : SeqGives Fence.wide 2 Try.prog 65 #[.pointer (some ⟨w.heap.size, 0, none⟩)] encStr (fun ss => ss.Perm (strKeys D0)) (Maps.size D0) (w.alloc (.cells #[.map (some b)] 81)) :=
    AnyZ.keys_gives (ρ := Try.keys45_ren) { Try.keys45 with } Fence.wide _ trivial rfl (by omega) w.heap.size b nn D0 _ (by simp) (by simp) (by
      obtain ⟨es, clock, hb, Ft, hs, hD⟩ := hown
      exact ⟨es, clock, (Below.heap_alloc _ _ b hbl).trans hb, Ft, hs, hD⟩)
  exact AnyZ.sorted_in Try.sorted44 Fence.wide 5 trivial trivial trivial trivial rfl (by omega) (Try.sorts44 _) (enters_of Try.func64 (by kernel_rfl) rfl) 65 #[.pointer (some ⟨w.heap.size, 0, none⟩)] trivial (enters_of Try.func65 (by kernel_rfl) rfl) _ _ hmax hbytes _ hseq

set_option maxHeartbeats 1000000 in
theorem Try.slices_Sorted_keys_nil_44_45 (w : World) :
    CallsIn Fence.wide 5 Try.prog 44 #[.func (.func 65) #[] #[.pointer (some ⟨w.heap.size, 0, none⟩)]] (w.alloc (.cells #[.map none] 81)) fun e w' => ∃ (v : Value) (ss : List (List UInt8)), e = .returned v ∧ ss = [] ∧
      w'.ownsRow (w.alloc (.cells #[.map none] 81)).heap.size 9 1 v ss.length ((ss.mergeSort (fun x y => decide (x ≤ y))).map encStr) ∧ (v = .slice none 0 0 ↔ ss = []) ∧ Below (w.alloc (.cells #[.map none] 81)).heap.size (w.alloc (.cells #[.map none] 81)) w' := by
  have hseq : SeqGives Fence.wide 2 Try.prog 65 #[.pointer (some ⟨w.heap.size, 0, none⟩)] encStr (fun ss : List (List UInt8) => ss = []) 0 (w.alloc (.cells #[.map none] 81)) :=
    AnyZ.keys_gives_nil (ρ := Try.keys45_ren) { Try.keys45 with } Fence.wide _ trivial rfl w.heap.size _ (by simp) (by simp)
  exact AnyZ.sorted_in Try.sorted44 Fence.wide 5 trivial trivial trivial trivial rfl (by omega) (Try.sorts44 _) (enters_of Try.func64 (by kernel_rfl) rfl) 65 #[.pointer (some ⟨w.heap.size, 0, none⟩)] trivial (enters_of Try.func65 (by kernel_rfl) rfl) _ 0 (Nat.zero_le _) (by omega) _ hseq



end Go.Proofs
