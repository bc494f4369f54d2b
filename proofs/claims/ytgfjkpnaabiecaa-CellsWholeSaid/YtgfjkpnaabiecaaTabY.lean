/- CellsWhole, walked, as its row wants it. -/
import Derived.Test.YtgfjkpnaabiecaaTabX
import Derived.Test.YtgfjkpnaabiecaaKindsCR
set_option linter.unusedVariables false
set_option linter.unusedSimpArgs false
namespace Go.Proofs.Ytgfjkpnaabiecaa
open Go.RowKit Go.Proofs.YtgfjkpnaabiecaaW.PrintWords
namespace Tab
theorem dos_bd {B : Nat} {xs : List Do} (h : BdS B Do.Bd xs) (hB : B = 88) : xs.length ≤ 1600000000000 ∧ ∀ x ∈ xs, x.e.val.b.length ≤ 140737488351232 := by
  subst hB
  obtain ⟨h1, h2⟩ := h
  refine ⟨by omega, fun x hx => ?_⟩
  obtain ⟨_, ⟨_, _, _, h3, _⟩, _⟩ := h2 x hx
  omega
theorem room_cs {w : World} {cs : Array Value} {r : Room} (h : Room.k.K w r cs.toList) : cs = #[.int .i64 r.cells, .int .i64 r.bytes, .int .i64 r.buckets, .bool r.fresh] := by
  obtain ⟨he, _⟩ := Room.open_ h
  have : cs = cs.toList.toArray := by simp
  rw [this, he]
theorem whole_row {B : Nat} (cs : Array Value) (r : Room) (A : Option Addr) (c : Nat) (xs : List Do) (key : ByteArray) (w : World) (h0 : Room.k.K w r cs.toList) (hr : Do.k.C w A xs.length xs) (hb : BdS B Do.Bd xs) (hB : B = 88) (hk : key.size ≤ 140737488351232) :
    Calls Try.prog 3 #[.agg cs, .slice A xs.length c, .string key] w (TrueTold w) := by
  rw [room_cs h0]
  obtain ⟨b1, b2⟩ := dos_bd hb hB
  by_cases hR : RoomOk r
  · by_cases h1 : key.size ≤ 100
    · exact whole_good r A c xs key w hr b1 hR h1 b2
    · exact whole_long r A c xs key w hr b1 hR (by omega)
  · exact whole_bad r A c xs key w hr b1 hR
end Tab
end Go.Proofs.Ytgfjkpnaabiecaa
