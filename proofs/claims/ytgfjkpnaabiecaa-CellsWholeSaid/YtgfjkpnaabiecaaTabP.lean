/- A table that is as it should be (plain): what each call keeps. -/
import Derived.Test.YtgfjkpnaabiecaaTabO
set_option linter.unusedVariables false
set_option linter.unusedSimpArgs false
namespace Go.Proofs.Ytgfjkpnaabiecaa
open Go.RowKit Go.Proofs.YtgfjkpnaabiecaaW.PrintWords
namespace Tab
open Tags
structure Wf (T : Tb) (n : Int) : Prop where
  rm : RoomOk T.room
  srt : Srt T.l
  tl : T.room.buckets = T.tok.length
  tk : TokOk T n
  ent : ∀ c ∈ T.l, EntOk c.e
  len : (T.l.length : Int) ≤ T.room.cells
  sz : ((szs T.l : Nat) : Int) ≤ T.room.bytes
  us : 0 ≤ T.uses ∧ T.uses ≤ n
  u1 : ∀ c ∈ T.l, 1 ≤ c.used ∧ c.used ≤ T.uses
  ow : Own1 T.l
namespace Wf
variable {T : Tb} {n m : Int}
theorem pos (h : Wf T n) : 0 ≤ n := by have := h.us; omega
theorem num (h : Wf T n) (hn : n ≤ 4000000000000000000) : Num T n := by
  obtain ⟨r1, r2, r3, r4, r5, r6⟩ := h.rm
  refine ⟨⟨h.pos, hn⟩, ⟨r5, by omega⟩, h.tl, h.tk, by have := h.len; omega, by have := h.sz; omega, fun c hc => ?_, h.us, fun c hc => (h.u1 c hc).1, h.ow⟩
  obtain ⟨e1, e2, e3, _⟩ := h.ent c hc
  exact ⟨by omega, by omega⟩
theorem mono (h : Wf T n) (hm : n ≤ m) : Wf T m := { h with tk := fun x hx => by have := h.tk x hx; omega, us := by have := h.us; omega }
theorem new_ {r : Room} (h : RoomOk r) : Wf (newT r) 1 := by
  obtain ⟨r1, r2, r3, r4, r5, r6⟩ := h
  refine ⟨⟨r1, r2, r3, r4, r5, r6⟩, List.Pairwise.nil, ?_, ?_, fun c hc => by simp [newT] at hc, by show (0 : Int) ≤ r.cells; omega, by show (0 : Int) ≤ r.bytes; omega, by show (0 : Int) ≤ 0 ∧ (0 : Int) ≤ 1; omega, fun c hc => by simp [newT] at hc, List.Pairwise.nil⟩
  · show r.buckets = ((List.replicate r.buckets.toNat _).length : Int)
    rw [List.length_replicate]; omega
  · intro x hx
    have : x = if r.fresh = true then 0 else 1 := (List.mem_replicate.1 hx).2
    rw [this]; split <;> omega
theorem lay_ (h : Wf T n) {c : Cell} (he : EntOk c.e) (hl : ((put T.l c).length : Int) ≤ T.room.cells) (hz : ((szs (put T.l c) : Nat) : Int) ≤ T.room.bytes) : Wf (lay T c) (n + 1) := by
  have hp := put_perm (l := T.l) (c := { c with used := T.uses + 1 }) h.srt
  have hs1 : szs (put T.l { c with used := T.uses + 1 }) = szs (put T.l c) := by rw [szs_put _ h.srt, szs_put _ h.srt]
  have hl1 : (put T.l { c with used := T.uses + 1 }).length = (put T.l c).length := by rw [len_put _ h.srt, len_put _ h.srt]
  have hu := h.us
  refine ⟨h.rm, srt_put h.srt, h.tl, fun x hx => by have := h.tk x hx; omega, fun x hx => ?_, by show ((put T.l _).length : Int) ≤ _; rw [hl1]; exact hl, by show ((szs (put T.l _) : Nat) : Int) ≤ _; rw [hs1]; exact hz, by show 0 ≤ T.uses + 1 ∧ T.uses + 1 ≤ n + 1; omega, fun x hx => ?_, ?_⟩
  · rcases (mem_put h.srt).1 hx with rfl | ⟨hx, _⟩
    · exact he
    · exact h.ent x hx
  · show 1 ≤ x.used ∧ x.used ≤ T.uses + 1
    rcases (mem_put h.srt).1 hx with rfl | ⟨hx, _⟩
    · dsimp only; omega
    · have := h.u1 x hx; omega
  · refine own1_perm ?_ hp.symm
    refine List.pairwise_cons.2 ⟨fun d hd => ?_, List.Pairwise.sublist List.filter_sublist h.ow⟩
    have := h.u1 d (mem_del.1 hd).1
    show T.uses + 1 ≠ d.used
    omega
theorem put_same {l : List Cell} (hs : Srt l) {c d : Cell} (hf : find l c.e.key = some c) (hd : d.e = c.e) : (put l d).length = l.length ∧ szs (put l d) = szs l := by
  refine ⟨?_, szs_same hs hf hd⟩
  rw [len_put _ hs, hd]
  have := (del_perm hs hf).length_eq
  rw [this, List.length_cons]
theorem lay_old (h : Wf T n) {c d : Cell} (hf : find T.l c.e.key = some c) (hd : d.e = c.e) : Wf (lay T d) (n + 1) := by
  obtain ⟨h1, h2⟩ := put_same h.srt hf hd
  exact h.lay_ (by rw [hd]; exact h.ent c (find_mem hf).1) (by rw [h1]; exact h.len) (by rw [h2]; exact h.sz)
theorem drop_ (h : Wf T n) (k : ByteArray) : Wf (drop T k) (n + 1) := by
  have hsub : List.Sublist (del T.l k) T.l := List.filter_sublist
  refine ⟨h.rm, srt_del k h.srt, by show T.room.buckets = ((bump T.tok (Hash.bkt k T.room.buckets).toNat).length : Int); rw [bump_len]; exact h.tl, tok_bump h.tk h.pos _, fun c hc => h.ent c (mem_del.1 hc).1, ?_, ?_, by show 0 ≤ T.uses ∧ T.uses ≤ n + 1; have := h.us; omega, fun c hc => h.u1 c (mem_del.1 hc).1, List.Pairwise.sublist hsub h.ow⟩
  · show ((del T.l k).length : Int) ≤ T.room.cells
    have := hsub.length_le; have := h.len; omega
  · show ((szs (del T.l k) : Nat) : Int) ≤ T.room.bytes
    have h1 : szs (del T.l k) ≤ szs T.l := szs_filter _ _
    have := h.sz; omega
theorem drops_ (h : Wf T n) (out : List ByteArray) : Wf (drops T out) (n + out.length) := by
  induction out generalizing T n with
  | nil => exact h.mono (by simp)
  | cons k r ih => exact (ih (h.drop_ k)).mono (by rw [List.length_cons]; omega)
theorem victF_fits (e : Entry) : ∀ (f : Nat) (T : Tb), T.l.length < f → Srt T.l → (victF f T e).2 = true → fits (drops T (victF f T e).1) e = true
  | 0, T, hl, _, _ => absurd hl (by omega)
  | f + 1, T, hl, hs, hv => by
    unfold victF at hv ⊢
    by_cases hf : fits T e = true
    · rw [if_pos hf]; exact hf
    · rw [if_neg hf] at hv ⊢
      cases hp : pick T.l e.key with
      | none => rw [hp] at hv; cases hv
      | some c =>
        rw [hp] at hv
        dsimp only at hv ⊢
        exact victF_fits e f (drop T c.e.key) (by have := len_drop hs (pick_mem hp).1; omega) (srt_drop _ hs) hv
theorem make_ (h : Wf T n) {e : Entry} (he : EntOk e) (h0 : makeE T e = 0) (x y : Bool) (u : Int) :
    Wf (makeT T e) (n + 4096) ∧ ((put (makeT T e).l ⟨e, x, y, u⟩).length : Int) ≤ (makeT T e).room.cells ∧ ((szs (put (makeT T e).l ⟨e, x, y, u⟩) : Nat) : Int) ≤ (makeT T e).room.bytes := by
  have hv : (vict T e).2 = true := by unfold makeE at h0; cases hb : (vict T e).2 <;> simp [hb] at h0 ⊢
  have hT : makeT T e = drops T (vict T e).1 := by unfold makeT; rw [if_pos hv]
  have hl := (vict_len (T := T) e h.srt).1
  have hlen := h.len
  have hrm := h.rm.2.1
  have hw : Wf (makeT T e) (n + 4096) := by rw [hT]; exact (h.drops_ _).mono (by omega)
  have hf := victF_fits e _ T (Nat.lt_succ_self _) h.srt hv
  rw [show victF (T.l.length + 1) T e = vict T e from rfl, ← hT] at hf
  have hf2 := fits_iff.1 hf
  unfold newL at hf2
  have hs := hw.srt
  refine ⟨hw, ?_, ?_⟩
  · rw [len_put _ hs]; rw [len_put _ hs] at hf2; exact hf2.1
  · rw [szs_put _ hs]; rw [szs_put _ hs] at hf2; exact hf2.2
theorem store_ (h : Wf T n) (e : Entry) : Wf (storeT T e) (n + 5000) := by
  unfold storeT
  split
  · rename_i ho
    split
    · rename_i c hc
      unfold storeOld at hc
      obtain ⟨d, hd, hc⟩ := Option.bind_eq_some_iff.1 hc
      split at hc
      · injection hc with hc
        subst hc
        exact (h.lay_old (c := d) (by rw [(find_mem hd).2]; exact hd) rfl).mono (by omega)
      · cases hc
    · split
      · rename_i h0
        obtain ⟨h1, h2, h3⟩ := h.make_ ho.1 h0 (wholeT T e.key) false 0
        exact (h1.lay_ ho.1 h2 h3).mono (by omega)
      · exact h.mono (by omega)
  · exact h.mono (by omega)
theorem fill_ (h : Wf T n) (e : Entry) (tk : Int) : Wf (fillT T e tk) (n + 5000) := by
  unfold fillT
  split
  · rename_i ho
    split
    · rename_i c hc
      unfold fillOld at hc
      obtain ⟨d, hd, hc⟩ := Option.bind_eq_some_iff.1 hc
      split at hc
      · injection hc with hc
        subst hc
        exact (h.lay_old (c := d) (d := { d with whole := true }) (by rw [(find_mem hd).2]; exact hd) rfl).mono (by omega)
      · cases hc
    · split
      · rename_i h0
        obtain ⟨h1, h2, h3⟩ := h.make_ ho.1 h0 true true 0
        exact (h1.lay_ ho.1 h2 h3).mono (by omega)
      · exact h.mono (by omega)
  · exact h.mono (by omega)
theorem query_ (h : Wf T n) (k : ByteArray) : Wf (queryT T k) (n + 5000) := by
  unfold queryT
  split
  · split
    · rename_i c hc
      exact (h.lay_old (c := c) (by rw [(find_mem hc).2]; exact hc) rfl).mono (by omega)
    · exact h.mono (by omega)
  · exact h.mono (by omega)
theorem evict_ (h : Wf T n) (k : ByteArray) : Wf (evictT T k) (n + 5000) := by
  unfold evictT
  split
  · exact (h.drop_ k).mono (by omega)
  · exact h.mono (by omega)
theorem forget_ (h : Wf T n) : Wf (forgetT T) (n + 5000) := by
  refine ⟨h.rm, srt_off h.srt, by show T.room.buckets = ((T.tok.map (· + 1)).length : Int); rw [List.length_map]; exact h.tl, fun x hx => ?_, fun c hc => ?_, by show ((T.l.map off).length : Int) ≤ _; rw [List.length_map]; exact h.len, by show ((szs (T.l.map off) : Nat) : Int) ≤ _; rw [szs_off]; exact h.sz, by show 0 ≤ T.uses ∧ T.uses ≤ n + 5000; have := h.us; omega, fun c hc => ?_, ?_⟩
  · obtain ⟨y, hy, rfl⟩ := List.mem_map.1 hx
    have := h.tk y hy; omega
  · obtain ⟨d, hd, rfl⟩ := List.mem_map.1 hc
    exact h.ent d hd
  · obtain ⟨d, hd, rfl⟩ := List.mem_map.1 hc
    exact h.u1 d hd
  · show Own1 (T.l.map off)
    unfold Own1
    rw [List.pairwise_map]
    exact h.ow
theorem clean_ (h : Wf T n) (k : ByteArray) (t : Tag) : Wf (cleanT T k t) n := by
  unfold cleanT
  split
  · rename_i c hc
    unfold cleanOn at hc
    obtain ⟨d, hd, hc⟩ := Option.bind_eq_some_iff.1 hc
    split at hc
    · cases hc
    · injection hc with hc
      subst hc
      have hf : find T.l d.e.key = some d := by rw [(find_mem hd).2]; exact hd
      obtain ⟨h1, h2⟩ := put_same (d := { d with clean := true }) h.srt hf rfl
      have hdm := (find_mem hd).1
      refine ⟨h.rm, srt_put h.srt, h.tl, h.tk, fun x hx => ?_, by show ((put T.l _).length : Int) ≤ _; rw [h1]; exact h.len, by show ((szs (put T.l _) : Nat) : Int) ≤ _; rw [h2]; exact h.sz, by show 0 ≤ T.uses ∧ T.uses ≤ n; have := h.us; omega, fun x hx => ?_, ?_⟩
      · rcases (mem_put h.srt).1 hx with rfl | ⟨hx, _⟩
        · exact h.ent d hdm
        · exact h.ent x hx
      · rcases (mem_put h.srt).1 hx with rfl | ⟨hx, _⟩
        · exact h.u1 d hdm
        · exact h.u1 x hx
      · refine own1_perm ?_ (put_perm h.srt).symm
        refine List.pairwise_cons.2 ⟨fun x hx => ?_, List.Pairwise.sublist List.filter_sublist h.ow⟩
        intro e
        have hx' := mem_del.1 hx
        have := own1_eq h.ow hdm hx'.1 e
        exact hx'.2 (by rw [← this])
  · exact h
end Wf
end Tab
end Go.Proofs.Ytgfjkpnaabiecaa
