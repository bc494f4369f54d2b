/- Layer cells: who has to go (plain). -/
import Derived.Test.YtgfjkpnaabiecaaTabA
import Derived.Test.YtgfjkpnaabiecaaStrRow
set_option linter.unusedVariables false
set_option linter.unusedSimpArgs false
namespace Go.Proofs.Ytgfjkpnaabiecaa
open Go.RowKit Go.Proofs.YtgfjkpnaabiecaaW.PrintWords
namespace Tab
open StrRow (hasS hasS_iff hasS_no)
/-- The one that was used first. -/
def least : List Cell → Option Cell
  | [] => none
  | c :: r => match least r with
    | none => some c
    | some d => if c.used < d.used then some c else some d
def cand (ek : ByteArray) (c : Cell) : Bool := c.clean && !decide (c.e.key = ek)
def pick (l : List Cell) (ek : ByteArray) : Option Cell := least (l.filter (cand ek))
def newL (T : Tb) (e : Entry) : List Cell := put T.l ⟨e, false, false, 0⟩
def fits (T : Tb) (e : Entry) : Bool := decide (((newL T e).length : Int) ≤ T.room.cells ∧ ((szs (newL T e) : Nat) : Int) ≤ T.room.bytes)
def victF : Nat → Tb → Entry → List ByteArray × Bool
  | 0, _, _ => ([], true)
  | f + 1, T, e => if fits T e then ([], true) else match pick T.l e.key with
    | none => ([], false)
    | some c => (c.e.key :: (victF f (drop T c.e.key) e).1, (victF f (drop T c.e.key) e).2)
def vict (T : Tb) (e : Entry) : List ByteArray × Bool := victF (T.l.length + 1) T e
def drops (T : Tb) (out : List ByteArray) : Tb := out.foldl drop T
theorem least_mem : ∀ {l : List Cell} {c : Cell}, least l = some c → c ∈ l
  | x :: r, c, h => by
    unfold least at h
    split at h
    · injection h with h; rw [h]; exact List.mem_cons_self
    · rename_i d hd
      split at h
      · injection h with h; rw [h]; exact List.mem_cons_self
      · injection h with h; rw [← h]; exact List.mem_cons_of_mem _ (least_mem hd)
theorem least_le : ∀ {l : List Cell} {c : Cell}, least l = some c → ∀ d ∈ l, c.used ≤ d.used
  | x :: r, c, h, d, hd => by
    unfold least at h
    split at h
    · rename_i h0
      injection h with h
      rcases List.mem_cons.1 hd with rfl | hd
      · rw [h]; omega
      · rcases r with _ | ⟨y, r⟩
        · cases hd
        · unfold least at h0; split at h0
          · cases h0
          · split at h0 <;> cases h0
    · rename_i e he
      have ih := least_le he
      split at h
      · rename_i hlt
        injection h with h
        rcases List.mem_cons.1 hd with rfl | hd
        · rw [h]; omega
        · have := ih d hd; rw [← h]; omega
      · rename_i hlt
        injection h with h
        rcases List.mem_cons.1 hd with rfl | hd
        · rw [← h]; omega
        · have := ih d hd; rw [← h]; omega
theorem least_none : ∀ {l : List Cell}, least l = none → l = []
  | [], _ => rfl
  | x :: r, h => by
    unfold least at h
    split at h
    · cases h
    · split at h <;> cases h
theorem least_some {l : List Cell} (h : l ≠ []) : ∃ c, least l = some c := by
  cases e : least l with
  | none => exact absurd (least_none e) h
  | some c => exact ⟨c, rfl⟩
/-- Used at a time of its own, each. -/
def Own1 (l : List Cell) : Prop := l.Pairwise (fun a b => a.used ≠ b.used)
theorem own1_eq {l : List Cell} (h : Own1 l) {a b : Cell} (ha : a ∈ l) (hb : b ∈ l) (e : a.used = b.used) : a = b := by
  induction l with
  | nil => cases ha
  | cons x r ih =>
    obtain ⟨h1, h2⟩ := List.pairwise_cons.1 h
    rcases List.mem_cons.1 ha with ea | ha' <;> rcases List.mem_cons.1 hb with eb | hb'
    · rw [ea, eb]
    · exact absurd (ea ▸ e) (h1 b hb')
    · exact absurd (eb ▸ e).symm (h1 a ha')
    · exact ih h2 ha' hb'
theorem own1_perm {l l' : List Cell} (h : Own1 l) (p : l.Perm l') : Own1 l' := (p.pairwise_iff (fun {a b} hn => Ne.symm hn)).1 h
theorem own1_filter {l : List Cell} (q : Cell → Bool) (h : Own1 l) : Own1 (l.filter q) := List.Pairwise.sublist List.filter_sublist h
theorem least_perm {l l' : List Cell} (h : Own1 l) (p : l.Perm l') : least l = least l' := by
  cases e : least l with
  | none =>
    have := least_none e
    subst this
    rw [List.Perm.eq_nil p.symm]; rfl
  | some c =>
    obtain ⟨c', e'⟩ := least_some (l := l') (fun h0 => by subst h0; have := List.Perm.eq_nil p; subst this; cases e)
    rw [e']
    have hc := least_mem e
    have hc' := p.mem_iff.2 (least_mem e')
    have h1 := least_le e c' hc'
    have h2 := least_le e' c (p.mem_iff.1 hc)
    rw [own1_eq h hc hc' (by omega)]
theorem pick_mem {l : List Cell} {ek : ByteArray} {c : Cell} (h : pick l ek = some c) : c ∈ l ∧ c.clean = true ∧ c.e.key ≠ ek := by
  have := List.mem_filter.1 (least_mem h)
  unfold cand at this
  simp only [Bool.and_eq_true, Bool.not_eq_true', decide_eq_false_iff_not] at this
  exact this
theorem len_drop {T : Tb} {c : Cell} (hs : Srt T.l) (h : c ∈ T.l) : (drop T c.e.key).l.length + 1 = T.l.length := by
  have := len_del (k := c.e.key) hs
  rw [find_of hs h] at this
  show (del T.l c.e.key).length + 1 = _
  dsimp only at this
  omega
theorem vict_eq (T : Tb) (e : Entry) (hs : Srt T.l) : vict T e = if fits T e then ([], true) else match pick T.l e.key with
    | none => ([], false)
    | some c => (c.e.key :: (vict (drop T c.e.key) e).1, (vict (drop T c.e.key) e).2) := by
  unfold vict
  conv => lhs; unfold victF
  split
  · rfl
  · split
    · rfl
    · rename_i c h
      have := len_drop hs (pick_mem h).1
      rw [this]
theorem srt_drop {T : Tb} (k : ByteArray) (hs : Srt T.l) : Srt (drop T k).l := srt_del k hs
theorem drops_snoc (T : Tb) (out : List ByteArray) (k : ByteArray) : drops T (out ++ [k]) = drop (drops T out) k := by unfold drops; rw [List.foldl_append]; rfl
theorem drops_room (T : Tb) (out : List ByteArray) : (drops T out).room = T.room := by
  induction out generalizing T with
  | nil => rfl
  | cons k r ih => exact ih (drop T k)
theorem drops_srt {T : Tb} (hs : Srt T.l) (out : List ByteArray) : Srt (drops T out).l := by
  induction out generalizing T with
  | nil => exact hs
  | cons k r ih => exact ih (T := drop T k) (srt_drop k hs)
theorem drops_l (T : Tb) (out : List ByteArray) : (drops T out).l = T.l.filter (fun c => !hasS out c.e.key) := by
  induction out generalizing T with
  | nil => 
    show T.l = _
    symm; rw [List.filter_eq_self]; intro a _; rfl
  | cons k r ih =>
    show (drops (drop T k) r).l = _
    rw [ih]
    show (del T.l k).filter _ = _
    unfold del
    rw [List.filter_filter]
    apply List.filter_congr
    intro c _
    unfold hasS
    simp only [List.any_cons, Bool.not_or]
    rw [Bool.and_comm]
    congr 1
    by_cases h : c.e.key = k
    · simp [h]
    · simp [h, Ne.symm h]
theorem newL_len {T : Tb} {e : Entry} (hs : Srt T.l) : (newL T e).length = (del T.l e.key).length + 1 := len_put _ hs
theorem newL_szs {T : Tb} {e : Entry} (hs : Srt T.l) : szs (newL T e) = csz e + szs (del T.l e.key) := szs_put _ hs
theorem del_del (l : List Cell) (a b : ByteArray) : del (del l a) b = del (del l b) a := by
  unfold del
  rw [List.filter_filter, List.filter_filter]
  apply List.filter_congr
  intro c _
  rw [Bool.and_comm]
theorem find_del {l : List Cell} {k j : ByteArray} (h : k ≠ j) : find (del l j) k = find l k := by
  induction l with
  | nil => rfl
  | cons x r ih =>
    unfold del find at *
    rw [List.filter_cons]
    by_cases hx : x.e.key = j
    · rw [if_neg (by simpa using hx), List.find?_cons]
      have : x.e.key ≠ k := fun e => h (by rw [← e, hx])
      simp only [this, decide_false]
      exact ih
    · rw [if_pos (by simpa using hx), List.find?_cons, List.find?_cons]
      split
      · rfl
      · exact ih
/-- What is to hold is less by the one that goes. -/
theorem newL_drop {T : Tb} {e : Entry} {c : Cell} (hs : Srt T.l) (h : c ∈ T.l) (hk : c.e.key ≠ e.key) :
    (newL (drop T c.e.key) e).length + 1 = (newL T e).length ∧ szs (newL (drop T c.e.key) e) + csz c.e = szs (newL T e) := by
  have hf : find (del T.l e.key) c.e.key = some c := by rw [find_del hk]; exact find_of hs h
  have h1 := len_del (k := c.e.key) (srt_del e.key hs)
  have h2 := szs_del' (k := c.e.key) (srt_del e.key hs)
  unfold szk at h2
  rw [hf] at h1 h2
  rw [newL_len hs, newL_szs hs, newL_len (srt_drop _ hs), newL_szs (srt_drop _ hs)]
  show (del (del T.l c.e.key) e.key).length + 1 + 1 = _ ∧ csz e + szs (del (del T.l c.e.key) e.key) + csz c.e = _
  rw [del_del]
  dsimp only at h1
  have e2 : ((some c).getD Cell.z).e = c.e := rfl
  rw [e2] at h2
  constructor <;> omega
/-- The worst one so far, as the loop bears it. -/
def accOf : Option Cell → ByteArray × Int
  | none => (ByteArray.empty, 0)
  | some d => (d.e.key, d.used)
def okc (ek : ByteArray) (out : List ByteArray) (c : Cell) : Bool := cand ek c && !hasS out c.e.key
theorem pick_drops {T : Tb} {out : List ByteArray} {ek : ByteArray} {D : List Cell} (ho : Own1 T.l) (hp : D.Perm T.l) : pick (drops T out).l ek = least (D.filter (okc ek out)) := by
  unfold pick
  rw [drops_l, List.filter_filter]
  have e : T.l.filter (fun a => cand ek a && !hasS out a.e.key) = T.l.filter (okc ek out) := rfl
  rw [e]
  exact least_perm (own1_filter _ ho) (hp.symm.filter _)
theorem acc_no {ek : ByteArray} {out : List ByteArray} {c : Cell} {D : List Cell} (h : okc ek out c = false) : least ((c :: D).filter (okc ek out)) = least (D.filter (okc ek out)) := by
  rw [List.filter_cons, h]; rfl
theorem acc_first {ek : ByteArray} {out : List ByteArray} {c : Cell} {D : List Cell} (h : okc ek out c = true) (hl : least (D.filter (okc ek out)) = none) : least ((c :: D).filter (okc ek out)) = some c := by
  rw [List.filter_cons, if_pos h]; unfold least; rw [hl]
theorem acc_less {ek : ByteArray} {out : List ByteArray} {c d : Cell} {D : List Cell} (h : okc ek out c = true) (hl : least (D.filter (okc ek out)) = some d) (hu : c.used < d.used) : least ((c :: D).filter (okc ek out)) = some c := by
  rw [List.filter_cons, if_pos h]; unfold least; rw [hl]; dsimp only; rw [if_pos hu]
theorem acc_more {ek : ByteArray} {out : List ByteArray} {c d : Cell} {D : List Cell} (hl : least (D.filter (okc ek out)) = some d) (hu : ¬ c.used < d.used) : least ((c :: D).filter (okc ek out)) = some d := by
  rw [List.filter_cons]
  by_cases h : okc ek out c = true
  · rw [if_pos h]; unfold least; rw [hl]; dsimp only; rw [if_neg hu]
  · rw [if_neg h]; exact hl
/-- The loop's answer, a round further. -/
theorem vict_round {T : Tb} {e : Entry} {out : List ByteArray} {c : Cell} (hs : Srt T.l) (hv : vict T e = (out ++ (vict (drops T out) e).1, (vict (drops T out) e).2)) (hf : fits (drops T out) e = false) (hp : pick (drops T out).l e.key = some c) :
    vict T e = ((out ++ [c.e.key]) ++ (vict (drops T (out ++ [c.e.key])) e).1, (vict (drops T (out ++ [c.e.key])) e).2) := by
  rw [drops_snoc, hv]
  conv => lhs; rw [vict_eq (drops T out) e (drops_srt hs out)]
  rw [if_neg (by simp [hf]), hp]
  simp
theorem vict_fits {T : Tb} {e : Entry} {out : List ByteArray} (hs : Srt T.l) (hv : vict T e = (out ++ (vict (drops T out) e).1, (vict (drops T out) e).2)) (hf : fits (drops T out) e = true) : vict T e = (out, true) := by
  rw [hv, vict_eq (drops T out) e (drops_srt hs out), if_pos hf]; simp
theorem vict_none {T : Tb} {e : Entry} {out : List ByteArray} (hs : Srt T.l) (hv : vict T e = (out ++ (vict (drops T out) e).1, (vict (drops T out) e).2)) (hf : fits (drops T out) e = false) (hp : pick (drops T out).l e.key = none) : vict T e = (out, false) := by
  rw [hv, vict_eq (drops T out) e (drops_srt hs out), if_neg (by simp [hf]), hp]; simp
theorem drops_mem {T : Tb} {out : List ByteArray} {c : Cell} (h : c ∈ (drops T out).l) : c ∈ T.l := by
  rw [drops_l] at h
  exact (List.mem_filter.1 h).1
theorem start_some {T : Tb} {e : Entry} (hs : Srt T.l) (h : (find T.l e.key).isSome = true) : (newL T e).length = T.l.length ∧ szs (newL T e) + szk T.l e.key = csz e + szs T.l := by
  obtain ⟨c, hc⟩ := Option.isSome_iff_exists.1 h
  have h1 := len_del (k := e.key) hs
  rw [hc] at h1
  have h2 := szs_del' (k := e.key) hs
  rw [newL_len hs, newL_szs hs]
  dsimp only at h1
  constructor <;> omega
theorem start_none {T : Tb} {e : Entry} (hs : Srt T.l) (h : (find T.l e.key).isSome = false) : (newL T e).length = T.l.length + 1 ∧ szs (newL T e) = csz e + szs T.l := by
  have hn : find T.l e.key = none := by cases hc : find T.l e.key with
    | none => rfl
    | some c => rw [hc] at h; cases h
  rw [newL_len hs, newL_szs hs, del_none hn]
  exact ⟨rfl, rfl⟩
/-- Is it worse than the worst so far? -/
def updB (ek : ByteArray) (out : List ByteArray) (c : Cell) : Option Cell → Bool
  | none => okc ek out c
  | some d => okc ek out c && decide (c.used < d.used)
theorem acc_upd {ek : ByteArray} {out : List ByteArray} {c : Cell} {D : List Cell} : least ((c :: D).filter (okc ek out)) = if updB ek out c (least (D.filter (okc ek out))) then some c else least (D.filter (okc ek out)) := by
  cases hl : least (D.filter (okc ek out)) with
  | none =>
    unfold updB
    by_cases h : okc ek out c = true
    · rw [if_pos h, acc_first h hl]
    · rw [if_neg h, acc_no (by simpa using h), hl]
  | some d =>
    unfold updB
    by_cases h : okc ek out c = true
    · by_cases hu : c.used < d.used
      · rw [if_pos (by simp [h, hu]), acc_less h hl hu]
      · rw [if_neg (by simp [hu]), acc_more hl hu]
    · rw [if_neg (by simp [h]), acc_no (by simpa using h), hl]
theorem fits_iff {T : Tb} {e : Entry} : fits T e = true ↔ ((newL T e).length : Int) ≤ T.room.cells ∧ ((szs (newL T e) : Nat) : Int) ≤ T.room.bytes := by unfold fits; simp
theorem infoStr : (Try.prog.info? 9).map (fun i => (i.zero, i.size, i.bytes)) = some (some (.string ByteArray.empty), 1, 16) := by kernel_rfl
theorem szs_filter (q : Cell → Bool) (l : List Cell) : szs (l.filter q) ≤ szs l := by
  induction l with
  | nil => exact Nat.le_refl _
  | cons x r ih =>
    rw [List.filter_cons]
    split
    · rw [szs_cons, szs_cons]; omega
    · rw [szs_cons]; omega
theorem newL_bd {T : Tb} {e : Entry} (out : List ByteArray) (hs : Srt T.l) : (newL (drops T out) e).length ≤ T.l.length + 1 ∧ szs (newL (drops T out) e) ≤ csz e + szs T.l := by
  have h1 : (drops T out).l.length ≤ T.l.length := by rw [drops_l]; exact List.length_filter_le _ _
  have h2 : szs (drops T out).l ≤ szs T.l := by rw [drops_l]; exact szs_filter _ _
  rw [newL_len (drops_srt hs out), newL_szs (drops_srt hs out)]
  have h3 : (del (drops T out).l e.key).length ≤ (drops T out).l.length := List.length_filter_le _ _
  have h4 : szs (del (drops T out).l e.key) ≤ szs (drops T out).l := szs_filter _ _
  omega
end Tab
end Go.Proofs.Ytgfjkpnaabiecaa
