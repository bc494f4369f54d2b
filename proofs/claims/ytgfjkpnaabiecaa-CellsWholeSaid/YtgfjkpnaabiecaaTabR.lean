/- CellsWhole's law, plain: what each call keeps of the one key. -/
import Derived.Test.YtgfjkpnaabiecaaTabQ
set_option linter.unusedVariables false
set_option linter.unusedSimpArgs false
namespace Go.Proofs.Ytgfjkpnaabiecaa
open Go.RowKit Go.Proofs.YtgfjkpnaabiecaaW.PrintWords
namespace Tab
open Tags
def bestS (T : Tb) (e : Entry) (key : ByteArray) (best : Tag) : Tag := if storeE T e = 0 ∧ e.key = key ∧ 0 < cmpT e.tag best then e.tag else best
def newerE (a b : Entry) : Entry := if cmpT a.tag b.tag < 0 then b else a
theorem newerE_le (a b : Entry) : tle a.tag (newerE a b).tag ∧ tle b.tag (newerE a b).tag := by
  unfold newerE
  by_cases h : cmpT a.tag b.tag < 0
  · rw [if_pos h]; exact ⟨cmpT_le.1 (by omega), tle_refl _⟩
  · rw [if_neg h]; exact ⟨tle_refl _, cmpT_ge.1 (by omega)⟩
theorem find_off (l : List Cell) (k : ByteArray) : find (l.map off) k = (find l k).map off := by
  unfold find
  rw [List.find?_map]
  rfl
namespace KInv
variable {T : Tb} {n : Int} {key : ByteArray} {best : Tag} {kept : Entry}
theorem start {r : Room} (key : ByteArray) : KInv (newT r) key Tag.z ⟨key, Tag.z, Val.z⟩ :=
  ⟨rfl, fun c hc => (by cases hc), fun _ => tle_refl _, fun c hc => (by cases hc), fun c hc => (by cases hc), fun _ _ => rfl⟩
theorem evict_ (h : KInv T key best kept) (w : Wf T n) (j : ByteArray) : KInv (evictT T j) key best kept := by
  unfold evictT
  split
  · rename_i hc
    exact h.drop_ w (fun c hf => by rw [hf] at hc; exact hc)
  · exact h
theorem query_ (h : KInv T key best kept) (hs : Srt T.l) (k : ByteArray) : KInv (queryT T k) key best kept := by
  unfold queryT
  split
  · split
    · rename_i c hc
      have hk := (find_mem hc).2
      by_cases e : k = key
      · subst e
        exact h.lay_at hs hk h.kk (h.up c hc) (h.cl c hc) (h.wh c hc)
      · exact h.lay_far hs (fun e' => e (hk.symm.trans e'))
    · exact h
  · exact h
theorem forget_ (h : KInv T key best kept) (w : Wf T n) : KInv (forgetT T) key best kept := by
  have hf : find (forgetT T).l key = (find T.l key).map off := find_off _ _
  refine ⟨h.kk, fun c hc => ?_, fun hc => ?_, fun c hc => ?_, fun c hc => ?_, fun hc h0 => ?_⟩ <;> rw [hf] at hc
  · obtain ⟨d, hd, rfl⟩ := Option.map_eq_some_iff.1 hc
    exact h.up d hd
  · exact h.no (Option.map_eq_none_iff.1 hc)
  · obtain ⟨d, hd, rfl⟩ := Option.map_eq_some_iff.1 hc
    exact h.cl d hd
  · obtain ⟨d, hd, rfl⟩ := Option.map_eq_some_iff.1 hc
    exact fun hw => by cases hw
  · have hi := tok_in w key
    have hg := tok_ge w key
    have h1 : tokAt (forgetT T) key = tokAt T key + 1 := by
      unfold tokAt
      show (T.tok.map (· + 1)).getD (Hash.bkt key T.room.buckets).toNat 0 = _
      generalize (Hash.bkt key T.room.buckets).toNat = i at *
      simp [List.getD_eq_getElem?_getD, List.getElem?_eq_getElem hi]
    omega
theorem fill_ (h : KInv T key best kept) (w : Wf T n) (tk : Int) : KInv (fillT T kept tk) key best kept := by
  unfold fillT
  split
  · rename_i ho
    split
    · rename_i c hc
      unfold fillOld at hc
      obtain ⟨d, hd, hc⟩ := Option.bind_eq_some_iff.1 hc
      split at hc
      · rename_i hlt
        injection hc with hc
        subst hc
        rw [h.kk] at hd
        have hkd : tle kept.tag d.e.tag := cmpT_ge.1 (by omega)
        refine h.lay_at w.srt (find_mem hd).2 h.kk (h.up d hd) (h.cl d hd) (fun _ => ?_)
        rcases h.up d hd with h1 | h1
        · exact tle_tr h1 hkd
        · exact h1
      · cases hc
    · rename_i hc
      have hb : tle best kept.tag := by
        unfold fillOld at hc
        rw [h.kk] at hc
        cases hf : find T.l key with
        | none => exact h.no hf
        | some d =>
          rw [hf] at hc
          simp only [Option.bind_some] at hc
          split at hc
          · cases hc
          · rename_i hlt
            rcases h.up d hf with h1 | h1
            · exact h1
            · exact tle_tr h1 (cmpT_le.1 hlt)
      split
      · rename_i h0
        obtain ⟨w1, _, _⟩ := w.make_ ho.1 h0 true true 0
        exact (h.make_ w kept).lay_at w1.srt h.kk h.kk (.inl hb) (fun _ => tle_refl _) (fun _ => hb)
      · exact h
  · exact h
theorem store_ (h : KInv T key best kept) (w : Wf T n) (e : Entry) : KInv (storeT T e) key (bestS T e key best) kept := by
  unfold bestS storeT storeE
  by_cases ho : EntOk e ∧ e.tag.seq ≠ 0
  · rw [if_pos ho, if_pos ho]
    cases hc : storeOld T e with
    | some c =>
      dsimp only
      unfold storeOld at hc
      obtain ⟨d, hd, hc⟩ := Option.bind_eq_some_iff.1 hc
      split at hc
      · rename_i hge
        injection hc with hc
        subst hc
        have hed : tle e.tag d.e.tag := cmpT_ge.1 hge
        have hdk := (find_mem hd).2
        by_cases ek : e.key = key
        · rw [ek] at hd
          have hg := h.up d hd
          have hw := h.wh d hd
          split
          · exact h.lay_at w.srt (hdk.trans ek) h.kk (.inr hed) (h.cl d hd) (fun _ => hed)
          · exact h.lay_at w.srt (hdk.trans ek) h.kk hg (h.cl d hd) hw
        · rw [if_neg (fun hx => ek hx.2.1)]
          exact h.lay_far w.srt (fun e' => ek (hdk.symm.trans e'))
      · cases hc
    | none =>
      dsimp only
      by_cases h0 : makeE T e = 0
      · rw [if_pos h0]
        obtain ⟨w1, _, _⟩ := w.make_ ho.1 h0 true true 0
        have hm := h.make_ w e
        by_cases ek : e.key = key
        · have hold : ∀ d, find T.l key = some d → tle d.e.tag e.tag := fun d hd => by
            unfold storeOld at hc
            rw [ek, hd] at hc
            simp only [Option.bind_some] at hc
            split at hc
            · cases hc
            · exact cmpT_le.1 (by omega)
          have hwh : wholeT T e.key = true → tle best e.tag := fun hw => by
            unfold wholeT at hw
            rw [ek] at hw
            cases hf : find T.l key with
            | some d =>
              rw [hf] at hw
              exact tle_tr (h.wh d hf hw) (hold d hf)
            | none =>
              rw [hf] at hw
              have hz := h.zr hf (by simpa using hw)
              rw [hz]
              obtain ⟨_, _, _, _, ht, _⟩ := ho.1
              obtain ⟨t1, _⟩ := ht
              have := ho.2
              unfold tle Tag.z
              left
              show (0 : Int) < e.tag.seq
              omega
          have hup : tle best kept.tag ∨ tle best e.tag := by
            cases hf : find T.l key with
            | none => exact .inl (h.no hf)
            | some d =>
              rcases h.up d hf with h1 | h1
              · exact .inl h1
              · exact .inr (tle_tr h1 (hold d hf))
          split
          · exact hm.lay_at w1.srt ek h.kk (.inr (tle_refl _)) (fun hx => by cases hx) (fun _ => tle_refl _)
          · exact hm.lay_at w1.srt ek h.kk hup (fun hx => by cases hx) hwh
        · rw [if_neg (fun hx => ek hx.2.1)]
          exact hm.lay_far w1.srt ek
      · rw [if_neg h0, if_neg (fun hx => h0 hx.1)]
        exact h
  · rw [if_neg ho, if_neg ho, if_neg (fun hx => by have := hx.1; omega)]
    exact h
theorem clean_far (h : KInv T key best kept) (hs : Srt T.l) {j : ByteArray} (t : Tag) (hj : j ≠ key) : KInv (cleanT T j t) key best kept := by
  unfold cleanT
  split
  · rename_i c hc
    unfold cleanOn at hc
    obtain ⟨d, hd, hc⟩ := Option.bind_eq_some_iff.1 hc
    split at hc
    · cases hc
    · injection hc with hc
      subst hc
      exact h.same (by show find (put T.l _) key = _; rw [find_put hs, if_neg (fun e => hj ((find_mem hd).2.symm.trans e))]) (fun h => h)
  · exact h
theorem clean_at (h : KInv T key best kept) (hs : Srt T.l) {c : Cell} (hf : find T.l key = some c) : KInv (cleanT T key c.e.tag) key best (newerE kept c.e) := by
  have hk := (find_mem hf).2
  have ho : cleanOn T key c.e.tag = some c := by
    unfold cleanOn
    rw [hf]
    show (if 0 < cmpT c.e.tag c.e.tag then none else some c) = some c
    rw [if_neg (cmpT_le.2 (tle_refl _))]
  obtain ⟨n1, n2⟩ := newerE_le kept c.e
  have hf2 : find (cleanT T key c.e.tag).l key = some { c with clean := true } := by
    unfold cleanT
    rw [ho]
    show find (put T.l _) key = _
    rw [find_put hs, if_pos hk]
  refine ⟨?_, fun d hd => ?_, fun hd => ?_, fun d hd => ?_, fun d hd => ?_, fun hd => ?_⟩
  · unfold newerE; split
    · exact hk
    · exact h.kk
  all_goals rw [hf2] at hd
  · injection hd with hd; subst hd
    rcases h.up c hf with h1 | h1
    · exact .inl (tle_tr h1 n1)
    · exact .inr h1
  · cases hd
  · injection hd with hd; subst hd
    exact fun _ => n2
  · injection hd with hd; subst hd
    exact h.wh c hf
  · cases hd
/-- WHAT IS WHOLE TELLS ALL. -/
theorem tells (h : KInv T key best kept) (he : queryE key = 0) (hw : (queryR T key).whole = true) : 0 ≤ cmpT (queryR T key).e.tag best := by
  have hk : KeyOk key := by
    unfold queryE at he
    by_cases hk : KeyOk key
    · exact hk
    · rw [if_neg hk] at he; omega
  unfold queryR at hw ⊢
  rw [if_pos hk] at hw ⊢
  rw [cmpT_ge]
  cases hf : find T.l key with
  | some c =>
    rw [hf] at hw
    exact h.wh c hf hw
  | none =>
    rw [hf] at hw
    have hz := h.zr hf (by simpa using hw)
    rw [hz]
    exact tle_refl _
end KInv
end Tab
end Go.Proofs.Ytgfjkpnaabiecaa
