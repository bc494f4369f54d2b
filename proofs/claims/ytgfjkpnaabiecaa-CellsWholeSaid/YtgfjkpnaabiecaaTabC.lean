/- Layer cells: make, walked. -/
import Derived.Test.YtgfjkpnaabiecaaTabB
set_option linter.unusedVariables false
set_option linter.unusedSimpArgs false
namespace Go.Proofs.Ytgfjkpnaabiecaa
open Go.RowKit Go.Proofs.YtgfjkpnaabiecaaW.PrintWords
namespace Tab
open StrRow (hasS hasS_iff hasS_no)
def TokOk (T : Tb) (n : Int) : Prop := ∀ x ∈ T.tok, 0 ≤ x ∧ x ≤ n
theorem tok_bump {tok : List Int} {n : Int} (h : ∀ x ∈ tok, 0 ≤ x ∧ x ≤ n) (hn : 0 ≤ n) (i : Nat) : ∀ x ∈ bump tok i, 0 ≤ x ∧ x ≤ n + 1 := by
  intro x hx
  unfold bump at hx
  rcases List.mem_or_eq_of_mem_set hx with hx | rfl
  · have := h x hx; omega
  · rw [List.getD_eq_getElem?_getD]
    cases e : tok[i]? with
    | none => simp; omega
    | some y => have := h y (List.mem_of_getElem? e); simp; omega
theorem bump_len (tok : List Int) (i : Nat) : (bump tok i).length = tok.length := by unfold bump; exact List.length_set
theorem tok_drops {T : Tb} {n : Int} (h : TokOk T n) (hn : 0 ≤ n) (out : List ByteArray) : TokOk (drops T out) (n + out.length) ∧ (drops T out).tok.length = T.tok.length := by
  induction out generalizing T n with
  | nil => exact ⟨fun x hx => by have := h x hx; simp; omega, rfl⟩
  | cons k r ih =>
    have h1 : TokOk (drop T k) (n + 1) := tok_bump h hn _
    obtain ⟨h2, h3⟩ := ih h1 (by omega)
    refine ⟨fun x hx => ?_, h3.trans (bump_len _ _)⟩
    have := h2 x hx
    simp only [List.length_cons]
    omega
theorem drops_uses (T : Tb) (out : List ByteArray) : (drops T out).uses = T.uses := by
  induction out generalizing T with
  | nil => rfl
  | cons k r ih => exact ih (drop T k)
theorem drops_szs (T : Tb) (out : List ByteArray) : szs (drops T out).l ≤ szs T.l := by rw [drops_l]; exact szs_filter _ _
theorem drops_len (T : Tb) (out : List ByteArray) : (drops T out).l.length ≤ T.l.length := by rw [drops_l]; exact List.length_filter_le _ _
theorem vict_len {T : Tb} (e : Entry) (hs : Srt T.l) : (vict T e).1.length ≤ T.l.length ∧ ∀ k ∈ (vict T e).1, ∃ c ∈ T.l, c.e.key = k := by
  generalize hn : T.l.length = n
  induction n using Nat.strongRecOn generalizing T with
  | _ n ih =>
    rw [vict_eq T e hs]
    split
    · exact ⟨Nat.zero_le _, by simp⟩
    · cases hp : pick T.l e.key with
      | none => exact ⟨Nat.zero_le _, by simp⟩
      | some c =>
        have hc := (pick_mem hp).1
        have hl := len_drop hs hc
        obtain ⟨h1, h2⟩ := ih (drop T c.e.key).l.length (by omega) (srt_drop _ hs) rfl
        dsimp only
        refine ⟨by simp only [List.length_cons]; omega, fun k hk => ?_⟩
        rcases List.mem_cons.1 hk with rfl | hk
        · exact ⟨c, hc, rfl⟩
        · obtain ⟨d, hd, hdk⟩ := h2 k hk
          exact ⟨d, (mem_del.1 hd).1, hdk⟩
def makeT (T : Tb) (e : Entry) : Tb := if (vict T e).2 then drops T (vict T e).1 else T
def makeE (T : Tb) (e : Entry) : Int := if (vict T e).2 then 0 else 30
/-- What keeps the numbers in their range. -/
structure Num (T : Tb) (n : Int) : Prop where
  pos : 0 ≤ n ∧ n ≤ 4000000000000000000
  bk : 1 ≤ T.room.buckets ∧ T.room.buckets ≤ 65536
  tl : T.room.buckets = T.tok.length
  tk : TokOk T n
  len : T.l.length ≤ 1000000
  sz : szs T.l ≤ 100000000000
  ky : ∀ c ∈ T.l, c.e.key.size ≤ 1000000 ∧ c.e.val.b.length ≤ 1000000
  us : 0 ≤ T.uses ∧ T.uses ≤ n
  u1 : ∀ c ∈ T.l, 1 ≤ c.used
  ow : Own1 T.l
theorem Num.drops {T : Tb} {n : Int} (h : Num T n) (out : List ByteArray) (m : Int) (hm : n + out.length ≤ m) (hm2 : m ≤ 4000000000000000000) : Num (drops T out) m := by
  obtain ⟨h1, h2⟩ := tok_drops h.tk h.pos.1 out
  have hu := drops_uses T out
  refine ⟨by have := h.pos; omega, by rw [drops_room]; exact h.bk, by rw [drops_room, h2]; exact h.tl, fun x hx => ?_, Nat.le_trans (drops_len T out) h.len, Nat.le_trans (drops_szs T out) h.sz, fun c hc => h.ky c (drops_mem hc), ?_, fun c hc => h.u1 c (drops_mem hc), ?_⟩
  · have := h1 x hx; omega
  · rw [hu]; have := h.us; omega
  · rw [drops_l]; exact own1_filter _ h.ow
set_option maxRecDepth 100000 in
set_option maxHeartbeats 1000000 in
theorem make_calls (p mb tb : Nat) (T : Tb) (e : Entry) (A : Option Addr) (cp : Nat) (n : Int) (w : World) (h : TbR w p mb tb T) (hN : Num T n) (hn : n ≤ 3000000000000000000) (hk : e.key.size ≤ 1000000) (hb : e.val.b.length ≤ 1000000) :
    Calls Try.prog 42 #[.pointer (some ⟨p, 0, none⟩), .agg #[.string e.key, .int .i64 e.tag.seq, .int .i64 e.tag.who, .int .i64 e.tag.op, .bool e.val.has, .slice A e.val.b.length cp]] w (TabTold w p mb tb (makeT T e) (.int .i64 (makeE T e))) := by
  have HV := Aside0.mk (fun w' (hb' : Below w.heap.size w w') => victims_calls p mb tb T e A cp w' (h.below hb') hk hb (by have := hN.sz; omega) hN.len hN.u1 hN.ow)
  have HN := Aside0.mk hN
  have HT := Aside0.mk h
  clear h hN
  obtain ⟨ek, ⟨a1, a2, a3⟩, ⟨eh, eb⟩⟩ := e
  dsimp only at *
  obtain ⟨E, hE⟩ : ∃ E : Entry, E = ⟨ek, ⟨a1, a2, a3⟩, ⟨eh, eb⟩⟩ := ⟨_, rfl⟩
  rw [← hE]
  rw [← hE] at HV
  clear hE
  have hl1 : (vict T E).1.length ≤ 1000000 := Nat.le_trans (vict_len E HT.out.srt).1 HN.out.len
  have HKY : Aside0 (∀ k ∈ (vict T E).1, k.size ≤ 1000000) := ⟨fun k hk => by obtain ⟨c, hc, rfl⟩ := (vict_len E HT.out.srt).2 k hk; exact (HN.out.ky c hc).1⟩
  obtain ⟨out, hout⟩ : ∃ out, out = (vict T E).1 := ⟨_, rfl⟩
  obtain ⟨okB, hok⟩ : ∃ b, b = (vict T E).2 := ⟨_, rfl⟩
  have HVO := Aside0.mk (And.intro hout hok)
  rw [← hout] at hl1 HKY
  clear hout hok
  go_enter Try.func42, Try.ntmps42
  go_wp2_with (first | ((refine (HV.out _ (below_alloc (Below.refl _ _) _)).mono ?_); rintro e w1 ⟨A1, c1, rfl, g1, g2, g3, g4⟩; rw [← HVO.out.1, ← HVO.out.2]; rw [← HVO.out.1] at g1 g2; have H1 := Aside0.mk (And.intro g1 (And.intro g2 (And.intro (Below.then_ (below_alloc (Below.refl _ w) _) g3 (Nat.le_refl _)) (fun ad e => Nat.le_trans (below_alloc (Below.refl w.heap.size w) _).size (g4 ad e))))); clear g1 g2 g3 g4))
  · have hb : okB = false := by
      have : (!okB) = true := by assumption
      simpa using this
    have h2 := HVO.out.2
    rw [hb] at h2
    go_ret
    refine ⟨by unfold makeE; rw [← h2]; rfl, by unfold makeT; rw [← h2]; exact HT.out.below H1.out.2.2.1, Only.of_below _ H1.out.2.2.1⟩
  · have hb : okB = true := by
      have : (!okB) = false := by assumption
      simpa using this
    have h2 := HVO.out.2
    rw [hb] at h2
    have H2 := Aside0.mk h2
    clear h2
    subst hb
    go_loopg [8, 19] out.length (fun gk _ v19 wr => ∃ k : Nat, v19 = .int .i64 (k : Int) ∧ k ≤ out.length ∧ Aside0 (gk + k = out.length) ∧ Aside0 (TbR wr p mb tb (drops T (out.take k))) ∧ Aside0 (Only [p, mb, tb] w wr) ∧ Aside0 (kStr.C wr A1 out.length out))
    case atStart => exact ⟨0, rfl, Nat.zero_le _, ⟨rfl⟩, ⟨HT.out.below H1.out.2.2.1⟩, ⟨Only.of_below _ H1.out.2.2.1⟩, ⟨H1.out.2.1⟩⟩
    case round =>
      obtain ⟨k, rfl, hkl, HGK, HR, HOW, HC⟩ := hrel
      by_cases hlt : k < out.length
      · obtain ⟨ad, x, rfl, HX, hcx, hxs⟩ := StrRow.str_at HC.out k hlt
        have HNk := Aside0.mk (HN.out.drops (out.take k) (n + 1000000) (by rw [List.length_take]; omega) (by omega))
        have hx1 : x.size ≤ 1000000 := HKY.out x (List.mem_of_getElem? HX.out)
        have HD := Aside0.mk (drop_calls p mb tb (drops T (out.take k)) x wr HR.out hx1 (by have := HNk.out.sz; omega) HNk.out.bk HNk.out.tl (fun y hy => by have := HNk.out.tk y hy; have := HNk.out.pos; omega))
        have HTK : Aside0 (out.take (k + 1) = out.take k ++ [x]) := ⟨by rw [List.take_add_one, HX.out]; rfl⟩
        go_wp2_with (first | ((with_reducible refine HD.out.mono ?_); rintro e w5 ⟨rfl, g1, g2⟩; have H5 := Aside0.mk (And.intro g1 g2); clear g1 g2))
        go_roundg (out.length - (k + 1))
        case measure => have := HGK.out; omega
        case rel =>
          refine ⟨k + 1, by go_num, by omega, ⟨by omega⟩, ⟨by rw [HTK.out, drops_snoc]; exact H5.out.1⟩, ⟨HOW.out.trans H5.out.2⟩, ⟨StrRow.C_only HC.out H5.out.2 (fun a e => ?_)⟩⟩
          have h1 := H1.out.2.2.2 a e
          have h2 := HT.out.lt
          simp
          omega
      · obtain rfl : k = out.length := by omega
        go_wp2
        go_ret
        have hR := HR.out
        rw [List.take_length] at hR
        refine ⟨by unfold makeE; rw [← H2.out]; rfl, by unfold makeT; rw [← H2.out, ← HVO.out.1]; exact hR, HOW.out⟩
end Tab
end Go.Proofs.Ytgfjkpnaabiecaa
