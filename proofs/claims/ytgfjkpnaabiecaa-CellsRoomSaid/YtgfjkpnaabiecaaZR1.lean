/- Lemmas for the row (words on memory, contracts of the program's functions): LawRP, LawR, Bridge, KindsCR, TabY0, LawRR. -/
import Derived.Deep.Slices
import Derived.ChangeArms
import Derived.SizedLaws
import Derived.Test.YtgfjkpnaabiecaaZC5
set_option linter.unusedVariables false
set_option linter.unusedSimpArgs false
namespace Go.Proofs.Ytgfjkpnaabiecaa
open Go.RowKit Go.Proofs.YtgfjkpnaabiecaaW.PrintWords
namespace Tab
open Tags
/-- What is busy has changed nothing. -/
theorem step_busy {T : Tb} {d : Do} (h : stepE T d = 30) : stepT T d = T := by
  unfold stepE at h
  unfold stepT
  by_cases h1 : d.kind = 1
  · rw [if_pos h1] at h; unfold queryE at h; split at h <;> omega
  · rw [if_neg h1] at h ⊢
    by_cases h2 : d.kind = 2
    · rw [if_pos h2] at h ⊢
      unfold storeE at h
      unfold storeT
      split at h
      · rename_i hg
        rw [if_pos hg]
        cases ho : storeOld T d.e with
        | some c => rw [ho] at h; dsimp only at h; omega
        | none => rw [ho] at h; dsimp only at h ⊢; rw [if_neg (by omega)]
      · omega
    · rw [if_neg h2] at h ⊢
      by_cases h3 : d.kind = 3
      · rw [if_pos h3] at h ⊢
        unfold fillE at h
        unfold fillT
        split at h
        · rename_i hg
          split at h
          · rename_i ht
            rw [if_pos ⟨hg, ht⟩]
            cases ho : fillOld T d.e with
            | some c => rw [ho] at h; dsimp only at h; omega
            | none => rw [ho] at h; dsimp only at h ⊢; rw [if_neg (by omega)]
          · omega
        · omega
      · rw [if_neg h3] at h; omega
/-- What the store may not have is there, or something newer of its key. -/
def Holds (c : Cell) (T : Tb) : Prop := ∃ c' ∈ T.l, c'.e.key = c.e.key ∧ 0 ≤ cmpT c'.e.tag c.e.tag
theorem Holds.self {T : Tb} {c : Cell} (h : c ∈ T.l) : Holds c T := ⟨c, h, rfl, cmpT_ge.2 (tle_refl _)⟩
theorem drop_keeps {T : Tb} {c d : Cell} (hs : Srt T.l) (hc : c ∈ T.l) (hd : d ∈ T.l) (h1 : c.clean = false) (h2 : d.clean = true) : c ∈ (drop T d.e.key).l := by
  refine mem_del.2 ⟨hc, fun e => ?_⟩
  have a := find_of hs hc
  have b := find_of hs hd
  rw [e, b] at a
  injection a with a
  rw [a, h1] at h2
  cases h2
theorem vict_keeps (e : Entry) : ∀ (f : Nat) (T : Tb), Srt T.l → ∀ c ∈ T.l, c.clean = false → c ∈ (drops T (victF f T e).1).l
  | 0, T, hs, c, hc, h => hc
  | f + 1, T, hs, c, hc, h => by
    unfold victF
    split
    · exact hc
    · cases hp : pick T.l e.key with
      | none => exact hc
      | some d =>
        obtain ⟨p1, p2, p3⟩ := pick_mem hp
        exact vict_keeps e f (drop T d.e.key) (srt_drop _ hs) c (drop_keeps hs hc p1 h p2) h
theorem make_keeps {T : Tb} (e : Entry) (hs : Srt T.l) {c : Cell} (hc : c ∈ T.l) (h : c.clean = false) : c ∈ (makeT T e).l := by
  unfold makeT
  split
  · exact vict_keeps e _ T hs c hc h
  · exact hc
theorem lay_keeps {T : Tb} {c d : Cell} (hs : Srt T.l) (hc : c ∈ T.l) (h : d.e.key = c.e.key → 0 ≤ cmpT d.e.tag c.e.tag) : Holds c (lay T d) := by
  by_cases hk : d.e.key = c.e.key
  · exact ⟨{ d with used := T.uses + 1 }, (mem_put hs).2 (.inl rfl), hk, h hk⟩
  · exact ⟨c, (mem_put hs).2 (.inr ⟨hc, fun e => hk e.symm⟩), rfl, cmpT_ge.2 (tle_refl _)⟩
theorem same_cell {l : List Cell} (hs : Srt l) {c d : Cell} (hc : c ∈ l) (hd : find l c.e.key = some d) : d = c := by
  have := find_of hs hc
  rw [this] at hd
  exact (Option.some.inj hd).symm
theorem step_keeps {T : Tb} {n : Int} (w : Wf T n) (d : Do) {c : Cell} (hc : c ∈ T.l) (h : c.clean = false) : Holds c (stepT T d) := by
  have hs := w.srt
  unfold stepT
  split
  · unfold queryT
    split
    · split
      · rename_i c0 hf
        refine lay_keeps hs hc (fun e => ?_)
        obtain ⟨_, hk⟩ := find_mem hf
        rw [← hk, e] at hf
        rw [same_cell hs hc hf]
        exact cmpT_ge.2 (tle_refl _)
      · exact Holds.self hc
    · exact Holds.self hc
  · split
    · unfold storeT
      split
      · rename_i hg
        cases ho : storeOld T d.e with
        | some c0 =>
          dsimp only
          unfold storeOld at ho
          obtain ⟨c1, hf, ho⟩ := Option.bind_eq_some_iff.1 ho
          split at ho
          · injection ho with ho
            subst ho
            obtain ⟨_, hk⟩ := find_mem hf
            refine lay_keeps hs hc (fun e => ?_)
            rw [← hk, e] at hf
            rw [same_cell hs hc hf]
            exact cmpT_ge.2 (tle_refl _)
          · cases ho
        | none =>
          dsimp only
          split
          · rename_i h0
            have hw := (w.make_ hg.1 h0 (wholeT T d.e.key) false 0).1
            refine lay_keeps hw.srt (make_keeps _ hs hc h) (fun e => ?_)
            have hf : find T.l d.e.key = some c := by
              have := find_of hs hc
              rw [← e] at this
              exact this
            unfold storeOld at ho
            rw [hf] at ho
            simp only [Option.bind_some] at ho
            split at ho
            · cases ho
            · rename_i hn
              dsimp only
              rw [cmpT_ge] at hn ⊢
              exact (tle_tot _ _).resolve_left hn
          · exact Holds.self hc
      · exact Holds.self hc
    · split
      · unfold fillT
        split
        · rename_i hg
          cases ho : fillOld T d.e with
          | some c0 =>
            dsimp only
            unfold fillOld at ho
            obtain ⟨c1, hf, ho⟩ := Option.bind_eq_some_iff.1 ho
            split at ho
            · injection ho with ho
              subst ho
              obtain ⟨_, hk⟩ := find_mem hf
              refine lay_keeps hs hc (fun e => ?_)
              have e2 : c1.e.key = c.e.key := e
              rw [← hk, e2] at hf
              have := same_cell hs hc hf
              subst this
              exact cmpT_ge.2 (tle_refl _)
            · cases ho
          | none =>
            dsimp only
            split
            · rename_i h0
              have hw := (w.make_ hg.1 h0 true true 0).1
              refine lay_keeps hw.srt (make_keeps _ hs hc h) (fun e => ?_)
              have hf : find T.l d.e.key = some c := by
                have := find_of hs hc
                rw [← e] at this
                exact this
              unfold fillOld at ho
              rw [hf] at ho
              simp only [Option.bind_some] at ho
              split at ho
              · cases ho
              · rename_i hn
                dsimp only
                rw [cmpT_le] at hn
                exact cmpT_ge.2 hn
            · exact Holds.self hc
        · exact Holds.self hc
      · split
        · unfold cleanT
          split
          · rename_i c0 ho
            unfold cleanOn at ho
            obtain ⟨c1, hf, ho⟩ := Option.bind_eq_some_iff.1 ho
            split at ho
            · cases ho
            · injection ho with ho
              subst ho
              obtain ⟨_, hk⟩ := find_mem hf
              by_cases e : c1.e.key = c.e.key
              · rw [← hk, e] at hf
                have := same_cell hs hc hf
                subst this
                exact ⟨{ c1 with clean := true }, (mem_put hs).2 (.inl rfl), rfl, cmpT_ge.2 (tle_refl _)⟩
              · exact ⟨c, (mem_put hs).2 (.inr ⟨hc, fun e' => e e'.symm⟩), rfl, cmpT_ge.2 (tle_refl _)⟩
          · exact Holds.self hc
        · split
          · exact ⟨off c, List.mem_map.2 ⟨c, hc, rfl⟩, rfl, cmpT_ge.2 (tle_refl _)⟩
          · unfold evictT
            split
            · rename_i hcl
              cases hf : find T.l d.e.key with
              | none => rw [hf] at hcl; cases hcl
              | some c0 =>
                rw [hf] at hcl
                obtain ⟨hm, hk⟩ := find_mem hf
                rw [← hk]
                exact Holds.self (drop_keeps hs hc hm h hcl)
            · exact Holds.self hc
theorem doneC_calls (p mb tb : Nat) (T : Tb) (d : Do) (A : Option Addr) (c : Nat) (n : Int) (w : World) (h : TbR w p mb tb T) (hN : Num T n) (hn : n ≤ 2000000000000000000)
    (hF : Kd.FK Entry.k w (fun i => i ∉ [p, mb, tb]) d.e (ecs d.e A c)) (hbl : d.e.val.b.length ≤ 140737488351232) :
    Calls Try.prog 22 #[.pointer (some ⟨p, 0, none⟩), .agg (dcs d A c).toArray] w fun e w' => ∃ A' c', e = .returned (.tuple #[.agg (rcs (stepR T d) A' c').toArray, .bool (stepB T d), .int .i64 (stepE T d)]) ∧ BK Reply.k w' (stepR T d) (rcs (stepR T d) A' c') ∧ TbR w' p mb tb (stepT T d) ∧ Only [p, mb, tb] w w' := by
  refine (done_calls p mb tb T d A c n w h hN hn hF hbl).mono ?_
  rintro e w' ⟨cs, rfl, hbk, ht, ho⟩
  obtain ⟨A', c', he, _⟩ := Reply.open_ hbk.now
  have hcs : cs = cs.toList.toArray := by simp
  rw [he] at hbk
  rw [hcs, he]
  exact ⟨A', c', rfl, hbk, ht, ho⟩
/-- Is it there among the first j? -/
def thereB (l : List Cell) (c : Cell) (j : Nat) : Bool := (l.take j).any (fun d => decide (d.e.key = c.e.key) && decide (0 ≤ cmpT d.e.tag c.e.tag))
theorem thereB_succ {l : List Cell} {c d : Cell} {j : Nat} (h : l[j]? = some d) : thereB l c (j + 1) = (thereB l c j || (decide (d.e.key = c.e.key) && decide (0 ≤ cmpT d.e.tag c.e.tag))) := by
  unfold thereB
  rw [List.take_add_one, h, List.any_append]
  simp
theorem thereB_of {T : Tb} {c : Cell} (h : Holds c T) : thereB T.l c T.l.length = true := by
  obtain ⟨c', h1, h2, h3⟩ := h
  unfold thereB
  rw [List.take_length, List.any_eq_true]
  exact ⟨c', h1, by simp [h2, h3]⟩
end Tab
end Go.Proofs.Ytgfjkpnaabiecaa
set_option linter.unusedVariables false
set_option linter.unusedSimpArgs false
namespace Go.Proofs.Ytgfjkpnaabiecaa
open Go.RowKit Go.Proofs.YtgfjkpnaabiecaaW.PrintWords
namespace Tab
open Tags
set_option maxRecDepth 100000 in
set_option maxHeartbeats 1000000 in
theorem room_bad (r : Room) (A : Option Addr) (c : Nat) (xs : List Do) (w : World) (hr : Do.k.C w A xs.length xs) (hn : xs.length ≤ 1600000000000) (hb : ¬ RoomOk r) :
    Calls Try.prog 7 #[.agg #[.int .i64 r.cells, .int .i64 r.bytes, .int .i64 r.buckets, .bool r.fresh], .slice A xs.length c] w (TrueTold w) := by
  have HR := Aside0.mk hr
  have HN : Aside0 (∀ w', Calls Try.prog 10 #[.agg #[.int .i64 r.cells, .int .i64 r.bytes, .int .i64 r.buckets, .bool r.fresh]] w' fun e w'' => e = .returned (.tuple #[.pointer none, .int .i64 2]) ∧ Below w'.heap.size w' w'') := ⟨new_no hb⟩
  have HL : Aside0 (∀ w', Below w.heap.size w w' → Calls Try.prog 11 #[.slice A xs.length c] w' fun e w'' => ∃ n : Int, e = .returned (.int .i64 n) ∧ Below w'.heap.size w' w'') := ⟨fun w' h => long_calls A c xs w' (Kd.C_below HR.out h) hn⟩
  obtain ⟨ra, rb, rc, rd⟩ := r
  dsimp only at *
  clear hr hb
  go_enter Try.func7, Try.ntmps7
  go_wp2_with (first
    | ((with_reducible refine (HN.out _).mono ?_); rintro e w1 ⟨rfl, h⟩; have HB := Aside0.mk (Below.then_ (below_alloc (Below.refl _ w) _) h (Nat.le_refl _)); clear h)
    | ((with_reducible refine (HL.out _ HB.out).mono ?_); rintro e w2 ⟨n, rfl, h⟩; have HB := Aside0.mk (Below.then_ HB.out h (Nat.le_refl _)); clear h)
    | ((with_reducible refine (known_true _).mono ?_); rintro e w3 ⟨rfl, h⟩; have HB := Aside0.mk (Below.then_ HB.out h (Nat.le_refl _)); clear h))
  all_goals
    go_ret
    exact ⟨rfl, HB.out⟩
set_option maxRecDepth 100000 in
set_option maxHeartbeats 4000000 in
theorem room_good (r : Room) (A : Option Addr) (c : Nat) (xs : List Do) (wS : World) (hr : Do.k.C wS A xs.length xs) (hn : xs.length ≤ 1600000000000) (hb : RoomOk r) (hxl : ∀ x ∈ xs, x.e.val.b.length ≤ 140737488351232) :
    Calls Try.prog 7 #[.agg #[.int .i64 r.cells, .int .i64 r.bytes, .int .i64 r.buckets, .bool r.fresh], .slice A xs.length c] wS (TrueTold wS) := by
  have HS0 := Aside0.mk hr
  have HXL := Aside0.mk hxl
  obtain ⟨ra, rz, rc, rd⟩ := r
  have HRM : Aside0 (RoomOk ⟨ra, rz, rc, rd⟩) := ⟨hb⟩
  have HWF : Aside0 (∀ k, k ≤ xs.length → Wf (runT (newT ⟨ra, rz, rc, rd⟩) xs k) (1 + 5000 * (k : Int))) := ⟨fun k _ => (Wf.new_ hb).run xs k⟩
  have HN : Aside0 (∀ w', Calls Try.prog 10 #[.agg #[.int .i64 ra, .int .i64 rz, .int .i64 rc, .bool rd]] w' fun e w'' => ∃ p mb tb, e = .returned (.tuple #[.pointer (some ⟨p, 0, none⟩), .int .i64 0]) ∧ LS w' p mb tb (newT ⟨ra, rz, rc, rd⟩) w'') := ⟨new_ok (r := ⟨ra, rz, rc, rd⟩) hb⟩
  dsimp only at *
  clear hr hb hxl
  go_enter Try.func7, Try.ntmps7
  go_upto_region 1 with (fail)
  generalize hX : World.alloc _ _ = w
  have HWS : Aside0 (Below wS.heap.size wS w) := ⟨by rw [← hX]; exact below_alloc (Below.refl _ _) _⟩
  have HR : Aside0 (Do.k.C w A xs.length xs) := ⟨Kd.C_below HS0.out HWS.out⟩
  have HL : Aside0 (∀ w', Below w.heap.size w w' → Calls Try.prog 11 #[.slice A xs.length c] w' fun e w'' => ∃ n : Int, e = .returned (.int .i64 n) ∧ Below w'.heap.size w' w'') := ⟨fun w' h => long_calls A c xs w' (Kd.C_below HR.out h) hn⟩
  have HRX : Aside0 (Blk w wS.heap.size [.int .i64 ra, .int .i64 rz, .int .i64 rc, .bool rd]) := ⟨by rw [← hX]; exact Blk.new_ _ _ _ rfl rfl⟩
  obtain ⟨rB, hrB⟩ : ∃ b, b = wS.heap.size := ⟨_, rfl⟩
  rw [← hrB] at HRX
  rw [← hrB]
  clear hX hrB
  have z0 := HRX.out.cell 0 rfl
  have z1 := HRX.out.cell 1 rfl
  have z2 := HRX.out.cell 2 rfl
  have z3 := HRX.out.cell 3 rfl
  go_wp2_with (first
    | ((with_reducible refine (HN.out _).mono ?_); rintro e w1 ⟨p, mb, tb, rfl, h⟩; have HT := Aside0.mk h; have HB := Aside0.mk HT.out.bl; clear h)
    | ((with_reducible refine (HL.out _ HB.out).mono ?_); rintro e w2 ⟨n, rfl, h⟩; have HT := Aside0.mk (HT.out.below h); have HB := Aside0.mk HT.out.bl; clear h)
    | ((with_reducible refine (known_true _).mono ?_); rintro e w3 ⟨rfl, h⟩; have HB := Aside0.mk (Below.then_ HB.out h (Nat.le_refl _)); clear h))
  · go_loopg [7] xs.length (fun gk v wr => ∃ k : Nat, v = .int .i64 (k : Int) ∧ k ≤ xs.length ∧ Aside0 (gk + k = xs.length) ∧ Aside0 (LS w p mb tb (runT (newT ⟨ra, rz, rc, rd⟩) xs k) wr))
    case atStart => exact ⟨0, rfl, Nat.zero_le _, ⟨rfl⟩, HT⟩
    case round =>
      clear HT HB
      obtain ⟨k, rfl, hk, HG, HS⟩ := hrel
      have Z0 := Aside0.mk z0
      have Z1 := Aside0.mk z1
      by_cases hlt : k < xs.length
      · obtain ⟨ad, x, A6, c6, rfl, HX, y0, y1, y2, y3, y4, y5, y6, y7, y8⟩ := Do.at_ HR.out k hlt
        have hltI : (k : Int) < (xs.length : Int) := by omega
        have HXE := Aside0.mk (do_ent y8.out)
        have HXM : Aside0 (x.e.val.b.length ≤ 140737488351232) := ⟨HXL.out x (List.mem_of_getElem? HX.out)⟩
        have HY := Aside0.mk (And.intro y0 (And.intro y1 (And.intro y2 (And.intro y3 (And.intro y4 (And.intro y5 (And.intro y6 y7)))))))
        clear y0 y1 y2 y3 y4 y5 y6 y7 y8
        have HWT := Aside0.mk (HWF.out k hk)
        obtain ⟨T, hT⟩ : ∃ T, T = runT (newT ⟨ra, rz, rc, rd⟩) xs k := ⟨_, rfl⟩
        have HRN : Aside0 (stepT T x = runT (newT ⟨ra, rz, rc, rd⟩) xs (k + 1) ∧ T.room.cells = ra ∧ T.room.bytes = rz) := ⟨by rw [runT_succ HX.out, ← hT], by rw [hT, run_room]; rfl, by rw [hT, run_room]; rfl⟩
        rw [← hT] at HS HWT
        clear hT
        have hn5 : 1 + 5000 * (k : Int) ≤ 1000000000000000000 := by omega
        have HW1 := Aside0.mk (HWT.out.step x)
        have hT6 := HWT.out.tok_len.2
        have hTl : T.l.length ≤ 4096 := by have h1 := HWT.out.len; have h2 := HWT.out.rm.2.1; omega
        have hV6 := HW1.out.tok_len.2
        have HC1 : Aside0 (∀ w', TbR w' p mb tb T → _) := ⟨fun w' h => cells_calls p mb tb T _ w' h (HWT.out.num (by omega))⟩
        have HK1 : Aside0 (∀ w', TbR w' p mb tb T → _) := ⟨fun w' h => tokens_calls p mb tb T w' h HWT.out.tok_len.1 (by omega)⟩
        have HD : Aside0 (∀ w', LS w p mb tb T w' → _) := ⟨fun w' h => doneC_calls p mb tb T x A6 c6 _ w' h.t (HWT.out.num (by omega)) (by omega) (h.storeF HXE.out) HXM.out⟩
        have HBY : Aside0 (stepE T x = 30 → stepT T x = T) := ⟨step_busy⟩
        have HKP : Aside0 (∀ c ∈ T.l, c.clean = false → Holds c (stepT T x)) := ⟨fun c hc h => step_keeps HWT.out x hc h⟩
        have HI1 := Aside0.mk (HWT.out.tok_in (by omega))
        obtain ⟨V, hV⟩ : ∃ V, V = stepT T x := ⟨_, rfl⟩
        obtain ⟨R, hR⟩ : ∃ R, R = stepR T x := ⟨_, rfl⟩
        obtain ⟨sb, hsb⟩ : ∃ s, s = stepB T x := ⟨_, rfl⟩
        obtain ⟨se, hse⟩ : ∃ s, s = stepE T x := ⟨_, rfl⟩
        have hHR := HRN.out.1
        have HVR : Aside0 (V.room.cells = ra ∧ V.room.bytes = rz) := ⟨by rw [hV, step_room]; exact HRN.out.2⟩
        rw [← hV] at HW1 HBY HKP hV6 hHR
        have HRN := Aside0.mk hHR
        rw [← hV, ← hR, ← hsb, ← hse] at HD
        rw [← hse] at HBY
        clear hV hR hsb hse hHR
        have HCV : Aside0 (∀ w', TbR w' p mb tb V → _) := ⟨fun w' h => cells_calls p mb tb V _ w' h (HW1.out.num (by omega))⟩
        have HKV : Aside0 (∀ w', TbR w' p mb tb V → _) := ⟨fun w' h => tokens_calls p mb tb V w' h HW1.out.tok_len.1 (by omega)⟩
        have hVl : V.l.length ≤ 4096 := by have h1 := HW1.out.len; have h2 := HW1.out.rm.2.1; omega
        have HZV : Aside0 (∀ w', TbR w' p mb tb V → _) := ⟨fun w' h => size_calls p mb tb V w' h (by omega)⟩
        have hr1 : decide (ra < (V.l.length : Int)) = false := by
          have h1 := HW1.out.len
          rw [HVR.out.1] at h1
          have : ¬ ra < (V.l.length : Int) := by omega
          simpa using this
        have hr2 : decide (rz < ((szs V.l : Nat) : Int)) = false := by
          have h1 := HW1.out.sz
          rw [HVR.out.2] at h1
          have : ¬ rz < ((szs V.l : Nat) : Int) := by omega
          simpa using this
        generalize hsz : szs V.l = sz at HZV hr2
        clear hsz HVR
        obtain ⟨⟨rk, ⟨t1, t2, t3⟩, ⟨rh, rb⟩⟩, rw_, rt⟩ := R
        dsimp only [dcs, rcs] at HD
        go_upto_region 9 with (first
          | ((with_reducible refine (HC1.out _ HS.out.t).mono ?_); rintro e w1 ⟨A1, c1, rfl, hc1, hF, hb⟩; have HM1 := Aside0.mk (cells_keep hF HS.out.lt); have HS := Aside0.mk (HS.out.below hb); clear hb hF)
          | ((with_reducible refine (HK1.out _ HS.out.t).mono ?_); rintro e w2 ⟨g1, cg1, rfl, hg1, hgc1, hB, _, hb⟩; have HM2 := Aside0.mk (tok_keep hB hg1 HS.out.lt HI1.out (by omega)); have HM1 := Aside0.mk (Foot.step HM1.out (fun i _ hlt => hb.block i hlt)); have HS := Aside0.mk (HS.out.below hb); clear hb hB hg1 hgc1))
        obtain ⟨y0, y1, y2, y3, y4, y5, y6, y7⟩ := HY.out
        have x0 := pw_cell_below HS.out.bl y0
        have x1 := pw_cell_below HS.out.bl y1
        have x2 := pw_cell_below HS.out.bl y2
        have x3 := pw_cell_below HS.out.bl y3
        have x4 := pw_cell_below HS.out.bl y4
        have x5 := pw_cell_below HS.out.bl y5
        have x6 := pw_cell_below HS.out.bl y6
        have x7 := pw_cell_below HS.out.bl y7
        clear y0 y1 y2 y3 y4 y5 y6 y7
        go_upto_region 14 with (first
          | ((with_reducible refine (HD.out _ HS.out).mono ?_); rintro e w3 ⟨A2, c2, rfl, hb, ht, ho⟩; have HM2 := Aside0.mk (Foot.only HM2.out ho (fun i hi => hi)); have HM1 := Aside0.mk (Foot.only HM1.out ho (fun i hi => hi)); have HS3 := Aside0.mk (HS.out.told ht ho); have HBA : Aside0 (Below w3.heap.size w3 (w3.alloc (.cells #[.string rk, .int .i64 t1, .int .i64 t2, .int .i64 t3, .bool rh, .slice A2 rb.length c2, .bool rw_, .int .i64 rt] 52))) := ⟨below_alloc (Below.refl _ _) _⟩; have HM2 := Aside0.mk (Foot.step HM2.out (fun i _ hlt => HBA.out.block i hlt)); have HM1 := Aside0.mk (Foot.step HM1.out (fun i _ hlt => HBA.out.block i hlt)); have HS4 := Aside0.mk (HS3.out.below HBA.out); clear hb ht ho)
          | ((with_reducible refine (HCV.out _ HS4.out.t).mono ?_); rintro e w5 ⟨A5, c5, rfl, hc5, hF, hb⟩; have HR5 := Aside0.mk (Kd.F_now hF); have HM2 := Aside0.mk (Foot.step HM2.out (fun i _ hlt => hb.block i hlt)); have HM1 := Aside0.mk (Foot.step HM1.out (fun i _ hlt => hb.block i hlt)); have HS5 := Aside0.mk (HS4.out.below hb); have z0 := pw_cell_below HS5.out.bl Z0.out; have z1 := pw_cell_below HS5.out.bl Z1.out; clear hb hF)
          | ((with_reducible refine (HZV.out _ HS5.out.t).mono ?_); rintro e w6 ⟨rfl, h⟩; have HR5 := Aside0.mk (Kd.C_below HR5.out h); have HM2 := Aside0.mk (Foot.step HM2.out (fun i _ hlt => h.block i hlt)); have HM1 := Aside0.mk (Foot.step HM1.out (fun i _ hlt => h.block i hlt)); have HS6 := Aside0.mk (HS5.out.below h); have z0 := pw_cell_below HS6.out.bl Z0.out; have z1 := pw_cell_below HS6.out.bl Z1.out; clear h))
        clear HS3 HS4 HS5 HBA
        go_cut [97] (fun v wx => v = .bool false ∧ Aside0 (LS w p mb tb V wx) ∧ Aside0 (Below w6.heap.size w6 wx))
        case first =>
          by_cases hs : se = 30
          · subst hs
            have hVT : V = T := HBY.out rfl
            subst hVT
            have HSI : Aside0 (∀ g cap w', (kInt .i64).C w' (some ⟨g, 0, none⟩) V.tok.length V.tok → (kInt .i64).C w' (some ⟨g1, 0, none⟩) V.tok.length V.tok → Calls Try.prog 28 #[.slice (some ⟨g, 0, none⟩) V.tok.length cap, .slice (some ⟨g1, 0, none⟩) V.tok.length cg1] w' (Cmp.Is true w')) := ⟨fun g cap w' h1 h2 => by
              have := Cmp.sameInts_calls V.tok V.tok _ _ cap cg1 w' h1 h2
              rw [decide_eq_true rfl] at this
              exact this⟩
            go_wp2_with (first
              | ((with_reducible refine (Cmp.sameCells_refl _ _ _ _ _ _ (Foot.now HM1.out) HR5.out).mono ?_); rintro e w7 ⟨rfl, hb⟩; have HM2 := Aside0.mk (Foot.step HM2.out (fun i _ hlt => hb.block i hlt)); have HB7 := Aside0.mk hb; have HS7 := Aside0.mk (HS6.out.below hb); clear hb)
              | ((with_reducible refine (HKV.out _ HS7.out.t).mono ?_); rintro e w8 ⟨g8, cg8, rfl, hg8, hgc8, hB, _, hb⟩; have HT8 := Aside0.mk (blk_ints hB HI1.out (by omega)); have HM2 := Aside0.mk (Foot.step HM2.out (fun i _ hlt => hb.block i hlt)); have HB8 := Aside0.mk (Below.then_ HB7.out hb (Nat.le_refl _)); have HS8 := Aside0.mk (HS7.out.below hb); clear hb hB hg8 hgc8)
              | ((with_reducible refine (HSI.out _ _ _ HT8.out (Foot.now HM2.out)).mono ?_); rintro e w9 ⟨rfl, hb⟩; have HB9 := Aside0.mk (Below.then_ HB8.out hb (Nat.le_refl _)); have HS9 := Aside0.mk (HS8.out.below hb); clear hb))
            go_meet
            exact ⟨rfl, HS9, HB9⟩
          · have hsb : (se == 30) = false := by simpa using hs
            clear hs
            go_wp2
            go_meet
            exact ⟨rfl, HS6, ⟨Below.refl _ _⟩⟩
        case rest =>
          obtain ⟨rfl, HSV, HB7⟩ := hcut
          have HRA := Aside0.mk (Kd.C_below (Foot.now HM1.out) HB7.out)
          have HRB := Aside0.mk (Kd.C_below HR5.out HB7.out)
          clear HM1 HM2 HR5 HB7 HS6 HD HCV HKV HZV HC1 HK1 x0 x1 x2 x3 x4 x5 x6 x7
          go_upto_region 17 with (fail)
          obtain ⟨w7, hw7⟩ : ∃ w7, w7 = wc := ⟨_, rfl⟩
          rw [← hw7] at HSV HRA HRB
          rw [← hw7]
          clear hw7
          go_loopg [16] T.l.length (fun gj v wr => ∃ q : Nat, v = .int .i64 (q : Int) ∧ q ≤ T.l.length ∧ Aside0 (gj + q = T.l.length) ∧ Aside0 (Below w7.heap.size w7 wr))
          case atStart => exact ⟨0, rfl, Nat.zero_le _, ⟨rfl⟩, ⟨Below.refl _ _⟩⟩
          case round =>
            obtain ⟨q, rfl, hq, HG2, HR7⟩ := hrel
            by_cases hlt2 : q < T.l.length
            · obtain ⟨aa, u, A7, c7, rfl, HU, x0, x1, x2, x3, x4, x5, x6, x7, x8, _⟩ := Cell.at_ (Kd.C_below HRA.out HR7.out) q hlt2
              have hltI2 : (q : Int) < (T.l.length : Int) := by omega
              have HUK : Aside0 (u.clean = false → Holds u V) := ⟨HKP.out u (List.mem_of_getElem? HU.out)⟩
              cases huc : u.clean with
              | true =>
                rw [huc] at x7
                clear huc
                go_wp2
                go_roundg (T.l.length - (q + 1))
                case measure => have := HG2.out; omega
                case rel => exact ⟨q + 1, by go_num, by omega, ⟨by omega⟩, HR7⟩
              | false =>
                rw [huc] at x7
                have HHO := Aside0.mk (thereB_of (HUK.out huc))
                clear huc
                go_upto_region 22 with (fail)
                obtain ⟨w8, hw8⟩ : ∃ w8, w8 = wr := ⟨_, rfl⟩
                rw [← hw8] at HR7 x0 x1 x2 x3 x4 x5 x6 x7 x8
                rw [← hw8]
                clear hw8
                have HX8 := Aside0.mk (And.intro x0 (And.intro x1 (And.intro x2 x3)))
                clear x0 x1 x2 x3 x4 x5 x6 x7 x8
                have HRV := Aside0.mk (Kd.C_below HRB.out HR7.out)
                go_loopg [17, 18] V.l.length (fun gj v17 v18 wr => ∃ (j : Nat) (b : Bool), v17 = .bool b ∧ v18 = .int .i64 (j : Int) ∧ j ≤ V.l.length ∧ Aside0 (gj + j = V.l.length) ∧ Aside0 (b = thereB V.l u j) ∧ Aside0 (Below w8.heap.size w8 wr))
                case atStart => exact ⟨0, false, rfl, rfl, Nat.zero_le _, ⟨rfl⟩, ⟨rfl⟩, ⟨Below.refl _ _⟩⟩
                case round =>
                  obtain ⟨j, b, rfl, rfl, hj, HG3, HBB, HR8⟩ := hrel
                  by_cases hlt3 : j < V.l.length
                  · obtain ⟨x0, x1, x2, x3⟩ := HX8.out
                    have x0 := pw_cell_below HR8.out x0
                    have x1 := pw_cell_below HR8.out x1
                    have x2 := pw_cell_below HR8.out x2
                    have x3 := pw_cell_below HR8.out x3
                    obtain ⟨av, y, A8, c8, rfl, HY2, y0, y1, y2, y3, y4, y5, y6, y7, y8, _⟩ := Cell.at_ (Kd.C_below HRV.out HR8.out) j hlt3
                    have hltI3 : (j : Int) < (V.l.length : Int) := by omega
                    have HTS := Aside0.mk (thereB_succ (c := u) HY2.out)
                    have HDR : Aside0 (Below w8.heap.size w8 wr.drew) := ⟨below_drew HR8.out⟩
                    obtain ⟨⟨uk, ⟨u1, u2, u3⟩, ⟨uh, ub⟩⟩, uw, uc, uu⟩ := u
                    obtain ⟨⟨yk, ⟨v1, v2, v3⟩, ⟨yh, yb⟩⟩, yw, yc, yu⟩ := y
                    dsimp only at x0 x1 x2 x3 y0 y1 y2 y3 y4 y5 HTS
                    have x0 := fun w' (h : Below wr.heap.size wr w') => pw_cell_below h x0
                    have x1 := fun w' (h : Below wr.heap.size wr w') => pw_cell_below h x1
                    have x2 := fun w' (h : Below wr.heap.size wr w') => pw_cell_below h x2
                    have x3 := fun w' (h : Below wr.heap.size wr w') => pw_cell_below h x3
                    have y0 := fun w' (h : Below wr.heap.size wr w') => pw_cell_below h y0
                    have y1 := fun w' (h : Below wr.heap.size wr w') => pw_cell_below h y1
                    have y2 := fun w' (h : Below wr.heap.size wr w') => pw_cell_below h y2
                    have y3 := fun w' (h : Below wr.heap.size wr w') => pw_cell_below h y3
                    have y4 := fun w' (h : Below wr.heap.size wr w') => pw_cell_below h y4
                    have y5 := fun w' (h : Below wr.heap.size wr w') => pw_cell_below h y5
                    cases b with
                    | true =>
                      have HH : Aside0 (true = thereB V.l ⟨⟨uk, ⟨u1, u2, u3⟩, ⟨uh, ub⟩⟩, uw, uc, uu⟩ (j + 1)) := ⟨by rw [HTS.out, ← HBB.out]; rfl⟩
                      go_upto_region 24 with (fail)
                      refine wp_region_noPanic ?_
                      refine wp_region_held_drew (S := Below wr.heap.size wr) (by kernel_rfl) (below_drew (Below.refl _ _)) (fun hHeld => ?_)
                      (refine takeH 0 115 (v := ?_) rfl rfl (by kernel_rfl) (by kernel_rfl) (by kernel_rfl) (fun _ _ _ h => h) hHeld rfl ?_ ?_; rotate_left; (focus (intro w' hSw; go_simp; try with_reducible rfl)))
                      (try simp only [Act.put, List.setIfInBounds_toArray, List.set_cons_zero, List.set_cons_succ])
                      (refine takeH 1 116 (v := ?_) rfl rfl (by kernel_rfl) (by kernel_rfl) (by kernel_rfl) (fun _ _ _ h => h) hHeld rfl ?_ ?_; rotate_left; (focus (intro w' hSw; go_simp; try with_reducible rfl)))
                      (try simp only [Act.put, List.setIfInBounds_toArray, List.set_cons_zero, List.set_cons_succ])
                      (first | (refine skipH 2 117 rfl rfl (by kernel_rfl) (by kernel_rfl) (by kernel_rfl) (fun _ _ _ h => h) hHeld rfl ?_) | (refine takeH 2 117 (v := ?_) rfl rfl (by kernel_rfl) (by kernel_rfl) (by kernel_rfl) (fun _ _ _ h => h) hHeld rfl ?_ ?_; rotate_left; (focus (intro w' hSw; go_simp; try with_reducible rfl))))
                      (try simp only [Act.put, List.setIfInBounds_toArray, List.set_cons_zero, List.set_cons_succ])
                      (first | (refine skipH 3 118 rfl rfl (by kernel_rfl) (by kernel_rfl) (by kernel_rfl) (fun _ _ _ h => h) hHeld rfl ?_) | (refine takeH 3 118 (v := ?_) rfl rfl (by kernel_rfl) (by kernel_rfl) (by kernel_rfl) (fun _ _ _ h => h) hHeld rfl ?_ ?_; rotate_left; (focus (intro w' hSw; go_simp; try with_reducible rfl))))
                      (try simp only [Act.put, List.setIfInBounds_toArray, List.set_cons_zero, List.set_cons_succ])
                      (first | (refine skipH 4 119 rfl rfl (by kernel_rfl) (by kernel_rfl) (by kernel_rfl) (fun _ _ _ h => h) hHeld rfl ?_) | (refine takeH 4 119 (v := ?_) rfl rfl (by kernel_rfl) (by kernel_rfl) (by kernel_rfl) (fun _ _ _ h => h) hHeld rfl ?_ ?_; rotate_left; (focus (intro w' hSw; go_simp; try with_reducible rfl))))
                      (try simp only [Act.put, List.setIfInBounds_toArray, List.set_cons_zero, List.set_cons_succ])
                      (first | (refine skipH 5 120 rfl rfl (by kernel_rfl) (by kernel_rfl) (by kernel_rfl) (fun _ _ _ h => h) hHeld rfl ?_) | (refine takeH 5 120 (v := ?_) rfl rfl (by kernel_rfl) (by kernel_rfl) (by kernel_rfl) (fun _ _ _ h => h) hHeld rfl ?_ ?_; rotate_left; (focus (intro w' hSw; go_simp; try with_reducible rfl))))
                      (try simp only [Act.put, List.setIfInBounds_toArray, List.set_cons_zero, List.set_cons_succ])
                      (first | (refine skipH 6 121 rfl rfl (by kernel_rfl) (by kernel_rfl) (by kernel_rfl) (fun _ _ _ h => h) hHeld rfl ?_) | (refine takeH 6 121 (v := ?_) rfl rfl (by kernel_rfl) (by kernel_rfl) (by kernel_rfl) (fun _ _ _ h => h) hHeld rfl ?_ ?_; rotate_left; (focus (intro w' hSw; go_simp; try with_reducible rfl))))
                      (try simp only [Act.put, List.setIfInBounds_toArray, List.set_cons_zero, List.set_cons_succ])
                      (first | (refine skipH 7 122 rfl rfl (by kernel_rfl) (by kernel_rfl) (by kernel_rfl) (fun _ _ _ h => h) hHeld rfl ?_) | (refine takeH 7 122 (v := ?_) rfl rfl (by kernel_rfl) (by kernel_rfl) (by kernel_rfl) (fun _ _ _ h => h) hHeld rfl ?_ ?_; rotate_left; (focus (intro w' hSw; go_simp; try with_reducible rfl))))
                      (try simp only [Act.put, List.setIfInBounds_toArray, List.set_cons_zero, List.set_cons_succ])
                      (first | (refine skipH 8 123 rfl rfl (by kernel_rfl) (by kernel_rfl) (by kernel_rfl) (fun _ _ _ h => h) hHeld rfl ?_) | (refine takeH 8 123 (v := ?_) rfl rfl (by kernel_rfl) (by kernel_rfl) (by kernel_rfl) (fun _ _ _ h => h) hHeld rfl ?_ ?_; rotate_left; (focus (intro w' hSw; go_simp; try with_reducible rfl))))
                      (try simp only [Act.put, List.setIfInBounds_toArray, List.set_cons_zero, List.set_cons_succ])
                      (first | (refine skipH 9 124 rfl rfl (by kernel_rfl) (by kernel_rfl) (by kernel_rfl) (fun _ _ _ h => h) hHeld rfl ?_) | (refine takeH 9 124 (v := ?_) rfl rfl (by kernel_rfl) (by kernel_rfl) (by kernel_rfl) (fun _ _ _ h => h) hHeld rfl ?_ ?_; rotate_left; (focus (intro w' hSw; go_simp; try with_reducible rfl))))
                      (try simp only [Act.put, List.setIfInBounds_toArray, List.set_cons_zero, List.set_cons_succ])
                      (first | (refine skipH 10 125 rfl rfl (by kernel_rfl) (by kernel_rfl) (by kernel_rfl) (fun _ _ _ h => h) hHeld rfl ?_) | (refine takeH 10 125 (v := ?_) rfl rfl (by kernel_rfl) (by kernel_rfl) (by kernel_rfl) (fun _ _ _ h => h) hHeld rfl ?_ ?_; rotate_left; (focus (intro w' hSw; go_simp; try with_reducible rfl))))
                      (try simp only [Act.put, List.setIfInBounds_toArray, List.set_cons_zero, List.set_cons_succ])
                      (first | (refine skipH 11 126 rfl rfl (by kernel_rfl) (by kernel_rfl) (by kernel_rfl) (fun _ _ _ h => h) hHeld rfl ?_) | (refine takeH 11 126 (v := ?_) rfl rfl (by kernel_rfl) (by kernel_rfl) (by kernel_rfl) (fun _ _ _ h => h) hHeld rfl ?_ ?_; rotate_left; (focus (intro w' hSw; go_simp; try with_reducible rfl))))
                      (try simp only [Act.put, List.setIfInBounds_toArray, List.set_cons_zero, List.set_cons_succ])
                      (first | (refine skipH 12 127 rfl rfl (by kernel_rfl) (by kernel_rfl) (by kernel_rfl) (fun _ _ _ h => h) hHeld rfl ?_) | (refine takeH 12 127 (v := ?_) rfl rfl (by kernel_rfl) (by kernel_rfl) (by kernel_rfl) (fun _ _ _ h => h) hHeld rfl ?_ ?_; rotate_left; (focus (intro w' hSw; go_simp; try with_reducible rfl))))
                      (try simp only [Act.put, List.setIfInBounds_toArray, List.set_cons_zero, List.set_cons_succ])
                      (first | (refine skipH 13 128 rfl rfl (by kernel_rfl) (by kernel_rfl) (by kernel_rfl) (fun _ _ _ h => h) hHeld rfl ?_) | (refine takeH 13 128 (v := ?_) rfl rfl (by kernel_rfl) (by kernel_rfl) (by kernel_rfl) (fun _ _ _ h => h) hHeld rfl ?_ ?_; rotate_left; (focus (intro w' hSw; go_simp; try with_reducible rfl))))
                      (try simp only [Act.put, List.setIfInBounds_toArray, List.set_cons_zero, List.set_cons_succ])
                      (first | (refine skipH 14 129 rfl rfl (by kernel_rfl) (by kernel_rfl) (by kernel_rfl) (fun _ _ _ h => h) hHeld rfl ?_) | (refine takeH 14 129 (v := ?_) rfl rfl (by kernel_rfl) (by kernel_rfl) (by kernel_rfl) (fun _ _ _ h => h) hHeld rfl ?_ ?_; rotate_left; (focus (intro w' hSw; go_simp; try with_reducible rfl))))
                      (try simp only [Act.put, List.setIfInBounds_toArray, List.set_cons_zero, List.set_cons_succ])
                      (first | (refine skipH 15 130 rfl rfl (by kernel_rfl) (by kernel_rfl) (by kernel_rfl) (fun _ _ _ h => h) hHeld rfl ?_) | (refine takeH 15 130 (v := ?_) rfl rfl (by kernel_rfl) (by kernel_rfl) (by kernel_rfl) (fun _ _ _ h => h) hHeld rfl ?_ ?_; rotate_left; (focus (intro w' hSw; go_simp; try with_reducible rfl))))
                      (try simp only [Act.put, List.setIfInBounds_toArray, List.set_cons_zero, List.set_cons_succ])
                      (first | (refine skipH 16 131 rfl rfl (by kernel_rfl) (by kernel_rfl) (by kernel_rfl) (fun _ _ _ h => h) hHeld rfl ?_) | (refine takeH 16 131 (v := ?_) rfl rfl (by kernel_rfl) (by kernel_rfl) (by kernel_rfl) (fun _ _ _ h => h) hHeld rfl ?_ ?_; rotate_left; (focus (intro w' hSw; go_simp; try with_reducible rfl))))
                      (try simp only [Act.put, List.setIfInBounds_toArray, List.set_cons_zero, List.set_cons_succ])
                      (first | (refine skipH 17 132 rfl rfl (by kernel_rfl) (by kernel_rfl) (by kernel_rfl) (fun _ _ _ h => h) hHeld rfl ?_) | (refine takeH 17 132 (v := ?_) rfl rfl (by kernel_rfl) (by kernel_rfl) (by kernel_rfl) (fun _ _ _ h => h) hHeld rfl ?_ ?_; rotate_left; (focus (intro w' hSw; go_simp; try with_reducible rfl))))
                      (try simp only [Act.put, List.setIfInBounds_toArray, List.set_cons_zero, List.set_cons_succ])
                      (first | (refine skipH 18 133 rfl rfl (by kernel_rfl) (by kernel_rfl) (by kernel_rfl) (fun _ _ _ h => h) hHeld rfl ?_) | (refine takeH 18 133 (v := ?_) rfl rfl (by kernel_rfl) (by kernel_rfl) (by kernel_rfl) (fun _ _ _ h => h) hHeld rfl ?_ ?_; rotate_left; (focus (intro w' hSw; go_simp; try with_reducible rfl))))
                      (try simp only [Act.put, List.setIfInBounds_toArray, List.set_cons_zero, List.set_cons_succ])
                      (first | (refine skipH 19 134 rfl rfl (by kernel_rfl) (by kernel_rfl) (by kernel_rfl) (fun _ _ _ h => h) hHeld rfl ?_) | (refine takeH 19 134 (v := ?_) rfl rfl (by kernel_rfl) (by kernel_rfl) (by kernel_rfl) (fun _ _ _ h => h) hHeld rfl ?_ ?_; rotate_left; (focus (intro w' hSw; go_simp; try with_reducible rfl))))
                      (try simp only [Act.put, List.setIfInBounds_toArray, List.set_cons_zero, List.set_cons_succ])
                      (first | (refine skipH 20 135 rfl rfl (by kernel_rfl) (by kernel_rfl) (by kernel_rfl) (fun _ _ _ h => h) hHeld rfl ?_) | (refine takeH 20 135 (v := ?_) rfl rfl (by kernel_rfl) (by kernel_rfl) (by kernel_rfl) (fun _ _ _ h => h) hHeld rfl ?_ ?_; rotate_left; (focus (intro w' hSw; go_simp; try with_reducible rfl))))
                      (try simp only [Act.put, List.setIfInBounds_toArray, List.set_cons_zero, List.set_cons_succ])
                      (first | (refine skipH 21 136 rfl rfl (by kernel_rfl) (by kernel_rfl) (by kernel_rfl) (fun _ _ _ h => h) hHeld rfl ?_) | (refine takeH 21 136 (v := ?_) rfl rfl (by kernel_rfl) (by kernel_rfl) (by kernel_rfl) (fun _ _ _ h => h) hHeld rfl ?_ ?_; rotate_left; (focus (intro w' hSw; go_simp; try with_reducible rfl))))
                      (try simp only [Act.put, List.setIfInBounds_toArray, List.set_cons_zero, List.set_cons_succ])
                      (first | (refine skipH 22 137 rfl rfl (by kernel_rfl) (by kernel_rfl) (by kernel_rfl) (fun _ _ _ h => h) hHeld rfl ?_) | (refine takeH 22 137 (v := ?_) rfl rfl (by kernel_rfl) (by kernel_rfl) (by kernel_rfl) (fun _ _ _ h => h) hHeld rfl ?_ ?_; rotate_left; (focus (intro w' hSw; go_simp; try with_reducible rfl))))
                      (try simp only [Act.put, List.setIfInBounds_toArray, List.set_cons_zero, List.set_cons_succ])
                      (first | (refine skipH 23 138 rfl rfl (by kernel_rfl) (by kernel_rfl) (by kernel_rfl) (fun _ _ _ h => h) hHeld rfl ?_) | (refine takeH 23 138 (v := ?_) rfl rfl (by kernel_rfl) (by kernel_rfl) (by kernel_rfl) (fun _ _ _ h => h) hHeld rfl ?_ ?_; rotate_left; (focus (intro w' hSw; go_simp; try with_reducible rfl))))
                      (try simp only [Act.put, List.setIfInBounds_toArray, List.set_cons_zero, List.set_cons_succ])
                      (first | (refine skipH 24 139 rfl rfl (by kernel_rfl) (by kernel_rfl) (by kernel_rfl) (fun _ _ _ h => h) hHeld rfl ?_) | (refine takeH 24 139 (v := ?_) rfl rfl (by kernel_rfl) (by kernel_rfl) (by kernel_rfl) (fun _ _ _ h => h) hHeld rfl ?_ ?_; rotate_left; (focus (intro w' hSw; go_simp; try with_reducible rfl))))
                      (try simp only [Act.put, List.setIfInBounds_toArray, List.set_cons_zero, List.set_cons_succ])
                      (first | (refine skipH 25 140 rfl rfl (by kernel_rfl) (by kernel_rfl) (by kernel_rfl) (fun _ _ _ h => h) hHeld rfl ?_) | (refine takeH 25 140 (v := ?_) rfl rfl (by kernel_rfl) (by kernel_rfl) (by kernel_rfl) (fun _ _ _ h => h) hHeld rfl ?_ ?_; rotate_left; (focus (intro w' hSw; go_simp; try with_reducible rfl))))
                      (try simp only [Act.put, List.setIfInBounds_toArray, List.set_cons_zero, List.set_cons_succ])
                      (first | (refine skipH 26 141 rfl rfl (by kernel_rfl) (by kernel_rfl) (by kernel_rfl) (fun _ _ _ h => h) hHeld rfl ?_) | (refine takeH 26 141 (v := ?_) rfl rfl (by kernel_rfl) (by kernel_rfl) (by kernel_rfl) (fun _ _ _ h => h) hHeld rfl ?_ ?_; rotate_left; (focus (intro w' hSw; go_simp; try with_reducible rfl))))
                      (try simp only [Act.put, List.setIfInBounds_toArray, List.set_cons_zero, List.set_cons_succ])
                      (first | (refine skipH 27 142 rfl rfl (by kernel_rfl) (by kernel_rfl) (by kernel_rfl) (fun _ _ _ h => h) hHeld rfl ?_) | (refine takeH 27 142 (v := ?_) rfl rfl (by kernel_rfl) (by kernel_rfl) (by kernel_rfl) (fun _ _ _ h => h) hHeld rfl ?_ ?_; rotate_left; (focus (intro w' hSw; go_simp; try with_reducible rfl))))
                      (try simp only [Act.put, List.setIfInBounds_toArray, List.set_cons_zero, List.set_cons_succ])
                      (first | (refine skipH 28 143 rfl rfl (by kernel_rfl) (by kernel_rfl) (by kernel_rfl) (fun _ _ _ h => h) hHeld rfl ?_) | (refine takeH 28 143 (v := ?_) rfl rfl (by kernel_rfl) (by kernel_rfl) (by kernel_rfl) (fun _ _ _ h => h) hHeld rfl ?_ ?_; rotate_left; (focus (intro w' hSw; go_simp; try with_reducible rfl))))
                      (try simp only [Act.put, List.setIfInBounds_toArray, List.set_cons_zero, List.set_cons_succ])
                      (first | (refine skipH 29 144 rfl rfl (by kernel_rfl) (by kernel_rfl) (by kernel_rfl) (fun _ _ _ h => h) hHeld rfl ?_) | (refine takeH 29 144 (v := ?_) rfl rfl (by kernel_rfl) (by kernel_rfl) (by kernel_rfl) (fun _ _ _ h => h) hHeld rfl ?_ ?_; rotate_left; (focus (intro w' hSw; go_simp; try with_reducible rfl))))
                      (try simp only [Act.put, List.setIfInBounds_toArray, List.set_cons_zero, List.set_cons_succ])
                      (first | (refine skipH 30 145 rfl rfl (by kernel_rfl) (by kernel_rfl) (by kernel_rfl) (fun _ _ _ h => h) hHeld rfl ?_) | (refine takeH 30 145 (v := ?_) rfl rfl (by kernel_rfl) (by kernel_rfl) (by kernel_rfl) (fun _ _ _ h => h) hHeld rfl ?_ ?_; rotate_left; (focus (intro w' hSw; go_simp; try with_reducible rfl))))
                      (try simp only [Act.put, List.setIfInBounds_toArray, List.set_cons_zero, List.set_cons_succ])
                      (refine takeH 31 146 (v := ?_) rfl rfl (by kernel_rfl) (by kernel_rfl) (by kernel_rfl) (fun _ _ _ h => h) hHeld rfl ?_ ?_; rotate_left; (focus (intro w' hSw; go_simp; try with_reducible rfl)))
                      (try simp only [Act.put, List.setIfInBounds_toArray, List.set_cons_zero, List.set_cons_succ])
                      (refine takeH 32 17 (v := ?_) rfl rfl (by kernel_rfl) (by kernel_rfl) (by kernel_rfl) (fun _ _ _ h => h) hHeld rfl ?_ ?_; rotate_left; (focus (intro w' hSw; go_simp; try with_reducible rfl)))
                      (try simp only [Act.put, List.setIfInBounds_toArray, List.set_cons_zero, List.set_cons_succ])
                      refine wpAnyH_done (by kernel_rfl) ?_ _
                      refine NoPanic.normal ?_
                      go_wp2
                      go_roundg (V.l.length - (j + 1))
                      case measure => have := HG3.out; omega
                      case rel => exact ⟨j + 1, true, rfl, by go_num, by omega, ⟨by omega⟩, HH, HDR⟩
                    | false =>
                      by_cases hky : yk = uk
                      · subst hky
                        have hkb := Cmp.txt_refl yk
                        have HH : Aside0 (decide (0 ≤ cmpT ⟨v1, v2, v3⟩ ⟨u1, u2, u3⟩) = thereB V.l ⟨⟨yk, ⟨u1, u2, u3⟩, ⟨uh, ub⟩⟩, uw, uc, uu⟩ (j + 1)) := ⟨by rw [HTS.out, ← HBB.out]; simp⟩
                        have HCM := Aside0.mk (fun w' => compareR_calls ⟨v1, v2, v3⟩ ⟨u1, u2, u3⟩ w')
                        go_upto_region 24 with (fail)
                        refine wp_region_noPanic ?_
                        refine wp_region_held_drew (S := Below wr.heap.size wr) (by kernel_rfl) (below_drew (Below.refl _ _)) (fun hHeld => ?_)
                        (refine takeH 0 115 (v := ?_) rfl rfl (by kernel_rfl) (by kernel_rfl) (by kernel_rfl) (fun _ _ _ h => h) hHeld rfl ?_ ?_; rotate_left; (focus (intro w' hSw; go_simp; try with_reducible rfl)))
                        (try simp only [Act.put, List.setIfInBounds_toArray, List.set_cons_zero, List.set_cons_succ])
                        (refine takeH 1 116 (v := ?_) rfl rfl (by kernel_rfl) (by kernel_rfl) (by kernel_rfl) (fun _ _ _ h => h) hHeld rfl ?_ ?_; rotate_left; (focus (intro w' hSw; go_simp; try with_reducible rfl)))
                        (try simp only [Act.put, List.setIfInBounds_toArray, List.set_cons_zero, List.set_cons_succ])
                        (first | (refine skipH 2 117 rfl rfl (by kernel_rfl) (by kernel_rfl) (by kernel_rfl) (fun _ _ _ h => h) hHeld rfl ?_) | (refine takeH 2 117 (v := ?_) rfl rfl (by kernel_rfl) (by kernel_rfl) (by kernel_rfl) (fun _ _ _ h => h) hHeld rfl ?_ ?_; rotate_left; (focus (intro w' hSw; go_simp; try with_reducible rfl))))
                        (try simp only [Act.put, List.setIfInBounds_toArray, List.set_cons_zero, List.set_cons_succ])
                        (first | (refine skipH 3 118 rfl rfl (by kernel_rfl) (by kernel_rfl) (by kernel_rfl) (fun _ _ _ h => h) hHeld rfl ?_) | (refine takeH 3 118 (v := ?_) rfl rfl (by kernel_rfl) (by kernel_rfl) (by kernel_rfl) (fun _ _ _ h => h) hHeld rfl ?_ ?_; rotate_left; (focus (intro w' hSw; go_simp; try with_reducible rfl))))
                        (try simp only [Act.put, List.setIfInBounds_toArray, List.set_cons_zero, List.set_cons_succ])
                        (first | (refine skipH 4 119 rfl rfl (by kernel_rfl) (by kernel_rfl) (by kernel_rfl) (fun _ _ _ h => h) hHeld rfl ?_) | (refine takeH 4 119 (v := ?_) rfl rfl (by kernel_rfl) (by kernel_rfl) (by kernel_rfl) (fun _ _ _ h => h) hHeld rfl ?_ ?_; rotate_left; (focus (intro w' hSw; go_simp; try with_reducible rfl))))
                        (try simp only [Act.put, List.setIfInBounds_toArray, List.set_cons_zero, List.set_cons_succ])
                        (first | (refine skipH 5 120 rfl rfl (by kernel_rfl) (by kernel_rfl) (by kernel_rfl) (fun _ _ _ h => h) hHeld rfl ?_) | (refine takeH 5 120 (v := ?_) rfl rfl (by kernel_rfl) (by kernel_rfl) (by kernel_rfl) (fun _ _ _ h => h) hHeld rfl ?_ ?_; rotate_left; (focus (intro w' hSw; go_simp; try with_reducible rfl))))
                        (try simp only [Act.put, List.setIfInBounds_toArray, List.set_cons_zero, List.set_cons_succ])
                        (first | (refine skipH 6 121 rfl rfl (by kernel_rfl) (by kernel_rfl) (by kernel_rfl) (fun _ _ _ h => h) hHeld rfl ?_) | (refine takeH 6 121 (v := ?_) rfl rfl (by kernel_rfl) (by kernel_rfl) (by kernel_rfl) (fun _ _ _ h => h) hHeld rfl ?_ ?_; rotate_left; (focus (intro w' hSw; go_simp; try with_reducible rfl))))
                        (try simp only [Act.put, List.setIfInBounds_toArray, List.set_cons_zero, List.set_cons_succ])
                        (first | (refine skipH 7 122 rfl rfl (by kernel_rfl) (by kernel_rfl) (by kernel_rfl) (fun _ _ _ h => h) hHeld rfl ?_) | (refine takeH 7 122 (v := ?_) rfl rfl (by kernel_rfl) (by kernel_rfl) (by kernel_rfl) (fun _ _ _ h => h) hHeld rfl ?_ ?_; rotate_left; (focus (intro w' hSw; go_simp; try with_reducible rfl))))
                        (try simp only [Act.put, List.setIfInBounds_toArray, List.set_cons_zero, List.set_cons_succ])
                        (first | (refine skipH 8 123 rfl rfl (by kernel_rfl) (by kernel_rfl) (by kernel_rfl) (fun _ _ _ h => h) hHeld rfl ?_) | (refine takeH 8 123 (v := ?_) rfl rfl (by kernel_rfl) (by kernel_rfl) (by kernel_rfl) (fun _ _ _ h => h) hHeld rfl ?_ ?_; rotate_left; (focus (intro w' hSw; go_simp; try with_reducible rfl))))
                        (try simp only [Act.put, List.setIfInBounds_toArray, List.set_cons_zero, List.set_cons_succ])
                        (first | (refine skipH 9 124 rfl rfl (by kernel_rfl) (by kernel_rfl) (by kernel_rfl) (fun _ _ _ h => h) hHeld rfl ?_) | (refine takeH 9 124 (v := ?_) rfl rfl (by kernel_rfl) (by kernel_rfl) (by kernel_rfl) (fun _ _ _ h => h) hHeld rfl ?_ ?_; rotate_left; (focus (intro w' hSw; go_simp; try with_reducible rfl))))
                        (try simp only [Act.put, List.setIfInBounds_toArray, List.set_cons_zero, List.set_cons_succ])
                        (first | (refine skipH 10 125 rfl rfl (by kernel_rfl) (by kernel_rfl) (by kernel_rfl) (fun _ _ _ h => h) hHeld rfl ?_) | (refine takeH 10 125 (v := ?_) rfl rfl (by kernel_rfl) (by kernel_rfl) (by kernel_rfl) (fun _ _ _ h => h) hHeld rfl ?_ ?_; rotate_left; (focus (intro w' hSw; go_simp; try with_reducible rfl))))
                        (try simp only [Act.put, List.setIfInBounds_toArray, List.set_cons_zero, List.set_cons_succ])
                        (first | (refine skipH 11 126 rfl rfl (by kernel_rfl) (by kernel_rfl) (by kernel_rfl) (fun _ _ _ h => h) hHeld rfl ?_) | (refine takeH 11 126 (v := ?_) rfl rfl (by kernel_rfl) (by kernel_rfl) (by kernel_rfl) (fun _ _ _ h => h) hHeld rfl ?_ ?_; rotate_left; (focus (intro w' hSw; go_simp; try with_reducible rfl))))
                        (try simp only [Act.put, List.setIfInBounds_toArray, List.set_cons_zero, List.set_cons_succ])
                        (first | (refine skipH 12 127 rfl rfl (by kernel_rfl) (by kernel_rfl) (by kernel_rfl) (fun _ _ _ h => h) hHeld rfl ?_) | (refine takeH 12 127 (v := ?_) rfl rfl (by kernel_rfl) (by kernel_rfl) (by kernel_rfl) (fun _ _ _ h => h) hHeld rfl ?_ ?_; rotate_left; (focus (intro w' hSw; go_simp; try with_reducible rfl))))
                        (try simp only [Act.put, List.setIfInBounds_toArray, List.set_cons_zero, List.set_cons_succ])
                        (first | (refine skipH 13 128 rfl rfl (by kernel_rfl) (by kernel_rfl) (by kernel_rfl) (fun _ _ _ h => h) hHeld rfl ?_) | (refine takeH 13 128 (v := ?_) rfl rfl (by kernel_rfl) (by kernel_rfl) (by kernel_rfl) (fun _ _ _ h => h) hHeld rfl ?_ ?_; rotate_left; (focus (intro w' hSw; go_simp; try with_reducible rfl))))
                        (try simp only [Act.put, List.setIfInBounds_toArray, List.set_cons_zero, List.set_cons_succ])
                        (first | (refine skipH 14 129 rfl rfl (by kernel_rfl) (by kernel_rfl) (by kernel_rfl) (fun _ _ _ h => h) hHeld rfl ?_) | (refine takeH 14 129 (v := ?_) rfl rfl (by kernel_rfl) (by kernel_rfl) (by kernel_rfl) (fun _ _ _ h => h) hHeld rfl ?_ ?_; rotate_left; (focus (intro w' hSw; go_simp; try with_reducible rfl))))
                        (try simp only [Act.put, List.setIfInBounds_toArray, List.set_cons_zero, List.set_cons_succ])
                        (first | (refine skipH 15 130 rfl rfl (by kernel_rfl) (by kernel_rfl) (by kernel_rfl) (fun _ _ _ h => h) hHeld rfl ?_) | (refine takeH 15 130 (v := ?_) rfl rfl (by kernel_rfl) (by kernel_rfl) (by kernel_rfl) (fun _ _ _ h => h) hHeld rfl ?_ ?_; rotate_left; (focus (intro w' hSw; go_simp; try with_reducible rfl))))
                        (try simp only [Act.put, List.setIfInBounds_toArray, List.set_cons_zero, List.set_cons_succ])
                        (first | (refine skipH 16 131 rfl rfl (by kernel_rfl) (by kernel_rfl) (by kernel_rfl) (fun _ _ _ h => h) hHeld rfl ?_) | (refine takeH 16 131 (v := ?_) rfl rfl (by kernel_rfl) (by kernel_rfl) (by kernel_rfl) (fun _ _ _ h => h) hHeld rfl ?_ ?_; rotate_left; (focus (intro w' hSw; go_simp; try with_reducible rfl))))
                        (try simp only [Act.put, List.setIfInBounds_toArray, List.set_cons_zero, List.set_cons_succ])
                        (first | (refine skipH 17 132 rfl rfl (by kernel_rfl) (by kernel_rfl) (by kernel_rfl) (fun _ _ _ h => h) hHeld rfl ?_) | (refine takeH 17 132 (v := ?_) rfl rfl (by kernel_rfl) (by kernel_rfl) (by kernel_rfl) (fun _ _ _ h => h) hHeld rfl ?_ ?_; rotate_left; (focus (intro w' hSw; go_simp; try with_reducible rfl))))
                        (try simp only [Act.put, List.setIfInBounds_toArray, List.set_cons_zero, List.set_cons_succ])
                        (first | (refine skipH 18 133 rfl rfl (by kernel_rfl) (by kernel_rfl) (by kernel_rfl) (fun _ _ _ h => h) hHeld rfl ?_) | (refine takeH 18 133 (v := ?_) rfl rfl (by kernel_rfl) (by kernel_rfl) (by kernel_rfl) (fun _ _ _ h => h) hHeld rfl ?_ ?_; rotate_left; (focus (intro w' hSw; go_simp; try with_reducible rfl))))
                        (try simp only [Act.put, List.setIfInBounds_toArray, List.set_cons_zero, List.set_cons_succ])
                        (first | (refine skipH 19 134 rfl rfl (by kernel_rfl) (by kernel_rfl) (by kernel_rfl) (fun _ _ _ h => h) hHeld rfl ?_) | (refine takeH 19 134 (v := ?_) rfl rfl (by kernel_rfl) (by kernel_rfl) (by kernel_rfl) (fun _ _ _ h => h) hHeld rfl ?_ ?_; rotate_left; (focus (intro w' hSw; go_simp; try with_reducible rfl))))
                        (try simp only [Act.put, List.setIfInBounds_toArray, List.set_cons_zero, List.set_cons_succ])
                        (first | (refine skipH 20 135 rfl rfl (by kernel_rfl) (by kernel_rfl) (by kernel_rfl) (fun _ _ _ h => h) hHeld rfl ?_) | (refine takeH 20 135 (v := ?_) rfl rfl (by kernel_rfl) (by kernel_rfl) (by kernel_rfl) (fun _ _ _ h => h) hHeld rfl ?_ ?_; rotate_left; (focus (intro w' hSw; go_simp; try with_reducible rfl))))
                        (try simp only [Act.put, List.setIfInBounds_toArray, List.set_cons_zero, List.set_cons_succ])
                        (first | (refine skipH 21 136 rfl rfl (by kernel_rfl) (by kernel_rfl) (by kernel_rfl) (fun _ _ _ h => h) hHeld rfl ?_) | (refine takeH 21 136 (v := ?_) rfl rfl (by kernel_rfl) (by kernel_rfl) (by kernel_rfl) (fun _ _ _ h => h) hHeld rfl ?_ ?_; rotate_left; (focus (intro w' hSw; go_simp; try with_reducible rfl))))
                        (try simp only [Act.put, List.setIfInBounds_toArray, List.set_cons_zero, List.set_cons_succ])
                        (first | (refine skipH 22 137 rfl rfl (by kernel_rfl) (by kernel_rfl) (by kernel_rfl) (fun _ _ _ h => h) hHeld rfl ?_) | (refine takeH 22 137 (v := ?_) rfl rfl (by kernel_rfl) (by kernel_rfl) (by kernel_rfl) (fun _ _ _ h => h) hHeld rfl ?_ ?_; rotate_left; (focus (intro w' hSw; go_simp; try with_reducible rfl))))
                        (try simp only [Act.put, List.setIfInBounds_toArray, List.set_cons_zero, List.set_cons_succ])
                        (first | (refine skipH 23 138 rfl rfl (by kernel_rfl) (by kernel_rfl) (by kernel_rfl) (fun _ _ _ h => h) hHeld rfl ?_) | (refine takeH 23 138 (v := ?_) rfl rfl (by kernel_rfl) (by kernel_rfl) (by kernel_rfl) (fun _ _ _ h => h) hHeld rfl ?_ ?_; rotate_left; (focus (intro w' hSw; go_simp; try with_reducible rfl))))
                        (try simp only [Act.put, List.setIfInBounds_toArray, List.set_cons_zero, List.set_cons_succ])
                        (first | (refine skipH 24 139 rfl rfl (by kernel_rfl) (by kernel_rfl) (by kernel_rfl) (fun _ _ _ h => h) hHeld rfl ?_) | (refine takeH 24 139 (v := ?_) rfl rfl (by kernel_rfl) (by kernel_rfl) (by kernel_rfl) (fun _ _ _ h => h) hHeld rfl ?_ ?_; rotate_left; (focus (intro w' hSw; go_simp; try with_reducible rfl))))
                        (try simp only [Act.put, List.setIfInBounds_toArray, List.set_cons_zero, List.set_cons_succ])
                        (first | (refine skipH 25 140 rfl rfl (by kernel_rfl) (by kernel_rfl) (by kernel_rfl) (fun _ _ _ h => h) hHeld rfl ?_) | (refine takeH 25 140 (v := ?_) rfl rfl (by kernel_rfl) (by kernel_rfl) (by kernel_rfl) (fun _ _ _ h => h) hHeld rfl ?_ ?_; rotate_left; (focus (intro w' hSw; go_simp; try with_reducible rfl))))
                        (try simp only [Act.put, List.setIfInBounds_toArray, List.set_cons_zero, List.set_cons_succ])
                        (first | (refine skipH 26 141 rfl rfl (by kernel_rfl) (by kernel_rfl) (by kernel_rfl) (fun _ _ _ h => h) hHeld rfl ?_) | (refine takeH 26 141 (v := ?_) rfl rfl (by kernel_rfl) (by kernel_rfl) (by kernel_rfl) (fun _ _ _ h => h) hHeld rfl ?_ ?_; rotate_left; (focus (intro w' hSw; go_simp; try with_reducible rfl))))
                        (try simp only [Act.put, List.setIfInBounds_toArray, List.set_cons_zero, List.set_cons_succ])
                        (first | (refine skipH 27 142 rfl rfl (by kernel_rfl) (by kernel_rfl) (by kernel_rfl) (fun _ _ _ h => h) hHeld rfl ?_) | (refine takeH 27 142 (v := ?_) rfl rfl (by kernel_rfl) (by kernel_rfl) (by kernel_rfl) (fun _ _ _ h => h) hHeld rfl ?_ ?_; rotate_left; (focus (intro w' hSw; go_simp; try with_reducible rfl))))
                        (try simp only [Act.put, List.setIfInBounds_toArray, List.set_cons_zero, List.set_cons_succ])
                        refine wpAnyH_ready (rs := [28]) (by kernel_rfl) (by simp) ?_
                        refine AllReadyH.cons rfl (fun K hK => ?_) AllReadyH.nil
                        go_simp
                        refine (HCM.out _).mono ?_
                        rintro e w9 ⟨rfl, h1⟩
                        have H1 := Aside0.mk (Below.then_ (below_drew (Below.refl wr.heap.size wr)) h1 (Nat.le_refl _))
                        clear h1
                        refine hK.out _ _ (H1.out) (fun hHeld => ?_)
                        clear hK K
                        (try simp only [Act.put, List.setIfInBounds_toArray, List.set_cons_zero, List.set_cons_succ])
                        (first | (refine skipH 29 144 rfl rfl (by kernel_rfl) (by kernel_rfl) (by kernel_rfl) (fun _ _ _ h => h) hHeld rfl ?_) | (refine takeH 29 144 (v := ?_) rfl rfl (by kernel_rfl) (by kernel_rfl) (by kernel_rfl) (fun _ _ _ h => h) hHeld rfl ?_ ?_; rotate_left; (focus (intro w' hSw; go_simp; try with_reducible rfl))))
                        (try simp only [Act.put, List.setIfInBounds_toArray, List.set_cons_zero, List.set_cons_succ])
                        (first | (refine skipH 30 145 rfl rfl (by kernel_rfl) (by kernel_rfl) (by kernel_rfl) (fun _ _ _ h => h) hHeld rfl ?_) | (refine takeH 30 145 (v := ?_) rfl rfl (by kernel_rfl) (by kernel_rfl) (by kernel_rfl) (fun _ _ _ h => h) hHeld rfl ?_ ?_; rotate_left; (focus (intro w' hSw; go_simp; try with_reducible rfl))))
                        (try simp only [Act.put, List.setIfInBounds_toArray, List.set_cons_zero, List.set_cons_succ])
                        (refine takeH 31 146 (v := ?_) rfl rfl (by kernel_rfl) (by kernel_rfl) (by kernel_rfl) (fun _ _ _ h => h) hHeld rfl ?_ ?_; rotate_left; (focus (intro w' hSw; go_simp; try with_reducible rfl)))
                        (try simp only [Act.put, List.setIfInBounds_toArray, List.set_cons_zero, List.set_cons_succ])
                        (refine takeH 32 17 (v := ?_) rfl rfl (by kernel_rfl) (by kernel_rfl) (by kernel_rfl) (fun _ _ _ h => h) hHeld rfl ?_ ?_; rotate_left; (focus (intro w' hSw; go_simp; try with_reducible rfl)))
                        (try simp only [Act.put, List.setIfInBounds_toArray, List.set_cons_zero, List.set_cons_succ])
                        refine wpAnyH_done (by kernel_rfl) ?_ _
                        refine NoPanic.normal ?_
                        go_wp2
                        go_roundg (V.l.length - (j + 1))
                        case measure => have := HG3.out; omega
                        case rel => exact ⟨j + 1, _, rfl, by go_num, by omega, ⟨by omega⟩, HH, ⟨Below.then_ HR8.out H1.out (Nat.le_refl _)⟩⟩
                      · have hkb : (yk.toList == uk.toList) = false := by simpa using StrRow.txt_ne hky
                        have HH : Aside0 (false = thereB V.l ⟨⟨uk, ⟨u1, u2, u3⟩, ⟨uh, ub⟩⟩, uw, uc, uu⟩ (j + 1)) := ⟨by rw [HTS.out, ← HBB.out]; simp [hky]⟩
                        clear hky
                        go_upto_region 24 with (fail)
                        refine wp_region_noPanic ?_
                        refine wp_region_held_drew (S := Below wr.heap.size wr) (by kernel_rfl) (below_drew (Below.refl _ _)) (fun hHeld => ?_)
                        (refine takeH 0 115 (v := ?_) rfl rfl (by kernel_rfl) (by kernel_rfl) (by kernel_rfl) (fun _ _ _ h => h) hHeld rfl ?_ ?_; rotate_left; (focus (intro w' hSw; go_simp; try with_reducible rfl)))
                        (try simp only [Act.put, List.setIfInBounds_toArray, List.set_cons_zero, List.set_cons_succ])
                        (refine takeH 1 116 (v := ?_) rfl rfl (by kernel_rfl) (by kernel_rfl) (by kernel_rfl) (fun _ _ _ h => h) hHeld rfl ?_ ?_; rotate_left; (focus (intro w' hSw; go_simp; try with_reducible rfl)))
                        (try simp only [Act.put, List.setIfInBounds_toArray, List.set_cons_zero, List.set_cons_succ])
                        (first | (refine skipH 2 117 rfl rfl (by kernel_rfl) (by kernel_rfl) (by kernel_rfl) (fun _ _ _ h => h) hHeld rfl ?_) | (refine takeH 2 117 (v := ?_) rfl rfl (by kernel_rfl) (by kernel_rfl) (by kernel_rfl) (fun _ _ _ h => h) hHeld rfl ?_ ?_; rotate_left; (focus (intro w' hSw; go_simp; try with_reducible rfl))))
                        (try simp only [Act.put, List.setIfInBounds_toArray, List.set_cons_zero, List.set_cons_succ])
                        (first | (refine skipH 3 118 rfl rfl (by kernel_rfl) (by kernel_rfl) (by kernel_rfl) (fun _ _ _ h => h) hHeld rfl ?_) | (refine takeH 3 118 (v := ?_) rfl rfl (by kernel_rfl) (by kernel_rfl) (by kernel_rfl) (fun _ _ _ h => h) hHeld rfl ?_ ?_; rotate_left; (focus (intro w' hSw; go_simp; try with_reducible rfl))))
                        (try simp only [Act.put, List.setIfInBounds_toArray, List.set_cons_zero, List.set_cons_succ])
                        (first | (refine skipH 4 119 rfl rfl (by kernel_rfl) (by kernel_rfl) (by kernel_rfl) (fun _ _ _ h => h) hHeld rfl ?_) | (refine takeH 4 119 (v := ?_) rfl rfl (by kernel_rfl) (by kernel_rfl) (by kernel_rfl) (fun _ _ _ h => h) hHeld rfl ?_ ?_; rotate_left; (focus (intro w' hSw; go_simp; try with_reducible rfl))))
                        (try simp only [Act.put, List.setIfInBounds_toArray, List.set_cons_zero, List.set_cons_succ])
                        (first | (refine skipH 5 120 rfl rfl (by kernel_rfl) (by kernel_rfl) (by kernel_rfl) (fun _ _ _ h => h) hHeld rfl ?_) | (refine takeH 5 120 (v := ?_) rfl rfl (by kernel_rfl) (by kernel_rfl) (by kernel_rfl) (fun _ _ _ h => h) hHeld rfl ?_ ?_; rotate_left; (focus (intro w' hSw; go_simp; try with_reducible rfl))))
                        (try simp only [Act.put, List.setIfInBounds_toArray, List.set_cons_zero, List.set_cons_succ])
                        (first | (refine skipH 6 121 rfl rfl (by kernel_rfl) (by kernel_rfl) (by kernel_rfl) (fun _ _ _ h => h) hHeld rfl ?_) | (refine takeH 6 121 (v := ?_) rfl rfl (by kernel_rfl) (by kernel_rfl) (by kernel_rfl) (fun _ _ _ h => h) hHeld rfl ?_ ?_; rotate_left; (focus (intro w' hSw; go_simp; try with_reducible rfl))))
                        (try simp only [Act.put, List.setIfInBounds_toArray, List.set_cons_zero, List.set_cons_succ])
                        (first | (refine skipH 7 122 rfl rfl (by kernel_rfl) (by kernel_rfl) (by kernel_rfl) (fun _ _ _ h => h) hHeld rfl ?_) | (refine takeH 7 122 (v := ?_) rfl rfl (by kernel_rfl) (by kernel_rfl) (by kernel_rfl) (fun _ _ _ h => h) hHeld rfl ?_ ?_; rotate_left; (focus (intro w' hSw; go_simp; try with_reducible rfl))))
                        (try simp only [Act.put, List.setIfInBounds_toArray, List.set_cons_zero, List.set_cons_succ])
                        (first | (refine skipH 8 123 rfl rfl (by kernel_rfl) (by kernel_rfl) (by kernel_rfl) (fun _ _ _ h => h) hHeld rfl ?_) | (refine takeH 8 123 (v := ?_) rfl rfl (by kernel_rfl) (by kernel_rfl) (by kernel_rfl) (fun _ _ _ h => h) hHeld rfl ?_ ?_; rotate_left; (focus (intro w' hSw; go_simp; try with_reducible rfl))))
                        (try simp only [Act.put, List.setIfInBounds_toArray, List.set_cons_zero, List.set_cons_succ])
                        (first | (refine skipH 9 124 rfl rfl (by kernel_rfl) (by kernel_rfl) (by kernel_rfl) (fun _ _ _ h => h) hHeld rfl ?_) | (refine takeH 9 124 (v := ?_) rfl rfl (by kernel_rfl) (by kernel_rfl) (by kernel_rfl) (fun _ _ _ h => h) hHeld rfl ?_ ?_; rotate_left; (focus (intro w' hSw; go_simp; try with_reducible rfl))))
                        (try simp only [Act.put, List.setIfInBounds_toArray, List.set_cons_zero, List.set_cons_succ])
                        (first | (refine skipH 10 125 rfl rfl (by kernel_rfl) (by kernel_rfl) (by kernel_rfl) (fun _ _ _ h => h) hHeld rfl ?_) | (refine takeH 10 125 (v := ?_) rfl rfl (by kernel_rfl) (by kernel_rfl) (by kernel_rfl) (fun _ _ _ h => h) hHeld rfl ?_ ?_; rotate_left; (focus (intro w' hSw; go_simp; try with_reducible rfl))))
                        (try simp only [Act.put, List.setIfInBounds_toArray, List.set_cons_zero, List.set_cons_succ])
                        (first | (refine skipH 11 126 rfl rfl (by kernel_rfl) (by kernel_rfl) (by kernel_rfl) (fun _ _ _ h => h) hHeld rfl ?_) | (refine takeH 11 126 (v := ?_) rfl rfl (by kernel_rfl) (by kernel_rfl) (by kernel_rfl) (fun _ _ _ h => h) hHeld rfl ?_ ?_; rotate_left; (focus (intro w' hSw; go_simp; try with_reducible rfl))))
                        (try simp only [Act.put, List.setIfInBounds_toArray, List.set_cons_zero, List.set_cons_succ])
                        (first | (refine skipH 12 127 rfl rfl (by kernel_rfl) (by kernel_rfl) (by kernel_rfl) (fun _ _ _ h => h) hHeld rfl ?_) | (refine takeH 12 127 (v := ?_) rfl rfl (by kernel_rfl) (by kernel_rfl) (by kernel_rfl) (fun _ _ _ h => h) hHeld rfl ?_ ?_; rotate_left; (focus (intro w' hSw; go_simp; try with_reducible rfl))))
                        (try simp only [Act.put, List.setIfInBounds_toArray, List.set_cons_zero, List.set_cons_succ])
                        (first | (refine skipH 13 128 rfl rfl (by kernel_rfl) (by kernel_rfl) (by kernel_rfl) (fun _ _ _ h => h) hHeld rfl ?_) | (refine takeH 13 128 (v := ?_) rfl rfl (by kernel_rfl) (by kernel_rfl) (by kernel_rfl) (fun _ _ _ h => h) hHeld rfl ?_ ?_; rotate_left; (focus (intro w' hSw; go_simp; try with_reducible rfl))))
                        (try simp only [Act.put, List.setIfInBounds_toArray, List.set_cons_zero, List.set_cons_succ])
                        (first | (refine skipH 14 129 rfl rfl (by kernel_rfl) (by kernel_rfl) (by kernel_rfl) (fun _ _ _ h => h) hHeld rfl ?_) | (refine takeH 14 129 (v := ?_) rfl rfl (by kernel_rfl) (by kernel_rfl) (by kernel_rfl) (fun _ _ _ h => h) hHeld rfl ?_ ?_; rotate_left; (focus (intro w' hSw; go_simp; try with_reducible rfl))))
                        (try simp only [Act.put, List.setIfInBounds_toArray, List.set_cons_zero, List.set_cons_succ])
                        (first | (refine skipH 15 130 rfl rfl (by kernel_rfl) (by kernel_rfl) (by kernel_rfl) (fun _ _ _ h => h) hHeld rfl ?_) | (refine takeH 15 130 (v := ?_) rfl rfl (by kernel_rfl) (by kernel_rfl) (by kernel_rfl) (fun _ _ _ h => h) hHeld rfl ?_ ?_; rotate_left; (focus (intro w' hSw; go_simp; try with_reducible rfl))))
                        (try simp only [Act.put, List.setIfInBounds_toArray, List.set_cons_zero, List.set_cons_succ])
                        (first | (refine skipH 16 131 rfl rfl (by kernel_rfl) (by kernel_rfl) (by kernel_rfl) (fun _ _ _ h => h) hHeld rfl ?_) | (refine takeH 16 131 (v := ?_) rfl rfl (by kernel_rfl) (by kernel_rfl) (by kernel_rfl) (fun _ _ _ h => h) hHeld rfl ?_ ?_; rotate_left; (focus (intro w' hSw; go_simp; try with_reducible rfl))))
                        (try simp only [Act.put, List.setIfInBounds_toArray, List.set_cons_zero, List.set_cons_succ])
                        (first | (refine skipH 17 132 rfl rfl (by kernel_rfl) (by kernel_rfl) (by kernel_rfl) (fun _ _ _ h => h) hHeld rfl ?_) | (refine takeH 17 132 (v := ?_) rfl rfl (by kernel_rfl) (by kernel_rfl) (by kernel_rfl) (fun _ _ _ h => h) hHeld rfl ?_ ?_; rotate_left; (focus (intro w' hSw; go_simp; try with_reducible rfl))))
                        (try simp only [Act.put, List.setIfInBounds_toArray, List.set_cons_zero, List.set_cons_succ])
                        (first | (refine skipH 18 133 rfl rfl (by kernel_rfl) (by kernel_rfl) (by kernel_rfl) (fun _ _ _ h => h) hHeld rfl ?_) | (refine takeH 18 133 (v := ?_) rfl rfl (by kernel_rfl) (by kernel_rfl) (by kernel_rfl) (fun _ _ _ h => h) hHeld rfl ?_ ?_; rotate_left; (focus (intro w' hSw; go_simp; try with_reducible rfl))))
                        (try simp only [Act.put, List.setIfInBounds_toArray, List.set_cons_zero, List.set_cons_succ])
                        (first | (refine skipH 19 134 rfl rfl (by kernel_rfl) (by kernel_rfl) (by kernel_rfl) (fun _ _ _ h => h) hHeld rfl ?_) | (refine takeH 19 134 (v := ?_) rfl rfl (by kernel_rfl) (by kernel_rfl) (by kernel_rfl) (fun _ _ _ h => h) hHeld rfl ?_ ?_; rotate_left; (focus (intro w' hSw; go_simp; try with_reducible rfl))))
                        (try simp only [Act.put, List.setIfInBounds_toArray, List.set_cons_zero, List.set_cons_succ])
                        (first | (refine skipH 20 135 rfl rfl (by kernel_rfl) (by kernel_rfl) (by kernel_rfl) (fun _ _ _ h => h) hHeld rfl ?_) | (refine takeH 20 135 (v := ?_) rfl rfl (by kernel_rfl) (by kernel_rfl) (by kernel_rfl) (fun _ _ _ h => h) hHeld rfl ?_ ?_; rotate_left; (focus (intro w' hSw; go_simp; try with_reducible rfl))))
                        (try simp only [Act.put, List.setIfInBounds_toArray, List.set_cons_zero, List.set_cons_succ])
                        (first | (refine skipH 21 136 rfl rfl (by kernel_rfl) (by kernel_rfl) (by kernel_rfl) (fun _ _ _ h => h) hHeld rfl ?_) | (refine takeH 21 136 (v := ?_) rfl rfl (by kernel_rfl) (by kernel_rfl) (by kernel_rfl) (fun _ _ _ h => h) hHeld rfl ?_ ?_; rotate_left; (focus (intro w' hSw; go_simp; try with_reducible rfl))))
                        (try simp only [Act.put, List.setIfInBounds_toArray, List.set_cons_zero, List.set_cons_succ])
                        (first | (refine skipH 22 137 rfl rfl (by kernel_rfl) (by kernel_rfl) (by kernel_rfl) (fun _ _ _ h => h) hHeld rfl ?_) | (refine takeH 22 137 (v := ?_) rfl rfl (by kernel_rfl) (by kernel_rfl) (by kernel_rfl) (fun _ _ _ h => h) hHeld rfl ?_ ?_; rotate_left; (focus (intro w' hSw; go_simp; try with_reducible rfl))))
                        (try simp only [Act.put, List.setIfInBounds_toArray, List.set_cons_zero, List.set_cons_succ])
                        (first | (refine skipH 23 138 rfl rfl (by kernel_rfl) (by kernel_rfl) (by kernel_rfl) (fun _ _ _ h => h) hHeld rfl ?_) | (refine takeH 23 138 (v := ?_) rfl rfl (by kernel_rfl) (by kernel_rfl) (by kernel_rfl) (fun _ _ _ h => h) hHeld rfl ?_ ?_; rotate_left; (focus (intro w' hSw; go_simp; try with_reducible rfl))))
                        (try simp only [Act.put, List.setIfInBounds_toArray, List.set_cons_zero, List.set_cons_succ])
                        (first | (refine skipH 24 139 rfl rfl (by kernel_rfl) (by kernel_rfl) (by kernel_rfl) (fun _ _ _ h => h) hHeld rfl ?_) | (refine takeH 24 139 (v := ?_) rfl rfl (by kernel_rfl) (by kernel_rfl) (by kernel_rfl) (fun _ _ _ h => h) hHeld rfl ?_ ?_; rotate_left; (focus (intro w' hSw; go_simp; try with_reducible rfl))))
                        (try simp only [Act.put, List.setIfInBounds_toArray, List.set_cons_zero, List.set_cons_succ])
                        (first | (refine skipH 25 140 rfl rfl (by kernel_rfl) (by kernel_rfl) (by kernel_rfl) (fun _ _ _ h => h) hHeld rfl ?_) | (refine takeH 25 140 (v := ?_) rfl rfl (by kernel_rfl) (by kernel_rfl) (by kernel_rfl) (fun _ _ _ h => h) hHeld rfl ?_ ?_; rotate_left; (focus (intro w' hSw; go_simp; try with_reducible rfl))))
                        (try simp only [Act.put, List.setIfInBounds_toArray, List.set_cons_zero, List.set_cons_succ])
                        (first | (refine skipH 26 141 rfl rfl (by kernel_rfl) (by kernel_rfl) (by kernel_rfl) (fun _ _ _ h => h) hHeld rfl ?_) | (refine takeH 26 141 (v := ?_) rfl rfl (by kernel_rfl) (by kernel_rfl) (by kernel_rfl) (fun _ _ _ h => h) hHeld rfl ?_ ?_; rotate_left; (focus (intro w' hSw; go_simp; try with_reducible rfl))))
                        (try simp only [Act.put, List.setIfInBounds_toArray, List.set_cons_zero, List.set_cons_succ])
                        (first | (refine skipH 27 142 rfl rfl (by kernel_rfl) (by kernel_rfl) (by kernel_rfl) (fun _ _ _ h => h) hHeld rfl ?_) | (refine takeH 27 142 (v := ?_) rfl rfl (by kernel_rfl) (by kernel_rfl) (by kernel_rfl) (fun _ _ _ h => h) hHeld rfl ?_ ?_; rotate_left; (focus (intro w' hSw; go_simp; try with_reducible rfl))))
                        (try simp only [Act.put, List.setIfInBounds_toArray, List.set_cons_zero, List.set_cons_succ])
                        (first | (refine skipH 28 143 rfl rfl (by kernel_rfl) (by kernel_rfl) (by kernel_rfl) (fun _ _ _ h => h) hHeld rfl ?_) | (refine takeH 28 143 (v := ?_) rfl rfl (by kernel_rfl) (by kernel_rfl) (by kernel_rfl) (fun _ _ _ h => h) hHeld rfl ?_ ?_; rotate_left; (focus (intro w' hSw; go_simp; try with_reducible rfl))))
                        (try simp only [Act.put, List.setIfInBounds_toArray, List.set_cons_zero, List.set_cons_succ])
                        (first | (refine skipH 29 144 rfl rfl (by kernel_rfl) (by kernel_rfl) (by kernel_rfl) (fun _ _ _ h => h) hHeld rfl ?_) | (refine takeH 29 144 (v := ?_) rfl rfl (by kernel_rfl) (by kernel_rfl) (by kernel_rfl) (fun _ _ _ h => h) hHeld rfl ?_ ?_; rotate_left; (focus (intro w' hSw; go_simp; try with_reducible rfl))))
                        (try simp only [Act.put, List.setIfInBounds_toArray, List.set_cons_zero, List.set_cons_succ])
                        (first | (refine skipH 30 145 rfl rfl (by kernel_rfl) (by kernel_rfl) (by kernel_rfl) (fun _ _ _ h => h) hHeld rfl ?_) | (refine takeH 30 145 (v := ?_) rfl rfl (by kernel_rfl) (by kernel_rfl) (by kernel_rfl) (fun _ _ _ h => h) hHeld rfl ?_ ?_; rotate_left; (focus (intro w' hSw; go_simp; try with_reducible rfl))))
                        (try simp only [Act.put, List.setIfInBounds_toArray, List.set_cons_zero, List.set_cons_succ])
                        (refine takeH 31 146 (v := ?_) rfl rfl (by kernel_rfl) (by kernel_rfl) (by kernel_rfl) (fun _ _ _ h => h) hHeld rfl ?_ ?_; rotate_left; (focus (intro w' hSw; go_simp; try with_reducible rfl)))
                        (try simp only [Act.put, List.setIfInBounds_toArray, List.set_cons_zero, List.set_cons_succ])
                        (refine takeH 32 17 (v := ?_) rfl rfl (by kernel_rfl) (by kernel_rfl) (by kernel_rfl) (fun _ _ _ h => h) hHeld rfl ?_ ?_; rotate_left; (focus (intro w' hSw; go_simp; try with_reducible rfl)))
                        (try simp only [Act.put, List.setIfInBounds_toArray, List.set_cons_zero, List.set_cons_succ])
                        refine wpAnyH_done (by kernel_rfl) ?_ _
                        refine NoPanic.normal ?_
                        go_wp2
                        go_roundg (V.l.length - (j + 1))
                        case measure => have := HG3.out; omega
                        case rel => exact ⟨j + 1, false, rfl, by go_num, by omega, ⟨by omega⟩, HH, HDR⟩
                  · obtain rfl : j = V.l.length := by omega
                    have hbt : b = true := HBB.out.trans HHO.out
                    subst hbt
                    go_wp2
                    go_roundg (T.l.length - (q + 1))
                    case measure => have := HG2.out; omega
                    case rel => exact ⟨q + 1, by go_num, by omega, ⟨by omega⟩, ⟨Below.then_ HR7.out HR8.out (Nat.le_refl _)⟩⟩
            · obtain rfl : q = T.l.length := by omega
              go_wp2
              go_roundg (xs.length - (k + 1))
              case measure => have := HG.out; omega
              case rel => exact ⟨k + 1, by go_num, by omega, ⟨by omega⟩, ⟨by rw [← HRN.out]; exact HSV.out.below HR7.out⟩⟩
      · obtain rfl : k = xs.length := by omega
        go_wp2_with (first | ((with_reducible refine (known_true _).mono ?_); rintro e w3 ⟨rfl, h⟩; have HB := Aside0.mk (Below.then_ HS.out.bl h (Nat.le_refl _)); clear h))
        go_ret
        exact ⟨rfl, Below.then_ HWS.out HB.out (Nat.le_refl _)⟩
  · go_ret
    exact ⟨rfl, Below.then_ HWS.out HB.out (Nat.le_refl _)⟩
end Tab
end Go.Proofs.Ytgfjkpnaabiecaa
namespace Go.Proofs.Ytgfjkpnaabiecaa
open Go.RowKit Go.Proofs.YtgfjkpnaabiecaaW.PrintWords
def BdT {α : Type} : α → Prop := fun _ => True
def BdS {α : Type} (B : Nat) (Bd : α → Prop) (l : List α) : Prop := l.length * B ≤ 140737488351232 ∧ ∀ x ∈ l, Bd x
def WOk {H : Type} (t : TypeId) (d : DataW H) : Prop := ∀ n ∈ DataW.weights Try.prog t d, n ≤ reachBytes
/-- What reads at type t is of kind k, within bounds. -/
structure Reads {α : Type} (t : TypeId) (k : Kd α) (Bd : α → Prop) : Prop where
  sz : Try.prog.cellsOf t = k.sz
  get : ∀ {H : Type} {enc : TypeId × Value → H} {w : World} {base : Nat} {spare : Nat → Bool} {held : Bool} {fuel : Nat} {cs : List Value} {x : DataW H × List MemPlace},
    DataW.trod enc Try.prog w base spare held fuel t cs = some x → WOk t x.1 → ∃ a, k.K w a cs ∧ Bd a
theorem Reads.int {t : TypeId} {q : IntKind} (ht : Try.prog.underlying t = some (.int q)) (hs : Try.prog.cellsOf t = 1) : Reads t (kInt q) BdT where
  sz := hs
  get := by
    intro H enc w base spare held fuel cs x h _
    obtain ⟨n, rfl, _, hw⟩ := DataW.trod_int ht h
    exact ⟨n, ⟨rfl, hw⟩, trivial⟩
theorem Reads.u8 {t : TypeId} (ht : Try.prog.underlying t = some (.int .u8)) (hs : Try.prog.cellsOf t = 1) : Reads t kU8 BdT where
  sz := hs
  get := by
    intro H enc w base spare held fuel cs x h _
    obtain ⟨n, rfl, _, hw⟩ := DataW.trod_int ht h
    obtain ⟨h0, h1⟩ := _root_.Go.bounds_u8 hw
    refine ⟨UInt8.ofNat n.toNat, ?_, trivial⟩
    show [Value.int .u8 n] = [Value.int .u8 ((UInt8.ofNat n.toNat).toNat : Int)]
    have : ((UInt8.ofNat n.toNat).toNat : Int) = n := by
      rw [UInt8.toNat_ofNat']
      omega
    rw [this]
theorem Reads.bool {t : TypeId} (ht : Try.prog.underlying t = some .bool) (hs : Try.prog.cellsOf t = 1) : Reads t Kd.bool BdT where
  sz := hs
  get := by
    intro H enc w base spare held fuel cs x h _
    obtain ⟨b, rfl, _⟩ := DataW.trod_bool ht h
    exact ⟨b, rfl, trivial⟩
theorem Reads.str {t : TypeId} (ht : Try.prog.underlying t = some .string) (hs : Try.prog.cellsOf t = 1) : Reads t kStr BdT where
  sz := hs
  get := by
    intro H enc w base spare held fuel cs x h hw
    obtain ⟨s, rfl, hx, _⟩ := DataW.trod_string ht h
    subst hx
    refine ⟨s, ⟨rfl, ?_⟩, trivial⟩
    have h2 : s.data.toList.length ≤ reachBytes := hw s.data.toList.length (List.mem_singleton.2 rfl)
    have e : s.data.toList.length = s.size := Array.length_toList
    rw [e] at h2
    exact h2
theorem cells_get {w : World} {base : Nat} {a : Addr} {n : Nat} {cs : List Value} (h : w.cells? base a n = some cs) : cs.length = n ∧ ∀ i u, cs[i]? = some u → w.cell? (a.add i) = some u := by
  unfold World.cells? at h
  split at h
  · refine ⟨by simpa using mapM_some_length h, fun i u hu => ?_⟩
    have hi : i < n := by
      have h1 := mapM_some_length h
      have h2 := (List.getElem?_eq_some_iff.1 hu).1
      simp at h1
      omega
    have h3 := mapM_some_get h i i (by simp [hi])
    rw [h3]
    exact hu
  · cases h
theorem weightsAll_mem {H : Type} {e : TypeId} : ∀ {l : List (DataW H)} {d : DataW H} {n : Nat}, d ∈ l → n ∈ d.weights Try.prog e → n ∈ DataW.weightsAll Try.prog e l
  | a :: r, d, n, hd, hn => by
    unfold DataW.weightsAll
    rcases List.mem_cons.1 hd with rfl | hd
    · exact List.mem_append_left _ hn
    · exact List.mem_append_right _ (weightsAll_mem hd hn)
theorem choose_list {α : Type} {n : Nat} {p : Nat → α → Prop} (h : ∀ i, i < n → ∃ x, p i x) : ∃ l : List α, l.length = n ∧ ∀ i x, l[i]? = some x → p i x := by
  induction n with
  | zero => exact ⟨[], rfl, fun i x hx => by simp at hx⟩
  | succ n ih =>
    obtain ⟨l, hl, hp⟩ := ih (fun i hi => h i (by omega))
    obtain ⟨x, hx⟩ := h n (by omega)
    refine ⟨l ++ [x], by simp [hl], fun i y hy => ?_⟩
    rcases Nat.lt_or_ge i n with hi | hi
    · rw [List.getElem?_append_left (by omega)] at hy
      exact hp i y hy
    · rw [List.getElem?_append_right (by omega)] at hy
      have : i = n := by
        have := (List.getElem?_eq_some_iff.1 hy).1
        simp at this
        omega
      subst this
      simp [hl] at hy
      subst hy
      exact hx
theorem Reads.slice {α : Type} {t e : TypeId} {k : Kd α} {Bd : α → Prop} {B : Nat} (ht : Try.prog.underlying t = some (.slice e)) (hs : Try.prog.cellsOf t = 1) (hB : Try.prog.bytesOf e = B) (R : Reads e k Bd) : Reads t (Kd.slice e k) (BdS B Bd) where
  sz := hs
  get := by
    intro H enc w base spare held fuel cs x h hw
    rcases Deep.open_slice ht h with ⟨rfl, rfl⟩ | ⟨a, len, cap, m, n, D, Pl, rfl, hb, hl, hm, hmm, rfl, hel⟩
    · exact ⟨[], ⟨none, 0, rfl, Nat.le_refl _, Kd.C_nil _ _⟩, by rw [List.length_nil, Nat.zero_mul]; exact Nat.zero_le _, fun _ h => by cases h⟩
    · have hlm : len ≤ m := by rw [hmm]; split <;> omega
      have hwe : ∀ i, i < len → WOk e (D i) := fun i hi n hn => hw n (by
        simp only [DataW.weights, ht]
        exact List.mem_cons_of_mem _ (List.mem_append_left _ (weightsAll_mem (List.mem_map.2 ⟨i, List.mem_range.2 hi, rfl⟩) hn)))
      have hk : ∀ i, i < len → ∃ z, Bd z ∧ ∃ c, w.cells? base (a.add (i * Try.prog.cellsOf e)) (Try.prog.cellsOf e) = some c ∧ k.K w z c := fun i hi => by
        obtain ⟨c, h1, h2⟩ := hel i (by omega)
        obtain ⟨z, h3, h4⟩ := R.get h2 (hwe i hi)
        exact ⟨z, h4, c, h1, h3⟩
      obtain ⟨zs, hzl, hz⟩ := choose_list hk
      have hm' : cap ≤ 9223372036854775807 := by simpa [maxLen] using hm
      subst hzl
      refine ⟨zs, ⟨_, cap, rfl, hl, rfl, by omega, fun _ => ⟨a, rfl, fun j p hj => ?_⟩⟩, ?_, fun z hzm => ?_⟩
      · obtain ⟨_, c, h1, h2⟩ := hz j p hj
        obtain ⟨h3, h4⟩ := cells_get h1
        refine ⟨c, by rw [h3, R.sz], h2, fun i u hu => ?_⟩
        have := h4 i u hu
        rwa [Go.Proofs.YtgfjkpnaabiecaaW.PrintWords.add_add, R.sz] at this
      · have hh := hw ((zs.length + (m - zs.length)) * B) (by
          simp only [DataW.weights, ht, hB]
          refine List.mem_cons.2 (.inl ?_)
          simp)
        refine Nat.le_trans (Nat.mul_le_mul_right _ ?_) hh
        omega
      · obtain ⟨j, hj, rfl⟩ := List.getElem_of_mem hzm
        exact (hz j _ (List.getElem?_eq_getElem hj)).1
end Go.Proofs.Ytgfjkpnaabiecaa
namespace Go.Proofs.Ytgfjkpnaabiecaa
open Go.RowKit Go.Proofs.YtgfjkpnaabiecaaW.PrintWords
theorem len2 {α : Type} {l : List α} (h : l.length = 2) : ∃ a0 a1, l = [a0, a1] := by
  match l, h with
  | [a0, a1], _ => exact ⟨a0, a1, rfl⟩
theorem len3 {α : Type} {l : List α} (h : l.length = 3) : ∃ a0 a1 a2, l = [a0, a1, a2] := by
  match l, h with
  | [a0, a1, a2], _ => exact ⟨a0, a1, a2, rfl⟩
theorem len4 {α : Type} {l : List α} (h : l.length = 4) : ∃ a0 a1 a2 a3, l = [a0, a1, a2, a3] := by
  match l, h with
  | [a0, a1, a2, a3], _ => exact ⟨a0, a1, a2, a3, rfl⟩
theorem len6 {α : Type} {l : List α} (h : l.length = 6) : ∃ a0 a1 a2 a3 a4 a5, l = [a0, a1, a2, a3, a4, a5] := by
  match l, h with
  | [a0, a1, a2, a3, a4, a5], _ => exact ⟨a0, a1, a2, a3, a4, a5, rfl⟩
theorem len8 {α : Type} {l : List α} (h : l.length = 8) : ∃ a0 a1 a2 a3 a4 a5 a6 a7, l = [a0, a1, a2, a3, a4, a5, a6, a7] := by
  match l, h with
  | [a0, a1, a2, a3, a4, a5, a6, a7], _ => exact ⟨a0, a1, a2, a3, a4, a5, a6, a7, rfl⟩
def Tag.Bd (x : Tag) : Prop := BdT x.seq ∧ BdT x.who ∧ BdT x.op
theorem Tag.reads : Reads 32 Tag.k Tag.Bd where
  sz := by kernel_rfl
  get := by
    intro H enc w base spare held fuel cs x h hw
    obtain ⟨xs, n, rfl, hx, hl, hxl, hf⟩ := DataW.trod_struct Try.underlying32 h
    have hz : Try.prog.cellsOf 32 = 3 := by kernel_rfl
    rw [hz] at hl
    obtain ⟨c0, c1, c2, rfl⟩ := len3 hl
    have hxl' : xs.length = 3 := hxl
    obtain ⟨x0, x1, x2, rfl⟩ := len3 hxl'
    subst hx
    have f0 : DataW.trod enc Try.prog w base spare held n 3 (([c0, c1, c2].drop 0).take (Try.prog.cellsOf 3)) = some x0 := hf 0 _ rfl
    have g0 : DataW.trod enc Try.prog w base spare held n 3 [c0] = some x0 := by
      have hc : Try.prog.cellsOf 3 = 1 := by kernel_rfl
      rw [hc] at f0
      exact f0
    obtain ⟨a0, k0, b0⟩ := (Reads.int Try.underlying3 (by kernel_rfl)).get g0 (fun z hz => hw z (by simp only [DataW.weights, Try.underlying32]; simp only [DataW.weightsEach, List.map_cons, List.map_nil, List.mem_append]; exact .inl hz))
    have f1 : DataW.trod enc Try.prog w base spare held n 3 (([c0, c1, c2].drop 1).take (Try.prog.cellsOf 3)) = some x1 := hf 1 _ rfl
    have g1 : DataW.trod enc Try.prog w base spare held n 3 [c1] = some x1 := by
      have hc : Try.prog.cellsOf 3 = 1 := by kernel_rfl
      rw [hc] at f1
      exact f1
    obtain ⟨a1, k1, b1⟩ := (Reads.int Try.underlying3 (by kernel_rfl)).get g1 (fun z hz => hw z (by simp only [DataW.weights, Try.underlying32]; simp only [DataW.weightsEach, List.map_cons, List.map_nil, List.mem_append]; exact .inr (.inl hz)))
    have f2 : DataW.trod enc Try.prog w base spare held n 3 (([c0, c1, c2].drop 2).take (Try.prog.cellsOf 3)) = some x2 := hf 2 _ rfl
    have g2 : DataW.trod enc Try.prog w base spare held n 3 [c2] = some x2 := by
      have hc : Try.prog.cellsOf 3 = 1 := by kernel_rfl
      rw [hc] at f2
      exact f2
    obtain ⟨a2, k2, b2⟩ := (Reads.int Try.underlying3 (by kernel_rfl)).get g2 (fun z hz => hw z (by simp only [DataW.weights, Try.underlying32]; simp only [DataW.weightsEach, List.map_cons, List.map_nil, List.mem_append]; exact .inr (.inr (.inl hz))))
    exact ⟨⟨a0, a1, a2⟩, ⟨_, _, rfl, k0, ⟨_, _, rfl, k1, k2⟩⟩, ⟨b0, b1, b2⟩⟩

def Val.Bd (x : Val) : Prop := BdT x.has ∧ (BdS 1 BdT) x.b
theorem Val.reads : Reads 35 Val.k Val.Bd where
  sz := by kernel_rfl
  get := by
    intro H enc w base spare held fuel cs x h hw
    obtain ⟨xs, n, rfl, hx, hl, hxl, hf⟩ := DataW.trod_struct Try.underlying35 h
    have hz : Try.prog.cellsOf 35 = 2 := by kernel_rfl
    rw [hz] at hl
    obtain ⟨c0, c1, rfl⟩ := len2 hl
    have hxl' : xs.length = 2 := hxl
    obtain ⟨x0, x1, rfl⟩ := len2 hxl'
    subst hx
    have f0 : DataW.trod enc Try.prog w base spare held n 4 (([c0, c1].drop 0).take (Try.prog.cellsOf 4)) = some x0 := hf 0 _ rfl
    have g0 : DataW.trod enc Try.prog w base spare held n 4 [c0] = some x0 := by
      have hc : Try.prog.cellsOf 4 = 1 := by kernel_rfl
      rw [hc] at f0
      exact f0
    obtain ⟨a0, k0, b0⟩ := (Reads.bool Try.underlying4 (by kernel_rfl)).get g0 (fun z hz => hw z (by simp only [DataW.weights, Try.underlying35]; simp only [DataW.weightsEach, List.map_cons, List.map_nil, List.mem_append]; exact .inl hz))
    have f1 : DataW.trod enc Try.prog w base spare held n 33 (([c0, c1].drop 1).take (Try.prog.cellsOf 33)) = some x1 := hf 1 _ rfl
    have g1 : DataW.trod enc Try.prog w base spare held n 33 [c1] = some x1 := by
      have hc : Try.prog.cellsOf 33 = 1 := by kernel_rfl
      rw [hc] at f1
      exact f1
    obtain ⟨a1, k1, b1⟩ := (Reads.slice (B := 1) Try.underlying33 (by kernel_rfl) (by kernel_rfl) (Reads.u8 Try.underlying5 (by kernel_rfl))).get g1 (fun z hz => hw z (by simp only [DataW.weights, Try.underlying35]; simp only [DataW.weightsEach, List.map_cons, List.map_nil, List.mem_append]; exact .inr (.inl hz)))
    exact ⟨⟨a0, a1⟩, ⟨_, _, rfl, k0, k1⟩, ⟨b0, b1⟩⟩

def Entry.Bd (x : Entry) : Prop := BdT x.key ∧ Tag.Bd x.tag ∧ Val.Bd x.val
theorem Entry.reads : Reads 37 Entry.k Entry.Bd where
  sz := by kernel_rfl
  get := by
    intro H enc w base spare held fuel cs x h hw
    obtain ⟨xs, n, rfl, hx, hl, hxl, hf⟩ := DataW.trod_struct Try.underlying37 h
    have hz : Try.prog.cellsOf 37 = 6 := by kernel_rfl
    rw [hz] at hl
    obtain ⟨c0, c1, c2, c3, c4, c5, rfl⟩ := len6 hl
    have hxl' : xs.length = 3 := hxl
    obtain ⟨x0, x1, x2, rfl⟩ := len3 hxl'
    subst hx
    have f0 : DataW.trod enc Try.prog w base spare held n 9 (([c0, c1, c2, c3, c4, c5].drop 0).take (Try.prog.cellsOf 9)) = some x0 := hf 0 _ rfl
    have g0 : DataW.trod enc Try.prog w base spare held n 9 [c0] = some x0 := by
      have hc : Try.prog.cellsOf 9 = 1 := by kernel_rfl
      rw [hc] at f0
      exact f0
    obtain ⟨a0, k0, b0⟩ := (Reads.str Try.underlying9 (by kernel_rfl)).get g0 (fun z hz => hw z (by simp only [DataW.weights, Try.underlying37]; simp only [DataW.weightsEach, List.map_cons, List.map_nil, List.mem_append]; exact .inl hz))
    have f1 : DataW.trod enc Try.prog w base spare held n 32 (([c0, c1, c2, c3, c4, c5].drop 1).take (Try.prog.cellsOf 32)) = some x1 := hf 1 _ rfl
    have g1 : DataW.trod enc Try.prog w base spare held n 32 [c1, c2, c3] = some x1 := by
      have hc : Try.prog.cellsOf 32 = 3 := by kernel_rfl
      rw [hc] at f1
      exact f1
    obtain ⟨a1, k1, b1⟩ := Tag.reads.get g1 (fun z hz => hw z (by simp only [DataW.weights, Try.underlying37]; simp only [DataW.weightsEach, List.map_cons, List.map_nil, List.mem_append]; exact .inr (.inl hz)))
    have f2 : DataW.trod enc Try.prog w base spare held n 35 (([c0, c1, c2, c3, c4, c5].drop 4).take (Try.prog.cellsOf 35)) = some x2 := hf 2 _ rfl
    have g2 : DataW.trod enc Try.prog w base spare held n 35 [c4, c5] = some x2 := by
      have hc : Try.prog.cellsOf 35 = 2 := by kernel_rfl
      rw [hc] at f2
      exact f2
    obtain ⟨a2, k2, b2⟩ := Val.reads.get g2 (fun z hz => hw z (by simp only [DataW.weights, Try.underlying37]; simp only [DataW.weightsEach, List.map_cons, List.map_nil, List.mem_append]; exact .inr (.inr (.inl hz))))
    exact ⟨⟨a0, a1, a2⟩, ⟨_, _, rfl, k0, ⟨_, _, rfl, k1, k2⟩⟩, ⟨b0, b1, b2⟩⟩

def Room.Bd (x : Room) : Prop := BdT x.cells ∧ BdT x.bytes ∧ BdT x.buckets ∧ BdT x.fresh
theorem Room.reads : Reads 23 Room.k Room.Bd where
  sz := by kernel_rfl
  get := by
    intro H enc w base spare held fuel cs x h hw
    obtain ⟨xs, n, rfl, hx, hl, hxl, hf⟩ := DataW.trod_struct Try.underlying23 h
    have hz : Try.prog.cellsOf 23 = 4 := by kernel_rfl
    rw [hz] at hl
    obtain ⟨c0, c1, c2, c3, rfl⟩ := len4 hl
    have hxl' : xs.length = 4 := hxl
    obtain ⟨x0, x1, x2, x3, rfl⟩ := len4 hxl'
    subst hx
    have f0 : DataW.trod enc Try.prog w base spare held n 3 (([c0, c1, c2, c3].drop 0).take (Try.prog.cellsOf 3)) = some x0 := hf 0 _ rfl
    have g0 : DataW.trod enc Try.prog w base spare held n 3 [c0] = some x0 := by
      have hc : Try.prog.cellsOf 3 = 1 := by kernel_rfl
      rw [hc] at f0
      exact f0
    obtain ⟨a0, k0, b0⟩ := (Reads.int Try.underlying3 (by kernel_rfl)).get g0 (fun z hz => hw z (by simp only [DataW.weights, Try.underlying23]; simp only [DataW.weightsEach, List.map_cons, List.map_nil, List.mem_append]; exact .inl hz))
    have f1 : DataW.trod enc Try.prog w base spare held n 3 (([c0, c1, c2, c3].drop 1).take (Try.prog.cellsOf 3)) = some x1 := hf 1 _ rfl
    have g1 : DataW.trod enc Try.prog w base spare held n 3 [c1] = some x1 := by
      have hc : Try.prog.cellsOf 3 = 1 := by kernel_rfl
      rw [hc] at f1
      exact f1
    obtain ⟨a1, k1, b1⟩ := (Reads.int Try.underlying3 (by kernel_rfl)).get g1 (fun z hz => hw z (by simp only [DataW.weights, Try.underlying23]; simp only [DataW.weightsEach, List.map_cons, List.map_nil, List.mem_append]; exact .inr (.inl hz)))
    have f2 : DataW.trod enc Try.prog w base spare held n 3 (([c0, c1, c2, c3].drop 2).take (Try.prog.cellsOf 3)) = some x2 := hf 2 _ rfl
    have g2 : DataW.trod enc Try.prog w base spare held n 3 [c2] = some x2 := by
      have hc : Try.prog.cellsOf 3 = 1 := by kernel_rfl
      rw [hc] at f2
      exact f2
    obtain ⟨a2, k2, b2⟩ := (Reads.int Try.underlying3 (by kernel_rfl)).get g2 (fun z hz => hw z (by simp only [DataW.weights, Try.underlying23]; simp only [DataW.weightsEach, List.map_cons, List.map_nil, List.mem_append]; exact .inr (.inr (.inl hz))))
    have f3 : DataW.trod enc Try.prog w base spare held n 4 (([c0, c1, c2, c3].drop 3).take (Try.prog.cellsOf 4)) = some x3 := hf 3 _ rfl
    have g3 : DataW.trod enc Try.prog w base spare held n 4 [c3] = some x3 := by
      have hc : Try.prog.cellsOf 4 = 1 := by kernel_rfl
      rw [hc] at f3
      exact f3
    obtain ⟨a3, k3, b3⟩ := (Reads.bool Try.underlying4 (by kernel_rfl)).get g3 (fun z hz => hw z (by simp only [DataW.weights, Try.underlying23]; simp only [DataW.weightsEach, List.map_cons, List.map_nil, List.mem_append]; exact .inr (.inr (.inr (.inl hz)))))
    exact ⟨⟨a0, a1, a2, a3⟩, ⟨_, _, rfl, k0, ⟨_, _, rfl, k1, ⟨_, _, rfl, k2, k3⟩⟩⟩, ⟨b0, b1, b2, b3⟩⟩

def Do.Bd (x : Do) : Prop := BdT x.kind ∧ Entry.Bd x.e ∧ BdT x.token
theorem Do.reads : Reads 39 Do.k Do.Bd where
  sz := by kernel_rfl
  get := by
    intro H enc w base spare held fuel cs x h hw
    obtain ⟨xs, n, rfl, hx, hl, hxl, hf⟩ := DataW.trod_struct Try.underlying39 h
    have hz : Try.prog.cellsOf 39 = 8 := by kernel_rfl
    rw [hz] at hl
    obtain ⟨c0, c1, c2, c3, c4, c5, c6, c7, rfl⟩ := len8 hl
    have hxl' : xs.length = 3 := hxl
    obtain ⟨x0, x1, x2, rfl⟩ := len3 hxl'
    subst hx
    have f0 : DataW.trod enc Try.prog w base spare held n 3 (([c0, c1, c2, c3, c4, c5, c6, c7].drop 0).take (Try.prog.cellsOf 3)) = some x0 := hf 0 _ rfl
    have g0 : DataW.trod enc Try.prog w base spare held n 3 [c0] = some x0 := by
      have hc : Try.prog.cellsOf 3 = 1 := by kernel_rfl
      rw [hc] at f0
      exact f0
    obtain ⟨a0, k0, b0⟩ := (Reads.int Try.underlying3 (by kernel_rfl)).get g0 (fun z hz => hw z (by simp only [DataW.weights, Try.underlying39]; simp only [DataW.weightsEach, List.map_cons, List.map_nil, List.mem_append]; exact .inl hz))
    have f1 : DataW.trod enc Try.prog w base spare held n 37 (([c0, c1, c2, c3, c4, c5, c6, c7].drop 1).take (Try.prog.cellsOf 37)) = some x1 := hf 1 _ rfl
    have g1 : DataW.trod enc Try.prog w base spare held n 37 [c1, c2, c3, c4, c5, c6] = some x1 := by
      have hc : Try.prog.cellsOf 37 = 6 := by kernel_rfl
      rw [hc] at f1
      exact f1
    obtain ⟨a1, k1, b1⟩ := Entry.reads.get g1 (fun z hz => hw z (by simp only [DataW.weights, Try.underlying39]; simp only [DataW.weightsEach, List.map_cons, List.map_nil, List.mem_append]; exact .inr (.inl hz)))
    have f2 : DataW.trod enc Try.prog w base spare held n 3 (([c0, c1, c2, c3, c4, c5, c6, c7].drop 7).take (Try.prog.cellsOf 3)) = some x2 := hf 2 _ rfl
    have g2 : DataW.trod enc Try.prog w base spare held n 3 [c7] = some x2 := by
      have hc : Try.prog.cellsOf 3 = 1 := by kernel_rfl
      rw [hc] at f2
      exact f2
    obtain ⟨a2, k2, b2⟩ := (Reads.int Try.underlying3 (by kernel_rfl)).get g2 (fun z hz => hw z (by simp only [DataW.weights, Try.underlying39]; simp only [DataW.weightsEach, List.map_cons, List.map_nil, List.mem_append]; exact .inr (.inr (.inl hz))))
    exact ⟨⟨a0, a1, a2⟩, ⟨_, _, rfl, k0, ⟨_, _, rfl, k1, k2⟩⟩, ⟨b0, b1, b2⟩⟩

end Go.Proofs.Ytgfjkpnaabiecaa
set_option linter.unusedVariables false
set_option linter.unusedSimpArgs false
namespace Go.Proofs.Ytgfjkpnaabiecaa
open Go.RowKit Go.Proofs.YtgfjkpnaabiecaaW.PrintWords
namespace Tab
theorem dos_bd {B : Nat} {xs : List Do} (h : BdS B Do.Bd xs) (hB : B = 88) : xs.length ≤ 1600000000000 ∧ ∀ x ∈ xs, x.e.val.b.length ≤ 140737488351232 := by
  subst hB
  obtain ⟨h1, h2⟩ := h
  refine ⟨by omega, fun x hx => ?_⟩
  obtain ⟨_, ⟨_, _, _, h3, _⟩, _⟩ := h2 x hx
  omega
theorem room_cs {w : World} {cs : Array Value} {r : Room} (h : Room.k.K w r cs.toList) : cs = #[.int .i64 r.cells, .int .i64 r.bytes, .int .i64 r.buckets, .bool r.fresh] := by
  obtain ⟨he, _⟩ := Room.open_ h
  have : cs = cs.toList.toArray := by simp
  rw [this, he]
end Tab
end Go.Proofs.Ytgfjkpnaabiecaa
set_option linter.unusedVariables false
set_option linter.unusedSimpArgs false
namespace Go.Proofs.Ytgfjkpnaabiecaa
open Go.RowKit Go.Proofs.YtgfjkpnaabiecaaW.PrintWords
namespace Tab
theorem room_row {B : Nat} (cs : Array Value) (r : Room) (A : Option Addr) (c : Nat) (xs : List Do) (w : World) (h0 : Room.k.K w r cs.toList) (hr : Do.k.C w A xs.length xs) (hb : BdS B Do.Bd xs) (hB : B = 88) :
    Calls Try.prog 7 #[.agg cs, .slice A xs.length c] w (TrueTold w) := by
  rw [room_cs h0]
  obtain ⟨b1, b2⟩ := dos_bd hb hB
  by_cases hR : RoomOk r
  · exact room_good r A c xs w hr b1 hR b2
  · exact room_bad r A c xs w hr b1 hR
end Tab
end Go.Proofs.Ytgfjkpnaabiecaa
