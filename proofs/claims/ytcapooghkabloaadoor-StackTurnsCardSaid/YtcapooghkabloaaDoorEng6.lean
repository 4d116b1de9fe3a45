/- Part of the proof of a law of this seat: facts that it uses, each proved here. No conditions. -/
import Derived.Test.YtcapooghkabloaaDoorEng5
namespace Go.Eng
open Go
section
variable {P : Program} {lv : Nat → List Nat} {jn : Nat → Option (List Nat)}

def lift (N : Nat) (l : List Nat) (a0 : Act) (Q : Post) : Exit → Act → World → Prop
  | .panic _, _, _ => False
  | .outgrown, _, _ => False
  | e, a, w => a.tmps.size = N ∧ Same l (stOf a0).env (stOf a).env ∧ Q e (stOf a) w

theorem lift_mono {N : Nat} {l l' : List Nat} {a0 a1 : Act} {Q Q' : Post} (hs : Same l' (stOf a1).env (stOf a0).env) (hl : ∀ t, t ∈ l → t ∈ l') (hq : ∀ e s w, Q e s w → Q' e s w) :
    ∀ e a w, lift N l a0 Q e a w → lift N l' a1 Q' e a w
  | .normal, _, _, h => ⟨h.1, hs.trans (h.2.1.wider hl), hq _ _ _ h.2.2⟩
  | .exit _, _, _, h => ⟨h.1, hs.trans (h.2.1.wider hl), hq _ _ _ h.2.2⟩
  | .goto _, _, _, h => ⟨h.1, hs.trans (h.2.1.wider hl), hq _ _ _ h.2.2⟩
  | .ret, _, _, h => ⟨h.1, hs.trans (h.2.1.wider hl), hq _ _ _ h.2.2⟩
  | .panic _, _, _, h => h
  | .outgrown, _, _, h => h

theorem putArgs_stOf {N : Nat} (args : Nat → Value) : ∀ (ps : List Nat) (vs : List Value) (i : Nat) (a : Act), a.tmps.size = N → (∀ p ∈ ps, p < N) → vs.length = ps.length → (∀ j, vs.getD j undef = args (i + j)) →
    let a' : Act := { tmps := (ps.zip vs).foldl (fun t (p, v) => t.setIfInBounds p v) a.tmps, defers := [] }
    a'.tmps.size = N ∧ (stOf a').env = putArgs args ps i (stOf a).env
  | [], vs, i, a, ha, _, _, _ => by simp [ha, putArgs, stOf]
  | p :: ps, [], i, a, ha, _, hl, _ => by simp at hl
  | p :: ps, v :: vs, i, a, ha, hp, hl, hv => by
    have := putArgs_stOf args ps vs (i + 1) { tmps := a.tmps.setIfInBounds p v, defers := a.defers } (by simp [ha]) (fun q hq => hp q (List.mem_cons_of_mem _ hq)) (by simpa using hl)
      (fun j => by have := hv (j + 1); rw [List.getD_cons_succ] at this; rw [this]; congr 1; omega)
    simp only [List.zip_cons_cons, List.foldl_cons] at this ⊢
    refine ⟨this.1, this.2.trans ?_⟩
    show putArgs args ps (i + 1) _ = putArgs args ps (i + 1) _
    congr 1
    have h := stOf_put a (some p) v (fun x hx => by cases hx; rw [ha]; exact hp p (by simp))
    have h0 := hv 0
    rw [List.getD_cons_zero, Nat.add_zero] at h0
    rw [← h0]
    exact congrArg St.env h

theorem codeVC_sound (hm : P.follows .mixedOrders = true) {N : Nat} (c : Code) : ∀ (r : Bool) (ro : Option Nat) (Q : Post) (a : Act) (w : World), (r = false → ro = none) → codeOk N lv c = true → a.tmps.size = N →
    codeVC P lv jn r c Q (stOf a) w → c.wpIn (Fr ro) 0 P (lift N (asg c) a Q) a w := by
  induction c with
  | skip => exact fun r ro Q a w _ _ ha h => wpIn_skip ⟨ha, fun _ _ => rfl, by cases r <;> exact h⟩
  | label l => exact fun r ro Q a w _ _ ha h => wpIn_label ⟨ha, fun _ _ => rfl, by cases r <;> exact h⟩
  | exit id => exact fun r ro Q a w _ _ ha h => wpIn_exit ⟨ha, fun _ _ => rfl, by cases r <;> exact h⟩
  | ret => exact fun r ro Q a w _ _ ha h => wpIn_ret ⟨ha, fun _ _ => rfl, by cases r <;> exact h⟩
  | goto l => intro r ro Q a w _ _ _ h; cases r <;> exact h.elim
  | refuse s => intro r ro Q a w _ _ _ h; cases r <;> exact h.elim
  | scope c ih => intro r ro Q a w _ _ _ h; cases r <;> exact h.elim
  | seq x y ihx ihy =>
    intro r ro Q a w hr hok ha h
    unfold codeVC at h
    simp only [codeOk, Bool.and_eq_true] at hok
    have hw : ∀ t, t ∈ asg x → t ∈ asg (x.seq y) := fun t ht => List.mem_append_left _ ht
    cases hj : jn (key y) with
    | none =>
      simp only [hj] at h
      refine wpIn_seq (wpIn_mono (ihx r ro _ a w hr hok.1 ha h) ?_)
      intro e a' w' hl
      cases e with
      | normal => exact wpIn_mono (ihy r ro Q a' w' hr hok.2 hl.1 hl.2.2) (lift_mono (hl.2.1.wider hw) (fun t ht => List.mem_append_right _ ht) fun _ _ _ h => h)
      | exit id => exact ⟨hl.1, hl.2.1.wider hw, hl.2.2⟩
      | goto id => exact ⟨hl.1, hl.2.1.wider hw, hl.2.2⟩
      | ret => exact ⟨hl.1, hl.2.1.wider hw, hl.2.2⟩
      | panic c => exact hl.elim
      | outgrown => exact hl.elim
    | some jv =>
      simp only [hj] at h
      obtain ⟨J, h1, h2⟩ := h
      refine wpIn_seq (wpIn_mono (ihx r ro _ a w hr hok.1 ha h1) ?_)
      intro e a' w' hl
      cases e with
      | normal =>
        have h3 := h2 (stOf a').env a'.defers w' hl.2.2
        rw [mixE_of_same hl.2.1] at h3
        exact wpIn_mono (ihy r ro Q a' w' hr hok.2 hl.1 h3) (lift_mono (hl.2.1.wider hw) (fun t ht => List.mem_append_right _ ht) fun _ _ _ h => h)
      | exit id => exact ⟨hl.1, hl.2.1.wider hw, hl.2.2⟩
      | goto id => exact ⟨hl.1, hl.2.1.wider hw, hl.2.2⟩
      | ret => exact ⟨hl.1, hl.2.1.wider hw, hl.2.2⟩
      | panic c => exact hl.elim
      | outgrown => exact hl.elim
  | cond c x y ihx ihy =>
    intro r ro Q a w hr hok ha h
    unfold codeVC at h
    simp only [codeOk, Bool.and_eq_true] at hok
    obtain ⟨b, hv⟩ : ∃ b, (stOf a).eval c = .bool b := by
      cases hv : (stOf a).eval c <;> simp only [hv, Cond] at h
      exact ⟨_, rfl⟩
    rw [hv] at h
    have h := Cond_out h
    rw [stOf_eval] at hv
    refine wpIn_cond_split hv (fun hb => ?_) (fun hb => ?_)
    · exact wpIn_mono (ihx r ro Q a w hr hok.1 ha (h.1 hb)) (lift_mono (fun _ _ => rfl) (fun t ht => List.mem_append_left _ ht) fun _ _ _ h => h)
    · exact wpIn_mono (ihy r ro Q a w hr hok.2 ha (h.2 hb)) (lift_mono (fun _ _ => rfl) (fun t ht => List.mem_append_right _ ht) fun _ _ _ h => h)
  | block id c ih =>
    intro r ro Q a w hr hok ha h
    unfold codeVC at h
    refine wpIn_block (wpIn_mono (ih r ro _ a w hr hok ha h) ?_)
    intro e a' w' hl
    cases e with
    | normal => exact hl
    | exit id' =>
      obtain ⟨h1, h2, h3⟩ := hl
      show if id' = id then _ else _
      have h3 : bif Nat.beq id' id then Q .normal (stOf a') w' else Q (.exit id') (stOf a') w' := h3
      by_cases e : id' = id
      · rw [if_pos e]; rw [e, Nat.beq_refl] at h3; exact ⟨h1, h2, h3⟩
      · rw [if_neg e]
        have : Nat.beq id' id = false := by
          cases hb : Nat.beq id' id with
          | false => rfl
          | true => exact absurd (Nat.eq_of_beq_eq_true hb) e
        rw [this] at h3; exact ⟨h1, h2, h3⟩
    | goto l => exact hl
    | ret => exact hl
    | panic c => exact hl
    | outgrown => exact hl
  | region id ops draw =>
    intro r ro Q a w hr hok ha h
    simp only [codeOk, Bool.and_eq_true] at hok
    have fin : ∀ (a' : Act) (w' : World), At N (dsts ops) a a' → Q .normal (stOf a') w' → lift N (asg (Code.region id ops draw)) a Q .normal a' w' := fun a' w' h1 h2 => ⟨h1.1, h1.2.2, h2⟩
    cases draw with
    | false =>
      have h : opsVC P ops (Q .normal) (List.range ops.size) (stOf a) w := by cases r <;> exact h
      exact region_sound hok.1 ha fin h
    | true =>
      have h : ∃ S : World → Prop, S (dr w) ∧ drawVC P ops (Q .normal) ops.size S [] (stOf a) (dr w) := by cases r <;> exact h
      obtain ⟨S, hS, h⟩ := h
      exact region_draw_sound hm hok.1 hok.2 ha fin hS h
  | loop c ih =>
    intro r ro Q a w hr hok ha h
    unfold codeVC at h
    simp only [codeOk, Bool.and_eq_true] at hok
    obtain ⟨I, μ, h0, hround⟩ := h
    refine wpIn_loop (fun a' w' => a'.tmps.size = N ∧ Same (asg c) (stOf a).env (stOf a').env ∧ I ((lv (key c)).map (stOf a').env) a'.defers w')
      (fun a' w' => μ ((lv (key c)).map (stOf a').env) w') ⟨ha, fun _ _ => rfl, h0⟩ ?_
    rintro a' w' ⟨ha', hs, hI⟩
    have := hround (stOf a').env a'.defers w' hI
    rw [mixE_of_same hs] at this
    refine wpIn_mono (ih r ro _ a' w' hr hok.1 ha' this) ?_
    intro e a2 w2 hl
    cases e with
    | normal => exact ⟨⟨hl.1, hs.trans hl.2.1, hl.2.2.1⟩, hl.2.2.2⟩
    | exit id => exact ⟨hl.1, hs.trans hl.2.1, hl.2.2⟩
    | goto id => exact ⟨hl.1, hs.trans hl.2.1, hl.2.2⟩
    | ret => exact ⟨hl.1, hs.trans hl.2.1, hl.2.2⟩
    | panic c => exact hl
    | outgrown => exact hl
  | rangeFunc f ps as body iha ihb =>
    intro r ro Q a w hr hok ha h
    cases r with
    | true => exact h.elim
    | false =>
      have hro := hr rfl
      subst hro
      simp only [codeOk, Bool.and_eq_true] at hok
      have hps : ∀ p ∈ ps.toList, p < N := fun p hp => by
        have := List.all_eq_true.1 hok.2 p hp
        exact (Nat.blt_eq (x := _) (y := _)).mp this
      unfold codeVC at h
      obtain ⟨gf, lb, hg, h⟩ := h
      rw [stOf_eval] at hg
      refine wpIn_rangeFunc fun fn _ => ?_
      obtain ⟨rec, hrec⟩ : ∃ rec : LoopState → Option Code → Loop, rec = fun st pe => { state := st, pending := pe, fn, tmps := a.tmps, params := ps, assign := as, body, defers := w.heap.size } := ⟨_, rfl⟩
      have hcall := h rec (fun st p => by rw [hrec]; exact ⟨rfl, rfl⟩) (fun args w' K hsz hl hB => ?_)
      · have hrun := hcall.1
        refine ⟨w.heap.size + 1, [{ target := .collected w.heap.size, args := #[] }], (w.alloc (.deferred (some []))).alloc (.loop (rec .ready none)),
          { target := .fn (.func gf) lb, args := #[.func (.yield (w.heap.size + 1)) #[] #[]] }, (w.alloc (.deferred (some []))).alloc (.loop (rec .ready none)), gf, #[.func (.yield (w.heap.size + 1)) #[] #[]] ++ lb, (w.alloc (.deferred (some []))).alloc (.loop (rec .ready none)), ?_, ?_, fun _ _ => trivial, ?_, fun e => Bool.noConfusion e, ?_⟩
        · rw [hrec]; exact run_enterLoop_outer _ _ _ _ _
        · simp only [resolve, hg]
          simp [go_sem]
        · show (invoke (.fn (.func gf) lb) _).run P _ = _
          unfold invoke; exact hrun _
        · refine (callsIn_round hcall.2).mono ?_
          intro e w2 hp
          cases e with
          | panicked c => exact hp.elim
          | outgrown => exact hp.elim
          | returned v =>
            have fin : ∀ (st : LoopState) (pe : Option Code), st ≠ .busy → w2.heap[w.heap.size + 1]? = some (.loop (rec st pe)) →
                (Instr.endLoop (w.heap.size + 1)).run P w2 = .ok pe (w2.putObj (w.heap.size + 1) (.loop (rec .exhausted pe))) := fun st pe hne hl => by
              have := run_endLoop (P := P) hl (by rw [hrec]; exact hne)
              rw [hrec] at this ⊢; exact this
            rcases hp with ⟨hl, hk⟩ | ⟨hl, hk⟩ | ⟨id, hl, hk⟩
            · exact ⟨none, _, fin .ready none (by simp) hl, ha, fun _ _ => rfl, hk⟩
            · exact ⟨some .ret, _, fin .done _ (by simp) hl, wpIn_ret ⟨ha, fun _ _ => rfl, hk⟩⟩
            · exact ⟨some (.exit id), _, fin .done _ (by simp) hl, wpIn_exit ⟨ha, fun _ _ => rfl, hk⟩⟩
      · have hsz' : args.size = (rec .ready none).params.size := by rw [hrec]; exact hsz
        have hy := run_yield (P := P) hl hsz'
        obtain ⟨hz1, hz2⟩ := putArgs_stOf (N := N) (fun i => args.toList.getD i undef) ps.toList args.toList 0 a ha hps (by simpa using hsz) (fun j => by simp)
        have etm : ((rec .ready none).params.zip args).foldl (fun tmps (t, v) => tmps.setIfInBounds t v) (rec .ready none).tmps =
            (ps.toList.zip args.toList).foldl (fun t (p, v) => t.setIfInBounds p v) a.tmps := by
          rw [hrec, ← Array.foldl_toList, Array.toList_zip]
        rw [etm] at hy
        refine ⟨_, _, _, _, hy, ?_⟩
        have efn : (rec .ready none).fn = fn ∧ (rec .ready none).assign = as ∧ (rec .ready none).body = body := by rw [hrec]; exact ⟨rfl, rfl, rfl⟩
        rw [efn.1, efn.2.1, efn.2.2]
        generalize hta : ({ tmps := (ps.toList.zip args.toList).foldl (fun t (p, v) => t.setIfInBounds p v) a.tmps, defers := [] } : Act) = ta at hz1 hz2
        have htm : (ps.toList.zip args.toList).foldl (fun t (p, v) => t.setIfInBounds p v) a.tmps = ta.tmps := by rw [← hta]
        rw [htm]
        refine roundIn_of_wpIn (F := Fr none) trivial ?_
        have hta' : ({ tmps := ta.tmps, defers := [] } : Act) = ta := by rw [← hta]
        rw [hta']
        have hst : stOf ta = { env := putArgs (fun i => args.toList.getD i undef) ps.toList 0 (stOf a).env, ds := [] } := by
          show St.mk _ _ = St.mk _ _
          congr 1
          rw [← hta]
        dsimp only at hB
        rw [← hst] at hB
        refine wpIn_mono (iha true (some (w.heap.size + 1)) _ ta w' (fun e => Bool.noConfusion e) hok.1.1 hz1 hB) ?_
        intro e a1 w1 hl1
        cases e with
        | normal =>
          obtain ⟨h1, _, hr1, hb1⟩ := hl1
          refine ⟨_, run_beginRound hr1 (by rw [hrec]), ?_⟩
          have ebz : (Obj.loop { (rec .ready none) with state := .busy }) = .loop (rec .busy none) := by rw [hrec]
          rw [ebz]
          refine wpIn_mono (ihb true (some (w.heap.size + 1)) _ a1 _ (fun e => Bool.noConfusion e) hok.1.2 h1 hb1) ?_
          intro e a2 w2 hl2
          have fin : ∀ (jump : Option Code) (w2 : World), w2.heap[w.heap.size + 1]? = some (.loop (rec .busy none)) →
              (Instr.endRound (w.heap.size + 1) jump).run P w2 = .ok (.bool jump.isNone) (w2.putObj (w.heap.size + 1) (.loop (rec (if jump.isNone then .ready else .done) jump))) := fun jump w2 hl => by
            have := run_endRound (P := P) jump hl
            rw [hrec] at this ⊢; exact this
          cases e with
          | normal => exact ⟨_, _, fin none w2 hl2.2.2.1, hl2.2.2.2⟩
          | ret => exact ⟨_, _, fin (some .ret) w2 hl2.2.2.1, hl2.2.2.2⟩
          | exit id => exact ⟨_, _, fin (some (.exit id)) w2 hl2.2.2.1, hl2.2.2.2⟩
          | goto l => exact hl2.2.2.elim
          | panic c => exact hl2.elim
          | outgrown => exact hl2.elim
        | exit id => exact hl1.2.2.elim
        | goto id => exact hl1.2.2.elim
        | ret => exact hl1.2.2.elim
        | panic c => exact hl1.elim
        | outgrown => exact hl1.elim
end
end Go.Eng
