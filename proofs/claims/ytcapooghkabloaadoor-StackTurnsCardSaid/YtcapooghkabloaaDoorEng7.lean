/- Part of the proof of a law of this seat: facts that it uses, each proved here. No conditions. -/
import Derived.Test.YtcapooghkabloaaDoorEng6
import Derived.Laws.Sem
namespace Go.Eng
open Go

/-! ### Functions -/
def leaveVC : List Deferred → (World → Prop) → World → Prop
  | [], K, w => K w
  | d :: ds, K, w => match d.target with
    | .collected D => w.heap[D]? = some (.deferred (some [])) ∧ leaveVC ds K (w.putObj D (.deferred none))
    | _ => False
def resL (P : Program) (env : Nat → Value) : List ResultVar → (List Value → Prop) → World → Prop
  | [], K, _ => K []
  | .tmp t :: rs, K, w => resL P env rs (fun vs => K (env t :: vs)) w
  | .cell a t :: rs, K, w => ∃ v, (Instr.loadAt t (env a)).run P w = .ok v w ∧ resL P env rs (fun vs => K (v :: vs)) w
def tupV : List Value → Value
  | [v] => v
  | vs => .tuple vs.toArray
def retPost (P : Program) (fn : Func) (K : Value → World → Prop) : Post
  | .normal, s, w => leaveVC s.ds (fun w => resL P s.env fn.results.toList (fun vs => K (tupV vs) w) w) w
  | .ret, s, w => leaveVC s.ds (fun w => resL P s.env fn.results.toList (fun vs => K (tupV vs) w) w) w
  | _, _, _ => False
def argEnv : List Value → Nat → Value
  | [], _ => undef
  | v :: vs, t => bif Nat.beq t 0 then v else argEnv vs (t - 1)

section
variable {P : Program}

theorem loadAt_asAddr {t : TypeId} {p v : Value} {w : World} (h : (Instr.loadAt t p).run P w = .ok v w) : (do loadVar t (← asAddr p)).run P w = .ok v w := by
  unfold Instr.loadAt at h
  rw [Sem.run_bind] at h ⊢
  cases p with
  | pointer a => cases a with
    | some a => exact h
    | none => cases h
  | _ => cases h

def resF (tmps : Array Value) : ResultVar → Sem Value
  | .tmp t => pure (tmps.getD t undef)
  | .cell a t => do loadVar t (← asAddr (tmps.getD a undef))
theorem results_eq (fn : Func) (tmps : Array Value) : results fn tmps = (fn.results.mapM (resF tmps) >>= fun vs => pure (if h : vs.size = 1 then vs[0] else .tuple vs)) := by
  unfold results
  congr 2

theorem resL_run (tmps : Array Value) (w : World) : ∀ (rs : List ResultVar) (K : List Value → Prop), resL P (fun t => tmps.getD t undef) rs K w →
    ∃ vs, (rs.mapM (resF tmps)).run P w = .ok vs w ∧ K vs ∧ vs.length = rs.length
  | [], K, h => ⟨[], rfl, h, rfl⟩
  | .tmp t :: rs, K, h => by
    obtain ⟨vs, e, k, hl⟩ := resL_run tmps w rs _ h
    exact ⟨_ :: vs, by rw [List.mapM_cons]; simp only [resF, Sem.run_bind, Sem.run_pure, Result.andThen]; rw [e], k, by simp [hl]⟩
  | .cell a t :: rs, K, h => by
    obtain ⟨v, e1, h⟩ := h
    obtain ⟨vs, e, k, hl⟩ := resL_run tmps w rs _ h
    refine ⟨v :: vs, ?_, k, by simp [hl]⟩
    have e1 := loadAt_asAddr e1
    have e1 : (resF tmps (.cell a t)).run P w = .ok v w := e1
    rw [List.mapM_cons, Sem.run_bind, e1]
    simp only [Result.andThen]
    rw [Sem.run_bind, e]; rfl

theorem results_run {fn : Func} {tmps : Array Value} {w : World} {K : List Value → Prop} (h : resL P (fun t => tmps.getD t undef) fn.results.toList K w) :
    ∃ vs, (results fn tmps).run P w = .ok (tupV vs) w ∧ K vs := by
  obtain ⟨vs, e, k, hl⟩ := resL_run tmps w _ K h
  refine ⟨vs, ?_, k⟩
  rw [results_eq, Array.mapM_eq_mapM_toList, Sem.run_bind]
  have : (List.toArray <$> fn.results.toList.mapM (resF tmps)).run P w = .ok vs.toArray w := by
    rw [map_eq_pure_bind, Sem.run_bind, e]; rfl
  refine (congrArg (fun x => Result.andThen x _) this).trans ?_
  show Sem.run P (pure _) w = _
  match vs with
  | [] => rfl
  | [v] => rfl
  | _ :: _ :: _ => rfl

theorem argEnv_spec : ∀ (l : List Value) (n : Nat) (t : Nat), (l.toArray ++ Array.replicate (n - l.length) undef).getD t undef = argEnv l t
  | [], n, t => by
    show _ = undef
    by_cases h : t < n <;> simp [Array.getD, h]
  | v :: l, n, t => by
    unfold argEnv
    cases t with
    | zero => simp [Array.getD]
    | succ t =>
      show _ = argEnv l t
      rw [← argEnv_spec l (n - 1) t]
      have e : n - (v :: l).length = n - 1 - l.length := by simp; omega
      rw [e]
      simp only [Array.getD_eq_getD_getElem?, Array.getElem?_append, Array.getElem?_replicate, List.size_toArray, List.length_cons, Nat.add_lt_add_iff_right, Nat.add_sub_add_right, List.getElem?_toArray, List.getElem?_cons_succ]

theorem leaves_of {fn : Func} {tmps : Array Value} {K : Value → World → Prop} : ∀ (ds : List Deferred) (w : World),
    leaveVC ds (fun w => resL P (fun t => tmps.getD t undef) fn.results.toList (fun vs => K (tupV vs) w) w) w → LeavesInM (Fr none) 0 P fn tmps (retP K) ds .returning w
  | [], w, h => by
    obtain ⟨vs, e, k⟩ := results_run h
    exact ⟨tupV vs, e, k⟩
  | d :: ds, w, h => by
    unfold leaveVC at h
    cases ht : d.target <;> simp only [ht] at h
    rename_i D
    exact ⟨by simp, .inl ⟨D, _, ht, run_takeDeferred h.1, leaves_of ds _ h.2⟩⟩

/-- **A function's contract from its verification condition.** -/
theorem callF_of {f : FuncId} {fn : Func} {c : Code} {args : List Value} {w : World} {K : Value → World → Prop} {lv : Nat → List Nat} {jn : Nat → Option (List Nat)} (hm : P.follows .mixedOrders = true)
    (hf : P.funcs[f]? = some fn) (hb : fn.body = some c) (hcall : ∀ args w, (callFunc f args).run P w = .ok (.enter f args) w)
    (hn : Nat.ble args.length fn.ntmps = true) (hok : codeOk fn.ntmps lv c = true)
    (h : codeVC P lv jn false c (retPost P fn K) { env := argEnv args, ds := [] } w) : CallF P f args.toArray K w := by
  refine .enter_ (hcall _) (callsIn_of_wp_marks (F := Fr none) hf hb trivial ?_)
  have hle := Nat.le_of_ble_eq_true hn
  have hst : stOf { tmps := args.toArray ++ Array.replicate (fn.ntmps - args.toArray.size) undef, defers := [] } = { env := argEnv args, ds := [] } := by
    show St.mk _ _ = St.mk _ _
    congr 1
    funext t
    exact argEnv_spec args fn.ntmps t
  rw [← hst] at h
  refine wpIn_mono (codeVC_sound hm c false none _ _ w (fun _ => rfl) hok (by simp; omega) h) ?_
  intro e a w' hl
  cases e with
  | normal => exact leaves_of _ _ hl.2.2
  | ret => exact leaves_of _ _ hl.2.2
  | exit id => exact hl.2.2.elim
  | goto id => exact hl.2.2.elim
  | panic c => exact hl.elim
  | outgrown => exact hl.elim
end
/-! ### The same heads, the continuation last: for the printed conditions -/
def Vl (P : Program) (s : Sem Value) (w : World) (K : Value → World → Prop) : Prop := Val P s K w
def Ef (P : Program) (s : Sem Unit) (w : World) (K : World → Prop) : Prop := Eff P s K w
def Cf (P : Program) (f : FuncId) (args : Array Value) (w : World) (K : Value → World → Prop) : Prop := CallF P f args K w
def Cv (P : Program) (f : Value) (args : Array Value) (w : World) (K : Value → World → Prop) : Prop := CallV P f args K w
def Cm (P : Program) (r : Value) (m : String) (args : Array Value) (w : World) (K : Value → World → Prop) : Prop := CallM P r m args K w
def Rs (P : Program) (s : Sem Value) (w : World) (K : Value → Prop) : Prop := ∃ v, s.run P w = .ok v w ∧ K v
def binop (op : BinOp) (t : TypeId) (x y : Operand) (a b : Value) : Sem Value := do eqGuard op t x y a b; binOp op t a b
def Rf (P : Program) (np : Nat) (g : Value) (ds : List Deferred) (w : World) (B : (Nat → Value) → ((World → Prop) → World → Prop) → (World → Prop) → (World → Prop) → (Nat → World → Prop) → World → Prop)
    (Kn Kr : List Deferred → World → Prop) (Kx : Nat → List Deferred → World → Prop) : Prop := RangeVC P np g B Kn Kr Kx ds w
def Lv (ds : List Deferred) (w : World) (K : World → Prop) : Prop := leaveVC ds K w
end Go.Eng
