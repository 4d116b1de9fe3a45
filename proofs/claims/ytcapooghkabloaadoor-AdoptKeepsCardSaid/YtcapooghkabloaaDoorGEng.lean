/- Part of the proof of a law of this seat: facts that it uses, each proved here. No conditions. -/
import Derived.Laws.Sem
import Derived.Laws.World
import Derived.OrdersIn
import Derived.RangeFuncLeaves
import Derived.RangeFuncOwn
/- An engine of this claim's own: a function from Go code to a verification condition, sound over the model's calculus. No conditions. -/
namespace Go.Eng
open Go

/-- The fence of all: no function is shut out, no depth is asked. -/
def Fr (r : Option Nat) : Fence := { Fence.wide with round := r }
theorem Fr_fn (r : Option Nat) (f : FuncId) : (Fr r).fn f := trivial
theorem Fr_room (r : Option Nat) (k : Nat) : (Fr r).room k := fun _ h => by cases h
theorem Fr_depth (r : Option Nat) : (Fr r).depth = none := rfl

/-- What stands in the temporaries, and which calls are deferred. -/
structure St where
  env : Nat → Value
  ds : List Deferred

def setEnv (e : Nat → Value) (d : Nat) (v : Value) : Nat → Value := fun t => bif Nat.beq t d then v else e t

def St.put (s : St) (d : Option Tmp) (v : Value) : St :=
  match d with
  | some d => { env := setEnv s.env d v, ds := s.ds }
  | none => s

def St.eval (s : St) : Operand → Value
  | .tmp t => s.env t
  | .const v => v
  | .global g => .pointer (some ⟨g, 0, none⟩)
  | .func f => .func (.func f) #[] #[]

abbrev Post := Exit → St → World → Prop

/-! ### The heads of a verification condition -/

/-- An operation that hands over a value. -/
def Val (P : Program) (s : Sem Value) (K : Value → World → Prop) (w : World) : Prop := ∃ v w', s.run P w = .ok v w' ∧ K v w'
/-- An operation that hands over nothing. -/
def Eff (P : Program) (s : Sem Unit) (K : World → Prop) (w : World) : Prop := ∃ w', s.run P w = .ok () w' ∧ K w'
/-- A value that is no nil of the kinds that a nil check asks about. -/
def NN : Value → Prop
  | .pointer none | .nilIface | .nilFunc => False
  | .func (.method _) _ _ => False
  | _ => True
def retP (K : Value → World → Prop) : Ending → World → Prop
  | .returned v, w => K v w
  | _, _ => False
/-- A call of a function: with a body, or of the model's own. -/
inductive CallF (P : Program) (f : FuncId) (args : Array Value) (K : Value → World → Prop) (w : World) : Prop where
  | enter_ (hc : ∀ w, (callFunc f args).run P w = .ok (.enter f args) w) (h : CallsIn (Fr none) 0 P f args w (retP K))
  | value_ (v : Value) (w' : World) (e : (callFunc f args).run P w = .ok (.value v) w') (k : K v w')
/-- A call of a function with a body. -/
def CallE (P : Program) (f : FuncId) (args : Array Value) (K : Value → World → Prop) (w : World) : Prop :=
  (∀ w, (callFunc f args).run P w = .ok (.enter f args) w) ∧ CallsIn (Fr none) 0 P f args w (retP K)
/-- A call of yield. -/
def YieldC (P : Program) (l : Nat) (args : Array Value) (K : Value → World → Prop) (w : World) : Prop :=
  ∃ fn tmps assign body, (Instr.yield l args).run P w = .ok (.round l fn tmps assign body) w ∧ RoundIn (Fr none) 0 P l fn tmps assign body w (retP K)
/-- A call of a function value. -/
def CallV (P : Program) (f : Value) (args : Array Value) (K : Value → World → Prop) (w : World) : Prop :=
  (∃ g lb, f = .func (.func g) #[] lb ∧ CallF P g (args ++ lb) K w) ∨ (∃ l, f = .func (.yield l) #[] #[] ∧ YieldC P l args K w)
/-- A call of a method of an interface value. -/
def CallM (P : Program) (recv : Value) (m : String) (args : Array Value) (K : Value → World → Prop) (w : World) : Prop :=
  ∃ f args', (callMethod recv m args).run P w = .ok (.enter f args') w ∧ CallsIn (Fr none) 0 P f args' w (retP K)
def Cond (v : Value) (A B : Prop) : Prop :=
  match v with
  | .bool true => A
  | .bool false => B
  | _ => False
theorem Cond_bool {b : Bool} {A B : Prop} (ha : b = true → A) (hb : b = false → B) : Cond (.bool b) A B := by
  cases b
  · exact hb rfl
  · exact ha rfl
theorem Cond_out {b : Bool} {A B : Prop} (h : Cond (.bool b) A B) : (b = true → A) ∧ (b = false → B) := by
  cases b
  · exact ⟨fun e => Bool.noConfusion e, fun _ => h⟩
  · exact ⟨fun _ => h, fun e => Bool.noConfusion e⟩
def Guard (v : Value) (want : Bool) (A B : Prop) : Prop :=
  match v, want with
  | .bool true, true => A
  | .bool false, false => A
  | _, _ => B
theorem Guard_out {b want : Bool} {A B : Prop} (h : Guard (.bool b) want A B) : (b = want → A) ∧ (b ≠ want → B) := by
  cases b <;> cases want <;> first | exact ⟨fun _ => h, fun e => absurd rfl e⟩ | exact ⟨fun e => Bool.noConfusion e, fun _ => h⟩
theorem Guard_in {b want : Bool} {A B : Prop} (h : (b = want → A) ∧ (b ≠ want → B)) : Guard (.bool b) want A B := by
  cases b <;> cases want <;> first | exact h.1 rfl | exact h.2 (by simp)

def builtinVC (P : Program) (b : Builtin) (ts : Array TypeId) (t : TypeId) (args : Array Value) (K : Value → World → Prop) (w : World) : Prop :=
  match b with
  | .append => Val P (Builtin.append_ ts t args) K w
  | .len => Val P (Builtin.len_ ts t args) K w
  | .cap => Val P (Builtin.cap_ ts t args) K w
  | .copy => Val P (Builtin.copy_ ts t args) K w
  | .clear => Val P (Builtin.clear_ ts t args) K w
  | .delete => Val P (Builtin.delete_ ts t args) K w
  | .max => Val P (Builtin.max_ ts t args) K w
  | .min => Val P (Builtin.min_ ts t args) K w
  | .unsafeSliceData => Val P (Builtin.unsafeSliceData_ ts t args) K w
  | .unsafeStringData => Val P (Builtin.unsafeStringData_ ts t args) K w
  | .unsafeString => Val P (Builtin.unsafeString_ ts t args) K w
  | .unsafeSlice => Val P (Builtin.unsafeSlice_ ts t args) K w
  | _ => False

def callVC (P : Program) (c : Call) (t : TypeId) (ρ : Operand → Value) (args : Array Value) (K : Value → World → Prop) (w : World) : Prop :=
  match c.callee with
  | .builtin b => builtinVC P b c.argTypes t args K w
  | .value (.func g) => CallF P g args K w
  | .value x => CallV P (ρ x) args K w
  | .invoke recv m => CallM P (ρ recv) m args K w

/-- One operation: from what its operands hold to what it hands over. -/
def opRun (P : Program) (o : Oper) (ρ : Operand → Value) (K : Value → World → Prop) (w : World) : Prop :=
  match o.op with
  | .move x => K (ρ x) w
  | .assign x => K (ρ x) w
  | .pick c a b => Cond (ρ c) (K (ρ a) w) (K (ρ b) w)
  | .nilCheck x => NN (ρ x) ∧ K (ρ x) w
  | .alloc e => Val P (Instr.alloc e true (.tuple #[])) K w
  | .box e x => Val P (Instr.box e (ρ x)) K w
  | .build t ps => Val P (Instr.build t (ps.toList.map fun p => (p.1, ρ p.2)).toArray) K w
  | .buildSlice t n ps => Val P (Instr.buildSlice t n (ps.toList.map fun p => (p.1, ρ p.2)).toArray) K w
  | .load t a => Val P (Instr.loadAt t (ρ a)) K w
  | .store t a x => Eff P (Instr.storeAt t (ρ a) (ρ x)) (K undef) w
  | .binOp op t x y _ => Val P (do eqGuard op t x y (ρ x) (ρ y); binOp op t (ρ x) (ρ y)) K w
  | .unOp op _ x => Val P (Op.unary op (ρ x)) K w
  | .convert s d x => Val P (convert s d (ρ x)) K w
  | .sliceToArrayPointer d x => Val P (Instr.arrayAt d (ρ x)) K w
  | .makeInterface t x => Val P (Instr.makeInterface t (ρ x)) K w
  | .makeFunc fn a b => Val P (Instr.makeFunc fn (a.toList.map ρ).toArray (b.toList.map ρ).toArray) K w
  | .makeMap t r => Val P (Instr.makeMap t (r.map ρ)) K w
  | .makeSlice t l c => Val P (Instr.makeSlice t (ρ l) (ρ c)) K w
  | .slice t x l h m => Val P (Instr.sliceAt t (ρ x) (l.map ρ) (h.map ρ) (m.map ρ)) K w
  | .fieldAddr t x f => Val P (Instr.fieldAt t (ρ x) f) K w
  | .field t x f => Val P (Instr.field t (ρ x) f) K w
  | .indexAddr t x i => Val P (Instr.indexAt t (ρ x) (ρ i)) K w
  | .index t x i => Val P (Instr.index t (ρ x) (ρ i)) K w
  | .lookup t x i ok => Val P (Instr.lookup t (ρ x) (ρ i) ok) K w
  | .mapUpdate t m k v => Eff P (Instr.mapUpdate t (ρ m) (ρ k) (ρ v)) (K undef) w
  | .insert t m k v => Eff P (Instr.mapUpdate t (ρ m) (ρ k) (ρ v)) (K undef) w
  | .mapEntry t m k => Val P (Instr.mapEntry t (ρ m) (ρ k)) K w
  | .entryStore t m k v => Eff P (Instr.entryStore t (ρ m) (ρ k) (ρ v)) (K undef) w
  | .range t x => Val P (Instr.range t (ρ x)) K w
  | .next x b => Val P (Instr.next (ρ x) b o.type) K w
  | .entry x => Val P (Instr.entry (ρ x)) K w
  | .typeAssert x t u ok => Val P (Instr.typeAssert (ρ x) t u ok) K w
  | .extract x i => Val P (Instr.extract (ρ x) i) K w
  | .call c => callVC P c o.type ρ (c.args.toList.map ρ).toArray K w
  | _ => False

theorem Val.mono {P : Program} {s : Sem Value} {K K' : Value → World → Prop} {w : World} (h : Val P s K w) (hk : ∀ v w, K v w → K' v w) : Val P s K' w :=
  let ⟨v, w', e, k⟩ := h; ⟨v, w', e, hk _ _ k⟩
theorem Eff.mono {P : Program} {s : Sem Unit} {K K' : World → Prop} {w : World} (h : Eff P s K w) (hk : ∀ w, K w → K' w) : Eff P s K' w :=
  let ⟨w', e, k⟩ := h; ⟨w', e, hk _ k⟩
theorem retP_mono {K K' : Value → World → Prop} (hk : ∀ v w, K v w → K' v w) : ∀ e w, retP K e w → retP K' e w
  | .returned _, _, h => hk _ _ h
theorem CallF.mono {P : Program} {f : FuncId} {args : Array Value} {K K' : Value → World → Prop} {w : World} (h : CallF P f args K w) (hk : ∀ v w, K v w → K' v w) : CallF P f args K' w :=
  match h with
  | .enter_ hc h => .enter_ hc (h.mono (retP_mono hk))
  | .value_ v w' e k => .value_ v w' e (hk _ _ k)
theorem CallE.mono {P : Program} {f : FuncId} {args : Array Value} {K K' : Value → World → Prop} {w : World} (h : CallE P f args K w) (hk : ∀ v w, K v w → K' v w) : CallE P f args K' w :=
  ⟨h.1, h.2.mono (retP_mono hk)⟩
theorem CallF.enter {P : Program} {f : FuncId} {args : Array Value} {K : Value → World → Prop} {w : World} (hf : ∀ args w, (callFunc f args).run P w = .ok (.enter f args) w) (h : CallF P f args K w) : CallE P f args K w := by
  rcases h with ⟨hc, h⟩ | ⟨v, w', e, _⟩
  · exact ⟨hc, h⟩
  · rw [hf args w] at e; cases e
theorem YieldC.mono {P : Program} {l : Nat} {args : Array Value} {K K' : Value → World → Prop} {w : World} (h : YieldC P l args K w) (hk : ∀ v w, K v w → K' v w) : YieldC P l args K' w :=
  let ⟨fn, t, a, b, e, r⟩ := h; ⟨fn, t, a, b, e, r.mono (retP_mono hk)⟩
theorem CallV.mono {P : Program} {f : Value} {args : Array Value} {K K' : Value → World → Prop} {w : World} (h : CallV P f args K w) (hk : ∀ v w, K v w → K' v w) : CallV P f args K' w :=
  h.imp (fun ⟨g, lb, e, c⟩ => ⟨g, lb, e, c.mono hk⟩) (fun ⟨l, e, c⟩ => ⟨l, e, c.mono hk⟩)
theorem CallM.mono {P : Program} {r : Value} {m : String} {args : Array Value} {K K' : Value → World → Prop} {w : World} (h : CallM P r m args K w) (hk : ∀ v w, K v w → K' v w) : CallM P r m args K' w :=
  let ⟨f, a, e, c⟩ := h; ⟨f, a, e, c.mono (retP_mono hk)⟩
theorem Cond.mono {v : Value} {A B A' B' : Prop} (h : Cond v A B) (ha : A → A') (hb : B → B') : Cond v A' B' := by
  cases v with
  | bool b => cases b
              · exact hb h
              · exact ha h
  | _ => exact h.elim
theorem Guard.mono {v : Value} {b : Bool} {A B A' B' : Prop} (h : Guard v b A B) (ha : A → A') (hb : B → B') : Guard v b A' B' := by
  cases v <;> first | exact hb h | exact Guard_in ⟨fun e => ha ((Guard_out h).1 e), fun e => hb ((Guard_out h).2 e)⟩

theorem builtinVC.mono {P : Program} {b : Builtin} {ts : Array TypeId} {t : TypeId} {args : Array Value} {K K' : Value → World → Prop} {w : World}
    (h : builtinVC P b ts t args K w) (hk : ∀ v w, K v w → K' v w) : builtinVC P b ts t args K' w := by
  cases b <;> first | exact Val.mono h hk | exact h.elim

theorem opRun.mono {P : Program} {o : Oper} {ρ : Operand → Value} {K K' : Value → World → Prop} {w : World} (hk : ∀ v w, K v w → K' v w)
    (h : opRun P o ρ K w) : opRun P o ρ K' w := by
  unfold opRun at h ⊢
  cases ho : o.op <;> simp only [ho] at h ⊢ <;>
    first
      | exact hk _ _ h
      | exact Val.mono h hk
      | exact Eff.mono h (fun _ => hk _ _)
      | exact ⟨h.1, hk _ _ h.2⟩
      | exact Cond.mono h (hk _ _) (hk _ _)
      | exact h.elim
      | skip
  rename_i c
  unfold callVC at h ⊢
  cases hc : c.callee with
  | builtin b => simp only [hc] at h ⊢; exact builtinVC.mono h hk
  | invoke r m => simp only [hc] at h ⊢; exact CallM.mono h hk
  | value x => cases x <;> simp only [hc] at h ⊢ <;> first | exact CallF.mono h hk | exact CallV.mono h hk

end Go.Eng
namespace Go.Eng
open Go

theorem callsIn_round {r : Option Nat} {n : Nat} {P : Program} {f : FuncId} {args : Array Value} {w : World} {R : Ending → World → Prop}
    (h : CallsIn (Fr none) 0 P f args w R) : CallsIn (Fr r) n P f args w R := ⟨h.1, fun cs _ => h.2 cs (Fr_room none _)⟩
theorem roundIn_round {r : Option Nat} {n : Nat} {P : Program} {l : Nat} {f : FuncId} {t : Array Value} {as b : Code} {w : World} {R : Ending → World → Prop}
    (h : RoundIn (Fr none) 0 P l f t as b w R) : RoundIn (Fr r) n P l f t as b w R := ⟨h.1, fun c cs _ => h.2 c cs (Fr_room none _)⟩

theorem semAt_plain {r : Option Nat} {ρ : Operand → Value} {o : Oper} (h : ∀ c, o.op ≠ .defer c) : o.semAt r ρ = execOp ρ o := by
  unfold Oper.semAt
  cases r with
  | none => rfl
  | some l => cases ho : o.op <;> first | rfl | exact absurd ho (h _)

section
variable {P : Program} {r : Option Nat} {o : Oper} {a : Act} {next : Act → World → Prop} {Q : Exit → Act → World → Prop} {w : World}

theorem upon_value {s : Sem Value} (h : Val P s (fun v w => next (a.put o.dst v) w) w) :
    o.uponIn (Fr r) 0 P a next Q ((do pure (Next.value (← s))).run P w) := by
  obtain ⟨v, w', e, k⟩ := h
  have : (do pure (Next.value (← s)) : Sem Next).run P w = .ok (.value v) w' := by
    rw [Sem.run_bind, e]; rfl
  rw [this]; exact k
theorem upon_unit {s : Sem Unit} (h : Eff P s (next (a.put o.dst undef)) w) :
    o.uponIn (Fr r) 0 P a next Q ((do s; pure Next.skip).run P w) := by
  obtain ⟨w', e, k⟩ := h
  have : (do s; pure Next.skip : Sem Next).run P w = .ok .skip w' := by
    rw [Sem.run_bind, e]; rfl
  rw [this]; exact k
theorem upon_callF {f : FuncId} {args : Array Value} {s : Sem Next} (hs : s.run P w = (callFunc f args).run P w)
    (h : CallF P f args (fun v w => next (a.put o.dst v) w) w) :
    o.uponIn (Fr r) 0 P a next Q (s.run P w) := by
  rcases h with ⟨hc, h⟩ | ⟨v, w', e, k⟩
  case value_ => rw [hs, e]; exact k
  rw [hs, hc w]
  exact ⟨fun e => Bool.noConfusion e, (callsIn_round h).mono fun e w h => by cases e <;> first | exact h | exact h.elim⟩
theorem upon_yield {l : Nat} {args : Array Value} {s : Sem Next} (hs : s.run P w = (Instr.yield l args).run P w)
    (h : YieldC P l args (fun v w => next (a.put o.dst v) w) w) :
    o.uponIn (Fr r) 0 P a next Q (s.run P w) := by
  obtain ⟨fn, t, as, b, e, hr⟩ := h
  rw [hs, e]
  exact ⟨fun e => Bool.noConfusion e, (roundIn_round hr).mono fun e w h => by cases e <;> first | exact h | exact h.elim⟩

theorem ofValue_func (g : Fn) (lb args : Array Value) : Deferred.ofValue (.func g #[] lb) args = pure { target := .fn g lb, args } := by
  simp [Deferred.ofValue]

theorem map_list {α β : Type} (f : α → β) (a : Array α) : (a.toList.map f).toArray = a.map f := by
  rw [← Array.toList_map]

theorem callVC_sound {c : Call} {ρ : Operand → Value} (hρ : ∀ f, ρ (.func f) = .func (.func f) #[] #[])
    (h : callVC P c o.type ρ (c.args.toList.map ρ).toArray (fun v w => next (a.put o.dst v) w) w) :
    o.uponIn (Fr r) 0 P a next Q ((do let d ← resolve ρ c o.type; invoke d.target d.args).run P w) := by
  rw [map_list] at h
  unfold callVC at h
  unfold resolve
  cases hc : c.callee with
  | builtin b =>
    simp only [hc] at h ⊢
    cases b <;> first | exact h.elim | exact upon_value (s := _) h
  | invoke rv m =>
    simp only [hc] at h ⊢
    obtain ⟨f, args', e, hcall⟩ := h
    have : (do let d ← (pure { target := .fn (.method m) #[], args := #[ρ rv] ++ c.args.map ρ } : Sem Deferred); invoke d.target d.args).run P w = .ok (.enter f args') w := by
      rw [Sem.run_bind]
      show (invoke (.fn (.method m) #[]) (#[ρ rv] ++ c.args.map ρ)).run P w = _
      unfold invoke
      have e1 : (#[ρ rv] ++ c.args.map ρ)[0]? = some (ρ rv) := by simp [Array.getElem?_append]
      have e2 : (#[ρ rv] ++ c.args.map ρ).extract 1 (#[ρ rv] ++ c.args.map ρ).size = c.args.map ρ := by
        apply Array.ext_getElem?; intro i; simp [Array.getElem?_extract]
        intro h; rw [Array.getElem?_eq_none (by simpa using h)]; rfl
      simp only [e1, e2]
      exact e
    rw [this]
    exact ⟨fun e => Bool.noConfusion e, (callsIn_round hcall).mono fun e w h => by cases e <;> first | exact h | exact h.elim⟩
  | value x =>
    have key : ∀ (v : Value), CallV P v (c.args.map ρ) (fun v w => next (a.put o.dst v) w) w →
        o.uponIn (Fr r) 0 P a next Q ((do let d ← Deferred.ofValue v (c.args.map ρ); invoke d.target d.args).run P w) := by
      intro v h
      rcases h with ⟨g, lb, rfl, h⟩ | ⟨l, rfl, h⟩
      · refine upon_callF ?_ h
        rw [ofValue_func, Sem.run_bind]; rfl
      · refine upon_yield ?_ h
        rw [ofValue_func, Sem.run_bind]; rfl
    cases x with
    | func f =>
      simp only [hc] at h ⊢
      rw [hρ f]
      refine upon_callF ?_ h
      rw [ofValue_func, Sem.run_bind]
      show (invoke (.fn (.func f) #[]) (c.args.map ρ)).run P w = _
      unfold invoke; simp
    | tmp t => simp only [hc] at h ⊢; exact key _ h
    | const t => simp only [hc] at h ⊢; exact key _ h
    | global t => simp only [hc] at h ⊢; exact key _ h

theorem opRun_sound (h : opRun P o a.eval (fun v w => next (a.put o.dst v) w) w) : o.wpIn (Fr r) 0 P a w next Q := by
  refine ⟨fun _ _ => trivial, ?_⟩
  have hd : ∀ c, o.op ≠ .defer c := by
    intro c hc; unfold opRun at h; simp only [hc] at h
  show o.uponIn (Fr r) 0 P a next Q ((o.semAt r a.eval).run P w)
  rw [semAt_plain hd]
  unfold opRun at h
  unfold execOp
  cases ho : o.op <;> simp only [ho, map_list] at h ⊢ <;>
    first
      | exact h.elim
      | exact h
      | exact upon_value h
      | exact upon_unit h
      | exact callVC_sound (fun _ => rfl) (by rw [map_list]; exact h)
      | skip
  case pick c x y =>
    cases hv : a.eval c <;> simp only [hv, Cond] at h
    rename_i b
    rw [Sem.run_bind]
    have : (asBool (Value.bool b)).run P w = .ok b w := rfl
    rw [this]
    cases b
    · exact h
    · exact h
  case nilCheck x =>
    obtain ⟨hn, h⟩ := h
    cases hv : a.eval x with
    | pointer p => cases p <;> simp only [hv, NN] at hn h ⊢ ; exact h
    | func f x y => cases f <;> simp only [hv, NN] at hn h ⊢ <;> exact h
    | nilIface => simp only [hv, NN] at hn
    | nilFunc => simp only [hv, NN] at hn
    | bool b => simp only [hv] at h ⊢; exact h
    | int k i => simp only [hv] at h ⊢; exact h
    | float k i => simp only [hv] at h ⊢; exact h
    | complex k i j => simp only [hv] at h ⊢; exact h
    | string k => simp only [hv] at h ⊢; exact h
    | slice x i j => simp only [hv] at h ⊢; exact h
    | map x => simp only [hv] at h ⊢; exact h
    | chan x => simp only [hv] at h ⊢; exact h
    | iface x i => simp only [hv] at h ⊢; exact h
    | agg x => simp only [hv] at h ⊢; exact h
    | tuple x => simp only [hv] at h ⊢; exact h
end
end Go.Eng
namespace Go.Eng
open Go

/-! ### Regions -/
def gval (ops : Array Oper) (j : Nat) (s : St) : Value :=
  match ops[j]? with
  | some o => match o.dst with | some d => s.env d | none => undef
  | none => undef

/-- One operation of a region, under its guard. -/
def opG (P : Program) (ops : Array Oper) (i : Nat) (K : St → World → Prop) (s : St) (w : World) : Prop :=
  match ops[i]? with
  | none => K s w
  | some o => match o.guard with
    | none => opRun P o s.eval (fun v w => K (s.put o.dst v) w) w
    | some g => Guard (gval ops g.1 s) g.2 (opRun P o s.eval (fun v w => K (s.put o.dst v) w) w) (K (s.put o.dst undef) w)

/-- Is an operation's result the guard of another one? -/
def isGuard (ops : Array Oper) (i : Nat) : Bool := ops.toList.any fun o => match o.guard with | some g => Nat.beq g.1 i | none => false
/-- A result that is a guard is taken as true, or as false. -/
def splitK (b : Bool) (v : Value) (F : Value → Prop) : Prop := bif b then Cond v (F (.bool true)) (F (.bool false)) else F v
theorem splitK_out {b : Bool} {v : Value} {F : Value → Prop} (h : splitK b v F) : F v := by
  cases b with
  | false => exact h
  | true => cases v with
    | bool t => cases t <;> exact h
    | _ => exact h.elim
/-- 'opG', a guard's result taken apart. -/
def opGs (P : Program) (ops : Array Oper) (i : Nat) (K : St → World → Prop) (s : St) (w : World) : Prop :=
  match ops[i]? with
  | none => K s w
  | some o => match o.guard with
    | none => opRun P o s.eval (fun v w => splitK (isGuard ops i) v fun v => K (s.put o.dst v) w) w
    | some g => Guard (gval ops g.1 s) g.2 (opRun P o s.eval (fun v w => splitK (isGuard ops i) v fun v => K (s.put o.dst v) w) w) (K (s.put o.dst undef) w)
theorem opGs_out {P : Program} {ops : Array Oper} {i : Nat} {K : St → World → Prop} {s : St} {w : World} (h : opGs P ops i K s w) : opG P ops i K s w := by
  unfold opGs at h
  unfold opG
  cases ho : ops[i]? with
  | none => simp only [ho] at h ⊢; exact h
  | some o =>
    simp only [ho] at h ⊢
    cases hg : o.guard with
    | none => simp only [hg] at h ⊢; exact opRun.mono (fun _ _ => splitK_out) h
    | some g => simp only [hg] at h ⊢; exact Guard.mono h (opRun.mono fun _ _ => splitK_out) id

def opsVC (P : Program) (ops : Array Oper) (K : St → World → Prop) : List Nat → St → World → Prop
  | [], s, w => K s w
  | i :: rest, s, w => opGs P ops i (opsVC P ops K rest) s w

/-- A value that an operation hands over in every world of a kind, and the world stays. -/
def ValQ (P : Program) (S : World → Prop) (x : Sem Value) (K : Value → Prop) : Prop := ∃ v, (∀ w, S w → x.run P w = .ok v w) ∧ K v

/-- A value that an operation hands over in whatever world, and the world stays. -/
def Pv (P : Program) (x : Sem Value) (K : Value → Prop) : Prop := ∃ v, (∀ w, x.run P w = .ok v w) ∧ K v

def opQ (P : Program) (o : Oper) (ρ : Operand → Value) (S : World → Prop) (K : Value → Prop) : Prop :=
  match o.op with
  | .move x => K (ρ x)
  | .assign x => K (ρ x)
  | .pick c a b => Cond (ρ c) (K (ρ a)) (K (ρ b))
  | .nilCheck x => NN (ρ x) ∧ K (ρ x)
  | .build t ps => Pv P (Instr.build t (ps.toList.map fun p => (p.1, ρ p.2)).toArray) K
  | .load t a => ValQ P S (Instr.loadAt t (ρ a)) K
  | .binOp op t x y _ => Pv P (do eqGuard op t x y (ρ x) (ρ y); binOp op t (ρ x) (ρ y)) K
  | .unOp op _ x => Pv P (Op.unary op (ρ x)) K
  | .convert s d x => ValQ P S (convert s d (ρ x)) K
  | .makeFunc fn a b => Pv P (Instr.makeFunc fn (a.toList.map ρ).toArray (b.toList.map ρ).toArray) K
  | .slice t x l h m => Pv P (Instr.sliceAt t (ρ x) (l.map ρ) (h.map ρ) (m.map ρ)) K
  | .fieldAddr t x f => Pv P (Instr.fieldAt t (ρ x) f) K
  | .field t x f => Pv P (Instr.field t (ρ x) f) K
  | .indexAddr t x i => Pv P (Instr.indexAt t (ρ x) (ρ i)) K
  | .index t x i => Pv P (Instr.index t (ρ x) (ρ i)) K
  | .lookup t x i ok => ValQ P S (Instr.lookup t (ρ x) (ρ i) ok) K
  | .extract x i => Pv P (Instr.extract (ρ x) i) K
  | .call c => match c.callee with
    | .builtin .len => ValQ P S (Builtin.len_ c.argTypes o.type (c.args.toList.map ρ).toArray) K
    | .builtin .cap => ValQ P S (Builtin.cap_ c.argTypes o.type (c.args.toList.map ρ).toArray) K
    | .builtin .max => ValQ P S (Builtin.max_ c.argTypes o.type (c.args.toList.map ρ).toArray) K
    | .builtin .min => ValQ P S (Builtin.min_ c.argTypes o.type (c.args.toList.map ρ).toArray) K
    | _ => False
  | _ => False

def isQ (o : Oper) : Bool :=
  match o.op with
  | .move _ | .assign _ | .pick .. | .nilCheck _ | .build .. | .load .. | .binOp .. | .unOp .. | .convert .. | .makeFunc .. | .slice .. | .fieldAddr .. | .field ..
  | .indexAddr .. | .index .. | .lookup .. | .extract .. => true
  | .call c => match c.callee with
    | .builtin .len | .builtin .cap | .builtin .max | .builtin .min => true
    | _ => false
  | _ => false

/-- Does what only reads hang on memory? -/
def isImp (o : Oper) : Bool :=
  match o.op with
  | .load .. | .lookup .. | .convert .. | .call _ => true
  | _ => false
def isImpAt (ops : Array Oper) (i : Nat) : Bool :=
  match ops[i]? with
  | some o => isImp o || !isQ o
  | none => true

def opGQ (P : Program) (ops : Array Oper) (i : Nat) (S : World → Prop) (K : St → Prop) (s : St) : Prop :=
  match ops[i]? with
  | none => False
  | some o => match o.guard with
    | none => opQ P o s.eval S (fun v => splitK (isGuard ops i) v fun v => K (s.put o.dst v))
    | some g => Guard (gval ops g.1 s) g.2 (opQ P o s.eval S (fun v => splitK (isGuard ops i) v fun v => K (s.put o.dst v))) (K (s.put o.dst undef))

def rdy (ops : Array Oper) (done : List Nat) (i : Nat) : Bool :=
  !(done.contains i) && match ops[i]? with
    | some o => o.after.toList.all (fun e => !Region.binds .any e || done.contains e.on)
    | none => false

/-- The temporaries that an operation looks at. -/
def looks (ops : Array Oper) (o : Oper) : List Nat :=
  (o.op.operands.toList.filterMap fun | .tmp t => some t | _ => none) ++
    (match o.guard with
     | some g => match ops[g.1]? with
       | some o' => o'.dst.toList
       | none => []
     | none => [])
def apartB (ops : Array Oper) (i j : Nat) : Bool :=
  match ops[i]?, ops[j]? with
  | some a, some b =>
    (a.dst.toList.all fun d => !(looks ops b).contains d && !(b.dst.toList.contains d)) && (b.dst.toList.all fun d => !(looks ops a).contains d)
  | _, _ => true
def freeB (ops : Array Oper) (done : List Nat) (i : Nat) : Bool :=
  (List.range ops.size).all fun j => Nat.beq j i || done.contains j ||
    (match ops[j]? with
     | some o => o.after.toList.any fun e => Region.binds .any e && Nat.beq e.on i
     | none => true) || apartB ops i j
def isQat (ops : Array Oper) (i : Nat) : Bool :=
  match ops[i]? with
  | some o => isQ o
  | none => false

/-- Is i done for certain when j's turn comes? -/
def befB (ops : Array Oper) : Nat → Nat → Nat → Bool
  | 0, _, _ => false
  | f + 1, j, i => match ops[j]? with
    | some o => o.after.toList.any fun e => Region.binds .any e && (Nat.beq e.on i || befB ops f e.on i)
    | none => false
/-- Does the region store more than once? -/
def manyB (ops : Array Oper) : Bool := Nat.ble 2 (ops.toList.filter fun o => match o.op with | .store .. => true | _ => false).length
/-- Has all that was taken been done for certain, when j's turn comes? -/
def barB (ops : Array Oper) (done : List Nat) (j : Nat) : Bool :=
  match ops[j]? with
  | some o => !isQ o && ((done.all fun i => !isImpAt ops i || o.after.toList.any fun e => Region.binds .any e && Nat.beq e.on i) ||
      manyB ops && done.all fun i => !(isImpAt ops i && isQat ops i) || befB ops 4 j i)
  | none => false
/-- Does the region store more than once, and else only read? Then what hangs on memory is taken in each order. -/
def lateB (ops : Array Oper) : Bool := manyB ops && ops.toList.all fun o => isQ o || match o.op with | .store .. => true | _ => false
/-- What may be asked of the worlds from here on: where all that was taken has been done for certain, whatever one likes. -/
def WrK (b : Bool) (S : World → Prop) (w : World) (F : (World → Prop) → Prop) : Prop :=
  bif b then ∃ S' : World → Prop, S' w ∧ F S' else ∃ S' : World → Prop, (∀ x, S' x → S x) ∧ S' w ∧ F S'

def allL (F : Nat → Prop) : List Nat → Prop
  | [] => True
  | i :: r => F i ∧ allL F r

/-- A region whose order is open: what only reads is taken as early as may be, under S; what writes, in each order that is left. -/
def drawVC (P : Program) (ops : Array Oper) (K : St → World → Prop) : Nat → (World → Prop) → List Nat → St → World → Prop
  | 0, _, done, s, w => match (List.range ops.size).filter (rdy ops done) with
    | [] => K s w
    | _ :: _ => False
  | fuel + 1, S, done, s, w =>
    match (List.range ops.size).filter (rdy ops done) with
    | [] => K s w
    | i0 :: rs =>
      match (i0 :: rs).find? (fun i => isQat ops i && freeB ops done i && !(lateB ops && isImpAt ops i)) with
      | some i => opGQ P ops i S (fun s' => drawVC P ops K fuel S (i :: done) s' w) s
      | none => match rs with
        | [] => opGs P ops i0 (fun s' w' => WrK (barB ops done i0) S w' fun S' => drawVC P ops K fuel S' (i0 :: done) s' w') s w
        | _ :: _ => allL (fun i => opGs P ops i (fun s' w' => WrK (barB ops done i) S w' fun S' => drawVC P ops K fuel S' (i :: done) s' w') s w) (i0 :: rs)

def anyV (P : Program) (ops : Array Oper) (K : St → World → Prop) : Nat → (List Nat → World → Prop) → List Nat → St → World → Prop
  | 0, S, done, s, w => S done w ∧ (∀ i, i < ops.size → rdy ops done i = false) ∧ K s w
  | fuel + 1, S, done, s, w => S done w ∧ ((∀ i, i < ops.size → rdy ops done i = false) → K s w) ∧
      ∀ i, i < ops.size → rdy ops done i = true → opG P ops i (anyV P ops K fuel S (i :: done)) s w

section
variable {P : Program} {ops : Array Oper} {K : St → World → Prop}

theorem opG.mono {i : Nat} {K K' : St → World → Prop} {s : St} {w : World} (hk : ∀ s w, K s w → K' s w) (h : opG P ops i K s w) : opG P ops i K' s w := by
  unfold opG at h ⊢
  cases ho : ops[i]? with
  | none => simp only [ho] at h ⊢; exact hk _ _ h
  | some o =>
    simp only [ho] at h ⊢
    cases hg : o.guard with
    | none => simp only [hg] at h ⊢; exact opRun.mono (fun _ _ => hk _ _) h
    | some g => simp only [hg] at h ⊢; exact Guard.mono h (opRun.mono fun _ _ => hk _ _) (hk _ _)

theorem anyV.mono {fuel : Nat} : ∀ {S S' : List Nat → World → Prop} {done : List Nat} {s : St} {w : World}, (∀ d x, (∀ y, y ∈ done → y ∈ d) → S d x → S' d x) →
    anyV P ops K fuel S done s w → anyV P ops K fuel S' done s w := by
  induction fuel with
  | zero => exact fun hs h => ⟨hs _ _ (fun _ => id) h.1, h.2⟩
  | succ f ih => exact fun hs h => ⟨hs _ _ (fun _ => id) h.1, h.2.1, fun i hi hr => opG.mono (fun _ _ => ih fun d x hd => hs d x fun y hy => hd y (List.mem_cons_of_mem _ hy)) (h.2.2 i hi hr)⟩

theorem rdy_congr {d d' : List Nat} (h : ∀ x, x ∈ d ↔ x ∈ d') (i : Nat) : rdy ops d i = rdy ops d' i := by
  have e : ∀ x, d.contains x = d'.contains x := fun x => by rw [Bool.eq_iff_iff]; simp [h]
  unfold rdy
  cases ops[i]? with
  | none => simp
  | some o => simp only [e]

theorem anyV.congr {fuel : Nat} : ∀ {S : List Nat → World → Prop} {d d' : List Nat} {s : St} {w : World}, (∀ d d' x, (∀ y, y ∈ d ↔ y ∈ d') → S d x → S d' x) → (∀ x, x ∈ d ↔ x ∈ d') →
    anyV P ops K fuel S d s w → anyV P ops K fuel S d' s w := by
  induction fuel with
  | zero => exact fun hS hd h => ⟨hS _ _ _ hd h.1, fun i hi => by rw [← rdy_congr hd]; exact h.2.1 i hi, h.2.2⟩
  | succ f ih =>
    exact fun hS hd h => ⟨hS _ _ _ hd h.1, fun hn => h.2.1 fun i hi => by rw [rdy_congr hd]; exact hn i hi,
      fun i hi hr => opG.mono (fun _ _ => ih hS (fun x => by simp [hd])) (h.2.2 i hi (by rw [rdy_congr hd]; exact hr))⟩

theorem anyV.holds {fuel : Nat} {S : List Nat → World → Prop} {d : List Nat} {s : St} {w : World} (h : anyV P ops K fuel S d s w) : S d w := by
  cases fuel <;> exact h.1

theorem put_env (s : St) (d : Option Tmp) (v : Value) (t : Nat) (h : ∀ x, d = some x → x ≠ t) : (s.put d v).env t = s.env t := by
  cases d with
  | none => rfl
  | some d =>
    have : Nat.beq t d = false := by
      have := h d rfl
      cases hb : Nat.beq t d with
      | false => rfl
      | true => exact absurd (Nat.eq_of_beq_eq_true hb).symm this
    show (bif Nat.beq t d then v else s.env t) = _
    rw [this]; rfl

theorem put_comm (s : St) (d d' : Option Tmp) (v v' : Value) (h : ∀ x, d = some x → d' ≠ some x) : (s.put d v).put d' v' = (s.put d' v').put d v := by
  cases d with
  | none => cases d' <;> rfl
  | some d =>
    cases d' with
    | none => rfl
    | some d' =>
      have hne : d ≠ d' := fun e => h d rfl (by rw [e])
      show St.mk _ _ = St.mk _ _
      congr 1
      funext t
      show (bif Nat.beq t d' then v' else bif Nat.beq t d then v else s.env t) = (bif Nat.beq t d then v else bif Nat.beq t d' then v' else s.env t)
      cases h1 : Nat.beq t d' <;> cases h2 : Nat.beq t d <;> try rfl
      exact absurd ((Nat.eq_of_beq_eq_true h2).symm.trans (Nat.eq_of_beq_eq_true h1)) hne

theorem put_eval (s : St) (d : Option Tmp) (v : Value) (x : Operand) (h : ∀ t, d = some t → x ≠ .tmp t) : (s.put d v).eval x = s.eval x := by
  cases x with
  | tmp t => exact put_env s d v t (fun y e hy => h y e (by rw [hy]))
  | const c => rfl
  | global g => rfl
  | func f => rfl

theorem opRun_congr {o : Oper} {ρ ρ' : Operand → Value} {K : Value → World → Prop} {w : World} (h : ∀ x ∈ o.op.operands, ρ x = ρ' x) (hr : opRun P o ρ K w) :
    opRun P o ρ' K w := by
  unfold opRun at hr ⊢
  cases ho : o.op <;> simp only [ho, Op.operands] at h hr ⊢ <;> try exact hr
  case move x => rw [← h x (by simp)]; exact hr
  case assign x => rw [← h x (by simp)]; exact hr
  case pick c a b => rw [← h c (by simp), ← h a (by simp), ← h b (by simp)]; exact hr
  case box e x => rw [← h x (by simp)]; exact hr
  case build t ps =>
    have : (ps.toList.map fun p => (p.1, ρ p.2)) = ps.toList.map fun p => (p.1, ρ' p.2) := List.map_congr_left fun p hp => by rw [h p.2 (by simp; exact ⟨p.1, by simpa using hp⟩)]
    rw [← this]; exact hr
  case buildSlice t n ps =>
    have : (ps.toList.map fun p => (p.1, ρ p.2)) = ps.toList.map fun p => (p.1, ρ' p.2) := List.map_congr_left fun p hp => by rw [h p.2 (by simp; exact ⟨p.1, by simpa using hp⟩)]
    rw [← this]; exact hr
  case load t x => rw [← h x (by simp)]; exact hr
  case store t a v => rw [← h a (by simp), ← h v (by simp)]; exact hr
  case nilCheck x => rw [← h x (by simp)]; exact hr
  case binOp op t x y z => rw [← h x (by simp), ← h y (by simp)]; exact hr
  case unOp op t x => rw [← h x (by simp)]; exact hr
  case convert s d x => rw [← h x (by simp)]; exact hr
  case sliceToArrayPointer d x => rw [← h x (by simp)]; exact hr
  case makeInterface t x => rw [← h x (by simp)]; exact hr
  case makeFunc fn a b =>
    have h1 : a.toList.map ρ = a.toList.map ρ' := List.map_congr_left fun p hp => h p (by simp at hp ⊢; exact .inl hp)
    have h2 : b.toList.map ρ = b.toList.map ρ' := List.map_congr_left fun p hp => h p (by simp at hp ⊢; exact .inr hp)
    rw [← h1, ← h2]; exact hr
  case makeMap t x =>
    have : x.map ρ = x.map ρ' := by cases x with
      | none => rfl
      | some y => simp [h y (by simp)]
    rw [← this]; exact hr
  case makeSlice t a b => rw [← h a (by simp), ← h b (by simp)]; exact hr
  case slice t x l hh m =>
    have ho : ∀ y : Option Operand, (∀ z, y = some z → ρ z = ρ' z) → y.map ρ = y.map ρ' := fun y hy => by cases y with
      | none => rfl
      | some z => simp [hy z rfl]
    rw [← h x (by simp), ← ho l (fun z hz => h z (by simp [hz])), ← ho hh (fun z hz => h z (by simp [hz])), ← ho m (fun z hz => h z (by simp [hz]))]; exact hr
  case fieldAddr t x f => rw [← h x (by simp)]; exact hr
  case field t x f => rw [← h x (by simp)]; exact hr
  case indexAddr t x i => rw [← h x (by simp), ← h i (by simp)]; exact hr
  case index t x i => rw [← h x (by simp), ← h i (by simp)]; exact hr
  case lookup t x i ok => rw [← h x (by simp), ← h i (by simp)]; exact hr
  case mapUpdate t m k v => rw [← h m (by simp), ← h k (by simp), ← h v (by simp)]; exact hr
  case insert t m k v => rw [← h m (by simp), ← h k (by simp), ← h v (by simp)]; exact hr
  case mapEntry t m k => rw [← h m (by simp), ← h k (by simp)]; exact hr
  case entryStore t m k v => rw [← h m (by simp), ← h k (by simp), ← h v (by simp)]; exact hr
  case range t x => rw [← h x (by simp)]; exact hr
  case next x b => rw [← h x (by simp)]; exact hr
  case entry x => rw [← h x (by simp)]; exact hr
  case typeAssert x t u ok => rw [← h x (by simp)]; exact hr
  case extract x i => rw [← h x (by simp)]; exact hr
  case call c =>
    have h1 : c.args.toList.map ρ = c.args.toList.map ρ' := List.map_congr_left fun p hp => h p (by unfold Call.operands; simp at hp ⊢; exact .inr hp)
    rw [← h1]
    unfold callVC at hr ⊢
    cases hc : c.callee with
    | builtin b => simp only [hc] at hr ⊢; exact hr
    | invoke r m => simp only [hc] at hr ⊢; rw [← h r (by simp [Call.operands, hc])]; exact hr
    | value x =>
      have hx := h x (by simp [Call.operands, hc])
      cases x <;> simp only [hc] at hr ⊢ <;> first | exact hr | (rw [← hx]; exact hr)
end
end Go.Eng
namespace Go.Eng
open Go
section
variable {P : Program} {ops : Array Oper} {K : St → World → Prop}

/-- In every world of S the operation (under its guard) hands over v and leaves the world. -/
def Yl (P : Program) (ops : Array Oper) (S : World → Prop) (i : Nat) (s : St) (v : Value) : Prop :=
  ∀ w, S w → ∀ K' : St → World → Prop, K' (s.put ((ops[i]?).bind (·.dst)) v) w → opG P ops i K' s w

theorem ValQ.val {S : World → Prop} {x : Sem Value} {K : Value → Prop} (h : ValQ P S x K) :
    ∃ v, K v ∧ ∀ w, S w → ∀ K' : Value → World → Prop, K' v w → Val P x K' w :=
  let ⟨v, e, k⟩ := h; ⟨v, k, fun w hw _ hk => ⟨v, w, e w hw, hk⟩⟩

theorem Pv.val {x : Sem Value} {K : Value → Prop} (h : Pv P x K) :
    ∃ v, K v ∧ ∀ w, ∀ K' : Value → World → Prop, K' v w → Val P x K' w :=
  let ⟨v, e, k⟩ := h; ⟨v, k, fun w _ hk => ⟨v, w, e w, hk⟩⟩

theorem opQ.run {o : Oper} {ρ : Operand → Value} {S : World → Prop} {K : Value → Prop} (h : opQ P o ρ S K) :
    ∃ v, K v ∧ ∀ w, (isImp o = true → S w) → ∀ K' : Value → World → Prop, K' v w → opRun P o ρ K' w := by
  unfold opQ at h
  unfold opRun isImp
  have vq : ∀ {x : Sem Value}, ValQ P S x K → ∃ v, K v ∧ ∀ w, (true = true → S w) → ∀ K' : Value → World → Prop, K' v w → Val P x K' w := fun h =>
    let ⟨v, k, e⟩ := ValQ.val h; ⟨v, k, fun w hw => e w (hw rfl)⟩
  have vqT : ∀ {x : Sem Value}, ValQ P S x K → ∃ v, K v ∧ ∀ w, (True → S w) → ∀ K' : Value → World → Prop, K' v w → Val P x K' w := fun h =>
    let ⟨v, k, e⟩ := ValQ.val h; ⟨v, k, fun w hw => e w (hw trivial)⟩
  have pvF : ∀ {x : Sem Value}, Pv P x K → ∃ v, K v ∧ ∀ w, (False → S w) → ∀ K' : Value → World → Prop, K' v w → Val P x K' w := fun h =>
    let ⟨v, k, e⟩ := Pv.val h; ⟨v, k, fun w _ => e w⟩
  have pv : ∀ {x : Sem Value}, Pv P x K → ∃ v, K v ∧ ∀ w, (false = true → S w) → ∀ K' : Value → World → Prop, K' v w → Val P x K' w := fun h =>
    let ⟨v, k, e⟩ := Pv.val h; ⟨v, k, fun w _ => e w⟩
  cases ho : o.op <;> simp only [ho] at h ⊢ <;>
    first
      | exact ⟨_, h, fun _ _ _ hk => hk⟩
      | exact vq h
      | exact pv h
      | exact vqT h
      | exact pvF h
      | exact ⟨_, h.2, fun _ _ _ hk => ⟨h.1, hk⟩⟩
      | exact h.elim
      | skip
  case pick c a b =>
    cases hv : ρ c <;> simp only [hv, Cond] at h ⊢
    rename_i t
    cases t
    · exact ⟨_, h, fun _ _ _ hk => hk⟩
    · exact ⟨_, h, fun _ _ _ hk => hk⟩
  case call c =>
    unfold callVC
    cases hc : c.callee with
    | value x => simp only [hc] at h
    | invoke r m => simp only [hc] at h
    | builtin b => cases b <;> simp only [hc] at h ⊢ <;> first | exact vq h | exact vqT h

theorem opGQ.yl {i : Nat} {S : World → Prop} {Kq : St → Prop} {s : St} (h : opGQ P ops i S Kq s) :
    ∃ v, Kq (s.put ((ops[i]?).bind (·.dst)) v) ∧ Yl P ops (fun w => isImpAt ops i = true → S w) i s v := by
  unfold opGQ at h
  unfold Yl opG isImpAt
  cases ho : ops[i]? with
  | none => simp only [ho] at h
  | some o =>
    simp only [ho] at h ⊢
    cases hg : o.guard with
    | none =>
      simp only [hg] at h ⊢
      obtain ⟨v, k, e⟩ := opQ.run h
      exact ⟨v, splitK_out k, fun w hw K' hk => e w (fun he => hw (by simp [he])) _ hk⟩
    | some g =>
      simp only [hg] at h ⊢
      cases hv : gval ops g.1 s with
      | bool t =>
        rw [hv] at h
        have h := Guard_out h
        by_cases ht : t = g.2
        · obtain ⟨v, k, e⟩ := opQ.run (h.1 ht)
          exact ⟨v, splitK_out k, fun w hw K' hk => Guard_in ⟨fun _ => e w (fun he => hw (by simp [he])) _ hk, fun hn => absurd ht hn⟩⟩
        · exact ⟨undef, h.2 ht, fun w hw K' hk => Guard_in ⟨fun he => absurd he ht, fun _ => hk⟩⟩
      | _ => simp only [hv, Guard] at h ⊢; exact ⟨undef, h, fun w hw K' hk => hk⟩

theorem mem_looks_op {o : Oper} {t : Nat} (h : Operand.tmp t ∈ o.op.operands) : t ∈ looks ops o :=
  List.mem_append_left _ (List.mem_filterMap.2 ⟨.tmp t, by simpa using h, rfl⟩)

theorem gval_put {o : Oper} {g : Nat × Bool} (hg : o.guard = some g) {d : Option Tmp} {v : Value} {s : St} (h : ∀ t, d = some t → t ∉ looks ops o) :
    gval ops g.1 (s.put d v) = gval ops g.1 s := by
  unfold gval
  cases hj : ops[g.1]? with
  | none => rfl
  | some o' =>
    cases hd : o'.dst with
    | none => simp only [hd]
    | some t =>
      simp only [hd]
      refine put_env s d v t fun x e hx => h x e ?_
      subst hx
      exact List.mem_append_right _ (by simp [hg, hj, hd])

/-- An operation goes by another one's store into a temporary that it does not touch. -/
theorem opG.by_put {j : Nat} {oj : Oper} (hj : ops[j]? = some oj) {d : Option Tmp} {v : Value} {s : St} {w : World} {K : St → World → Prop}
    (h1 : ∀ t, d = some t → t ∉ looks ops oj) (h2 : ∀ t, d = some t → oj.dst ≠ some t)
    (h : opG P ops j K (s.put d v) w) : opG P ops j (fun s' w' => K (s'.put d v) w') s w := by
  have hev : ∀ x ∈ oj.op.operands, (s.put d v).eval x = s.eval x := fun x hx =>
    put_eval s d v x fun t e hxt => h1 t e (mem_looks_op (by rw [← hxt]; exact hx))
  unfold opG at h ⊢
  simp only [hj] at h ⊢
  cases hg : oj.guard with
  | none =>
    simp only [hg] at h ⊢
    refine opRun.mono (fun v' w' hk => ?_) (opRun_congr hev h)
    rw [put_comm s d oj.dst v v' (fun x hx => h2 x hx)] at hk; exact hk
  | some g =>
    simp only [hg] at h ⊢
    rw [gval_put hg h1] at h
    refine Guard.mono h (fun h => ?_) (fun h => ?_)
    · refine opRun.mono (fun v' w' hk => ?_) (opRun_congr hev h)
      rw [put_comm s d oj.dst v v' (fun x hx => h2 x hx)] at hk; exact hk
    · rw [put_comm s d oj.dst v undef (fun x hx => h2 x hx)] at h; exact h

/-- What an operation hands over hangs on nothing that another one stores. -/
theorem Yl.put {i : Nat} {oi : Oper} (hi : ops[i]? = some oi) {S : World → Prop} {s : St} {v : Value} (h : Yl P ops S i s v) {d : Option Tmp} {u : Value}
    (h1 : ∀ t, d = some t → t ∉ looks ops oi) (h2 : ∀ t, d = some t → oi.dst ≠ some t) : Yl P ops S i (s.put d u) v := by
  intro w hw K' hk
  -- by_put read backwards: congr on the operands
  have hev : ∀ x ∈ oi.op.operands, s.eval x = (s.put d u).eval x := fun x hx =>
    (put_eval s d u x fun t e hxt => h1 t e (mem_looks_op (by rw [← hxt]; exact hx))).symm
  have := h w hw (fun s' w' => K' (s'.put d u) w') (by
    simp only [hi, Option.bind_some] at hk ⊢
    rw [← put_comm s d oi.dst u v (fun x hx => h2 x hx)]; exact hk)
  unfold opG at this ⊢
  simp only [hi] at this ⊢
  cases hg : oi.guard with
  | none =>
    simp only [hg] at this ⊢
    refine opRun.mono (fun v' w' hk => ?_) (opRun_congr hev this)
    rw [put_comm s d oi.dst u v' (fun x hx => h2 x hx)]; exact hk
  | some g =>
    simp only [hg] at this ⊢
    rw [gval_put hg h1]
    refine Guard.mono this (fun h => ?_) (fun h => ?_)
    · refine opRun.mono (fun v' w' hk => ?_) (opRun_congr hev h)
      rw [put_comm s d oi.dst u v' (fun x hx => h2 x hx)]; exact hk
    · rw [put_comm s d oi.dst u undef (fun x hx => h2 x hx)]; exact h

theorem rdy_spec {d : List Nat} {i : Nat} : rdy ops d i = true ↔ i ∉ d ∧ ∃ o, ops[i]? = some o ∧ ∀ e ∈ o.after, Region.binds .any e = true → e.on ∈ d := by
  unfold rdy
  cases ho : ops[i]? with
  | none => simp
  | some o =>
    simp only [Bool.and_eq_true, Bool.not_eq_true', List.contains_eq_mem, decide_eq_false_iff_not, List.all_eq_true, Bool.or_eq_true, decide_eq_true_eq, Option.some.injEq, exists_eq_left', Array.mem_toList_iff]
    constructor
    · exact fun ⟨h1, h2⟩ => ⟨h1, fun e he hb => (h2 e he).resolve_left (by simp [hb])⟩
    · exact fun ⟨h1, h2⟩ => ⟨h1, fun e he => by
        cases hb : Region.binds .any e
        · exact .inl rfl
        · exact .inr (h2 e he hb)⟩

theorem rdy_more {d : List Nat} {i j : Nat} (h : rdy ops d i = true) (hne : i ≠ j) : rdy ops (j :: d) i = true := by
  obtain ⟨h1, o, ho, h2⟩ := rdy_spec.1 h
  exact rdy_spec.2 ⟨by simp [h1, hne], o, ho, fun e he hb => List.mem_cons_of_mem _ (h2 e he hb)⟩

/-- 'freeB', as what it says. -/
def Free (ops : Array Oper) (done : List Nat) (i : Nat) : Prop :=
  ∀ j oj, ops[j]? = some oj → j ≠ i → j ∉ done → (∃ e ∈ oj.after, Region.binds .any e = true ∧ e.on = i) ∨
    ∀ oi, ops[i]? = some oi → (∀ t, oi.dst = some t → t ∉ looks ops oj ∧ oj.dst ≠ some t) ∧ (∀ t, oj.dst = some t → t ∉ looks ops oi)
theorem free_of {d : List Nat} {i : Nat} (h : freeB ops d i = true) : Free ops d i := by
  intro j oj hj hne hd
  have hlt : j < ops.size := (Array.getElem?_eq_some_iff.1 hj).1
  have := List.all_eq_true.1 h j (List.mem_range.2 hlt)
  simp only [hj, Bool.or_eq_true] at this
  rcases this with ((h1 | h2) | h3) | h4
  · exact absurd (Nat.eq_of_beq_eq_true h1) hne
  · exact absurd (by simpa using h2) hd
  · obtain ⟨e, he, hb⟩ := List.any_eq_true.1 h3
    simp only [Bool.and_eq_true] at hb
    exact .inl ⟨e, by simpa using he, hb.1, Nat.eq_of_beq_eq_true hb.2⟩
  · refine .inr fun oi hi => ?_
    unfold apartB at h4
    simp only [hi, hj, Bool.and_eq_true, List.all_eq_true, Bool.not_eq_true', List.contains_eq_mem, decide_eq_false_iff_not, Option.mem_toList] at h4
    refine ⟨fun t ht => ?_, fun t ht => h4.2 t (by simp [ht])⟩
    have := h4.1 t (by simp [ht])
    exact ⟨this.1, fun e => this.2 (by simp [e])⟩
theorem Free.more {d : List Nat} {i j : Nat} (h : Free ops d i) : Free ops (j :: d) i :=
  fun k ok hk hne hd => h k ok hk hne (fun h => hd (List.mem_cons_of_mem _ h))

/-- Whoever has been done has been done behind what it waits for. -/
def Closed (ops : Array Oper) (d : List Nat) : Prop := ∀ j, j ∈ d → ∀ o, ops[j]? = some o → ∀ e ∈ o.after, Region.binds .any e = true → e.on ∈ d
theorem Closed.cons {d : List Nat} {j : Nat} (h : Closed ops d) (hr : rdy ops d j = true) : Closed ops (j :: d) := by
  intro x hx o ho e he hb
  rcases List.mem_cons.1 hx with rfl | hx
  · obtain ⟨_, o', ho', h2⟩ := rdy_spec.1 hr
    rw [ho] at ho'; cases ho'
    exact List.mem_cons_of_mem _ (h2 e he hb)
  · exact List.mem_cons_of_mem _ (h x hx o ho e he hb)

theorem anyV_take {S : List Nat → World → Prop} {S0 : World → Prop} {i : Nat} {oi : Oper} {v : Value} (hi : ops[i]? = some oi) (hSc : ∀ d d' x, (∀ y, y ∈ d ↔ y ∈ d') → S d x → S d' x)
    (hS0 : ∀ d x, Closed ops d → i ∉ d → S (i :: d) x → S0 x ∧ S d x) : ∀ (fuel : Nat) (done : List Nat) (s : St) (w : World),
    Closed ops done → Free ops done i → rdy ops done i = true → Yl P ops S0 i s v → S0 w → S done w → anyV P ops K fuel S (i :: done) (s.put oi.dst v) w → anyV P ops K (fuel + 1) S done s w := by
  have hlt : i < ops.size := (Array.getElem?_eq_some_iff.1 hi).1
  intro fuel
  induction fuel with
  | zero =>
    intro done s w hcl hf hr hy hS hSd h
    refine ⟨hSd, fun hn => (by rw [hn i hlt] at hr; cases hr), fun j hj hrj => ?_⟩
    by_cases e : j = i
    · subst e
      exact hy w hS _ (by simp only [hi, Option.bind_some]; exact h)
    · have := h.2.1 j hj
      rw [rdy_more hrj e] at this; cases this
  | succ f ih =>
    intro done s w hcl hf hr hy hS hSd h
    refine ⟨hSd, fun hn => (by rw [hn i hlt] at hr; cases hr), fun j hj hrj => ?_⟩
    by_cases e : j = i
    · subst e
      exact hy w hS _ (by simp only [hi, Option.bind_some]; exact h)
    · have h1 := h.2.2 j hj (rdy_more hrj e)
      obtain ⟨hjd, oj, hoj, haft⟩ := rdy_spec.1 hrj
      have hid : i ∉ done := (rdy_spec.1 hr).1
      have hap := (hf j oj hoj e hjd).resolve_left (fun ⟨e', he', hb, hon⟩ => hid (hon ▸ haft e' he' hb)) oi hi
      have h2 := opG.by_put hoj (fun t ht => (hap.1 t ht).1) (fun t ht => (hap.1 t ht).2) h1
      have hnot : i ∉ j :: done := fun hm => by
        rcases List.mem_cons.1 hm with h | h
        · exact e h.symm
        · exact hid h
      -- the yield lives on behind j's store
      unfold opG at h2 ⊢
      simp only [hoj] at h2 ⊢
      have fin : ∀ (u : Value) (w' : World), anyV P ops K f S (j :: i :: done) ((s.put oj.dst u).put oi.dst v) w' → anyV P ops K (f + 1) S (j :: done) (s.put oj.dst u) w' := fun u w' hk => by
        have hcg : anyV P ops K f S (i :: j :: done) ((s.put oj.dst u).put oi.dst v) w' := anyV.congr hSc (fun x => by simp only [List.mem_cons]; constructor <;> (rintro (h | h | h) <;> simp [h])) hk
        exact ih (j :: done) _ w' (hcl.cons hrj) hf.more (rdy_more hr (fun h => e h.symm)) (hy.put hi (fun t ht => hap.2 t ht) (fun t ht he => (hap.1 t he).2 ht))
          (hS0 (j :: done) w' (hcl.cons hrj) hnot hcg.holds).1 (hS0 (j :: done) w' (hcl.cons hrj) hnot hcg.holds).2 hcg
      cases hg : oj.guard with
      | none => simp only [hg] at h2 ⊢; exact opRun.mono (fun u w' hk => fin u w' hk) h2
      | some g => simp only [hg] at h2 ⊢; exact Guard.mono h2 (opRun.mono fun u w' hk => fin u w' hk) (fun hk => fin _ _ hk)
/-- What holds of the worlds of a drawn region: S, till one is done that waits for all that was taken and hangs on memory. -/
def Sx (ops : Array Oper) (S : World → Prop) (base : List Nat) (d : List Nat) (x : World) : Prop := S x ∨ ∃ j, j ∈ d ∧ j ∉ base ∧ barB ops base j = true
theorem befB_spec {d : List Nat} (hc : Closed ops d) {i : Nat} : ∀ (f j : Nat), befB ops f j i = true → j ∈ d → i ∈ d
  | 0, _, h, _ => by cases h
  | f + 1, j, h, hj => by
    unfold befB at h
    cases ho : ops[j]? with
    | none => simp only [ho] at h; cases h
    | some o =>
      simp only [ho] at h
      obtain ⟨e, he, hb⟩ := List.any_eq_true.1 h
      simp only [Bool.and_eq_true, Bool.or_eq_true] at hb
      have hd := hc j hj o ho e (by simpa using he) hb.1
      rcases hb.2 with h1 | h1
      · exact Nat.eq_of_beq_eq_true h1 ▸ hd
      · exact befB_spec hc f e.on h1 hd
theorem barB_spec {base : List Nat} {j : Nat} (h : barB ops base j = true) : ∃ o, ops[j]? = some o ∧ isQ o = false ∧ ∀ i ∈ base, isImpAt ops i = true → isQat ops i = true → ∀ d, Closed ops d → j ∈ d → i ∈ d := by
  unfold barB at h
  cases ho : ops[j]? with
  | none => simp only [ho] at h; cases h
  | some o =>
    simp only [ho, Bool.and_eq_true, Bool.not_eq_true', Bool.or_eq_true] at h
    refine ⟨o, rfl, h.1, fun i hi himp hq d hc hj => ?_⟩
    rcases h.2 with h2 | ⟨_, h2⟩
    · have := List.all_eq_true.1 h2 i hi
      rw [himp] at this
      have this : (o.after.toList.any fun e => Region.binds .any e && Nat.beq e.on i) = true := this
      obtain ⟨e, he, hb⟩ := List.any_eq_true.1 this
      simp only [Bool.and_eq_true] at hb
      have hd := hc j hj o ho e (by simpa using he) hb.1
      exact Nat.eq_of_beq_eq_true hb.2 ▸ hd
    · have := List.all_eq_true.1 h2 i hi
      rw [himp, hq] at this
      exact befB_spec hc 4 j this hj
theorem barB_less {base : List Nat} {i j : Nat} (h : barB ops (i :: base) j = true) : barB ops base j = true := by
  unfold barB at h ⊢
  cases ho : ops[j]? with
  | none => simp only [ho] at h; cases h
  | some o =>
    simp only [ho, List.all_cons, Bool.and_eq_true, Bool.or_eq_true] at h ⊢
    refine ⟨h.1, ?_⟩
    rcases h.2 with h2 | ⟨hm, h2⟩
    · exact .inl h2.2
    · exact .inr ⟨hm, h2.2⟩
theorem Sx_less {S S' : World → Prop} {base : List Nat} {i : Nat} (hs : ∀ x, S' x → S x) (d : List Nat) (x : World) (h : Sx ops S' (i :: base) d x) : Sx ops S base d x := by
  rcases h with h | ⟨j, h1, h2, h3⟩
  · exact .inl (hs x h)
  · exact .inr ⟨j, h1, fun hm => h2 (List.mem_cons_of_mem _ hm), barB_less h3⟩

theorem drawVC_any : ∀ (fuel : Nat) (S : World → Prop) (done : List Nat) (s : St) (w : World), S w → Closed ops done → drawVC P ops K fuel S done s w → anyV P ops K fuel (Sx ops S done) done s w := by
  intro fuel
  induction fuel with
  | zero =>
    intro S done s w hS _ h
    unfold drawVC at h
    cases hl : (List.range ops.size).filter (rdy ops done) with
    | nil =>
      simp only [hl] at h
      refine ⟨.inl hS, fun i hi => ?_, h⟩
      cases hr : rdy ops done i with
      | false => rfl
      | true =>
        have : i ∈ (List.range ops.size).filter (rdy ops done) := List.mem_filter.2 ⟨List.mem_range.2 hi, hr⟩
        rw [hl] at this; cases this
    | cons i l => simp only [hl] at h
  | succ f ih =>
    intro S done s w hS hcl h
    unfold drawVC at h
    have hmem : ∀ i, i < ops.size → rdy ops done i = true → i ∈ (List.range ops.size).filter (rdy ops done) := fun i hi hr => List.mem_filter.2 ⟨List.mem_range.2 hi, hr⟩
    generalize hl : (List.range ops.size).filter (rdy ops done) = l at h hmem
    have hmem' : ∀ i ∈ l, i < ops.size ∧ rdy ops done i = true := fun i hi => by
      rw [← hl] at hi; have := List.mem_filter.1 hi; exact ⟨List.mem_range.1 this.1, this.2⟩
    cases l with
    | nil =>
      simp only at h
      exact ⟨.inl hS, fun _ => h, fun i hi hr => by cases hmem i hi hr⟩
    | cons i0 rs =>
      simp only at h
      cases hfd : (i0 :: rs).find? (fun i => isQat ops i && freeB ops done i && !(lateB ops && isImpAt ops i)) with
      | some i =>
        simp only [hfd] at h
        have him := hmem' i (List.mem_of_find?_eq_some hfd)
        have hfr : freeB ops done i = true := by
          have := List.find?_some hfd
          simp only [Bool.and_eq_true] at this; exact this.1.2
        obtain ⟨v, hk, hy⟩ := opGQ.yl h
        obtain ⟨_, oi, hoi, _⟩ := rdy_spec.1 him.2
        simp only [hoi, Option.bind_some] at hk
        have h1 := ih S (i :: done) _ w hS (hcl.cons him.2) hk
        have hq : isQ oi = true := by
          have := List.find?_some hfd
          simp only [Bool.and_eq_true, isQat, hoi] at this; exact this.1.1
        refine anyV.mono (fun d x _ hx => Sx_less (fun _ => id) d x hx) (anyV_take (S := Sx ops S (i :: done)) hoi ?_ ?_ f done s w hcl (free_of hfr) him.2 hy (fun _ => hS) (.inl hS) h1)
        · rintro d d' x hd (hx | ⟨j, h1, h2⟩)
          · exact .inl hx
          · exact .inr ⟨j, (hd j).1 h1, h2⟩
        · rintro d x hcd hid (hx | ⟨j, h1, h2, h3⟩)
          · exact ⟨fun _ => hx, .inl hx⟩
          · obtain ⟨o, ho, hnq, hbar⟩ := barB_spec h3
            have hji : j ≠ i := fun e => by
              subst e; rw [hoi] at ho; cases ho; rw [hq] at hnq; cases hnq
            have hjd : j ∈ d := (List.mem_cons.1 h1).resolve_left hji
            refine ⟨fun himp => ?_, .inr ⟨j, hjd, h2, h3⟩⟩
            exfalso
            exact hid (hbar i (by simp) himp (by unfold isQat; rw [hoi]; exact hq) d hcd hjd)
      | none =>
        simp only [hfd] at h
        have wr : ∀ i, rdy ops done i = true → opGs P ops i (fun s' w' => WrK (barB ops done i) S w' fun S' => drawVC P ops K f S' (i :: done) s' w') s w → opG P ops i (anyV P ops K f (Sx ops S done) (i :: done)) s w := fun i hr hh =>
          opG.mono (fun s' w' hw => by
            cases hb : barB ops done i with
            | true =>
              rw [hb] at hw
              obtain ⟨S', h2, h3⟩ := hw
              exact anyV.mono (fun d x hd _ => .inr ⟨i, hd i (by simp), (rdy_spec.1 hr).1, hb⟩) (ih S' _ s' w' h2 (hcl.cons hr) h3)
            | false =>
              rw [hb] at hw
              obtain ⟨S', h1, h2, h3⟩ := hw
              exact anyV.mono (fun d x _ hx => Sx_less h1 d x hx) (ih S' _ s' w' h2 (hcl.cons hr) h3)) (opGs_out hh)
        have all : ∀ i ∈ i0 :: rs, opG P ops i (anyV P ops K f (Sx ops S done) (i :: done)) s w := by
          cases rs with
          | nil =>
            intro i hi
            have : i = i0 := by simpa using hi
            subst this; exact wr _ (hmem' i (by simp)).2 h
          | cons i1 rs =>
            simp only at h
            have : ∀ (l : List Nat) (F : Nat → Prop), allL F l → ∀ i ∈ l, F i := by
              intro l F
              induction l with
              | nil => exact fun _ _ h => by cases h
              | cons a l ihl =>
                intro h i hi
                rcases List.mem_cons.1 hi with rfl | hi
                · exact h.1
                · exact ihl h.2 i hi
            exact fun i hi => wr i (hmem' i hi).2 (this _ _ h i hi)
        exact ⟨.inl hS, fun hn => (by have := hmem' i0 (by simp); rw [hn i0 this.1] at this; cases this.2), fun i hi hr => all i (hmem i hi hr)⟩

/-- What code stores into, and nothing else, may part behind it. -/
def Same (l : List Nat) (e e' : Nat → Value) : Prop := ∀ t, t ∉ l → e' t = e t
theorem Same.trans {l : List Nat} {a b c : Nat → Value} (h : Same l a b) (k : Same l b c) : Same l a c := fun t ht => (k t ht).trans (h t ht)
theorem Same.wider {l l' : List Nat} {a b : Nat → Value} (h : Same l a b) (hl : ∀ t, t ∈ l → t ∈ l') : Same l' a b := fun t ht => h t fun hm => ht (hl t hm)
abbrev dsts (ops : Array Oper) : List Nat := ops.toList.filterMap (·.dst)
theorem same_put {ops : Array Oper} {i : Nat} {o : Oper} (ho : ops[i]? = some o) (s : St) (v : Value) : Same (dsts ops) s.env (s.put o.dst v).env := fun t ht =>
  put_env s o.dst v t fun x hx hxt => ht (List.mem_filterMap.2 ⟨o, by simpa using Array.mem_of_getElem? ho, by rw [hx, hxt]⟩)

/-! ### Down to the model's own calculus -/
def stOf (a : Act) : St := { env := fun t => a.tmps.getD t undef, ds := a.defers }
theorem stOf_eval (a : Act) : (stOf a).eval = a.eval := by funext x; cases x <;> rfl
def dstOk (n : Nat) (ops : Array Oper) : Bool := ops.toList.all fun o => match o.dst with | some d => Nat.blt d n | none => true
theorem dstOk_spec {n : Nat} (h : dstOk n ops = true) {i : Nat} {o : Oper} (ho : ops[i]? = some o) {d : Nat} (hd : o.dst = some d) : d < n := by
  have := List.all_eq_true.1 h o (by simpa using Array.mem_of_getElem? ho)
  simp only [hd] at this
  exact (Nat.blt_eq (x := _) (y := _)).mp this
theorem put_size (a : Act) (d : Option Tmp) (v : Value) : (a.put d v).tmps.size = a.tmps.size := by cases d <;> simp [Act.put]
theorem stOf_put (a : Act) (d : Option Tmp) (v : Value) (h : ∀ x, d = some x → x < a.tmps.size) : stOf (a.put d v) = (stOf a).put d v := by
  cases d with
  | none => rfl
  | some d =>
    have hd := h d rfl
    show St.mk _ _ = St.mk _ _
    congr 1
    funext t
    show (a.tmps.setIfInBounds d v).getD t undef = bif Nat.beq t d then v else a.tmps.getD t undef
    cases hb : Nat.beq t d with
    | true =>
      have := Nat.eq_of_beq_eq_true hb; subst this
      simp [Array.getD, hd]
    | false =>
      have hne : d ≠ t := fun e => by subst e; rw [Nat.beq_refl] at hb; cases hb
      by_cases ht : t < a.tmps.size
      · simp [Array.getD, ht, hne]
      · simp [Array.getD, ht]

theorem yielded_gval {a : Act} {j : Nat} : yielded ops a.tmps j = (match gval ops j (stOf a) with | .bool b => some b | _ => none) := by
  unfold yielded gval
  cases hj : ops[j]? with
  | none => rfl
  | some o =>
    simp only [Option.bind_some]
    cases hd : o.dst with
    | none => rfl
    | some d =>
      simp only [Option.bind_some]
      show _ = (match a.tmps.getD d undef with | .bool b => some b | _ => none)
      by_cases h : d < a.tmps.size
      · have e1 : a.tmps[d]? = some a.tmps[d] := Array.getElem?_eq_getElem h
        have e2 : a.tmps.getD d undef = a.tmps[d] := by simp [Array.getD, h]
        rw [e1, e2]
        cases a.tmps[d] <;> rfl
      · have e1 : a.tmps[d]? = none := Array.getElem?_eq_none (Nat.le_of_not_lt h)
        have e2 : a.tmps.getD d undef = undef := by simp [Array.getD, h]
        rw [e1, e2]; rfl

variable {r : Option Nat} {Q : Exit → Act → World → Prop}

theorem opG_sound {N : Nat} (hd : dstOk N ops = true) {i : Nat} {K : St → World → Prop} {Kn : Act → World → Prop} {a : Act} {w : World} (ha : a.tmps.size = N)
    (hk : ∀ (a' : Act) w', a'.tmps.size = N → a'.defers = a.defers → Same (dsts ops) (stOf a).env (stOf a').env → K (stOf a') w' → Kn a' w') (h : opG P ops i K (stOf a) w) : wpOpIn (Fr r) 0 P ops Q i Kn a w := by
  unfold opG at h
  unfold wpOpIn
  cases ho : ops[i]? with
  | none => simp only [ho] at h ⊢; exact hk _ _ ha rfl (fun _ _ => rfl) h
  | some o =>
    simp only [ho] at h ⊢
    have hput : ∀ v, stOf (a.put o.dst v) = (stOf a).put o.dst v := fun v => stOf_put a o.dst v fun x hx => by rw [ha]; exact dstOk_spec hd ho hx
    have hds : ∀ v, (a.put o.dst v).defers = a.defers := fun v => by cases o.dst <;> rfl
    have hsm : ∀ v, Same (dsts ops) (stOf a).env (stOf (a.put o.dst v)).env := fun v => by rw [hput]; exact same_put ho _ v
    have run : opRun P o (stOf a).eval (fun v w => K ((stOf a).put o.dst v) w) w → o.wpIn (Fr r) 0 P a w Kn Q := fun h => by
      refine opRun_sound ?_
      rw [stOf_eval] at h
      exact opRun.mono (fun v w' h => hk _ _ (by rw [put_size, ha]) (hds v) (hsm v) (by rw [hput]; exact h)) h
    cases hg : o.guard with
    | none =>
      simp only [hg] at h
      have : Region.wanted o (yielded ops a.tmps) = true := by simp [Region.wanted, hg]
      rw [if_pos this]; exact run h
    | some g =>
      obtain ⟨j, want⟩ := g
      simp only [hg] at h
      have hy : Region.wanted o (yielded ops a.tmps) = (yielded ops a.tmps j == some want) := by simp [Region.wanted, hg]
      rw [hy, yielded_gval]
      have no : K ((stOf a).put o.dst undef) w → (∀ f, o.about P w a.eval = some f → (Fr r).fn f) ∧ Kn (a.put o.dst undef) w := fun h =>
        ⟨fun _ _ => trivial, hk _ _ (by rw [put_size, ha]) (hds _) (hsm _) (by rw [hput]; exact h)⟩
      cases hv : gval ops j (stOf a) <;> rw [hv] at h <;> first | (rw [if_neg (by simp)]; exact no h) | skip
      rename_i t
      have h := Guard_out h
      by_cases ht : t = want
      · rw [if_pos (by simp [ht])]; exact run (h.1 ht)
      · rw [if_neg (by simp [ht])]; exact no (h.2 ht)

/-- How an activation may part from the one at the region's head. -/
def At (N : Nat) (l : List Nat) (a0 a : Act) : Prop := a.tmps.size = N ∧ a.defers = a0.defers ∧ Same l (stOf a0).env (stOf a).env
theorem At.refl {N : Nat} {l : List Nat} {a : Act} (h : a.tmps.size = N) : At N l a a := ⟨h, rfl, fun _ _ => rfl⟩
theorem At.step {N : Nat} {l : List Nat} {a0 a a' : Act} (h : At N l a0 a) (h1 : a'.tmps.size = N) (h2 : a'.defers = a.defers) (h3 : Same l (stOf a).env (stOf a').env) : At N l a0 a' :=
  ⟨h1, h2.trans h.2.1, h.2.2.trans h3⟩

theorem opsVC_sound {N : Nat} (hd : dstOk N ops = true) {K : St → World → Prop} {a0 : Act} (l : List Nat) : ∀ (a : Act) (w : World), At N (dsts ops) a0 a →
    (∀ (a' : Act) w', At N (dsts ops) a0 a' → K (stOf a') w' → Q .normal a' w') → opsVC P ops K l (stOf a) w → wpOpsIn (Fr r) 0 P ops Q l a w := by
  induction l with
  | nil => exact fun a w ha hk h => hk a w ha h
  | cons i l ih =>
    intro a w ha hk h
    rw [wpOpsIn_cons]
    exact opG_sound hd ha.1 (fun a' w' h1 h2 h3 h' => ih a' w' (ha.step h1 h2 h3) hk h') (opGs_out h)

theorem anyV_sound {N : Nat} (hd : dstOk N ops = true) {K : St → World → Prop} {a0 : Act} : ∀ (fuel : Nat) (S : List Nat → World → Prop) (done : List Nat) (listed : Array Bool) (a : Act) (w : World), At N (dsts ops) a0 a →
    (∀ (a' : Act) w', At N (dsts ops) a0 a' → K (stOf a') w' → Q .normal a' w') → listed.size = ops.size → (∀ j, j < ops.size → (listed.getD j false = true ↔ j ∈ done)) →
    (∀ (j : Nat) (o : Oper), ops[j]? = some o → ∀ e ∈ o.after, Region.binds .any e = true → e.on < ops.size) →
    anyV P ops K fuel S done (stOf a) w → wpAnyIn (Fr r) 0 P .any ops Q fuel listed a w := by
  intro fuel
  induction fuel with
  | zero =>
    intro S done listed a w ha hk hs hl he h
    refine ⟨?_, hk a w ha h.2.2⟩
    refine List.eq_nil_iff_forall_not_mem.2 fun j hj => ?_
    obtain ⟨h1, o, ho, h2⟩ := mem_ready.1 hj
    have hlt := (Array.getElem?_eq_some_iff.1 ho).1
    have := h.2.1 j hlt
    rw [rdy_spec.2 ⟨fun hd => (by
      have := (hl j hlt).2 hd
      rw [Array.getD, dif_pos (by omega)] at this h1; rw [this] at h1; cases h1), o, ho, fun e he' hb => (hl _ (he j o ho e he' hb)).1 (h2 e he' hb)⟩] at this
    cases this
  | succ f ih =>
    intro S done listed a w ha hk hs hl he h
    have rd : ∀ j, j ∈ Region.ready .any ops listed → j < ops.size ∧ rdy ops done j = true := fun j hj => by
      obtain ⟨h1, o, ho, h2⟩ := mem_ready.1 hj
      have hlt := (Array.getElem?_eq_some_iff.1 ho).1
      exact ⟨hlt, rdy_spec.2 ⟨fun hd => (by
        have := (hl j hlt).2 hd
        rw [Array.getD, dif_pos (by omega)] at this h1; rw [this] at h1; cases h1), o, ho, fun e he' hb => (hl _ (he j o ho e he' hb)).1 (h2 e he' hb)⟩⟩
    refine ⟨fun hn => hk a w ha (h.2.1 fun j hj => ?_), fun i hi => ?_⟩
    · cases hr : rdy ops done j with
      | false => rfl
      | true =>
        obtain ⟨h1, o, ho, h2⟩ := rdy_spec.1 hr
        have : j ∈ Region.ready .any ops listed := mem_ready.2 ⟨(by
          cases hb : listed.getD j true with
          | false => rfl
          | true =>
            rw [Array.getD, dif_pos (by omega)] at hb
            exact absurd ((hl j hj).1 (by rw [Array.getD, dif_pos (by omega)]; exact hb)) h1), o, ho, fun e he' hb => (hl _ (he j o ho e he' hb)).2 (h2 e he' hb)⟩
        rw [hn] at this; cases this
    · obtain ⟨hlt, hr⟩ := rd i hi
      refine opG_sound hd ha.1 (fun a' w' h1 h2 h3 h' => ih S (i :: done) _ a' w' (ha.step h1 h2 h3) hk (by simp [hs]) (fun j hj => ?_) he h') (h.2.2 i hlt hr)
      rw [List.mem_cons, ← hl j hj]
      by_cases e : j = i
      · subst e; simp [Array.getD, hs, hlt]
      · have e' : i ≠ j := fun h => e h.symm
        rw [getD_set_ne false e']; simp [e]

def aftOk (ops : Array Oper) : Bool := ops.toList.all fun o => o.after.toList.all fun e => Nat.blt e.on ops.size
theorem aftOk_spec (h : aftOk ops = true) : ∀ (j : Nat) (o : Oper), ops[j]? = some o → ∀ e ∈ o.after, Region.binds .any e = true → e.on < ops.size := fun j o ho e he _ => by
  have := List.all_eq_true.1 (List.all_eq_true.1 h o (by simpa using Array.mem_of_getElem? ho)) e (by simpa using he)
  exact (Nat.blt_eq (x := _) (y := _)).mp this

/-- The world behind a draw. -/
def dr (w : World) : World := { w with drawn := w.drawn + 1 }

theorem region_sound {N : Nat} (hd : dstOk N ops = true) {K : St → World → Prop} {id : Nat} {a : Act} {w : World} (ha : a.tmps.size = N)
    (hk : ∀ (a' : Act) w', At N (dsts ops) a a' → K (stOf a') w' → Q .normal a' w') (h : opsVC P ops K (List.range ops.size) (stOf a) w) : (Code.region id ops false).wpIn (Fr r) 0 P Q a w :=
  wpIn_region (opsVC_sound hd _ a w (.refl ha) hk h)
theorem region_draw_sound {N : Nat} (hm : P.follows .mixedOrders = true) (hd : dstOk N ops = true) (hf : aftOk ops = true) {K : St → World → Prop} {id : Nat} {a : Act} {w : World} (ha : a.tmps.size = N)
    (hk : ∀ (a' : Act) w', At N (dsts ops) a a' → K (stOf a') w' → Q .normal a' w') {S : World → Prop} (hS : S (dr w))
    (h : drawVC P ops K ops.size S [] (stOf a) (dr w)) : (Code.region id ops true).wpIn (Fr r) 0 P Q a w :=
  wpIn_region_any hm (anyV_sound hd _ _ [] _ a _ (.refl ha) hk (by simp) (fun j hj => by simp [Array.getD, hj]) (aftOk_spec hf) (drawVC_any _ _ _ _ _ hS (fun _ h => by cases h) h))
end
end Go.Eng
namespace Go.Eng
open Go

/-! ### Code -/
def thenP (K : St → World → Prop) (Q : Post) : Post
  | .normal, s, w => K s w
  | e, s, w => Q e s w
def blockP (id : Nat) (Q : Post) : Post
  | .exit id', s, w => bif Nat.beq id' id then Q .normal s w else Q (.exit id') s w
  | e, s, w => Q e s w

/-- The temporaries of a list are g's, all others e's. -/
def mixE (l : List Nat) (g e : Nat → Value) : Nat → Value := fun t => bif l.any (Nat.beq t) then g t else e t

/-- The temporaries that code may store into. -/
def asg : Code → List Nat
  | .region _ ops _ => ops.toList.filterMap (·.dst)
  | .seq a b => asg a ++ asg b
  | .cond _ a b => asg a ++ asg b
  | .block _ c => asg c
  | .loop c => asg c
  | .scope c => asg c
  | _ => []

def key : Code → Nat
  | .region id _ _ => id
  | .seq a _ => key a
  | .cond _ a _ => key a
  | .block _ c => key c
  | .loop c => key c
  | _ => 0

/-- A range over a function value g: what a round does (its arguments, where it goes on, where it is left), what comes behind. -/
def RangeVC (P : Program) (np : Nat) (g : Value) (B : (Nat → Value) → ((World → Prop) → World → Prop) → (World → Prop) → (World → Prop) → (Nat → World → Prop) → World → Prop)
    (Kn Kr : List Deferred → World → Prop) (Kx : Nat → List Deferred → World → Prop) (ds : List Deferred) (w : World) : Prop :=
  ∃ gf lb, g = .func (.func gf) #[] lb ∧ ∀ rec : LoopState → Option Code → Loop, (∀ st p, (rec st p).state = st ∧ (rec st p).pending = p) →
    (∀ (args : Array Value) (w' : World) (K : Value → World → Prop), args.size = np → w'.heap[w.heap.size + 1]? = some (.loop (rec .ready none)) →
      B (fun i => args.toList.getD i undef)
        (fun Kb w2 => w2.heap[w.heap.size + 1]? = some (.loop (rec .ready none)) ∧ Kb (w2.putObj (w.heap.size + 1) (.loop (rec .busy none))))
        (fun w2 => w2.heap[w.heap.size + 1]? = some (.loop (rec .busy none)) ∧ K (.bool true) (w2.putObj (w.heap.size + 1) (.loop (rec .ready none))))
        (fun w2 => w2.heap[w.heap.size + 1]? = some (.loop (rec .busy none)) ∧ K (.bool false) (w2.putObj (w.heap.size + 1) (.loop (rec .done (some .ret)))))
        (fun id w2 => w2.heap[w.heap.size + 1]? = some (.loop (rec .busy none)) ∧ K (.bool false) (w2.putObj (w.heap.size + 1) (.loop (rec .done (some (.exit id))))))
        w' →
      YieldC P (w.heap.size + 1) args K w') →
    CallE P gf (#[.func (.yield (w.heap.size + 1)) #[] #[]] ++ lb) (fun _ w2 =>
      (w2.heap[w.heap.size + 1]? = some (.loop (rec .ready none)) ∧ Kn ({ target := .collected w.heap.size, args := #[] } :: ds) (w2.putObj (w.heap.size + 1) (.loop (rec .exhausted none)))) ∨
      (w2.heap[w.heap.size + 1]? = some (.loop (rec .done (some .ret))) ∧ Kr ({ target := .collected w.heap.size, args := #[] } :: ds) (w2.putObj (w.heap.size + 1) (.loop (rec .exhausted (some .ret))))) ∨
      (∃ id, w2.heap[w.heap.size + 1]? = some (.loop (rec .done (some (.exit id)))) ∧ Kx id ({ target := .collected w.heap.size, args := #[] } :: ds) (w2.putObj (w.heap.size + 1) (.loop (rec .exhausted (some (.exit id)))))))
      ((w.alloc (.deferred (some []))).alloc (.loop (rec .ready none)))

def putArgs (args : Nat → Value) : List Nat → Nat → (Nat → Value) → (Nat → Value)
  | p :: ps, i, e => putArgs args ps (i + 1) (setEnv e p (args i))
  | [], _, e => e

/-- The verification condition of code: Q is asked where it is left. lv: of each loop, by the number of its first region, the temporaries that an invariant may speak of. -/
def codeVC (P : Program) (lv : Nat → List Nat) (jn : Nat → Option (List Nat)) : Bool → Code → Post → St → World → Prop
  | _, .skip, Q, s, w => Q .normal s w
  | _, .label _, Q, s, w => Q .normal s w
  | _, .exit id, Q, s, w => Q (.exit id) s w
  | _, .ret, Q, s, w => Q .ret s w
  | r, .seq a b, Q, s, w => match jn (key b) with
    | none => codeVC P lv jn r a (thenP (fun s w => codeVC P lv jn r b Q s w) Q) s w
    | some jv => ∃ J : List Value → List Deferred → World → Prop, codeVC P lv jn r a (thenP (fun s' w' => J (jv.map s'.env) s'.ds w') Q) s w ∧
        ∀ (g : Nat → Value) (ds : List Deferred) (w : World), J (jv.map g) ds w → codeVC P lv jn r b Q { env := mixE (asg a) g s.env, ds := ds } w
  | r, .cond c a b, Q, s, w => Cond (s.eval c) (codeVC P lv jn r a Q s w) (codeVC P lv jn r b Q s w)
  | r, .block id c, Q, s, w => codeVC P lv jn r c (blockP id Q) s w
  | _, .region _ ops false, Q, s, w => opsVC P ops (Q .normal) (List.range ops.size) s w
  | _, .region _ ops true, Q, s, w => ∃ S : World → Prop, S (dr w) ∧ drawVC P ops (Q .normal) ops.size S [] s (dr w)
  | r, .loop c, Q, s, w => ∃ (I : List Value → List Deferred → World → Prop) (μ : List Value → World → Nat), I ((lv (key c)).map s.env) s.ds w ∧
      ∀ (g : Nat → Value) (ds : List Deferred) (w : World), I ((lv (key c)).map g) ds w →
        codeVC P lv jn r c (thenP (fun s' w' => I ((lv (key c)).map s'.env) s'.ds w' ∧ μ ((lv (key c)).map s'.env) w' < μ ((lv (key c)).map g) w) Q) { env := mixE (asg c) g s.env, ds := ds } w
  | false, .rangeFunc f ps as body, Q, s, w =>
      RangeVC P ps.size (s.eval f)
        (fun args Bg Kn Kr Kx w => codeVC P lv jn true as (thenP (fun s w => Bg (fun w => codeVC P lv jn true body (fun e _ w => match e with
            | .normal => Kn w
            | .ret => Kr w
            | .exit id => Kx id w
            | _ => False) s w) w) (fun _ _ _ => False)) { env := putArgs args ps.toList 0 s.env, ds := [] } w)
        (fun ds w => Q .normal { env := s.env, ds := ds } w) (fun ds w => Q .ret { env := s.env, ds := ds } w) (fun id ds w => Q (.exit id) { env := s.env, ds := ds } w) s.ds w
  | _, _, _, _, _ => False

/-- Every temporary that is stored into lies in the frame; the draws' edges in the region; each loop's list lies in what is stored. -/
def codeOk (n : Nat) (lv : Nat → List Nat) : Code → Bool
  | .region _ ops _ => dstOk n ops && aftOk ops
  | .seq a b => codeOk n lv a && codeOk n lv b
  | .cond _ a b => codeOk n lv a && codeOk n lv b
  | .block _ c => codeOk n lv c
  | .loop c => codeOk n lv c && (lv (key c)).all fun t => (asg c).any (Nat.beq t)
  | .rangeFunc _ ps a b => codeOk n lv a && codeOk n lv b && ps.toList.all fun p => Nat.blt p n
  | _ => true

section
variable {P : Program} {lv : Nat → List Nat} {jn : Nat → Option (List Nat)}

theorem thenP_mono {K K' : St → World → Prop} {Q Q' : Post} (hk : ∀ s w, K s w → K' s w) (hq : ∀ e s w, Q e s w → Q' e s w) : ∀ e s w, thenP K Q e s w → thenP K' Q' e s w
  | .normal, _, _, h => hk _ _ h
  | .exit _, _, _, h => hq _ _ _ h
  | .goto _, _, _, h => hq _ _ _ h
  | .ret, _, _, h => hq _ _ _ h
  | .panic _, _, _, h => hq _ _ _ h
  | .outgrown, _, _, h => hq _ _ _ h
theorem blockP_mono {id : Nat} {Q Q' : Post} (hq : ∀ e s w, Q e s w → Q' e s w) : ∀ e s w, blockP id Q e s w → blockP id Q' e s w
  | .normal, _, _, h => hq _ _ _ h
  | .exit id', s, w, h => by
    show bif Nat.beq id' id then Q' .normal s w else Q' (.exit id') s w
    have h : bif Nat.beq id' id then Q .normal s w else Q (.exit id') s w := h
    revert h
    cases Nat.beq id' id
    · exact hq _ _ _
    · exact hq _ _ _
  | .goto _, _, _, h => hq _ _ _ h
  | .ret, _, _, h => hq _ _ _ h
  | .panic _, _, _, h => hq _ _ _ h
  | .outgrown, _, _, h => hq _ _ _ h

theorem mixE_of_same {l : List Nat} {e e' : Nat → Value} (h : Same l e e') : mixE l e' e = e' := by
  funext t
  unfold mixE
  cases hb : l.any (Nat.beq t) with
  | true => rfl
  | false =>
    refine (h t fun hm => ?_).symm
    have := List.any_eq_false.1 hb t hm
    exact this (Nat.beq_refl t)
theorem map_mixE {m l : List Nat} {g e : Nat → Value} (h : (m.all fun t => l.any (Nat.beq t)) = true) : m.map (mixE l g e) = m.map g := by
  refine List.map_congr_left fun t ht => ?_
  have := List.all_eq_true.1 h t ht
  unfold mixE
  rw [this]; rfl
end
end Go.Eng
namespace Go.Eng
open Go
section
variable {P : Program} {lv : Nat → List Nat} {jn : Nat → Option (List Nat)}

def lift (N : Nat) (l : List Nat) (a0 : Act) (Q : Post) : Exit → Act → World → Prop
  | .panic _, _, _ => False
  | .outgrown, _, _ => False
  | e, a, w => a.tmps.size = N ∧ Same l (stOf a0).env (stOf a).env ∧ Q e (stOf a) w

theorem lift_mono {N : Nat} {l l' : List Nat} {a0 a1 : Act} {Q Q' : Post} (hs : Same l' (stOf a1).env (stOf a0).env) (hl : ∀ t, t ∈ l → t ∈ l') (hq : ∀ e s w, Q e s w → Q' e s w) :
    ∀ e a w, lift N l a0 Q e a w → lift N l' a1 Q' e a w
  | .normal, _, _, h => ⟨h.1, hs.trans (h.2.1.wider hl), hq _ _ _ h.2.2⟩
  | .exit _, _, _, h => ⟨h.1, hs.trans (h.2.1.wider hl), hq _ _ _ h.2.2⟩
  | .goto _, _, _, h => ⟨h.1, hs.trans (h.2.1.wider hl), hq _ _ _ h.2.2⟩
  | .ret, _, _, h => ⟨h.1, hs.trans (h.2.1.wider hl), hq _ _ _ h.2.2⟩
  | .panic _, _, _, h => h
  | .outgrown, _, _, h => h

theorem putArgs_stOf {N : Nat} (args : Nat → Value) : ∀ (ps : List Nat) (vs : List Value) (i : Nat) (a : Act), a.tmps.size = N → (∀ p ∈ ps, p < N) → vs.length = ps.length → (∀ j, vs.getD j undef = args (i + j)) →
    let a' : Act := { tmps := (ps.zip vs).foldl (fun t (p, v) => t.setIfInBounds p v) a.tmps, defers := [] }
    a'.tmps.size = N ∧ (stOf a').env = putArgs args ps i (stOf a).env
  | [], vs, i, a, ha, _, _, _ => by simp [ha, putArgs, stOf]
  | p :: ps, [], i, a, ha, _, hl, _ => by simp at hl
  | p :: ps, v :: vs, i, a, ha, hp, hl, hv => by
    have := putArgs_stOf args ps vs (i + 1) { tmps := a.tmps.setIfInBounds p v, defers := a.defers } (by simp [ha]) (fun q hq => hp q (List.mem_cons_of_mem _ hq)) (by simpa using hl)
      (fun j => by have := hv (j + 1); rw [List.getD_cons_succ] at this; rw [this]; congr 1; omega)
    simp only [List.zip_cons_cons, List.foldl_cons] at this ⊢
    refine ⟨this.1, this.2.trans ?_⟩
    show putArgs args ps (i + 1) _ = putArgs args ps (i + 1) _
    congr 1
    have h := stOf_put a (some p) v (fun x hx => by cases hx; rw [ha]; exact hp p (by simp))
    have h0 := hv 0
    rw [List.getD_cons_zero, Nat.add_zero] at h0
    rw [← h0]
    exact congrArg St.env h

theorem codeVC_sound (hm : P.follows .mixedOrders = true) {N : Nat} (c : Code) : ∀ (r : Bool) (ro : Option Nat) (Q : Post) (a : Act) (w : World), (r = false → ro = none) → codeOk N lv c = true → a.tmps.size = N →
    codeVC P lv jn r c Q (stOf a) w → c.wpIn (Fr ro) 0 P (lift N (asg c) a Q) a w := by
  induction c with
  | skip => exact fun r ro Q a w _ _ ha h => wpIn_skip ⟨ha, fun _ _ => rfl, by cases r <;> exact h⟩
  | label l => exact fun r ro Q a w _ _ ha h => wpIn_label ⟨ha, fun _ _ => rfl, by cases r <;> exact h⟩
  | exit id => exact fun r ro Q a w _ _ ha h => wpIn_exit ⟨ha, fun _ _ => rfl, by cases r <;> exact h⟩
  | ret => exact fun r ro Q a w _ _ ha h => wpIn_ret ⟨ha, fun _ _ => rfl, by cases r <;> exact h⟩
  | goto l => intro r ro Q a w _ _ _ h; cases r <;> exact h.elim
  | refuse s => intro r ro Q a w _ _ _ h; cases r <;> exact h.elim
  | scope c ih => intro r ro Q a w _ _ _ h; cases r <;> exact h.elim
  | seq x y ihx ihy =>
    intro r ro Q a w hr hok ha h
    unfold codeVC at h
    simp only [codeOk, Bool.and_eq_true] at hok
    have hw : ∀ t, t ∈ asg x → t ∈ asg (x.seq y) := fun t ht => List.mem_append_left _ ht
    cases hj : jn (key y) with
    | none =>
      simp only [hj] at h
      refine wpIn_seq (wpIn_mono (ihx r ro _ a w hr hok.1 ha h) ?_)
      intro e a' w' hl
      cases e with
      | normal => exact wpIn_mono (ihy r ro Q a' w' hr hok.2 hl.1 hl.2.2) (lift_mono (hl.2.1.wider hw) (fun t ht => List.mem_append_right _ ht) fun _ _ _ h => h)
      | exit id => exact ⟨hl.1, hl.2.1.wider hw, hl.2.2⟩
      | goto id => exact ⟨hl.1, hl.2.1.wider hw, hl.2.2⟩
      | ret => exact ⟨hl.1, hl.2.1.wider hw, hl.2.2⟩
      | panic c => exact hl.elim
      | outgrown => exact hl.elim
    | some jv =>
      simp only [hj] at h
      obtain ⟨J, h1, h2⟩ := h
      refine wpIn_seq (wpIn_mono (ihx r ro _ a w hr hok.1 ha h1) ?_)
      intro e a' w' hl
      cases e with
      | normal =>
        have h3 := h2 (stOf a').env a'.defers w' hl.2.2
        rw [mixE_of_same hl.2.1] at h3
        exact wpIn_mono (ihy r ro Q a' w' hr hok.2 hl.1 h3) (lift_mono (hl.2.1.wider hw) (fun t ht => List.mem_append_right _ ht) fun _ _ _ h => h)
      | exit id => exact ⟨hl.1, hl.2.1.wider hw, hl.2.2⟩
      | goto id => exact ⟨hl.1, hl.2.1.wider hw, hl.2.2⟩
      | ret => exact ⟨hl.1, hl.2.1.wider hw, hl.2.2⟩
      | panic c => exact hl.elim
      | outgrown => exact hl.elim
  | cond c x y ihx ihy =>
    intro r ro Q a w hr hok ha h
    unfold codeVC at h
    simp only [codeOk, Bool.and_eq_true] at hok
    obtain ⟨b, hv⟩ : ∃ b, (stOf a).eval c = .bool b := by
      cases hv : (stOf a).eval c <;> simp only [hv, Cond] at h
      exact ⟨_, rfl⟩
    rw [hv] at h
    have h := Cond_out h
    rw [stOf_eval] at hv
    refine wpIn_cond_split hv (fun hb => ?_) (fun hb => ?_)
    · exact wpIn_mono (ihx r ro Q a w hr hok.1 ha (h.1 hb)) (lift_mono (fun _ _ => rfl) (fun t ht => List.mem_append_left _ ht) fun _ _ _ h => h)
    · exact wpIn_mono (ihy r ro Q a w hr hok.2 ha (h.2 hb)) (lift_mono (fun _ _ => rfl) (fun t ht => List.mem_append_right _ ht) fun _ _ _ h => h)
  | block id c ih =>
    intro r ro Q a w hr hok ha h
    unfold codeVC at h
    refine wpIn_block (wpIn_mono (ih r ro _ a w hr hok ha h) ?_)
    intro e a' w' hl
    cases e with
    | normal => exact hl
    | exit id' =>
      obtain ⟨h1, h2, h3⟩ := hl
      show if id' = id then _ else _
      have h3 : bif Nat.beq id' id then Q .normal (stOf a') w' else Q (.exit id') (stOf a') w' := h3
      by_cases e : id' = id
      · rw [if_pos e]; rw [e, Nat.beq_refl] at h3; exact ⟨h1, h2, h3⟩
      · rw [if_neg e]
        have : Nat.beq id' id = false := by
          cases hb : Nat.beq id' id with
          | false => rfl
          | true => exact absurd (Nat.eq_of_beq_eq_true hb) e
        rw [this] at h3; exact ⟨h1, h2, h3⟩
    | goto l => exact hl
    | ret => exact hl
    | panic c => exact hl
    | outgrown => exact hl
  | region id ops draw =>
    intro r ro Q a w hr hok ha h
    simp only [codeOk, Bool.and_eq_true] at hok
    have fin : ∀ (a' : Act) (w' : World), At N (dsts ops) a a' → Q .normal (stOf a') w' → lift N (asg (Code.region id ops draw)) a Q .normal a' w' := fun a' w' h1 h2 => ⟨h1.1, h1.2.2, h2⟩
    cases draw with
    | false =>
      have h : opsVC P ops (Q .normal) (List.range ops.size) (stOf a) w := by cases r <;> exact h
      exact region_sound hok.1 ha fin h
    | true =>
      have h : ∃ S : World → Prop, S (dr w) ∧ drawVC P ops (Q .normal) ops.size S [] (stOf a) (dr w) := by cases r <;> exact h
      obtain ⟨S, hS, h⟩ := h
      exact region_draw_sound hm hok.1 hok.2 ha fin hS h
  | loop c ih =>
    intro r ro Q a w hr hok ha h
    unfold codeVC at h
    simp only [codeOk, Bool.and_eq_true] at hok
    obtain ⟨I, μ, h0, hround⟩ := h
    refine wpIn_loop (fun a' w' => a'.tmps.size = N ∧ Same (asg c) (stOf a).env (stOf a').env ∧ I ((lv (key c)).map (stOf a').env) a'.defers w')
      (fun a' w' => μ ((lv (key c)).map (stOf a').env) w') ⟨ha, fun _ _ => rfl, h0⟩ ?_
    rintro a' w' ⟨ha', hs, hI⟩
    have := hround (stOf a').env a'.defers w' hI
    rw [mixE_of_same hs] at this
    refine wpIn_mono (ih r ro _ a' w' hr hok.1 ha' this) ?_
    intro e a2 w2 hl
    cases e with
    | normal => exact ⟨⟨hl.1, hs.trans hl.2.1, hl.2.2.1⟩, hl.2.2.2⟩
    | exit id => exact ⟨hl.1, hs.trans hl.2.1, hl.2.2⟩
    | goto id => exact ⟨hl.1, hs.trans hl.2.1, hl.2.2⟩
    | ret => exact ⟨hl.1, hs.trans hl.2.1, hl.2.2⟩
    | panic c => exact hl
    | outgrown => exact hl
  | rangeFunc f ps as body iha ihb =>
    intro r ro Q a w hr hok ha h
    cases r with
    | true => exact h.elim
    | false =>
      have hro := hr rfl
      subst hro
      simp only [codeOk, Bool.and_eq_true] at hok
      have hps : ∀ p ∈ ps.toList, p < N := fun p hp => by
        have := List.all_eq_true.1 hok.2 p hp
        exact (Nat.blt_eq (x := _) (y := _)).mp this
      unfold codeVC at h
      obtain ⟨gf, lb, hg, h⟩ := h
      rw [stOf_eval] at hg
      refine wpIn_rangeFunc fun fn _ => ?_
      obtain ⟨rec, hrec⟩ : ∃ rec : LoopState → Option Code → Loop, rec = fun st pe => { state := st, pending := pe, fn, tmps := a.tmps, params := ps, assign := as, body, defers := w.heap.size } := ⟨_, rfl⟩
      have hcall := h rec (fun st p => by rw [hrec]; exact ⟨rfl, rfl⟩) (fun args w' K hsz hl hB => ?_)
      · have hrun := hcall.1
        refine ⟨w.heap.size + 1, [{ target := .collected w.heap.size, args := #[] }], (w.alloc (.deferred (some []))).alloc (.loop (rec .ready none)),
          { target := .fn (.func gf) lb, args := #[.func (.yield (w.heap.size + 1)) #[] #[]] }, (w.alloc (.deferred (some []))).alloc (.loop (rec .ready none)), gf, #[.func (.yield (w.heap.size + 1)) #[] #[]] ++ lb, (w.alloc (.deferred (some []))).alloc (.loop (rec .ready none)), ?_, ?_, fun _ _ => trivial, ?_, fun e => Bool.noConfusion e, ?_⟩
        · rw [hrec]; exact run_enterLoop_outer _ _ _ _ _
        · simp only [resolve, hg]
          simp [go_sem]
        · show (invoke (.fn (.func gf) lb) _).run P _ = _
          unfold invoke; exact hrun _
        · refine (callsIn_round hcall.2).mono ?_
          intro e w2 hp
          cases e with
          | panicked c => exact hp.elim
          | outgrown => exact hp.elim
          | returned v =>
            have fin : ∀ (st : LoopState) (pe : Option Code), st ≠ .busy → w2.heap[w.heap.size + 1]? = some (.loop (rec st pe)) →
                (Instr.endLoop (w.heap.size + 1)).run P w2 = .ok pe (w2.putObj (w.heap.size + 1) (.loop (rec .exhausted pe))) := fun st pe hne hl => by
              have := run_endLoop (P := P) hl (by rw [hrec]; exact hne)
              rw [hrec] at this ⊢; exact this
            rcases hp with ⟨hl, hk⟩ | ⟨hl, hk⟩ | ⟨id, hl, hk⟩
            · exact ⟨none, _, fin .ready none (by simp) hl, ha, fun _ _ => rfl, hk⟩
            · exact ⟨some .ret, _, fin .done _ (by simp) hl, wpIn_ret ⟨ha, fun _ _ => rfl, hk⟩⟩
            · exact ⟨some (.exit id), _, fin .done _ (by simp) hl, wpIn_exit ⟨ha, fun _ _ => rfl, hk⟩⟩
      · have hsz' : args.size = (rec .ready none).params.size := by rw [hrec]; exact hsz
        have hy := run_yield (P := P) hl hsz'
        obtain ⟨hz1, hz2⟩ := putArgs_stOf (N := N) (fun i => args.toList.getD i undef) ps.toList args.toList 0 a ha hps (by simpa using hsz) (fun j => by simp)
        have etm : ((rec .ready none).params.zip args).foldl (fun tmps (t, v) => tmps.setIfInBounds t v) (rec .ready none).tmps =
            (ps.toList.zip args.toList).foldl (fun t (p, v) => t.setIfInBounds p v) a.tmps := by
          rw [hrec, ← Array.foldl_toList, Array.toList_zip]
        rw [etm] at hy
        refine ⟨_, _, _, _, hy, ?_⟩
        have efn : (rec .ready none).fn = fn ∧ (rec .ready none).assign = as ∧ (rec .ready none).body = body := by rw [hrec]; exact ⟨rfl, rfl, rfl⟩
        rw [efn.1, efn.2.1, efn.2.2]
        generalize hta : ({ tmps := (ps.toList.zip args.toList).foldl (fun t (p, v) => t.setIfInBounds p v) a.tmps, defers := [] } : Act) = ta at hz1 hz2
        have htm : (ps.toList.zip args.toList).foldl (fun t (p, v) => t.setIfInBounds p v) a.tmps = ta.tmps := by rw [← hta]
        rw [htm]
        refine roundIn_of_wpIn (F := Fr none) trivial ?_
        have hta' : ({ tmps := ta.tmps, defers := [] } : Act) = ta := by rw [← hta]
        rw [hta']
        have hst : stOf ta = { env := putArgs (fun i => args.toList.getD i undef) ps.toList 0 (stOf a).env, ds := [] } := by
          show St.mk _ _ = St.mk _ _
          congr 1
          rw [← hta]
        dsimp only at hB
        rw [← hst] at hB
        refine wpIn_mono (iha true (some (w.heap.size + 1)) _ ta w' (fun e => Bool.noConfusion e) hok.1.1 hz1 hB) ?_
        intro e a1 w1 hl1
        cases e with
        | normal =>
          obtain ⟨h1, _, hr1, hb1⟩ := hl1
          refine ⟨_, run_beginRound hr1 (by rw [hrec]), ?_⟩
          have ebz : (Obj.loop { (rec .ready none) with state := .busy }) = .loop (rec .busy none) := by rw [hrec]
          rw [ebz]
          refine wpIn_mono (ihb true (some (w.heap.size + 1)) _ a1 _ (fun e => Bool.noConfusion e) hok.1.2 h1 hb1) ?_
          intro e a2 w2 hl2
          have fin : ∀ (jump : Option Code) (w2 : World), w2.heap[w.heap.size + 1]? = some (.loop (rec .busy none)) →
              (Instr.endRound (w.heap.size + 1) jump).run P w2 = .ok (.bool jump.isNone) (w2.putObj (w.heap.size + 1) (.loop (rec (if jump.isNone then .ready else .done) jump))) := fun jump w2 hl => by
            have := run_endRound (P := P) jump hl
            rw [hrec] at this ⊢; exact this
          cases e with
          | normal => exact ⟨_, _, fin none w2 hl2.2.2.1, hl2.2.2.2⟩
          | ret => exact ⟨_, _, fin (some .ret) w2 hl2.2.2.1, hl2.2.2.2⟩
          | exit id => exact ⟨_, _, fin (some (.exit id)) w2 hl2.2.2.1, hl2.2.2.2⟩
          | goto l => exact hl2.2.2.elim
          | panic c => exact hl2.elim
          | outgrown => exact hl2.elim
        | exit id => exact hl1.2.2.elim
        | goto id => exact hl1.2.2.elim
        | ret => exact hl1.2.2.elim
        | panic c => exact hl1.elim
        | outgrown => exact hl1.elim
end
end Go.Eng
namespace Go.Eng
open Go

/-! ### Functions -/
def leaveVC : List Deferred → (World → Prop) → World → Prop
  | [], K, w => K w
  | d :: ds, K, w => match d.target with
    | .collected D => w.heap[D]? = some (.deferred (some [])) ∧ leaveVC ds K (w.putObj D (.deferred none))
    | _ => False
def resL (P : Program) (env : Nat → Value) : List ResultVar → (List Value → Prop) → World → Prop
  | [], K, _ => K []
  | .tmp t :: rs, K, w => resL P env rs (fun vs => K (env t :: vs)) w
  | .cell a t :: rs, K, w => ∃ v, (Instr.loadAt t (env a)).run P w = .ok v w ∧ resL P env rs (fun vs => K (v :: vs)) w
def tupV : List Value → Value
  | [v] => v
  | vs => .tuple vs.toArray
def retPost (P : Program) (fn : Func) (K : Value → World → Prop) : Post
  | .normal, s, w => leaveVC s.ds (fun w => resL P s.env fn.results.toList (fun vs => K (tupV vs) w) w) w
  | .ret, s, w => leaveVC s.ds (fun w => resL P s.env fn.results.toList (fun vs => K (tupV vs) w) w) w
  | _, _, _ => False
def argEnv : List Value → Nat → Value
  | [], _ => undef
  | v :: vs, t => bif Nat.beq t 0 then v else argEnv vs (t - 1)

section
variable {P : Program}

theorem loadAt_asAddr {t : TypeId} {p v : Value} {w : World} (h : (Instr.loadAt t p).run P w = .ok v w) : (do loadVar t (← asAddr p)).run P w = .ok v w := by
  unfold Instr.loadAt at h
  rw [Sem.run_bind] at h ⊢
  cases p with
  | pointer a => cases a with
    | some a => exact h
    | none => cases h
  | _ => cases h

def resF (tmps : Array Value) : ResultVar → Sem Value
  | .tmp t => pure (tmps.getD t undef)
  | .cell a t => do loadVar t (← asAddr (tmps.getD a undef))
theorem results_eq (fn : Func) (tmps : Array Value) : results fn tmps = (fn.results.mapM (resF tmps) >>= fun vs => pure (if h : vs.size = 1 then vs[0] else .tuple vs)) := by
  unfold results
  congr 2

theorem resL_run (tmps : Array Value) (w : World) : ∀ (rs : List ResultVar) (K : List Value → Prop), resL P (fun t => tmps.getD t undef) rs K w →
    ∃ vs, (rs.mapM (resF tmps)).run P w = .ok vs w ∧ K vs ∧ vs.length = rs.length
  | [], K, h => ⟨[], rfl, h, rfl⟩
  | .tmp t :: rs, K, h => by
    obtain ⟨vs, e, k, hl⟩ := resL_run tmps w rs _ h
    exact ⟨_ :: vs, by rw [List.mapM_cons]; simp only [resF, Sem.run_bind, Sem.run_pure, Result.andThen]; rw [e], k, by simp [hl]⟩
  | .cell a t :: rs, K, h => by
    obtain ⟨v, e1, h⟩ := h
    obtain ⟨vs, e, k, hl⟩ := resL_run tmps w rs _ h
    refine ⟨v :: vs, ?_, k, by simp [hl]⟩
    have e1 := loadAt_asAddr e1
    have e1 : (resF tmps (.cell a t)).run P w = .ok v w := e1
    rw [List.mapM_cons, Sem.run_bind, e1]
    simp only [Result.andThen]
    rw [Sem.run_bind, e]; rfl

theorem results_run {fn : Func} {tmps : Array Value} {w : World} {K : List Value → Prop} (h : resL P (fun t => tmps.getD t undef) fn.results.toList K w) :
    ∃ vs, (results fn tmps).run P w = .ok (tupV vs) w ∧ K vs := by
  obtain ⟨vs, e, k, hl⟩ := resL_run tmps w _ K h
  refine ⟨vs, ?_, k⟩
  rw [results_eq, Array.mapM_eq_mapM_toList, Sem.run_bind]
  have : (List.toArray <$> fn.results.toList.mapM (resF tmps)).run P w = .ok vs.toArray w := by
    rw [map_eq_pure_bind, Sem.run_bind, e]; rfl
  refine (congrArg (fun x => Result.andThen x _) this).trans ?_
  show Sem.run P (pure _) w = _
  match vs with
  | [] => rfl
  | [v] => rfl
  | _ :: _ :: _ => rfl

theorem argEnv_spec : ∀ (l : List Value) (n : Nat) (t : Nat), (l.toArray ++ Array.replicate (n - l.length) undef).getD t undef = argEnv l t
  | [], n, t => by
    show _ = undef
    by_cases h : t < n <;> simp [Array.getD, h]
  | v :: l, n, t => by
    unfold argEnv
    cases t with
    | zero => simp [Array.getD]
    | succ t =>
      show _ = argEnv l t
      rw [← argEnv_spec l (n - 1) t]
      have e : n - (v :: l).length = n - 1 - l.length := by simp; omega
      rw [e]
      simp only [Array.getD_eq_getD_getElem?, Array.getElem?_append, Array.getElem?_replicate, List.size_toArray, List.length_cons, Nat.add_lt_add_iff_right, Nat.add_sub_add_right, List.getElem?_toArray, List.getElem?_cons_succ]

theorem leaves_of {fn : Func} {tmps : Array Value} {K : Value → World → Prop} : ∀ (ds : List Deferred) (w : World),
    leaveVC ds (fun w => resL P (fun t => tmps.getD t undef) fn.results.toList (fun vs => K (tupV vs) w) w) w → LeavesInM (Fr none) 0 P fn tmps (retP K) ds .returning w
  | [], w, h => by
    obtain ⟨vs, e, k⟩ := results_run h
    exact ⟨tupV vs, e, k⟩
  | d :: ds, w, h => by
    unfold leaveVC at h
    cases ht : d.target <;> simp only [ht] at h
    rename_i D
    exact ⟨by simp, .inl ⟨D, _, ht, run_takeDeferred h.1, leaves_of ds _ h.2⟩⟩

/-- **A function's contract from its verification condition.** -/
theorem callF_of {f : FuncId} {fn : Func} {c : Code} {args : List Value} {w : World} {K : Value → World → Prop} {lv : Nat → List Nat} {jn : Nat → Option (List Nat)} (hm : P.follows .mixedOrders = true)
    (hf : P.funcs[f]? = some fn) (hb : fn.body = some c) (hcall : ∀ args w, (callFunc f args).run P w = .ok (.enter f args) w)
    (hn : Nat.ble args.length fn.ntmps = true) (hok : codeOk fn.ntmps lv c = true)
    (h : codeVC P lv jn false c (retPost P fn K) { env := argEnv args, ds := [] } w) : CallF P f args.toArray K w := by
  refine .enter_ (hcall _) (callsIn_of_wp_marks (F := Fr none) hf hb trivial ?_)
  have hle := Nat.le_of_ble_eq_true hn
  have hst : stOf { tmps := args.toArray ++ Array.replicate (fn.ntmps - args.toArray.size) undef, defers := [] } = { env := argEnv args, ds := [] } := by
    show St.mk _ _ = St.mk _ _
    congr 1
    funext t
    exact argEnv_spec args fn.ntmps t
  rw [← hst] at h
  refine wpIn_mono (codeVC_sound hm c false none _ _ w (fun _ => rfl) hok (by simp; omega) h) ?_
  intro e a w' hl
  cases e with
  | normal => exact leaves_of _ _ hl.2.2
  | ret => exact leaves_of _ _ hl.2.2
  | exit id => exact hl.2.2.elim
  | goto id => exact hl.2.2.elim
  | panic c => exact hl.elim
  | outgrown => exact hl.elim
end
/-! ### The same heads, the continuation last: for the printed conditions -/
def Vl (P : Program) (s : Sem Value) (w : World) (K : Value → World → Prop) : Prop := Val P s K w
def Ef (P : Program) (s : Sem Unit) (w : World) (K : World → Prop) : Prop := Eff P s K w
def Cf (P : Program) (f : FuncId) (args : Array Value) (w : World) (K : Value → World → Prop) : Prop := CallF P f args K w
def Cv (P : Program) (f : Value) (args : Array Value) (w : World) (K : Value → World → Prop) : Prop := CallV P f args K w
def Cm (P : Program) (r : Value) (m : String) (args : Array Value) (w : World) (K : Value → World → Prop) : Prop := CallM P r m args K w
def Rs (P : Program) (s : Sem Value) (w : World) (K : Value → Prop) : Prop := ∃ v, s.run P w = .ok v w ∧ K v
def binop (op : BinOp) (t : TypeId) (x y : Operand) (a b : Value) : Sem Value := do eqGuard op t x y a b; binOp op t a b
def Rf (P : Program) (np : Nat) (g : Value) (ds : List Deferred) (w : World) (B : (Nat → Value) → ((World → Prop) → World → Prop) → (World → Prop) → (World → Prop) → (Nat → World → Prop) → World → Prop)
    (Kn Kr : List Deferred → World → Prop) (Kx : Nat → List Deferred → World → Prop) : Prop := RangeVC P np g B Kn Kr Kx ds w
def Lv (ds : List Deferred) (w : World) (K : World → Prop) : Prop := leaveVC ds K w
end Go.Eng
