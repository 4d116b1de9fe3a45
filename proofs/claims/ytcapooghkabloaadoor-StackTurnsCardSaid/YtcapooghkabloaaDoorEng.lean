/- An engine of this claim's own: a function from Go code to a verification condition, sound over the model's calculus. No conditions. -/
import Derived.RangeFuncLeaves
import Derived.OrdersIn
import Derived.Laws.World
import Derived.RangeFuncOwn
namespace Go.Eng
open Go

/-- The fence of all: no function is shut out, no depth is asked. -/
def Fr (r : Option Nat) : Fence := { Fence.wide with round := r }
theorem Fr_fn (r : Option Nat) (f : FuncId) : (Fr r).fn f := trivial
theorem Fr_room (r : Option Nat) (k : Nat) : (Fr r).room k := fun _ h => by cases h
theorem Fr_depth (r : Option Nat) : (Fr r).depth = none := rfl

/-- What stands in the temporaries, and which calls are deferred. -/
structure St where
  env : Nat → Value
  ds : List Deferred

def setEnv (e : Nat → Value) (d : Nat) (v : Value) : Nat → Value := fun t => bif Nat.beq t d then v else e t

def St.put (s : St) (d : Option Tmp) (v : Value) : St :=
  match d with
  | some d => { env := setEnv s.env d v, ds := s.ds }
  | none => s

def St.eval (s : St) : Operand → Value
  | .tmp t => s.env t
  | .const v => v
  | .global g => .pointer (some ⟨g, 0, none⟩)
  | .func f => .func (.func f) #[] #[]

abbrev Post := Exit → St → World → Prop

/-! ### The heads of a verification condition -/

/-- An operation that hands over a value. -/
def Val (P : Program) (s : Sem Value) (K : Value → World → Prop) (w : World) : Prop := ∃ v w', s.run P w = .ok v w' ∧ K v w'
/-- An operation that hands over nothing. -/
def Eff (P : Program) (s : Sem Unit) (K : World → Prop) (w : World) : Prop := ∃ w', s.run P w = .ok () w' ∧ K w'
/-- A value that is no nil of the kinds that a nil check asks about. -/
def NN : Value → Prop
  | .pointer none | .nilIface | .nilFunc => False
  | .func (.method _) _ _ => False
  | _ => True
def retP (K : Value → World → Prop) : Ending → World → Prop
  | .returned v, w => K v w
  | _, _ => False
/-- A call of a function: with a body, or of the model's own. -/
inductive CallF (P : Program) (f : FuncId) (args : Array Value) (K : Value → World → Prop) (w : World) : Prop where
  | enter_ (hc : ∀ w, (callFunc f args).run P w = .ok (.enter f args) w) (h : CallsIn (Fr none) 0 P f args w (retP K))
  | value_ (v : Value) (w' : World) (e : (callFunc f args).run P w = .ok (.value v) w') (k : K v w')
/-- A call of a function with a body. -/
def CallE (P : Program) (f : FuncId) (args : Array Value) (K : Value → World → Prop) (w : World) : Prop :=
  (∀ w, (callFunc f args).run P w = .ok (.enter f args) w) ∧ CallsIn (Fr none) 0 P f args w (retP K)
/-- A call of yield. -/
def YieldC (P : Program) (l : Nat) (args : Array Value) (K : Value → World → Prop) (w : World) : Prop :=
  ∃ fn tmps assign body, (Instr.yield l args).run P w = .ok (.round l fn tmps assign body) w ∧ RoundIn (Fr none) 0 P l fn tmps assign body w (retP K)
/-- A call of a function value. -/
def CallV (P : Program) (f : Value) (args : Array Value) (K : Value → World → Prop) (w : World) : Prop :=
  (∃ g lb, f = .func (.func g) #[] lb ∧ CallF P g (args ++ lb) K w) ∨ (∃ l, f = .func (.yield l) #[] #[] ∧ YieldC P l args K w)
/-- A call of a method of an interface value. -/
def CallM (P : Program) (recv : Value) (m : String) (args : Array Value) (K : Value → World → Prop) (w : World) : Prop :=
  ∃ f args', (callMethod recv m args).run P w = .ok (.enter f args') w ∧ CallsIn (Fr none) 0 P f args' w (retP K)
def Cond (v : Value) (A B : Prop) : Prop :=
  match v with
  | .bool true => A
  | .bool false => B
  | _ => False
theorem Cond_bool {b : Bool} {A B : Prop} (ha : b = true → A) (hb : b = false → B) : Cond (.bool b) A B := by
  cases b
  · exact hb rfl
  · exact ha rfl
theorem Cond_out {b : Bool} {A B : Prop} (h : Cond (.bool b) A B) : (b = true → A) ∧ (b = false → B) := by
  cases b
  · exact ⟨fun e => Bool.noConfusion e, fun _ => h⟩
  · exact ⟨fun _ => h, fun e => Bool.noConfusion e⟩
def Guard (v : Value) (want : Bool) (A B : Prop) : Prop :=
  match v, want with
  | .bool true, true => A
  | .bool false, false => A
  | _, _ => B
theorem Guard_out {b want : Bool} {A B : Prop} (h : Guard (.bool b) want A B) : (b = want → A) ∧ (b ≠ want → B) := by
  cases b <;> cases want <;> first | exact ⟨fun _ => h, fun e => absurd rfl e⟩ | exact ⟨fun e => Bool.noConfusion e, fun _ => h⟩
theorem Guard_in {b want : Bool} {A B : Prop} (h : (b = want → A) ∧ (b ≠ want → B)) : Guard (.bool b) want A B := by
  cases b <;> cases want <;> first | exact h.1 rfl | exact h.2 (by simp)

def builtinVC (P : Program) (b : Builtin) (ts : Array TypeId) (t : TypeId) (args : Array Value) (K : Value → World → Prop) (w : World) : Prop :=
  match b with
  | .append => Val P (Builtin.append_ ts t args) K w
  | .len => Val P (Builtin.len_ ts t args) K w
  | .cap => Val P (Builtin.cap_ ts t args) K w
  | .copy => Val P (Builtin.copy_ ts t args) K w
  | .clear => Val P (Builtin.clear_ ts t args) K w
  | .delete => Val P (Builtin.delete_ ts t args) K w
  | .max => Val P (Builtin.max_ ts t args) K w
  | .min => Val P (Builtin.min_ ts t args) K w
  | .unsafeSliceData => Val P (Builtin.unsafeSliceData_ ts t args) K w
  | .unsafeStringData => Val P (Builtin.unsafeStringData_ ts t args) K w
  | .unsafeString => Val P (Builtin.unsafeString_ ts t args) K w
  | .unsafeSlice => Val P (Builtin.unsafeSlice_ ts t args) K w
  | _ => False

def callVC (P : Program) (c : Call) (t : TypeId) (ρ : Operand → Value) (args : Array Value) (K : Value → World → Prop) (w : World) : Prop :=
  match c.callee with
  | .builtin b => builtinVC P b c.argTypes t args K w
  | .value (.func g) => CallF P g args K w
  | .value x => CallV P (ρ x) args K w
  | .invoke recv m => CallM P (ρ recv) m args K w

/-- One operation: from what its operands hold to what it hands over. -/
def opRun (P : Program) (o : Oper) (ρ : Operand → Value) (K : Value → World → Prop) (w : World) : Prop :=
  match o.op with
  | .move x => K (ρ x) w
  | .assign x => K (ρ x) w
  | .pick c a b => Cond (ρ c) (K (ρ a) w) (K (ρ b) w)
  | .nilCheck x => NN (ρ x) ∧ K (ρ x) w
  | .alloc e => Val P (Instr.alloc e true (.tuple #[])) K w
  | .box e x => Val P (Instr.box e (ρ x)) K w
  | .build t ps => Val P (Instr.build t (ps.toList.map fun p => (p.1, ρ p.2)).toArray) K w
  | .buildSlice t n ps => Val P (Instr.buildSlice t n (ps.toList.map fun p => (p.1, ρ p.2)).toArray) K w
  | .load t a => Val P (Instr.loadAt t (ρ a)) K w
  | .store t a x => Eff P (Instr.storeAt t (ρ a) (ρ x)) (K undef) w
  | .binOp op t x y _ => Val P (do eqGuard op t x y (ρ x) (ρ y); binOp op t (ρ x) (ρ y)) K w
  | .unOp op _ x => Val P (Op.unary op (ρ x)) K w
  | .convert s d x => Val P (convert s d (ρ x)) K w
  | .sliceToArrayPointer d x => Val P (Instr.arrayAt d (ρ x)) K w
  | .makeInterface t x => Val P (Instr.makeInterface t (ρ x)) K w
  | .makeFunc fn a b => Val P (Instr.makeFunc fn (a.toList.map ρ).toArray (b.toList.map ρ).toArray) K w
  | .makeMap t r => Val P (Instr.makeMap t (r.map ρ)) K w
  | .makeSlice t l c => Val P (Instr.makeSlice t (ρ l) (ρ c)) K w
  | .slice t x l h m => Val P (Instr.sliceAt t (ρ x) (l.map ρ) (h.map ρ) (m.map ρ)) K w
  | .fieldAddr t x f => Val P (Instr.fieldAt t (ρ x) f) K w
  | .field t x f => Val P (Instr.field t (ρ x) f) K w
  | .indexAddr t x i => Val P (Instr.indexAt t (ρ x) (ρ i)) K w
  | .index t x i => Val P (Instr.index t (ρ x) (ρ i)) K w
  | .lookup t x i ok => Val P (Instr.lookup t (ρ x) (ρ i) ok) K w
  | .mapUpdate t m k v => Eff P (Instr.mapUpdate t (ρ m) (ρ k) (ρ v)) (K undef) w
  | .insert t m k v => Eff P (Instr.mapUpdate t (ρ m) (ρ k) (ρ v)) (K undef) w
  | .mapEntry t m k => Val P (Instr.mapEntry t (ρ m) (ρ k)) K w
  | .entryStore t m k v => Eff P (Instr.entryStore t (ρ m) (ρ k) (ρ v)) (K undef) w
  | .range t x => Val P (Instr.range t (ρ x)) K w
  | .next x b => Val P (Instr.next (ρ x) b o.type) K w
  | .entry x => Val P (Instr.entry (ρ x)) K w
  | .typeAssert x t u ok => Val P (Instr.typeAssert (ρ x) t u ok) K w
  | .extract x i => Val P (Instr.extract (ρ x) i) K w
  | .call c => callVC P c o.type ρ (c.args.toList.map ρ).toArray K w
  | _ => False

theorem Val.mono {P : Program} {s : Sem Value} {K K' : Value → World → Prop} {w : World} (h : Val P s K w) (hk : ∀ v w, K v w → K' v w) : Val P s K' w :=
  let ⟨v, w', e, k⟩ := h; ⟨v, w', e, hk _ _ k⟩
theorem Eff.mono {P : Program} {s : Sem Unit} {K K' : World → Prop} {w : World} (h : Eff P s K w) (hk : ∀ w, K w → K' w) : Eff P s K' w :=
  let ⟨w', e, k⟩ := h; ⟨w', e, hk _ k⟩
theorem retP_mono {K K' : Value → World → Prop} (hk : ∀ v w, K v w → K' v w) : ∀ e w, retP K e w → retP K' e w
  | .returned _, _, h => hk _ _ h
theorem CallF.mono {P : Program} {f : FuncId} {args : Array Value} {K K' : Value → World → Prop} {w : World} (h : CallF P f args K w) (hk : ∀ v w, K v w → K' v w) : CallF P f args K' w :=
  match h with
  | .enter_ hc h => .enter_ hc (h.mono (retP_mono hk))
  | .value_ v w' e k => .value_ v w' e (hk _ _ k)
theorem CallE.mono {P : Program} {f : FuncId} {args : Array Value} {K K' : Value → World → Prop} {w : World} (h : CallE P f args K w) (hk : ∀ v w, K v w → K' v w) : CallE P f args K' w :=
  ⟨h.1, h.2.mono (retP_mono hk)⟩
theorem CallF.enter {P : Program} {f : FuncId} {args : Array Value} {K : Value → World → Prop} {w : World} (hf : ∀ args w, (callFunc f args).run P w = .ok (.enter f args) w) (h : CallF P f args K w) : CallE P f args K w := by
  rcases h with ⟨hc, h⟩ | ⟨v, w', e, _⟩
  · exact ⟨hc, h⟩
  · rw [hf args w] at e; cases e
theorem YieldC.mono {P : Program} {l : Nat} {args : Array Value} {K K' : Value → World → Prop} {w : World} (h : YieldC P l args K w) (hk : ∀ v w, K v w → K' v w) : YieldC P l args K' w :=
  let ⟨fn, t, a, b, e, r⟩ := h; ⟨fn, t, a, b, e, r.mono (retP_mono hk)⟩
theorem CallV.mono {P : Program} {f : Value} {args : Array Value} {K K' : Value → World → Prop} {w : World} (h : CallV P f args K w) (hk : ∀ v w, K v w → K' v w) : CallV P f args K' w :=
  h.imp (fun ⟨g, lb, e, c⟩ => ⟨g, lb, e, c.mono hk⟩) (fun ⟨l, e, c⟩ => ⟨l, e, c.mono hk⟩)
theorem CallM.mono {P : Program} {r : Value} {m : String} {args : Array Value} {K K' : Value → World → Prop} {w : World} (h : CallM P r m args K w) (hk : ∀ v w, K v w → K' v w) : CallM P r m args K' w :=
  let ⟨f, a, e, c⟩ := h; ⟨f, a, e, c.mono (retP_mono hk)⟩
theorem Cond.mono {v : Value} {A B A' B' : Prop} (h : Cond v A B) (ha : A → A') (hb : B → B') : Cond v A' B' := by
  cases v with
  | bool b => cases b
              · exact hb h
              · exact ha h
  | _ => exact h.elim
theorem Guard.mono {v : Value} {b : Bool} {A B A' B' : Prop} (h : Guard v b A B) (ha : A → A') (hb : B → B') : Guard v b A' B' := by
  cases v <;> first | exact hb h | exact Guard_in ⟨fun e => ha ((Guard_out h).1 e), fun e => hb ((Guard_out h).2 e)⟩

theorem builtinVC.mono {P : Program} {b : Builtin} {ts : Array TypeId} {t : TypeId} {args : Array Value} {K K' : Value → World → Prop} {w : World}
    (h : builtinVC P b ts t args K w) (hk : ∀ v w, K v w → K' v w) : builtinVC P b ts t args K' w := by
  cases b <;> first | exact Val.mono h hk | exact h.elim

theorem opRun.mono {P : Program} {o : Oper} {ρ : Operand → Value} {K K' : Value → World → Prop} {w : World} (hk : ∀ v w, K v w → K' v w)
    (h : opRun P o ρ K w) : opRun P o ρ K' w := by
  unfold opRun at h ⊢
  cases ho : o.op <;> simp only [ho] at h ⊢ <;>
    first
      | exact hk _ _ h
      | exact Val.mono h hk
      | exact Eff.mono h (fun _ => hk _ _)
      | exact ⟨h.1, hk _ _ h.2⟩
      | exact Cond.mono h (hk _ _) (hk _ _)
      | exact h.elim
      | skip
  rename_i c
  unfold callVC at h ⊢
  cases hc : c.callee with
  | builtin b => simp only [hc] at h ⊢; exact builtinVC.mono h hk
  | invoke r m => simp only [hc] at h ⊢; exact CallM.mono h hk
  | value x => cases x <;> simp only [hc] at h ⊢ <;> first | exact CallF.mono h hk | exact CallV.mono h hk

end Go.Eng
