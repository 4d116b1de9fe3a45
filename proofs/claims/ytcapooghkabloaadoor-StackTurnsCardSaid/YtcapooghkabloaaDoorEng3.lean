/- Part of the proof of a law of this seat: facts that it uses, each proved here. No conditions. -/
import Derived.Test.YtcapooghkabloaaDoorEng2
namespace Go.Eng
open Go

/-! ### Regions -/
def gval (ops : Array Oper) (j : Nat) (s : St) : Value :=
  match ops[j]? with
  | some o => match o.dst with | some d => s.env d | none => undef
  | none => undef

/-- One operation of a region, under its guard. -/
def opG (P : Program) (ops : Array Oper) (i : Nat) (K : St → World → Prop) (s : St) (w : World) : Prop :=
  match ops[i]? with
  | none => K s w
  | some o => match o.guard with
    | none => opRun P o s.eval (fun v w => K (s.put o.dst v) w) w
    | some g => Guard (gval ops g.1 s) g.2 (opRun P o s.eval (fun v w => K (s.put o.dst v) w) w) (K (s.put o.dst undef) w)

/-- Is an operation's result the guard of another one? -/
def isGuard (ops : Array Oper) (i : Nat) : Bool := ops.toList.any fun o => match o.guard with | some g => Nat.beq g.1 i | none => false
/-- A result that is a guard is taken as true, or as false. -/
def splitK (b : Bool) (v : Value) (F : Value → Prop) : Prop := bif b then Cond v (F (.bool true)) (F (.bool false)) else F v
theorem splitK_out {b : Bool} {v : Value} {F : Value → Prop} (h : splitK b v F) : F v := by
  cases b with
  | false => exact h
  | true => cases v with
    | bool t => cases t <;> exact h
    | _ => exact h.elim
/-- 'opG', a guard's result taken apart. -/
def opGs (P : Program) (ops : Array Oper) (i : Nat) (K : St → World → Prop) (s : St) (w : World) : Prop :=
  match ops[i]? with
  | none => K s w
  | some o => match o.guard with
    | none => opRun P o s.eval (fun v w => splitK (isGuard ops i) v fun v => K (s.put o.dst v) w) w
    | some g => Guard (gval ops g.1 s) g.2 (opRun P o s.eval (fun v w => splitK (isGuard ops i) v fun v => K (s.put o.dst v) w) w) (K (s.put o.dst undef) w)
theorem opGs_out {P : Program} {ops : Array Oper} {i : Nat} {K : St → World → Prop} {s : St} {w : World} (h : opGs P ops i K s w) : opG P ops i K s w := by
  unfold opGs at h
  unfold opG
  cases ho : ops[i]? with
  | none => simp only [ho] at h ⊢; exact h
  | some o =>
    simp only [ho] at h ⊢
    cases hg : o.guard with
    | none => simp only [hg] at h ⊢; exact opRun.mono (fun _ _ => splitK_out) h
    | some g => simp only [hg] at h ⊢; exact Guard.mono h (opRun.mono fun _ _ => splitK_out) id

def opsVC (P : Program) (ops : Array Oper) (K : St → World → Prop) : List Nat → St → World → Prop
  | [], s, w => K s w
  | i :: rest, s, w => opGs P ops i (opsVC P ops K rest) s w

/-- A value that an operation hands over in every world of a kind, and the world stays. -/
def ValQ (P : Program) (S : World → Prop) (x : Sem Value) (K : Value → Prop) : Prop := ∃ v, (∀ w, S w → x.run P w = .ok v w) ∧ K v

/-- A value that an operation hands over in whatever world, and the world stays. -/
def Pv (P : Program) (x : Sem Value) (K : Value → Prop) : Prop := ∃ v, (∀ w, x.run P w = .ok v w) ∧ K v

def opQ (P : Program) (o : Oper) (ρ : Operand → Value) (S : World → Prop) (K : Value → Prop) : Prop :=
  match o.op with
  | .move x => K (ρ x)
  | .assign x => K (ρ x)
  | .pick c a b => Cond (ρ c) (K (ρ a)) (K (ρ b))
  | .nilCheck x => NN (ρ x) ∧ K (ρ x)
  | .build t ps => Pv P (Instr.build t (ps.toList.map fun p => (p.1, ρ p.2)).toArray) K
  | .load t a => ValQ P S (Instr.loadAt t (ρ a)) K
  | .binOp op t x y _ => Pv P (do eqGuard op t x y (ρ x) (ρ y); binOp op t (ρ x) (ρ y)) K
  | .unOp op _ x => Pv P (Op.unary op (ρ x)) K
  | .convert s d x => ValQ P S (convert s d (ρ x)) K
  | .makeFunc fn a b => Pv P (Instr.makeFunc fn (a.toList.map ρ).toArray (b.toList.map ρ).toArray) K
  | .slice t x l h m => Pv P (Instr.sliceAt t (ρ x) (l.map ρ) (h.map ρ) (m.map ρ)) K
  | .fieldAddr t x f => Pv P (Instr.fieldAt t (ρ x) f) K
  | .field t x f => Pv P (Instr.field t (ρ x) f) K
  | .indexAddr t x i => Pv P (Instr.indexAt t (ρ x) (ρ i)) K
  | .index t x i => Pv P (Instr.index t (ρ x) (ρ i)) K
  | .lookup t x i ok => ValQ P S (Instr.lookup t (ρ x) (ρ i) ok) K
  | .extract x i => Pv P (Instr.extract (ρ x) i) K
  | .call c => match c.callee with
    | .builtin .len => ValQ P S (Builtin.len_ c.argTypes o.type (c.args.toList.map ρ).toArray) K
    | .builtin .cap => ValQ P S (Builtin.cap_ c.argTypes o.type (c.args.toList.map ρ).toArray) K
    | .builtin .max => ValQ P S (Builtin.max_ c.argTypes o.type (c.args.toList.map ρ).toArray) K
    | .builtin .min => ValQ P S (Builtin.min_ c.argTypes o.type (c.args.toList.map ρ).toArray) K
    | _ => False
  | _ => False

def isQ (o : Oper) : Bool :=
  match o.op with
  | .move _ | .assign _ | .pick .. | .nilCheck _ | .build .. | .load .. | .binOp .. | .unOp .. | .convert .. | .makeFunc .. | .slice .. | .fieldAddr .. | .field ..
  | .indexAddr .. | .index .. | .lookup .. | .extract .. => true
  | .call c => match c.callee with
    | .builtin .len | .builtin .cap | .builtin .max | .builtin .min => true
    | _ => false
  | _ => false

/-- Does what only reads hang on memory? -/
def isImp (o : Oper) : Bool :=
  match o.op with
  | .load .. | .lookup .. | .convert .. | .call _ => true
  | _ => false
def isImpAt (ops : Array Oper) (i : Nat) : Bool :=
  match ops[i]? with
  | some o => isImp o || !isQ o
  | none => true

def opGQ (P : Program) (ops : Array Oper) (i : Nat) (S : World → Prop) (K : St → Prop) (s : St) : Prop :=
  match ops[i]? with
  | none => False
  | some o => match o.guard with
    | none => opQ P o s.eval S (fun v => splitK (isGuard ops i) v fun v => K (s.put o.dst v))
    | some g => Guard (gval ops g.1 s) g.2 (opQ P o s.eval S (fun v => splitK (isGuard ops i) v fun v => K (s.put o.dst v))) (K (s.put o.dst undef))

def rdy (ops : Array Oper) (done : List Nat) (i : Nat) : Bool :=
  !(done.contains i) && match ops[i]? with
    | some o => o.after.toList.all (fun e => !Region.binds .any e || done.contains e.on)
    | none => false

/-- The temporaries that an operation looks at. -/
def looks (ops : Array Oper) (o : Oper) : List Nat :=
  (o.op.operands.toList.filterMap fun | .tmp t => some t | _ => none) ++
    (match o.guard with
     | some g => match ops[g.1]? with
       | some o' => o'.dst.toList
       | none => []
     | none => [])
def apartB (ops : Array Oper) (i j : Nat) : Bool :=
  match ops[i]?, ops[j]? with
  | some a, some b =>
    (a.dst.toList.all fun d => !(looks ops b).contains d && !(b.dst.toList.contains d)) && (b.dst.toList.all fun d => !(looks ops a).contains d)
  | _, _ => true
def freeB (ops : Array Oper) (done : List Nat) (i : Nat) : Bool :=
  (List.range ops.size).all fun j => Nat.beq j i || done.contains j ||
    (match ops[j]? with
     | some o => o.after.toList.any fun e => Region.binds .any e && Nat.beq e.on i
     | none => true) || apartB ops i j
def isQat (ops : Array Oper) (i : Nat) : Bool :=
  match ops[i]? with
  | some o => isQ o
  | none => false

/-- Has all that was taken been done for certain, when j's turn comes? -/
def barB (ops : Array Oper) (done : List Nat) (j : Nat) : Bool :=
  match ops[j]? with
  | some o => !isQ o && done.all fun i => !isImpAt ops i || o.after.toList.any fun e => Region.binds .any e && Nat.beq e.on i
  | none => false
/-- What may be asked of the worlds from here on: where all that was taken has been done for certain, whatever one likes. -/
def WrK (b : Bool) (S : World → Prop) (w : World) (F : (World → Prop) → Prop) : Prop :=
  bif b then ∃ S' : World → Prop, S' w ∧ F S' else ∃ S' : World → Prop, (∀ x, S' x → S x) ∧ S' w ∧ F S'

def allL (F : Nat → Prop) : List Nat → Prop
  | [] => True
  | i :: r => F i ∧ allL F r

/-- A region whose order is open: what only reads is taken as early as may be, under S; what writes, in each order that is left. -/
def drawVC (P : Program) (ops : Array Oper) (K : St → World → Prop) : Nat → (World → Prop) → List Nat → St → World → Prop
  | 0, _, done, s, w => match (List.range ops.size).filter (rdy ops done) with
    | [] => K s w
    | _ :: _ => False
  | fuel + 1, S, done, s, w =>
    match (List.range ops.size).filter (rdy ops done) with
    | [] => K s w
    | i0 :: rs =>
      match (i0 :: rs).find? (fun i => isQat ops i && freeB ops done i) with
      | some i => opGQ P ops i S (fun s' => drawVC P ops K fuel S (i :: done) s' w) s
      | none => match rs with
        | [] => opGs P ops i0 (fun s' w' => WrK (barB ops done i0) S w' fun S' => drawVC P ops K fuel S' (i0 :: done) s' w') s w
        | _ :: _ => allL (fun i => opGs P ops i (fun s' w' => WrK (barB ops done i) S w' fun S' => drawVC P ops K fuel S' (i :: done) s' w') s w) (i0 :: rs)

def anyV (P : Program) (ops : Array Oper) (K : St → World → Prop) : Nat → (List Nat → World → Prop) → List Nat → St → World → Prop
  | 0, S, done, s, w => S done w ∧ (∀ i, i < ops.size → rdy ops done i = false) ∧ K s w
  | fuel + 1, S, done, s, w => S done w ∧ ((∀ i, i < ops.size → rdy ops done i = false) → K s w) ∧
      ∀ i, i < ops.size → rdy ops done i = true → opG P ops i (anyV P ops K fuel S (i :: done)) s w

section
variable {P : Program} {ops : Array Oper} {K : St → World → Prop}

theorem opG.mono {i : Nat} {K K' : St → World → Prop} {s : St} {w : World} (hk : ∀ s w, K s w → K' s w) (h : opG P ops i K s w) : opG P ops i K' s w := by
  unfold opG at h ⊢
  cases ho : ops[i]? with
  | none => simp only [ho] at h ⊢; exact hk _ _ h
  | some o =>
    simp only [ho] at h ⊢
    cases hg : o.guard with
    | none => simp only [hg] at h ⊢; exact opRun.mono (fun _ _ => hk _ _) h
    | some g => simp only [hg] at h ⊢; exact Guard.mono h (opRun.mono fun _ _ => hk _ _) (hk _ _)

theorem anyV.mono {fuel : Nat} : ∀ {S S' : List Nat → World → Prop} {done : List Nat} {s : St} {w : World}, (∀ d x, (∀ y, y ∈ done → y ∈ d) → S d x → S' d x) →
    anyV P ops K fuel S done s w → anyV P ops K fuel S' done s w := by
  induction fuel with
  | zero => exact fun hs h => ⟨hs _ _ (fun _ => id) h.1, h.2⟩
  | succ f ih => exact fun hs h => ⟨hs _ _ (fun _ => id) h.1, h.2.1, fun i hi hr => opG.mono (fun _ _ => ih fun d x hd => hs d x fun y hy => hd y (List.mem_cons_of_mem _ hy)) (h.2.2 i hi hr)⟩

theorem rdy_congr {d d' : List Nat} (h : ∀ x, x ∈ d ↔ x ∈ d') (i : Nat) : rdy ops d i = rdy ops d' i := by
  have e : ∀ x, d.contains x = d'.contains x := fun x => by rw [Bool.eq_iff_iff]; simp [h]
  unfold rdy
  cases ops[i]? with
  | none => simp
  | some o => simp only [e]

theorem anyV.congr {fuel : Nat} : ∀ {S : List Nat → World → Prop} {d d' : List Nat} {s : St} {w : World}, (∀ d d' x, (∀ y, y ∈ d ↔ y ∈ d') → S d x → S d' x) → (∀ x, x ∈ d ↔ x ∈ d') →
    anyV P ops K fuel S d s w → anyV P ops K fuel S d' s w := by
  induction fuel with
  | zero => exact fun hS hd h => ⟨hS _ _ _ hd h.1, fun i hi => by rw [← rdy_congr hd]; exact h.2.1 i hi, h.2.2⟩
  | succ f ih =>
    exact fun hS hd h => ⟨hS _ _ _ hd h.1, fun hn => h.2.1 fun i hi => by rw [rdy_congr hd]; exact hn i hi,
      fun i hi hr => opG.mono (fun _ _ => ih hS (fun x => by simp [hd])) (h.2.2 i hi (by rw [rdy_congr hd]; exact hr))⟩

theorem anyV.holds {fuel : Nat} {S : List Nat → World → Prop} {d : List Nat} {s : St} {w : World} (h : anyV P ops K fuel S d s w) : S d w := by
  cases fuel <;> exact h.1

theorem put_env (s : St) (d : Option Tmp) (v : Value) (t : Nat) (h : ∀ x, d = some x → x ≠ t) : (s.put d v).env t = s.env t := by
  cases d with
  | none => rfl
  | some d =>
    have : Nat.beq t d = false := by
      have := h d rfl
      cases hb : Nat.beq t d with
      | false => rfl
      | true => exact absurd (Nat.eq_of_beq_eq_true hb).symm this
    show (bif Nat.beq t d then v else s.env t) = _
    rw [this]; rfl

theorem put_comm (s : St) (d d' : Option Tmp) (v v' : Value) (h : ∀ x, d = some x → d' ≠ some x) : (s.put d v).put d' v' = (s.put d' v').put d v := by
  cases d with
  | none => cases d' <;> rfl
  | some d =>
    cases d' with
    | none => rfl
    | some d' =>
      have hne : d ≠ d' := fun e => h d rfl (by rw [e])
      show St.mk _ _ = St.mk _ _
      congr 1
      funext t
      show (bif Nat.beq t d' then v' else bif Nat.beq t d then v else s.env t) = (bif Nat.beq t d then v else bif Nat.beq t d' then v' else s.env t)
      cases h1 : Nat.beq t d' <;> cases h2 : Nat.beq t d <;> try rfl
      exact absurd ((Nat.eq_of_beq_eq_true h2).symm.trans (Nat.eq_of_beq_eq_true h1)) hne

theorem put_eval (s : St) (d : Option Tmp) (v : Value) (x : Operand) (h : ∀ t, d = some t → x ≠ .tmp t) : (s.put d v).eval x = s.eval x := by
  cases x with
  | tmp t => exact put_env s d v t (fun y e hy => h y e (by rw [hy]))
  | const c => rfl
  | global g => rfl
  | func f => rfl

theorem opRun_congr {o : Oper} {ρ ρ' : Operand → Value} {K : Value → World → Prop} {w : World} (h : ∀ x ∈ o.op.operands, ρ x = ρ' x) (hr : opRun P o ρ K w) :
    opRun P o ρ' K w := by
  unfold opRun at hr ⊢
  cases ho : o.op <;> simp only [ho, Op.operands] at h hr ⊢ <;> try exact hr
  case move x => rw [← h x (by simp)]; exact hr
  case assign x => rw [← h x (by simp)]; exact hr
  case pick c a b => rw [← h c (by simp), ← h a (by simp), ← h b (by simp)]; exact hr
  case box e x => rw [← h x (by simp)]; exact hr
  case build t ps =>
    have : (ps.toList.map fun p => (p.1, ρ p.2)) = ps.toList.map fun p => (p.1, ρ' p.2) := List.map_congr_left fun p hp => by rw [h p.2 (by simp; exact ⟨p.1, by simpa using hp⟩)]
    rw [← this]; exact hr
  case buildSlice t n ps =>
    have : (ps.toList.map fun p => (p.1, ρ p.2)) = ps.toList.map fun p => (p.1, ρ' p.2) := List.map_congr_left fun p hp => by rw [h p.2 (by simp; exact ⟨p.1, by simpa using hp⟩)]
    rw [← this]; exact hr
  case load t x => rw [← h x (by simp)]; exact hr
  case store t a v => rw [← h a (by simp), ← h v (by simp)]; exact hr
  case nilCheck x => rw [← h x (by simp)]; exact hr
  case binOp op t x y z => rw [← h x (by simp), ← h y (by simp)]; exact hr
  case unOp op t x => rw [← h x (by simp)]; exact hr
  case convert s d x => rw [← h x (by simp)]; exact hr
  case sliceToArrayPointer d x => rw [← h x (by simp)]; exact hr
  case makeInterface t x => rw [← h x (by simp)]; exact hr
  case makeFunc fn a b =>
    have h1 : a.toList.map ρ = a.toList.map ρ' := List.map_congr_left fun p hp => h p (by simp at hp ⊢; exact .inl hp)
    have h2 : b.toList.map ρ = b.toList.map ρ' := List.map_congr_left fun p hp => h p (by simp at hp ⊢; exact .inr hp)
    rw [← h1, ← h2]; exact hr
  case makeMap t x =>
    have : x.map ρ = x.map ρ' := by cases x with
      | none => rfl
      | some y => simp [h y (by simp)]
    rw [← this]; exact hr
  case makeSlice t a b => rw [← h a (by simp), ← h b (by simp)]; exact hr
  case slice t x l hh m =>
    have ho : ∀ y : Option Operand, (∀ z, y = some z → ρ z = ρ' z) → y.map ρ = y.map ρ' := fun y hy => by cases y with
      | none => rfl
      | some z => simp [hy z rfl]
    rw [← h x (by simp), ← ho l (fun z hz => h z (by simp [hz])), ← ho hh (fun z hz => h z (by simp [hz])), ← ho m (fun z hz => h z (by simp [hz]))]; exact hr
  case fieldAddr t x f => rw [← h x (by simp)]; exact hr
  case field t x f => rw [← h x (by simp)]; exact hr
  case indexAddr t x i => rw [← h x (by simp), ← h i (by simp)]; exact hr
  case index t x i => rw [← h x (by simp), ← h i (by simp)]; exact hr
  case lookup t x i ok => rw [← h x (by simp), ← h i (by simp)]; exact hr
  case mapUpdate t m k v => rw [← h m (by simp), ← h k (by simp), ← h v (by simp)]; exact hr
  case insert t m k v => rw [← h m (by simp), ← h k (by simp), ← h v (by simp)]; exact hr
  case mapEntry t m k => rw [← h m (by simp), ← h k (by simp)]; exact hr
  case entryStore t m k v => rw [← h m (by simp), ← h k (by simp), ← h v (by simp)]; exact hr
  case range t x => rw [← h x (by simp)]; exact hr
  case next x b => rw [← h x (by simp)]; exact hr
  case entry x => rw [← h x (by simp)]; exact hr
  case typeAssert x t u ok => rw [← h x (by simp)]; exact hr
  case extract x i => rw [← h x (by simp)]; exact hr
  case call c =>
    have h1 : c.args.toList.map ρ = c.args.toList.map ρ' := List.map_congr_left fun p hp => h p (by unfold Call.operands; simp at hp ⊢; exact .inr hp)
    rw [← h1]
    unfold callVC at hr ⊢
    cases hc : c.callee with
    | builtin b => simp only [hc] at hr ⊢; exact hr
    | invoke r m => simp only [hc] at hr ⊢; rw [← h r (by simp [Call.operands, hc])]; exact hr
    | value x =>
      have hx := h x (by simp [Call.operands, hc])
      cases x <;> simp only [hc] at hr ⊢ <;> first | exact hr | (rw [← hx]; exact hr)
end
end Go.Eng
