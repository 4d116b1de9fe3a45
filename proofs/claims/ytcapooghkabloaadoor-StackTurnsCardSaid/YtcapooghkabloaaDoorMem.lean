/- Part of the proof of a law of this seat: facts that it uses, each proved here. No conditions. -/
import Derived.Test.YtcapooghkabloaaDoorEng7
import Derived.Laws.AppendOwn
import Derived.Below
namespace Go.Eng
open Go

/-! ### Memory, as facts on blocks -/

/-- Block b is a row of cells of element type T, and holds cs. -/
def Cl (w : World) (b : Nat) (T : TypeId) (cs : List Value) : Prop := w.heap[b]? = some (.cells cs.toArray T (0, 0))

/-- Between two worlds blocks of S alone have turned; new ones may have come. -/
structure Chg (S : Nat → Prop) (w w' : World) : Prop where
  os : w'.os = w.os
  tape : w'.tape = w.tape
  output : w'.output = w.output
  size : w.heap.size ≤ w'.heap.size
  same : ∀ k, k < w.heap.size → ¬ S k → w'.heap[k]? = w.heap[k]?
abbrev Ext : World → World → Prop := Chg fun _ => False
/-- One block turned to a row of cells. -/
structure Upd (w w' : World) (b : Nat) (T : TypeId) (cs : List Value) : Prop where
  os : w'.os = w.os
  tape : w'.tape = w.tape
  output : w'.output = w.output
  size : w'.heap.size = w.heap.size
  cl : Cl w' b T cs
  same : ∀ k, k ≠ b → w'.heap[k]? = w.heap[k]?
/-- One block more. -/
structure Nw (w w' : World) (o : Obj) : Prop where
  os : w'.os = w.os
  tape : w'.tape = w.tape
  output : w'.output = w.output
  size : w'.heap.size = w.heap.size + 1
  new : w'.heap[w.heap.size]? = some o
  same : ∀ k, k < w.heap.size → w'.heap[k]? = w.heap[k]?

theorem Cl.lt {w : World} {b : Nat} {T : TypeId} {cs : List Value} (h : Cl w b T cs) : b < w.heap.size := (Array.getElem?_eq_some_iff.1 h).1
theorem Cl.cell {w : World} {b : Nat} {T : TypeId} {cs : List Value} (h : Cl w b T cs) {i : Nat} {v : Value} (hv : cs[i]? = some v) : w.cell? ⟨b, i, none⟩ = some v := by
  unfold World.cell?
  rw [show w.heap[(⟨b, i, none⟩ : Addr).block]? = _ from h]
  simpa using hv
theorem Cl.frozen {w : World} {b : Nat} {T : TypeId} {cs : List Value} (h : Cl w b T cs) (i : Nat) : w.frozen? ⟨b, i, none⟩ = false := by
  unfold World.frozen?
  rw [show w.heap[(⟨b, i, none⟩ : Addr).block]? = _ from h]
  simp
theorem Cl.uniq {w : World} {b : Nat} {T T' : TypeId} {cs cs' : List Value} (h : Cl w b T cs) (h' : Cl w b T' cs') : cs = cs' := by
  unfold Cl at h h'
  rw [h] at h'
  injection h' with e
  injection e with e _ _
  exact congrArg Array.toList e

theorem Chg.refl (S : Nat → Prop) (w : World) : Chg S w w := ⟨rfl, rfl, rfl, Nat.le_refl _, fun _ _ _ => rfl⟩
theorem Chg.trans {S S' : Nat → Prop} {a b c : World} (h : Chg S a b) (k : Chg S' b c) : Chg (fun x => S x ∨ S' x) a c :=
  ⟨k.os.trans h.os, k.tape.trans h.tape, k.output.trans h.output, Nat.le_trans h.size k.size,
    fun x hx hn => (k.same x (Nat.lt_of_lt_of_le hx h.size) fun e => hn (.inr e)).trans (h.same x hx fun e => hn (.inl e))⟩
/-- A set that says of the old blocks what is asked. -/
theorem Chg.mono {S S' : Nat → Prop} {a b : World} (h : Chg S a b) (hs : ∀ k, k < a.heap.size → S k → S' k) : Chg S' a b :=
  ⟨h.os, h.tape, h.output, h.size, fun k hk hn => h.same k hk fun e => hn (hs k hk e)⟩
theorem Chg.then {S : Nat → Prop} {a b c : World} (h : Chg S a b) (k : Chg S b c) : Chg S a c := (h.trans k).mono fun _ _ e => e.elim id id
theorem Chg.ext {S : Nat → Prop} {a b c : World} (h : Chg S a b) (k : Ext b c) : Chg S a c := (h.trans k).mono fun _ _ e => e.elim id False.elim
theorem Ext.to {S : Nat → Prop} {a b : World} (h : Ext a b) : Chg S a b := h.mono fun _ _ => False.elim
/-- What turned were new blocks alone. -/
theorem Chg.newer {S S' : Nat → Prop} {a b c : World} (h : Chg S a b) (k : Chg S' b c) (hs : ∀ x, x < a.heap.size → S' x → S x) : Chg S a c :=
  (h.trans k).mono fun x hx e => e.elim id (hs x hx)
theorem Upd.chg {w w' : World} {b : Nat} {T : TypeId} {cs : List Value} (h : Upd w w' b T cs) : Chg (· = b) w w' := ⟨h.os, h.tape, h.output, Nat.le_of_eq h.size.symm, fun k _ hn => h.same k hn⟩
theorem Nw.ext {w w' : World} {o : Obj} (h : Nw w w' o) : Ext w w' := ⟨h.os, h.tape, h.output, by rw [h.size]; omega, fun k hk _ => h.same k hk⟩
theorem Nw.cl {w w' : World} {cs : List Value} {T : TypeId} (h : Nw w w' (.cells cs.toArray T)) : Cl w' w.heap.size T cs := h.new
theorem Cl.chg {w w' : World} {S : Nat → Prop} {b : Nat} {T : TypeId} {cs : List Value} (h : Cl w b T cs) (c : Chg S w w') (hn : ¬ S b) : Cl w' b T cs := (c.same b h.lt hn).trans h
theorem Cl.ext {w w' : World} {b : Nat} {T : TypeId} {cs : List Value} (h : Cl w b T cs) (c : Ext w w') : Cl w' b T cs := h.chg c id
theorem Cl.upd {w w' : World} {b b' : Nat} {T T' : TypeId} {cs cs' : List Value} (h : Cl w b T cs) (u : Upd w w' b' T' cs') (hne : b ≠ b') : Cl w' b T cs := (u.same b hne).trans h
theorem Cl.nw {w w' : World} {b : Nat} {T : TypeId} {cs : List Value} {o : Obj} (h : Cl w b T cs) (u : Nw w w' o) : Cl w' b T cs := h.ext u.ext
theorem Ext.below {a b : World} (h : Ext a b) : RowKit.Below a.heap.size a b := ⟨h.os, h.tape, h.output, h.size, fun k hk => h.same k hk id⟩
theorem Chg.of_below {B : Nat} {a b : World} (h : RowKit.Below B a b) : Chg (fun k => B ≤ k) a b := ⟨h.os, h.tape, h.output, h.size, fun k _ hn => h.block k (by omega)⟩
theorem Chg.below {B : Nat} {S : Nat → Prop} {a b : World} (h : Chg S a b) (hB : B ≤ a.heap.size) (hs : ∀ k, S k → B ≤ k) : RowKit.Below B a b :=
  ⟨h.os, h.tape, h.output, h.size, fun k hk => h.same k (by omega) fun e => by have := hs k e; omega⟩
theorem dr_ext (w : World) : Ext w (dr w) := ⟨rfl, rfl, rfl, Nat.le_refl _, fun _ _ _ => rfl⟩
theorem Cl.dr {w : World} {b : Nat} {T : TypeId} {cs : List Value} (h : Cl w b T cs) : Cl (dr w) b T cs := h
theorem dr_heap (w : World) : (dr w).heap = w.heap := rfl

/-! ### Steps -/
section
variable {P : Program} {w : World} {K : Value → World → Prop}

theorem Vl.i {s : Sem Value} {v : Value} {w' : World} (h : s.run P w = .ok v w') (k : K v w') : Vl P s w K := ⟨v, w', h, k⟩
theorem Ef.i {s : Sem Unit} {w' : World} {K : World → Prop} (h : s.run P w = .ok () w') (k : K w') : Ef P s w K := ⟨w', h, k⟩
theorem VQ.i {S : World → Prop} {s : Sem Value} {v : Value} {K : Value → Prop} (h : ∀ w, S w → s.run P w = .ok v w) (k : K v) : ValQ P S s K := ⟨v, h, k⟩
theorem Rs.i {s : Sem Value} {v : Value} {K : Value → Prop} (h : s.run P w = .ok v w) (k : K v) : Rs P s w K := ⟨v, h, k⟩
theorem Cf.mono {f : FuncId} {args : Array Value} {K' : Value → World → Prop} (h : Cf P f args w K) (k : ∀ v w, K v w → K' v w) : Cf P f args w K' := CallF.mono h k
theorem Cv.fn {g : Nat} {lb args : Array Value} (h : Cf P g (args ++ lb) w K) : Cv P (.func (.func g) #[] lb) args w K := .inl ⟨g, lb, rfl, h⟩
theorem Cv.yield {l : Nat} {args : Array Value} (h : YieldC P l args K w) : Cv P (.func (.yield l) #[] #[]) args w K := .inr ⟨l, rfl, h⟩

/-- A load of a variable of one cell. -/
theorem ld {T : TypeId} (hT : ∀ w, (isAgg T).run P w = .ok false w) {a : Addr} {v : Value} (h : w.cell? a = some v) : (Instr.loadAt T (.pointer (some a))).run P w = .ok v w := by
  unfold Instr.loadAt Instr.sureAddr loadVar
  simp only [Sem.run_bind, Sem.run_pure, Result.andThen, hT]
  simp only [Bool.false_eq_true, if_false, load, Sem.run, h]
theorem ldc {T : TypeId} (hT : ∀ w, (isAgg T).run P w = .ok false w) {b i : Nat} {E : TypeId} {cs : List Value} {v : Value} (h : Cl w b E cs) (hv : cs[i]? = some v) :
    (Instr.loadAt T (.pointer (some ⟨b, i, none⟩))).run P w = .ok v w := ld hT (h.cell hv)

theorem toA_setIfInBounds (cs : List Value) (i : Nat) (v : Value) : cs.toArray.setIfInBounds i v = (cs.set i v).toArray := by simp

theorem upd_setCell {b i : Nat} {E : TypeId} {cs : List Value} (v : Value) (h : Cl w b E cs) : Upd w (w.setCell ⟨b, i, none⟩ v) b E (cs.set i v) := by
  refine ⟨rfl, rfl, rfl, by simp [World.setCell], ?_, fun k hk => RowKit.Below.heap_setCell w _ v k hk⟩
  unfold Cl World.setCell
  simp only
  obtain ⟨hlt, hb⟩ := Array.getElem?_eq_some_iff.1 h
  rw [Array.getElem?_eq_getElem (by simpa using hlt), Array.getElem_modify_self, hb]
  simp

/-- What fits one cell: neither a struct nor a tuple. -/
def One : Value → Prop
  | .agg _ => False
  | .tuple _ => False
  | _ => True

theorem run_store_one {b i : Nat} {E : TypeId} {cs : List Value} {v : Value} (hv : One v) (h : Cl w b E cs) (hi : i < cs.length) :
    (store ⟨b, i, none⟩ v).run P w = .ok () (w.setCell ⟨b, i, none⟩ v) := by
  have hc := h.cell (i := i) (v := cs[i]) (by simp [hi])
  have hf := h.frozen i
  unfold store
  cases v <;> first | exact hv.elim | simp [Sem.run, hc, hf]

/-- A store into a variable of one cell. -/
theorem st {T : TypeId} (hT : ∀ w, (sizeOf T).run P w = .ok 1 w) {b i : Nat} {E : TypeId} {cs : List Value} {v : Value} (hv : One v) (h : Cl w b E cs) (hi : i < cs.length) :
    (Instr.storeAt T (.pointer (some ⟨b, i, none⟩)) v).run P w = .ok () (w.setCell ⟨b, i, none⟩ v) := by
  have hs := run_store_one (P := P) hv h hi
  have hc : v.cells = #[v] := by cases v <;> first | rfl | exact hv.elim
  unfold Instr.storeAt Instr.sureAddr storeVar
  simp only [Sem.run_bind, Sem.run_pure, Result.andThen, hT, hc]
  simp only [List.size_toArray, List.length_cons, List.length_nil, ne_eq, not_true, if_false, storeCells]
  have e0 : (⟨b, i, none⟩ : Addr).add 0 = ⟨b, i, none⟩ := rfl
  simp only [e0, Sem.run_bind, hs, Result.andThen]
  rfl
theorem Ef.st {T : TypeId} (hT : ∀ w, (sizeOf T).run P w = .ok 1 w) {b i : Nat} {E : TypeId} {cs : List Value} {v : Value} {K : World → Prop} (hv : One v) (h : Cl w b E cs) (hi : i < cs.length)
    (k : ∀ w', Upd w w' b E (cs.set i v) → K w') : Ef P (Instr.storeAt T (.pointer (some ⟨b, i, none⟩)) v) w K :=
  Ef.i (Go.Eng.st hT hv h hi) (k _ (upd_setCell v h))

theorem nw_alloc (w : World) (o : Obj) : Nw w (w.alloc o) o := ⟨rfl, rfl, rfl, by simp, World.alloc_heap_new w o, fun k hk => RowKit.Below.heap_alloc w o k hk⟩
theorem run_newRow (T : TypeId) (cs : Array Value) : (newRow T cs).run P w = .ok ⟨w.heap.size, 0, none⟩ (w.alloc (.cells cs T)) := rfl
/-- A variable is boxed. -/
theorem Vl.box {T : TypeId} {v : Value} (k : ∀ w', Nw w w' (.cells v.cells T) → K (.pointer (some ⟨w.heap.size, 0, none⟩)) w') : Vl P (Instr.box T v) w K :=
  ⟨_, _, rfl, k _ (nw_alloc w _)⟩
theorem One.cells {v : Value} (h : One v) : v.cells = #[v] := by cases v <;> first | rfl | exact h.elim
theorem Vl.box1 {T : TypeId} {v : Value} (hv : One v) (k : ∀ w', Nw w w' (.cells [v].toArray T) → K (.pointer (some ⟨w.heap.size, 0, none⟩)) w') : Vl P (Instr.box T v) w K :=
  Vl.box fun w' h => k w' (by rw [hv.cells] at h; exact h)
theorem Vl.alloc {T : TypeId} {z : Value} (hz : ∀ w, (zeroValue T).run P w = .ok z w) (k : ∀ w', Nw w w' (.cells z.cells T) → K (.pointer (some ⟨w.heap.size, 0, none⟩)) w') :
    Vl P (Instr.alloc T true (.tuple #[])) w K := by
  refine ⟨_, _, ?_, k _ (nw_alloc w _)⟩
  unfold Instr.alloc
  simp only [Sem.run_bind, hz, Result.andThen]
  rfl

/-- An element's address. -/
theorem ix {T E sz : Nat} (hT : P.underlying T = some (.slice E)) (hE : ∀ w, (sizeOf E).run P w = .ok sz w) {b o n c : Nat} {i : Int} (h0 : 0 ≤ i) (h1 : i < n) :
    (Instr.indexAt T (.slice (some ⟨b, o, none⟩) n c) (.int .i64 i)).run P w = .ok (.pointer (some ⟨b, o + i.toNat * sz, none⟩)) w := by
  unfold Instr.indexAt asIntOf
  have hu : ∀ w, (underlying T).run P w = .ok (.slice E) w := fun w => by unfold underlying program; simp [Sem.run_bind, Sem.run, hT, Result.andThen]
  simp only [Sem.run_bind, Sem.run_pure, Result.andThen, hu]
  rw [if_pos ⟨h0, h1⟩]
  simp only [Sem.run_bind, hE, Result.andThen, Sem.run_pure]
  have : (⟨b, o, none⟩ : Addr).add (i.toNat * sz) = ⟨b, o + i.toNat * sz, none⟩ := by
    unfold Addr.add
    split
    · rename_i h; rw [h]; rfl
    · rfl
  rw [this]
theorem len_slice {T E : Nat} (hT : P.underlying T = some (.slice E)) {a : Option Addr} {n c t : Nat} : (Builtin.len_ #[T] t #[.slice a n c]).run P w = .ok (goInt n) w := by
  have hu : ∀ w, (underlying T).run P w = .ok (.slice E) w := fun w => by unfold underlying program; simp [Sem.run_bind, Sem.run, hT, Result.andThen]
  unfold Builtin.len_
  simp [Sem.run_bind, hu, Result.andThen]
theorem len_string {T : Nat} (hT : P.underlying T = some .string) {s : ByteArray} {t : Nat} : (Builtin.len_ #[T] t #[.string s]).run P w = .ok (goInt s.size) w := by
  have hu : ∀ w, (underlying T).run P w = .ok .string w := fun w => by unfold underlying program; simp [Sem.run_bind, Sem.run, hT, Result.andThen]
  unfold Builtin.len_
  simp [Sem.run_bind, hu, Result.andThen]
end

/-! ### Numbers, truth values, texts -/
theorem wrap_in {n : Int} (h0 : -9223372036854775808 ≤ n) (h1 : n ≤ 9223372036854775807) : IntKind.i64.wrap n = n := by
  simp [IntKind.wrap, IntKind.bits, IntKind.signed]; omega
section
variable {P : Program} {w : World} {T : TypeId} {x y : Operand}
theorem bo_add {a b : Int} (h0 : -9223372036854775808 ≤ a + b) (h1 : a + b ≤ 9223372036854775807) : (binop .add T x y (.int .i64 a) (.int .i64 b)).run P w = .ok (.int .i64 (a + b)) w := by
  have : (binop .add T x y (.int .i64 a) (.int .i64 b)).run P w = .ok (.int .i64 (IntKind.i64.wrap (a + b))) w := rfl
  rw [this, wrap_in h0 h1]
theorem bo_sub {a b : Int} (h0 : -9223372036854775808 ≤ a - b) (h1 : a - b ≤ 9223372036854775807) : (binop .sub T x y (.int .i64 a) (.int .i64 b)).run P w = .ok (.int .i64 (a - b)) w := by
  have : (binop .sub T x y (.int .i64 a) (.int .i64 b)).run P w = .ok (.int .i64 (IntKind.i64.wrap (a - b))) w := rfl
  rw [this, wrap_in h0 h1]
theorem bo_mul {a b : Int} (h0 : -9223372036854775808 ≤ a * b) (h1 : a * b ≤ 9223372036854775807) : (binop .mul T x y (.int .i64 a) (.int .i64 b)).run P w = .ok (.int .i64 (a * b)) w := by
  have : (binop .mul T x y (.int .i64 a) (.int .i64 b)).run P w = .ok (.int .i64 (IntKind.i64.wrap (a * b))) w := rfl
  rw [this, wrap_in h0 h1]
theorem bo_lss {k : IntKind} {a b : Int} : (binop .lss T x y (.int k a) (.int k b)).run P w = .ok (.bool (decide (a < b))) w := by cases k <;> rfl
theorem bo_leq {k : IntKind} {a b : Int} : (binop .leq T x y (.int k a) (.int k b)).run P w = .ok (.bool (decide (a ≤ b))) w := by cases k <;> rfl
theorem bo_gtr {k : IntKind} {a b : Int} : (binop .gtr T x y (.int k a) (.int k b)).run P w = .ok (.bool (decide (b < a))) w := by cases k <;> rfl
theorem bo_geq {k : IntKind} {a b : Int} : (binop .geq T x y (.int k a) (.int k b)).run P w = .ok (.bool (decide (b ≤ a))) w := by cases k <;> rfl
theorem bo_eql {k : IntKind} {a b : Int} : (binop .eql T x y (.int k a) (.int k b)).run P w = .ok (.bool (decide (a = b))) w := by cases k <;> rfl
theorem bo_neq {k : IntKind} {a b : Int} : (binop .neq T x y (.int k a) (.int k b)).run P w = .ok (.bool (!decide (a = b))) w := by cases k <;> rfl
theorem toList_beq (a b : ByteArray) : (a.toList == b.toList) = decide (a = b) := by
  rw [Bool.eq_iff_iff]
  simp only [beq_iff_eq, decide_eq_true_eq]
  constructor
  · intro h
    apply ByteArray.ext
    rw [ByteArray.toList_eq, ByteArray.toList_eq] at h
    exact Array.toList_inj.1 h
  · intro h; rw [h]
theorem bs_eql {a b : ByteArray} : (binop .eql T x y (.string a) (.string b)).run P w = .ok (.bool (decide (a = b))) w := by
  have : (binop .eql T x y (.string a) (.string b)).run P w = .ok (.bool (a.toList == b.toList)) w := rfl
  rw [this, toList_beq]
theorem bs_neq {a b : ByteArray} : (binop .neq T x y (.string a) (.string b)).run P w = .ok (.bool (!decide (a = b))) w := by
  have : (binop .neq T x y (.string a) (.string b)).run P w = .ok (.bool (!(a.toList == b.toList))) w := rfl
  rw [this, toList_beq]
theorem un_not {b : Bool} : (Op.unary .not (.bool b)).run P w = .ok (.bool (!b)) w := rfl
end

/-! ### Slices that are rows of their own -/
def blk : Value → Option Nat
  | .slice (some a) _ (_ + 1) => some a.block
  | _ => none
/-- v is a slice of n elements of type E (sz cells each), whose cells are cs; it begins a block of its own, or has no room at all. -/
def Row (w : World) (E sz : Nat) (v : Value) (n : Nat) (cs : List Value) : Prop :=
  cs.length = n * sz ∧ ((∃ a, v = .slice a 0 0 ∧ n = 0) ∨
    ∃ g cap full, v = .slice (some ⟨g, 0, none⟩) n cap ∧ Cl w g E full ∧ n ≤ cap ∧ 0 < cap ∧ cap ≤ maxLen ∧ full.length = cap * sz ∧ full.take (n * sz) = cs)

theorem blk_some {a : Addr} {n c : Nat} (h : 0 < c) : blk (.slice (some a) n c) = some a.block := by
  cases c with
  | zero => omega
  | succ c => rfl
theorem Row.nil (w : World) (E sz : Nat) : Row w E sz (.slice none 0 0) 0 [] := ⟨by simp, .inl ⟨none, rfl, rfl⟩⟩
theorem Row.chg {w w' : World} {S : Nat → Prop} {E sz : Nat} {v : Value} {n : Nat} {cs : List Value} (h : Row w E sz v n cs) (c : Chg S w w') (hn : ∀ k, blk v = some k → ¬ S k) : Row w' E sz v n cs := by
  refine ⟨h.1, h.2.imp id ?_⟩
  rintro ⟨g, cap, full, rfl, hcl, h1, h2, h3, h4, h5⟩
  exact ⟨g, cap, full, rfl, hcl.chg c (hn g (blk_some h2)), h1, h2, h3, h4, h5⟩
theorem Row.ext {w w' : World} {E sz : Nat} {v : Value} {n : Nat} {cs : List Value} (h : Row w E sz v n cs) (c : Ext w w') : Row w' E sz v n cs := h.chg c fun _ _ => id
theorem Row.lt {w : World} {E sz : Nat} {v : Value} {n : Nat} {cs : List Value} (h : Row w E sz v n cs) : ∀ k, blk v = some k → k < w.heap.size := by
  intro k hk
  rcases h.2 with ⟨a, rfl, _⟩ | ⟨g, cap, full, rfl, hcl, _, h2, _⟩
  · cases a <;> cases hk
  · rw [blk_some h2] at hk; cases hk; exact hcl.lt
/-- What a row's value is, and where its cells are. -/
theorem Row.val {w : World} {E sz : Nat} {v : Value} {n : Nat} {cs : List Value} (h : Row w E sz v n cs) : ∃ a cap, v = .slice a n cap ∧ (0 < n → ∃ g, a = some ⟨g, 0, none⟩) := by
  rcases h.2 with ⟨a, rfl, rfl⟩ | ⟨g, cap, full, rfl, _⟩
  · exact ⟨a, 0, rfl, fun h => by omega⟩
  · exact ⟨_, cap, rfl, fun _ => ⟨g, rfl⟩⟩
theorem Row.cell {w : World} {E sz g cap n : Nat} {cs : List Value} (h : Row w E sz (.slice (some ⟨g, 0, none⟩) n cap) n cs) {j : Nat} {u : Value} (hu : cs[j]? = some u) : w.cell? ⟨g, j, none⟩ = some u := by
  have hj : j < cs.length := (List.getElem?_eq_some_iff.1 hu).1
  rcases h.2 with ⟨a, h1, h2⟩ | ⟨g', cap', full, h1, hcl, _, _, _, _, h5⟩
  · rw [h.1, h2] at hj; omega
  · injection h1 with e1 _ _
    injection e1 with e1
    injection e1 with e1 _ _
    subst e1
    refine hcl.cell ?_
    rw [← h5, List.getElem?_take] at hu
    split at hu
    · exact hu
    · cases hu

/-- What the facts of a slice type are: its element's type, that one's size and bytes, its zero. -/
structure SlT (P : Program) (T E sz by_ : Nat) (i : TypeInfo) (z : Value) : Prop where
  under : P.underlying T = some (.slice E)
  info : P.info? E = some i
  zero : i.zero = some z
  size : i.size = sz
  bytes : i.bytes = by_
  zsz : z.cells.size = sz
  pos : 0 < sz

section
variable {P : Program} {w : World} {K : Value → World → Prop} {T E sz by_ : Nat} {i : TypeInfo} {z : Value}

theorem chg_grownBy {w' : World} {S : Nat → Prop} {r : Option Nat} (h : w.grownBy w' r) (hs : ∀ k, r = some k → S k) : Chg S w w' :=
  ⟨h.os, h.tape, h.output, h.size, fun k hk hn => h.block k hk fun e => hn (hs k e.symm)⟩

theorem growBy_le (n : Nat) : ∀ (r c : Nat), c ≤ 2 * n → 256 ≤ n → Builtin.growBy n r c ≤ 2 * n
  | 0, c, h, _ => h
  | r + 1, c, h, h2 => by
    unfold Builtin.growBy
    split
    · exact h
    · exact growBy_le n r _ (by omega) h2
theorem nextslicecap_le {n c : Nat} (h : c < n) : Builtin.nextslicecap n c ≤ 2 * n := by
  unfold Builtin.nextslicecap
  split
  · omega
  · split
    · omega
    · exact growBy_le n 4 c (by omega) (by omega)

/-- append of m elements that lie at a. -/
theorem Vl.append (hT : SlT P T E sz by_ i z) {ty : Nat} {v : Value} {n : Nat} {cs : List Value} (h : Row w E sz v n cs)
    {a : Addr} {m c : Nat} {news : List Value} (hl : news.length = m * sz) (hnews : ∀ j u, news[j]? = some u → w.cell? (a.add j) = some u) (h1 : ∀ u ∈ news, u.oneCell' = true)
    (hb : (n + m) * by_ ≤ 140737488355328) (hby : 0 < by_)
    (k : ∀ v' w', Row w' E sz v' (n + m) (cs ++ news) → Chg (fun k => blk v = some k) w w' → (∀ k, blk v' = some k → blk v = some k ∨ (w.heap.size ≤ k ∧ k < w'.heap.size)) →
      ((∃ a, v = .slice a 0 0) → ∀ k, blk v' = some k → w.heap.size ≤ k) → K v' w') :
    Vl P (Builtin.append_ #[T, T] ty #[v, .slice (some a) m c]) w K := by
  have hnm : n + m ≤ 140737488355328 := Nat.le_trans (Nat.le_mul_of_pos_right _ hby) hb
  have hmax : n + m ≤ maxLen := by simp only [maxLen]; omega
  have hi := hT.size
  have hfit : ∀ cap, cap < n + m → Builtin.nextslicecap (n + m) cap * i.bytes ≤ 281474976710656 := by
    intro cap hc
    rw [hT.bytes]
    have hle : Builtin.nextslicecap (n + m) cap ≤ 2 * (n + m) := nextslicecap_le hc
    calc Builtin.nextslicecap (n + m) cap * by_ ≤ 2 * (n + m) * by_ := Nat.mul_le_mul_right _ hle
      _ = 2 * ((n + m) * by_) := by rw [Nat.mul_assoc]
      _ ≤ 281474976710656 := by omega
  have new : ∀ old, old < n + m → ∀ olds : List Value, olds = cs → Row (w.drew.alloc (.cells (olds.toArray ++ news.toArray ++ Builtin.zeroCells z.cells (grownCap w (n + m) old E - (n + m))) E)) E sz
      (.slice (some ⟨w.heap.size, 0, none⟩) (n + m) (grownCap w (n + m) old E)) (n + m) (cs ++ news) := by
    intro old ho olds he
    subst he
    have hge := grownCap_ge w (n + m) old E
    have hcm := grownCap_le_maxLen w (n + m) old E hmax
    have hlen : (olds ++ news).length = (n + m) * sz := by rw [List.length_append, h.1, hl, Nat.add_mul]
    refine ⟨hlen, .inr ⟨w.heap.size, _, (olds.toArray ++ news.toArray ++ Builtin.zeroCells z.cells (grownCap w (n + m) old E - (n + m))).toList, rfl, ?_, hge, by omega, hcm, ?_, ?_⟩⟩
    · unfold Cl; rw [Array.toArray_toList]; exact World.alloc_heap_new w.drew _
    · simp only [Array.length_toList, Array.size_append, List.size_toArray, size_zeroCells, hT.zsz, h.1, hl, ← Nat.add_mul]
      congr 1; omega
    · simp only [Array.toList_append, List.append_assoc]
      rw [← List.append_assoc, ← hlen]; exact List.take_left
  have ch : ∀ o, Ext w (w.drew.alloc o) := fun o => (dr_ext w).ext (nw_alloc (dr w) o).ext
  have nb : ∀ cap : Nat, ∀ o : Obj, ∀ x, blk (.slice (some ⟨w.heap.size, 0, none⟩) (n + m) cap) = some x → w.heap.size ≤ x ∧ x < (w.drew.alloc o).heap.size := by
    intro cap o x hx
    cases cap with
    | zero => cases hx
    | succ c => cases hx; exact ⟨Nat.le_refl _, by simp⟩
  rcases h.2 with ⟨b, rfl, rfl⟩ | ⟨g, cap, full, rfl, hcl, h2, h3, h4, h5, h6⟩
  · have hcs : cs = [] := List.eq_nil_of_length_eq_zero (by simpa using h.1)
    by_cases hm : m = 0
    · subst hm
      have hn : news = [] := List.eq_nil_of_length_eq_zero (by simpa using hl)
      refine Vl.i (v := .slice b 0 0) (w' := w) ?_ (k _ _ ⟨by rw [hcs, hn]; simp, .inl ⟨b, rfl, rfl⟩⟩ (Chg.refl _ _) (fun x hx => .inl hx) (fun _ x hx => by cases b <;> cases hx))
      cases b <;> simp [Builtin.append_, run_underlying hT.under, sizeOf, typeInfo, hT.info, Builtin.lenOf, Builtin.firstCells, loadCells, loadCellsFrom, storeCells]
    · have hrow := new 0 (by omega) [] hcs.symm
      have key : ∀ w', w' = w.drew.alloc (.cells (([] : List Value).toArray ++ news.toArray ++ Builtin.zeroCells z.cells (grownCap w (0 + m) 0 E - (0 + m))) E) →
          K (.slice (some ⟨w.heap.size, 0, none⟩) (0 + m) (grownCap w (0 + m) 0 E)) w' := fun w' he => by
        subst he
        exact k _ _ hrow (ch _).to (fun x hx => .inr (nb _ _ x hx)) (fun _ x hx => (nb _ (.deferred none) x hx).1)
      cases b with
      | none =>
        refine Vl.i (run_append_nil w T ty E i z hT.under hT.info hT.zero a m c news (by rw [hi]; exact hl) hnews (by omega) (by omega) (by rw [hT.bytes]; simp only [Nat.zero_add] at hb; omega)) ?_
        simp only [Nat.zero_add] at key
        exact key _ (by simp)
      | some b =>
        refine Vl.i (run_append_grow w T ty E i z hT.under hT.info hT.zero b 0 0 [] (by simp) (by simp) a m c news (by rw [hi]; exact hl) hnews (by omega) (by omega) (hfit 0 (by omega))) ?_
        exact key _ rfl
  · by_cases hroom : n + m ≤ cap
    · have hfl : full.length = cap * sz := h5
      have hle : n * sz + news.length ≤ full.toArray.size := by
        rw [hl, ← Nat.add_mul]; simp only [List.size_toArray, h5]; exact Nat.mul_le_mul_right _ hroom
      have hr := run_append_room (P := P) w T ty E i hT.under hT.info g n cap full.toArray hcl a m c news (by rw [hi]; exact hl) hnews h1 hroom (by rw [hi]; exact hle)
      rw [hi] at hr
      refine Vl.i hr ?_
      have hcl' := setRow_heap w g full.toArray (full.take (n * sz) ++ news ++ full.drop (n * sz + news.length)).toArray E (0, 0) hcl
      have hsz : n * sz + news.length ≤ full.length := by simpa using hle
      refine k _ _ ⟨by rw [List.length_append, h.1, hl, Nat.add_mul], .inr ⟨g, cap, full.take (n * sz) ++ news ++ full.drop (n * sz + news.length), rfl, hcl', hroom, h3, h4, ?_, ?_⟩⟩
        ⟨rfl, rfl, rfl, by simp, fun x _ hx => setRow_other w g x _ fun e => hx (by rw [blk_some h3, e])⟩ (fun x hx => .inl (by rw [blk_some h3] at hx ⊢; exact hx)) (fun ⟨a', e⟩ => by injection e with _ _ e; omega)
      · simp only [List.length_append, List.length_take, List.length_drop]; omega
      · have e1 : (n + m) * sz = (full.take (n * sz) ++ news).length := by
          rw [List.length_append, h6, h.1, hl, Nat.add_mul]
        rw [e1, List.take_left, h6]
    · have hr := run_append_grow w (P := P) T ty E i z hT.under hT.info hT.zero ⟨g, 0, none⟩ n cap cs (by rw [hi]; exact h.1) (fun j v hv => by
          have : (⟨g, 0, none⟩ : Addr).add j = ⟨g, j, none⟩ := by unfold Addr.add; split <;> simp_all
          rw [this]; exact h.cell hv) a m c news (by rw [hi]; exact hl) hnews (by omega) (by omega) (hfit cap (by omega))
      refine Vl.i hr (k _ _ (new cap (by omega) cs rfl) (ch _).to (fun x hx => .inr (nb _ _ x hx)) (fun _ x hx => (nb _ (.deferred none) x hx).1))
end
end Go.Eng
