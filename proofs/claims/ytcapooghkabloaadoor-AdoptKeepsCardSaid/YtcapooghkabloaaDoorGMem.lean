/- Part of the proof of a law of this seat: facts that it uses, each proved here. No conditions. -/
import Derived.Below
import Derived.KernelRfl
import Derived.Laws.AppendOwn
import Derived.Test.YtcapooghkabloaaDoorGEng
namespace Go.Eng
open Go

/-! ### Memory, as facts on blocks -/

/-- Block b is a row of cells of element type T, and holds cs. -/
def Cl (w : World) (b : Nat) (T : TypeId) (cs : List Value) : Prop := w.heap[b]? = some (.cells cs.toArray T (0, 0))

/-- Between two worlds blocks of S alone have turned; new ones may have come. -/
structure Chg (S : Nat → Prop) (w w' : World) : Prop where
  os : w'.os = w.os
  tape : w'.tape = w.tape
  output : w'.output = w.output
  size : w.heap.size ≤ w'.heap.size
  same : ∀ k, k < w.heap.size → ¬ S k → w'.heap[k]? = w.heap[k]?
abbrev Ext : World → World → Prop := Chg fun _ => False
/-- One block turned to a row of cells. -/
structure Upd (w w' : World) (b : Nat) (T : TypeId) (cs : List Value) : Prop where
  os : w'.os = w.os
  tape : w'.tape = w.tape
  output : w'.output = w.output
  size : w'.heap.size = w.heap.size
  cl : Cl w' b T cs
  same : ∀ k, k ≠ b → w'.heap[k]? = w.heap[k]?
/-- One block more. -/
structure Nw (w w' : World) (o : Obj) : Prop where
  os : w'.os = w.os
  tape : w'.tape = w.tape
  output : w'.output = w.output
  size : w'.heap.size = w.heap.size + 1
  new : w'.heap[w.heap.size]? = some o
  same : ∀ k, k < w.heap.size → w'.heap[k]? = w.heap[k]?

theorem Cl.lt {w : World} {b : Nat} {T : TypeId} {cs : List Value} (h : Cl w b T cs) : b < w.heap.size := (Array.getElem?_eq_some_iff.1 h).1
theorem Cl.cell {w : World} {b : Nat} {T : TypeId} {cs : List Value} (h : Cl w b T cs) {i : Nat} {v : Value} (hv : cs[i]? = some v) : w.cell? ⟨b, i, none⟩ = some v := by
  unfold World.cell?
  rw [show w.heap[(⟨b, i, none⟩ : Addr).block]? = _ from h]
  simpa using hv
theorem Cl.frozen {w : World} {b : Nat} {T : TypeId} {cs : List Value} (h : Cl w b T cs) (i : Nat) : w.frozen? ⟨b, i, none⟩ = false := by
  unfold World.frozen?
  rw [show w.heap[(⟨b, i, none⟩ : Addr).block]? = _ from h]
  simp
theorem Cl.uniq {w : World} {b : Nat} {T T' : TypeId} {cs cs' : List Value} (h : Cl w b T cs) (h' : Cl w b T' cs') : cs = cs' := by
  unfold Cl at h h'
  rw [h] at h'
  injection h' with e
  injection e with e _ _
  exact congrArg Array.toList e

theorem Chg.refl (S : Nat → Prop) (w : World) : Chg S w w := ⟨rfl, rfl, rfl, Nat.le_refl _, fun _ _ _ => rfl⟩
theorem Chg.trans {S S' : Nat → Prop} {a b c : World} (h : Chg S a b) (k : Chg S' b c) : Chg (fun x => S x ∨ S' x) a c :=
  ⟨k.os.trans h.os, k.tape.trans h.tape, k.output.trans h.output, Nat.le_trans h.size k.size,
    fun x hx hn => (k.same x (Nat.lt_of_lt_of_le hx h.size) fun e => hn (.inr e)).trans (h.same x hx fun e => hn (.inl e))⟩
/-- A set that says of the old blocks what is asked. -/
theorem Chg.mono {S S' : Nat → Prop} {a b : World} (h : Chg S a b) (hs : ∀ k, k < a.heap.size → S k → S' k) : Chg S' a b :=
  ⟨h.os, h.tape, h.output, h.size, fun k hk hn => h.same k hk fun e => hn (hs k hk e)⟩
theorem Chg.then {S : Nat → Prop} {a b c : World} (h : Chg S a b) (k : Chg S b c) : Chg S a c := (h.trans k).mono fun _ _ e => e.elim id id
theorem Chg.ext {S : Nat → Prop} {a b c : World} (h : Chg S a b) (k : Ext b c) : Chg S a c := (h.trans k).mono fun _ _ e => e.elim id False.elim
theorem Ext.to {S : Nat → Prop} {a b : World} (h : Ext a b) : Chg S a b := h.mono fun _ _ => False.elim
/-- What turned were new blocks alone. -/
theorem Chg.newer {S S' : Nat → Prop} {a b c : World} (h : Chg S a b) (k : Chg S' b c) (hs : ∀ x, x < a.heap.size → S' x → S x) : Chg S a c :=
  (h.trans k).mono fun x hx e => e.elim id (hs x hx)
theorem Upd.chg {w w' : World} {b : Nat} {T : TypeId} {cs : List Value} (h : Upd w w' b T cs) : Chg (· = b) w w' := ⟨h.os, h.tape, h.output, Nat.le_of_eq h.size.symm, fun k _ hn => h.same k hn⟩
theorem Nw.ext {w w' : World} {o : Obj} (h : Nw w w' o) : Ext w w' := ⟨h.os, h.tape, h.output, by rw [h.size]; omega, fun k hk _ => h.same k hk⟩
theorem Nw.cl {w w' : World} {cs : List Value} {T : TypeId} (h : Nw w w' (.cells cs.toArray T)) : Cl w' w.heap.size T cs := h.new
theorem Cl.chg {w w' : World} {S : Nat → Prop} {b : Nat} {T : TypeId} {cs : List Value} (h : Cl w b T cs) (c : Chg S w w') (hn : ¬ S b) : Cl w' b T cs := (c.same b h.lt hn).trans h
theorem Cl.ext {w w' : World} {b : Nat} {T : TypeId} {cs : List Value} (h : Cl w b T cs) (c : Ext w w') : Cl w' b T cs := h.chg c id
theorem Cl.upd {w w' : World} {b b' : Nat} {T T' : TypeId} {cs cs' : List Value} (h : Cl w b T cs) (u : Upd w w' b' T' cs') (hne : b ≠ b') : Cl w' b T cs := (u.same b hne).trans h
theorem Cl.nw {w w' : World} {b : Nat} {T : TypeId} {cs : List Value} {o : Obj} (h : Cl w b T cs) (u : Nw w w' o) : Cl w' b T cs := h.ext u.ext
theorem Ext.below {a b : World} (h : Ext a b) : RowKit.Below a.heap.size a b := ⟨h.os, h.tape, h.output, h.size, fun k hk => h.same k hk id⟩
theorem Chg.of_below {B : Nat} {a b : World} (h : RowKit.Below B a b) : Chg (fun k => B ≤ k) a b := ⟨h.os, h.tape, h.output, h.size, fun k _ hn => h.block k (by omega)⟩
theorem Chg.below {B : Nat} {S : Nat → Prop} {a b : World} (h : Chg S a b) (hB : B ≤ a.heap.size) (hs : ∀ k, S k → B ≤ k) : RowKit.Below B a b :=
  ⟨h.os, h.tape, h.output, h.size, fun k hk => h.same k (by omega) fun e => by have := hs k e; omega⟩
theorem dr_ext (w : World) : Ext w (dr w) := ⟨rfl, rfl, rfl, Nat.le_refl _, fun _ _ _ => rfl⟩
theorem Cl.dr {w : World} {b : Nat} {T : TypeId} {cs : List Value} (h : Cl w b T cs) : Cl (dr w) b T cs := h
theorem dr_heap (w : World) : (dr w).heap = w.heap := rfl

/-! ### Steps -/
section
variable {P : Program} {w : World} {K : Value → World → Prop}

theorem Vl.i {s : Sem Value} {v : Value} {w' : World} (h : s.run P w = .ok v w') (k : K v w') : Vl P s w K := ⟨v, w', h, k⟩
theorem Ef.i {s : Sem Unit} {w' : World} {K : World → Prop} (h : s.run P w = .ok () w') (k : K w') : Ef P s w K := ⟨w', h, k⟩
theorem VQ.i {S : World → Prop} {s : Sem Value} {v : Value} {K : Value → Prop} (h : ∀ w, S w → s.run P w = .ok v w) (k : K v) : ValQ P S s K := ⟨v, h, k⟩
theorem Rs.i {s : Sem Value} {v : Value} {K : Value → Prop} (h : s.run P w = .ok v w) (k : K v) : Rs P s w K := ⟨v, h, k⟩
theorem Cf.mono {f : FuncId} {args : Array Value} {K' : Value → World → Prop} (h : Cf P f args w K) (k : ∀ v w, K v w → K' v w) : Cf P f args w K' := CallF.mono h k
theorem Cv.fn {g : Nat} {lb args : Array Value} (h : Cf P g (args ++ lb) w K) : Cv P (.func (.func g) #[] lb) args w K := .inl ⟨g, lb, rfl, h⟩
theorem Cv.yield {l : Nat} {args : Array Value} (h : YieldC P l args K w) : Cv P (.func (.yield l) #[] #[]) args w K := .inr ⟨l, rfl, h⟩

/-- A load of a variable of one cell. -/
theorem ld {T : TypeId} (hT : ∀ w, (isAgg T).run P w = .ok false w) {a : Addr} {v : Value} (h : w.cell? a = some v) : (Instr.loadAt T (.pointer (some a))).run P w = .ok v w := by
  unfold Instr.loadAt Instr.sureAddr loadVar
  simp only [Sem.run_bind, Sem.run_pure, Result.andThen, hT]
  simp only [Bool.false_eq_true, if_false, load, Sem.run, h]
theorem ldc {T : TypeId} (hT : ∀ w, (isAgg T).run P w = .ok false w) {b i : Nat} {E : TypeId} {cs : List Value} {v : Value} (h : Cl w b E cs) (hv : cs[i]? = some v) :
    (Instr.loadAt T (.pointer (some ⟨b, i, none⟩))).run P w = .ok v w := ld hT (h.cell hv)

theorem toA_setIfInBounds (cs : List Value) (i : Nat) (v : Value) : cs.toArray.setIfInBounds i v = (cs.set i v).toArray := by simp

theorem upd_setCell {b i : Nat} {E : TypeId} {cs : List Value} (v : Value) (h : Cl w b E cs) : Upd w (w.setCell ⟨b, i, none⟩ v) b E (cs.set i v) := by
  refine ⟨rfl, rfl, rfl, by simp [World.setCell], ?_, fun k hk => RowKit.Below.heap_setCell w _ v k hk⟩
  unfold Cl World.setCell
  simp only
  obtain ⟨hlt, hb⟩ := Array.getElem?_eq_some_iff.1 h
  rw [Array.getElem?_eq_getElem (by simpa using hlt), Array.getElem_modify_self, hb]
  simp

/-- What fits one cell: neither a struct nor a tuple. -/
def One : Value → Prop
  | .agg _ => False
  | .tuple _ => False
  | _ => True

theorem run_store_one {b i : Nat} {E : TypeId} {cs : List Value} {v : Value} (hv : One v) (h : Cl w b E cs) (hi : i < cs.length) :
    (store ⟨b, i, none⟩ v).run P w = .ok () (w.setCell ⟨b, i, none⟩ v) := by
  have hc := h.cell (i := i) (v := cs[i]) (by simp [hi])
  have hf := h.frozen i
  unfold store
  cases v <;> first | exact hv.elim | simp [Sem.run, hc, hf]

/-- A store into a variable of one cell. -/
theorem st {T : TypeId} (hT : ∀ w, (sizeOf T).run P w = .ok 1 w) {b i : Nat} {E : TypeId} {cs : List Value} {v : Value} (hv : One v) (h : Cl w b E cs) (hi : i < cs.length) :
    (Instr.storeAt T (.pointer (some ⟨b, i, none⟩)) v).run P w = .ok () (w.setCell ⟨b, i, none⟩ v) := by
  have hs := run_store_one (P := P) hv h hi
  have hc : v.cells = #[v] := by cases v <;> first | rfl | exact hv.elim
  unfold Instr.storeAt Instr.sureAddr storeVar
  simp only [Sem.run_bind, Sem.run_pure, Result.andThen, hT, hc]
  simp only [List.size_toArray, List.length_cons, List.length_nil, ne_eq, not_true, if_false, storeCells]
  have e0 : (⟨b, i, none⟩ : Addr).add 0 = ⟨b, i, none⟩ := rfl
  simp only [e0, Sem.run_bind, hs, Result.andThen]
  rfl
theorem Ef.st {T : TypeId} (hT : ∀ w, (sizeOf T).run P w = .ok 1 w) {b i : Nat} {E : TypeId} {cs : List Value} {v : Value} {K : World → Prop} (hv : One v) (h : Cl w b E cs) (hi : i < cs.length)
    (k : ∀ w', Upd w w' b E (cs.set i v) → K w') : Ef P (Instr.storeAt T (.pointer (some ⟨b, i, none⟩)) v) w K :=
  Ef.i (Go.Eng.st hT hv h hi) (k _ (upd_setCell v h))

theorem nw_alloc (w : World) (o : Obj) : Nw w (w.alloc o) o := ⟨rfl, rfl, rfl, by simp, World.alloc_heap_new w o, fun k hk => RowKit.Below.heap_alloc w o k hk⟩
theorem run_newRow (T : TypeId) (cs : Array Value) : (newRow T cs).run P w = .ok ⟨w.heap.size, 0, none⟩ (w.alloc (.cells cs T)) := rfl
/-- A variable is boxed. -/
theorem Vl.box {T : TypeId} {v : Value} (k : ∀ w', Nw w w' (.cells v.cells T) → K (.pointer (some ⟨w.heap.size, 0, none⟩)) w') : Vl P (Instr.box T v) w K :=
  ⟨_, _, rfl, k _ (nw_alloc w _)⟩
theorem One.cells {v : Value} (h : One v) : v.cells = #[v] := by cases v <;> first | rfl | exact h.elim
theorem Vl.box1 {T : TypeId} {v : Value} (hv : One v) (k : ∀ w', Nw w w' (.cells [v].toArray T) → K (.pointer (some ⟨w.heap.size, 0, none⟩)) w') : Vl P (Instr.box T v) w K :=
  Vl.box fun w' h => k w' (by rw [hv.cells] at h; exact h)
theorem Vl.alloc {T : TypeId} {z : Value} (hz : ∀ w, (zeroValue T).run P w = .ok z w) (k : ∀ w', Nw w w' (.cells z.cells T) → K (.pointer (some ⟨w.heap.size, 0, none⟩)) w') :
    Vl P (Instr.alloc T true (.tuple #[])) w K := by
  refine ⟨_, _, ?_, k _ (nw_alloc w _)⟩
  unfold Instr.alloc
  simp only [Sem.run_bind, hz, Result.andThen]
  rfl

/-- An element's address. -/
theorem ix {T E sz : Nat} (hT : P.underlying T = some (.slice E)) (hE : ∀ w, (sizeOf E).run P w = .ok sz w) {b o n c : Nat} {i : Int} (h0 : 0 ≤ i) (h1 : i < n) :
    (Instr.indexAt T (.slice (some ⟨b, o, none⟩) n c) (.int .i64 i)).run P w = .ok (.pointer (some ⟨b, o + i.toNat * sz, none⟩)) w := by
  unfold Instr.indexAt asIntOf
  have hu : ∀ w, (underlying T).run P w = .ok (.slice E) w := fun w => by unfold underlying program; simp [Sem.run_bind, Sem.run, hT, Result.andThen]
  simp only [Sem.run_bind, Sem.run_pure, Result.andThen, hu]
  rw [if_pos ⟨h0, h1⟩]
  simp only [Sem.run_bind, hE, Result.andThen, Sem.run_pure]
  have : (⟨b, o, none⟩ : Addr).add (i.toNat * sz) = ⟨b, o + i.toNat * sz, none⟩ := by
    unfold Addr.add
    split
    · rename_i h; rw [h]; rfl
    · rfl
  rw [this]
theorem len_slice {T E : Nat} (hT : P.underlying T = some (.slice E)) {a : Option Addr} {n c t : Nat} : (Builtin.len_ #[T] t #[.slice a n c]).run P w = .ok (goInt n) w := by
  have hu : ∀ w, (underlying T).run P w = .ok (.slice E) w := fun w => by unfold underlying program; simp [Sem.run_bind, Sem.run, hT, Result.andThen]
  unfold Builtin.len_
  simp [Sem.run_bind, hu, Result.andThen]
theorem len_string {T : Nat} (hT : P.underlying T = some .string) {s : ByteArray} {t : Nat} : (Builtin.len_ #[T] t #[.string s]).run P w = .ok (goInt s.size) w := by
  have hu : ∀ w, (underlying T).run P w = .ok .string w := fun w => by unfold underlying program; simp [Sem.run_bind, Sem.run, hT, Result.andThen]
  unfold Builtin.len_
  simp [Sem.run_bind, hu, Result.andThen]
end

/-! ### Numbers, truth values, texts -/
theorem wrap_in {n : Int} (h0 : -9223372036854775808 ≤ n) (h1 : n ≤ 9223372036854775807) : IntKind.i64.wrap n = n := by
  simp [IntKind.wrap, IntKind.bits, IntKind.signed]; omega
section
variable {P : Program} {w : World} {T : TypeId} {x y : Operand}
theorem bo_add {a b : Int} (h0 : -9223372036854775808 ≤ a + b) (h1 : a + b ≤ 9223372036854775807) : (binop .add T x y (.int .i64 a) (.int .i64 b)).run P w = .ok (.int .i64 (a + b)) w := by
  have : (binop .add T x y (.int .i64 a) (.int .i64 b)).run P w = .ok (.int .i64 (IntKind.i64.wrap (a + b))) w := rfl
  rw [this, wrap_in h0 h1]
theorem bo_sub {a b : Int} (h0 : -9223372036854775808 ≤ a - b) (h1 : a - b ≤ 9223372036854775807) : (binop .sub T x y (.int .i64 a) (.int .i64 b)).run P w = .ok (.int .i64 (a - b)) w := by
  have : (binop .sub T x y (.int .i64 a) (.int .i64 b)).run P w = .ok (.int .i64 (IntKind.i64.wrap (a - b))) w := rfl
  rw [this, wrap_in h0 h1]
theorem bo_mul {a b : Int} (h0 : -9223372036854775808 ≤ a * b) (h1 : a * b ≤ 9223372036854775807) : (binop .mul T x y (.int .i64 a) (.int .i64 b)).run P w = .ok (.int .i64 (a * b)) w := by
  have : (binop .mul T x y (.int .i64 a) (.int .i64 b)).run P w = .ok (.int .i64 (IntKind.i64.wrap (a * b))) w := rfl
  rw [this, wrap_in h0 h1]
theorem bo_lss {k : IntKind} {a b : Int} : (binop .lss T x y (.int k a) (.int k b)).run P w = .ok (.bool (decide (a < b))) w := by cases k <;> rfl
theorem bo_leq {k : IntKind} {a b : Int} : (binop .leq T x y (.int k a) (.int k b)).run P w = .ok (.bool (decide (a ≤ b))) w := by cases k <;> rfl
theorem bo_gtr {k : IntKind} {a b : Int} : (binop .gtr T x y (.int k a) (.int k b)).run P w = .ok (.bool (decide (b < a))) w := by cases k <;> rfl
theorem bo_geq {k : IntKind} {a b : Int} : (binop .geq T x y (.int k a) (.int k b)).run P w = .ok (.bool (decide (b ≤ a))) w := by cases k <;> rfl
theorem bo_eql {k : IntKind} {a b : Int} : (binop .eql T x y (.int k a) (.int k b)).run P w = .ok (.bool (decide (a = b))) w := by cases k <;> rfl
theorem bo_neq {k : IntKind} {a b : Int} : (binop .neq T x y (.int k a) (.int k b)).run P w = .ok (.bool (!decide (a = b))) w := by cases k <;> rfl
theorem toList_beq (a b : ByteArray) : (a.toList == b.toList) = decide (a = b) := by
  rw [Bool.eq_iff_iff]
  simp only [beq_iff_eq, decide_eq_true_eq]
  constructor
  · intro h
    apply ByteArray.ext
    rw [ByteArray.toList_eq, ByteArray.toList_eq] at h
    exact Array.toList_inj.1 h
  · intro h; rw [h]
theorem bs_eql {a b : ByteArray} : (binop .eql T x y (.string a) (.string b)).run P w = .ok (.bool (decide (a = b))) w := by
  have : (binop .eql T x y (.string a) (.string b)).run P w = .ok (.bool (a.toList == b.toList)) w := rfl
  rw [this, toList_beq]
theorem bs_neq {a b : ByteArray} : (binop .neq T x y (.string a) (.string b)).run P w = .ok (.bool (!decide (a = b))) w := by
  have : (binop .neq T x y (.string a) (.string b)).run P w = .ok (.bool (!(a.toList == b.toList))) w := rfl
  rw [this, toList_beq]
theorem un_not {b : Bool} : (Op.unary .not (.bool b)).run P w = .ok (.bool (!b)) w := rfl
end

/-! ### Slices that are rows of their own -/
def blk : Value → Option Nat
  | .slice (some a) _ (_ + 1) => some a.block
  | _ => none
/-- v is a slice of n elements of type E (sz cells each), whose cells are cs; it begins a block of its own, or has no room at all. -/
def Row (w : World) (E sz : Nat) (v : Value) (n : Nat) (cs : List Value) : Prop :=
  cs.length = n * sz ∧ ((∃ a, v = .slice a 0 0 ∧ n = 0) ∨
    ∃ g cap full, v = .slice (some ⟨g, 0, none⟩) n cap ∧ Cl w g E full ∧ n ≤ cap ∧ 0 < cap ∧ cap ≤ maxLen ∧ full.length = cap * sz ∧ full.take (n * sz) = cs)

theorem blk_some {a : Addr} {n c : Nat} (h : 0 < c) : blk (.slice (some a) n c) = some a.block := by
  cases c with
  | zero => omega
  | succ c => rfl
theorem Row.nil (w : World) (E sz : Nat) : Row w E sz (.slice none 0 0) 0 [] := ⟨by simp, .inl ⟨none, rfl, rfl⟩⟩
theorem Row.chg {w w' : World} {S : Nat → Prop} {E sz : Nat} {v : Value} {n : Nat} {cs : List Value} (h : Row w E sz v n cs) (c : Chg S w w') (hn : ∀ k, blk v = some k → ¬ S k) : Row w' E sz v n cs := by
  refine ⟨h.1, h.2.imp id ?_⟩
  rintro ⟨g, cap, full, rfl, hcl, h1, h2, h3, h4, h5⟩
  exact ⟨g, cap, full, rfl, hcl.chg c (hn g (blk_some h2)), h1, h2, h3, h4, h5⟩
theorem Row.ext {w w' : World} {E sz : Nat} {v : Value} {n : Nat} {cs : List Value} (h : Row w E sz v n cs) (c : Ext w w') : Row w' E sz v n cs := h.chg c fun _ _ => id
theorem Row.lt {w : World} {E sz : Nat} {v : Value} {n : Nat} {cs : List Value} (h : Row w E sz v n cs) : ∀ k, blk v = some k → k < w.heap.size := by
  intro k hk
  rcases h.2 with ⟨a, rfl, _⟩ | ⟨g, cap, full, rfl, hcl, _, h2, _⟩
  · cases a <;> cases hk
  · rw [blk_some h2] at hk; cases hk; exact hcl.lt
/-- What a row's value is, and where its cells are. -/
theorem Row.val {w : World} {E sz : Nat} {v : Value} {n : Nat} {cs : List Value} (h : Row w E sz v n cs) : ∃ a cap, v = .slice a n cap ∧ (0 < n → ∃ g, a = some ⟨g, 0, none⟩) := by
  rcases h.2 with ⟨a, rfl, rfl⟩ | ⟨g, cap, full, rfl, _⟩
  · exact ⟨a, 0, rfl, fun h => by omega⟩
  · exact ⟨_, cap, rfl, fun _ => ⟨g, rfl⟩⟩
theorem Row.cell {w : World} {E sz g cap n : Nat} {cs : List Value} (h : Row w E sz (.slice (some ⟨g, 0, none⟩) n cap) n cs) {j : Nat} {u : Value} (hu : cs[j]? = some u) : w.cell? ⟨g, j, none⟩ = some u := by
  have hj : j < cs.length := (List.getElem?_eq_some_iff.1 hu).1
  rcases h.2 with ⟨a, h1, h2⟩ | ⟨g', cap', full, h1, hcl, _, _, _, _, h5⟩
  · rw [h.1, h2] at hj; omega
  · injection h1 with e1 _ _
    injection e1 with e1
    injection e1 with e1 _ _
    subst e1
    refine hcl.cell ?_
    rw [← h5, List.getElem?_take] at hu
    split at hu
    · exact hu
    · cases hu

/-- What the facts of a slice type are: its element's type, that one's size and bytes, its zero. -/
structure SlT (P : Program) (T E sz by_ : Nat) (i : TypeInfo) (z : Value) : Prop where
  under : P.underlying T = some (.slice E)
  info : P.info? E = some i
  zero : i.zero = some z
  size : i.size = sz
  bytes : i.bytes = by_
  zsz : z.cells.size = sz
  pos : 0 < sz

section
variable {P : Program} {w : World} {K : Value → World → Prop} {T E sz by_ : Nat} {i : TypeInfo} {z : Value}

theorem chg_grownBy {w' : World} {S : Nat → Prop} {r : Option Nat} (h : w.grownBy w' r) (hs : ∀ k, r = some k → S k) : Chg S w w' :=
  ⟨h.os, h.tape, h.output, h.size, fun k hk hn => h.block k hk fun e => hn (hs k e.symm)⟩

theorem growBy_le (n : Nat) : ∀ (r c : Nat), c ≤ 2 * n → 256 ≤ n → Builtin.growBy n r c ≤ 2 * n
  | 0, c, h, _ => h
  | r + 1, c, h, h2 => by
    unfold Builtin.growBy
    split
    · exact h
    · exact growBy_le n r _ (by omega) h2
theorem nextslicecap_le {n c : Nat} (h : c < n) : Builtin.nextslicecap n c ≤ 2 * n := by
  unfold Builtin.nextslicecap
  split
  · omega
  · split
    · omega
    · exact growBy_le n 4 c (by omega) (by omega)

/-- append of m elements that lie at a. -/
theorem Vl.append (hT : SlT P T E sz by_ i z) {ty : Nat} {v : Value} {n : Nat} {cs : List Value} (h : Row w E sz v n cs)
    {a : Addr} {m c : Nat} {news : List Value} (hl : news.length = m * sz) (hnews : ∀ j u, news[j]? = some u → w.cell? (a.add j) = some u) (h1 : ∀ u ∈ news, u.oneCell' = true)
    (hb : (n + m) * by_ ≤ 140737488355328) (hby : 0 < by_)
    (k : ∀ v' w', Row w' E sz v' (n + m) (cs ++ news) → Chg (fun k => blk v = some k) w w' → (∀ k, blk v' = some k → blk v = some k ∨ (w.heap.size ≤ k ∧ k < w'.heap.size)) →
      ((∃ a, v = .slice a 0 0) → ∀ k, blk v' = some k → w.heap.size ≤ k) → K v' w') :
    Vl P (Builtin.append_ #[T, T] ty #[v, .slice (some a) m c]) w K := by
  have hnm : n + m ≤ 140737488355328 := Nat.le_trans (Nat.le_mul_of_pos_right _ hby) hb
  have hmax : n + m ≤ maxLen := by simp only [maxLen]; omega
  have hi := hT.size
  have hfit : ∀ cap, cap < n + m → Builtin.nextslicecap (n + m) cap * i.bytes ≤ 281474976710656 := by
    intro cap hc
    rw [hT.bytes]
    have hle : Builtin.nextslicecap (n + m) cap ≤ 2 * (n + m) := nextslicecap_le hc
    calc Builtin.nextslicecap (n + m) cap * by_ ≤ 2 * (n + m) * by_ := Nat.mul_le_mul_right _ hle
      _ = 2 * ((n + m) * by_) := by rw [Nat.mul_assoc]
      _ ≤ 281474976710656 := by omega
  have new : ∀ old, old < n + m → ∀ olds : List Value, olds = cs → Row (w.drew.alloc (.cells (olds.toArray ++ news.toArray ++ Builtin.zeroCells z.cells (grownCap w (n + m) old E - (n + m))) E)) E sz
      (.slice (some ⟨w.heap.size, 0, none⟩) (n + m) (grownCap w (n + m) old E)) (n + m) (cs ++ news) := by
    intro old ho olds he
    subst he
    have hge := grownCap_ge w (n + m) old E
    have hcm := grownCap_le_maxLen w (n + m) old E hmax
    have hlen : (olds ++ news).length = (n + m) * sz := by rw [List.length_append, h.1, hl, Nat.add_mul]
    refine ⟨hlen, .inr ⟨w.heap.size, _, (olds.toArray ++ news.toArray ++ Builtin.zeroCells z.cells (grownCap w (n + m) old E - (n + m))).toList, rfl, ?_, hge, by omega, hcm, ?_, ?_⟩⟩
    · unfold Cl; rw [Array.toArray_toList]; exact World.alloc_heap_new w.drew _
    · simp only [Array.length_toList, Array.size_append, List.size_toArray, size_zeroCells, hT.zsz, h.1, hl, ← Nat.add_mul]
      congr 1; omega
    · simp only [Array.toList_append, List.append_assoc]
      rw [← List.append_assoc, ← hlen]; exact List.take_left
  have ch : ∀ o, Ext w (w.drew.alloc o) := fun o => (dr_ext w).ext (nw_alloc (dr w) o).ext
  have nb : ∀ cap : Nat, ∀ o : Obj, ∀ x, blk (.slice (some ⟨w.heap.size, 0, none⟩) (n + m) cap) = some x → w.heap.size ≤ x ∧ x < (w.drew.alloc o).heap.size := by
    intro cap o x hx
    cases cap with
    | zero => cases hx
    | succ c => cases hx; exact ⟨Nat.le_refl _, by simp⟩
  rcases h.2 with ⟨b, rfl, rfl⟩ | ⟨g, cap, full, rfl, hcl, h2, h3, h4, h5, h6⟩
  · have hcs : cs = [] := List.eq_nil_of_length_eq_zero (by simpa using h.1)
    by_cases hm : m = 0
    · subst hm
      have hn : news = [] := List.eq_nil_of_length_eq_zero (by simpa using hl)
      refine Vl.i (v := .slice b 0 0) (w' := w) ?_ (k _ _ ⟨by rw [hcs, hn]; simp, .inl ⟨b, rfl, rfl⟩⟩ (Chg.refl _ _) (fun x hx => .inl hx) (fun _ x hx => by cases b <;> cases hx))
      cases b <;> simp [Builtin.append_, run_underlying hT.under, sizeOf, typeInfo, hT.info, Builtin.lenOf, Builtin.firstCells, loadCells, loadCellsFrom, storeCells]
    · have hrow := new 0 (by omega) [] hcs.symm
      have key : ∀ w', w' = w.drew.alloc (.cells (([] : List Value).toArray ++ news.toArray ++ Builtin.zeroCells z.cells (grownCap w (0 + m) 0 E - (0 + m))) E) →
          K (.slice (some ⟨w.heap.size, 0, none⟩) (0 + m) (grownCap w (0 + m) 0 E)) w' := fun w' he => by
        subst he
        exact k _ _ hrow (ch _).to (fun x hx => .inr (nb _ _ x hx)) (fun _ x hx => (nb _ (.deferred none) x hx).1)
      cases b with
      | none =>
        refine Vl.i (run_append_nil w T ty E i z hT.under hT.info hT.zero a m c news (by rw [hi]; exact hl) hnews (by omega) (by omega) (by rw [hT.bytes]; simp only [Nat.zero_add] at hb; omega)) ?_
        simp only [Nat.zero_add] at key
        exact key _ (by simp)
      | some b =>
        refine Vl.i (run_append_grow w T ty E i z hT.under hT.info hT.zero b 0 0 [] (by simp) (by simp) a m c news (by rw [hi]; exact hl) hnews (by omega) (by omega) (hfit 0 (by omega))) ?_
        exact key _ rfl
  · by_cases hroom : n + m ≤ cap
    · have hfl : full.length = cap * sz := h5
      have hle : n * sz + news.length ≤ full.toArray.size := by
        rw [hl, ← Nat.add_mul]; simp only [List.size_toArray, h5]; exact Nat.mul_le_mul_right _ hroom
      have hr := run_append_room (P := P) w T ty E i hT.under hT.info g n cap full.toArray hcl a m c news (by rw [hi]; exact hl) hnews h1 hroom (by rw [hi]; exact hle)
      rw [hi] at hr
      refine Vl.i hr ?_
      have hcl' := setRow_heap w g full.toArray (full.take (n * sz) ++ news ++ full.drop (n * sz + news.length)).toArray E (0, 0) hcl
      have hsz : n * sz + news.length ≤ full.length := by simpa using hle
      refine k _ _ ⟨by rw [List.length_append, h.1, hl, Nat.add_mul], .inr ⟨g, cap, full.take (n * sz) ++ news ++ full.drop (n * sz + news.length), rfl, hcl', hroom, h3, h4, ?_, ?_⟩⟩
        ⟨rfl, rfl, rfl, by simp, fun x _ hx => setRow_other w g x _ fun e => hx (by rw [blk_some h3, e])⟩ (fun x hx => .inl (by rw [blk_some h3] at hx ⊢; exact hx)) (fun ⟨a', e⟩ => by injection e with _ _ e; omega)
      · simp only [List.length_append, List.length_take, List.length_drop]; omega
      · have e1 : (n + m) * sz = (full.take (n * sz) ++ news).length := by
          rw [List.length_append, h6, h.1, hl, Nat.add_mul]
        rw [e1, List.take_left, h6]
    · have hr := run_append_grow w (P := P) T ty E i z hT.under hT.info hT.zero ⟨g, 0, none⟩ n cap cs (by rw [hi]; exact h.1) (fun j v hv => by
          have : (⟨g, 0, none⟩ : Addr).add j = ⟨g, j, none⟩ := by unfold Addr.add; split <;> simp_all
          rw [this]; exact h.cell hv) a m c news (by rw [hi]; exact hl) hnews (by omega) (by omega) (hfit cap (by omega))
      refine Vl.i hr (k _ _ (new cap (by omega) cs rfl) (ch _).to (fun x hx => .inr (nb _ _ x hx)) (fun _ x hx => (nb _ (.deferred none) x hx).1))
end
end Go.Eng
namespace Go.Eng
open Go

/-! ### Iterators that write nothing -/
/-- The function gf, with what it captured, calls yield with each of xs, in order, as long as it answers true; Pre is what it reads. -/
def Iter (P : Program) (gf : Nat) (lb : Array Value) (xs : List (Array Value)) (Pre : World → Prop) : Prop :=
  ∀ (l : Nat) (J : Nat → World → Prop) (Jx : World → Prop) (w : World), J 0 w → (∀ k w, J k w → Pre w) →
    (∀ k (hk : k < xs.length) w, J k w → YieldC P l xs[k] (fun v w' => (v = .bool true ∧ J (k + 1) w') ∨ (v = .bool false ∧ Jx w')) w) →
    CallE P gf (#[.func (.yield l) #[] #[]] ++ lb) (fun _ w' => J xs.length w' ∨ Jx w') w

/-- A loop's record (block l) turned, and nothing else. -/
structure LoopStep (l : Nat) (w1 w2 : World) : Prop where
  os : w2.os = w1.os
  tape : w2.tape = w1.tape
  output : w2.output = w1.output
  size : w2.heap.size = w1.heap.size
  same : ∀ b, b ≠ l → w2.heap[b]? = w1.heap[b]?
  loop : ∃ r, w1.heap[l]? = some (.loop r)
theorem LoopStep.chg {l : Nat} {w1 w2 : World} (h : LoopStep l w1 w2) : Chg (· = l) w1 w2 := ⟨h.os, h.tape, h.output, Nat.le_of_eq h.size.symm, fun k _ hn => h.same k hn⟩
theorem Cl.loopStep {l : Nat} {w1 w2 : World} {b T : Nat} {cs : List Value} (h : Cl w1 b T cs) (s : LoopStep l w1 w2) : Cl w2 b T cs := by
  refine h.chg s.chg fun e => ?_
  subst e
  obtain ⟨r, hr⟩ := s.loop
  unfold Cl at h
  rw [h] at hr; cases hr
theorem loopStep_put {l : Nat} {w : World} {r : Loop} (r' : Loop) (h : w.heap[l]? = some (.loop r)) : LoopStep l w (w.putObj l (.loop r')) :=
  ⟨rfl, rfl, rfl, by simp, fun b hb => World.putObj_heap_other hb, r, h⟩
/-- The two blocks of a range statement. -/
structure Keep (D : Nat) (w1 w2 : World) : Prop where
  d : w2.heap[D]? = w1.heap[D]?
  l : w2.heap[D + 1]? = w1.heap[D + 1]?
theorem Chg.keep {S : Nat → Prop} {w1 w2 : World} {D : Nat} (h : Chg S w1 w2) (hD : D + 1 < w1.heap.size) (h0 : ¬ S D) (h1 : ¬ S (D + 1)) : Keep D w1 w2 :=
  ⟨h.same D (by omega) h0, h.same (D + 1) hD h1⟩
abbrev mark (D : Nat) : Deferred := { target := .collected D, args := #[] }

theorem Rf.iter {P : Program} {np gf : Nat} {lb : Array Value} {xs : List (Array Value)} {Pre : World → Prop} (hit : Iter P gf lb xs Pre) (hnp : ∀ x ∈ xs, x.size = np)
    {ds : List Deferred} {w : World} {B : (Nat → Value) → ((World → Prop) → World → Prop) → (World → Prop) → (World → Prop) → (Nat → World → Prop) → World → Prop}
    {Kn Kr : List Deferred → World → Prop} {Kx : Nat → List Deferred → World → Prop}
    (I : Nat → World → Prop) (X : Option Nat → World → Prop)
    (hI : ∀ k w1 w2, I k w1 → LoopStep (w.heap.size + 1) w1 w2 → I k w2) (hX : ∀ k w1 w2, X k w1 → LoopStep (w.heap.size + 1) w1 w2 → X k w2)
    (hpre : ∀ k w1, I k w1 → Pre w1)
    (h0 : ∀ w1, Ext w w1 → w1.heap.size = w.heap.size + 2 → I 0 w1)
    (hbody : ∀ k (hk : k < xs.length) w1 Bg Kn Kr Kx w0, I k w1 → w1.heap[w.heap.size]? = some (.deferred (some [])) → (∃ r, w1.heap[w.heap.size + 1]? = some (.loop r)) →
      (∀ w2, I (k + 1) w2 → Keep w.heap.size w1 w2 → Kn w2) → (∀ w2, X none w2 → Keep w.heap.size w1 w2 → Kr w2) → (∀ id w2, X (some id) w2 → Keep w.heap.size w1 w2 → Kx id w2) →
      (∀ Kb : World → Prop, Kb w1 → Bg Kb w0) → B (fun i => xs[k].toList.getD i undef) Bg Kn Kr Kx w0)
    (hdone : ∀ w2, I xs.length w2 → w2.heap[w.heap.size]? = some (.deferred (some [])) → Kn (mark w.heap.size :: ds) w2)
    (hret : ∀ w2, X none w2 → w2.heap[w.heap.size]? = some (.deferred (some [])) → Kr (mark w.heap.size :: ds) w2)
    (hexit : ∀ id w2, X (some id) w2 → w2.heap[w.heap.size]? = some (.deferred (some [])) → Kx id (mark w.heap.size :: ds) w2) :
    Rf P np (.func (.func gf) #[] lb) ds w B Kn Kr Kx := by
  refine ⟨gf, lb, rfl, fun rec hrec hY => ?_⟩
  have hl1 : ((w.alloc (.deferred (some []))).alloc (.loop (rec .ready none))).heap[w.heap.size + 1]? = some (.loop (rec .ready none)) := by
    have := World.alloc_heap_new (w.alloc (.deferred (some []))) (.loop (rec .ready none)); rwa [World.size_alloc] at this
  have hd1 : ((w.alloc (.deferred (some []))).alloc (.loop (rec .ready none))).heap[w.heap.size]? = some (.deferred (some [])) :=
    (RowKit.Below.heap_alloc _ _ _ (by simp)).trans (World.alloc_heap_new w _)
  have hcall := hit (w.heap.size + 1)
    (fun k w' => I k w' ∧ w'.heap[w.heap.size + 1]? = some (.loop (rec .ready none)) ∧ w'.heap[w.heap.size]? = some (.deferred (some [])))
    (fun w' => w'.heap[w.heap.size]? = some (.deferred (some [])) ∧ ((X none w' ∧ w'.heap[w.heap.size + 1]? = some (.loop (rec .done (some .ret)))) ∨
      ∃ id, X (some id) w' ∧ w'.heap[w.heap.size + 1]? = some (.loop (rec .done (some (.exit id))))))
    ((w.alloc (.deferred (some []))).alloc (.loop (rec .ready none)))
    ⟨h0 _ ((nw_alloc w _).ext.then (nw_alloc _ _).ext) (by simp), hl1, hd1⟩ (fun k w1 h => hpre k w1 h.1) ?_
  · refine CallE.mono hcall ?_
    rintro v w2 (⟨hi, hl, hd⟩ | ⟨hd, ⟨hx, hl⟩ | ⟨id, hx, hl⟩⟩)
    · exact .inl ⟨hl, hdone _ (hI _ _ _ hi (loopStep_put _ hl)) ((World.putObj_heap_other (by omega)).trans hd)⟩
    · exact .inr (.inl ⟨hl, hret _ (hX _ _ _ hx (loopStep_put _ hl)) ((World.putObj_heap_other (by omega)).trans hd)⟩)
    · exact .inr (.inr ⟨id, hl, hexit _ _ (hX _ _ _ hx (loopStep_put _ hl)) ((World.putObj_heap_other (by omega)).trans hd)⟩)
  · rintro k hk w1 ⟨hi, hl, hd⟩
    have hlt : w.heap.size + 1 < w1.heap.size := (Array.getElem?_eq_some_iff.1 hl).1
    refine hY _ _ _ (hnp _ (List.getElem_mem hk)) hl ?_
    have hl2 : (w1.putObj (w.heap.size + 1) (.loop (rec .busy none))).heap[w.heap.size + 1]? = some (.loop (rec .busy none)) := World.putObj_heap_same hlt
    have hd2 : (w1.putObj (w.heap.size + 1) (.loop (rec .busy none))).heap[w.heap.size]? = some (.deferred (some [])) := (World.putObj_heap_other (by omega)).trans hd
    refine hbody k hk (w1.putObj (w.heap.size + 1) (.loop (rec .busy none))) _ _ _ _ _ (hI _ _ _ hi (loopStep_put _ hl)) hd2 ⟨_, hl2⟩ ?_ ?_ ?_ ?_
    · intro w2 h2 kp
      have hl3 := kp.l.trans hl2
      refine ⟨hl3, .inl ⟨rfl, hI _ _ _ h2 (loopStep_put _ hl3), World.putObj_heap_same (Array.getElem?_eq_some_iff.1 hl3).1, (World.putObj_heap_other (by omega)).trans (kp.d.trans hd2)⟩⟩
    · intro w2 h2 kp
      have hl3 := kp.l.trans hl2
      exact ⟨hl3, .inr ⟨rfl, (World.putObj_heap_other (by omega)).trans (kp.d.trans hd2), .inl ⟨hX _ _ _ h2 (loopStep_put _ hl3), World.putObj_heap_same (Array.getElem?_eq_some_iff.1 hl3).1⟩⟩⟩
    · intro id w2 h2 kp
      have hl3 := kp.l.trans hl2
      exact ⟨hl3, .inr ⟨rfl, (World.putObj_heap_other (by omega)).trans (kp.d.trans hd2), .inr ⟨id, hX _ _ _ h2 (loopStep_put _ hl3), World.putObj_heap_same (Array.getElem?_eq_some_iff.1 hl3).1⟩⟩⟩
    · intro Kb hb
      exact ⟨hl, hb⟩

/-- A function's marks are taken up as it leaves. -/
theorem Lv.nil {w : World} {K : World → Prop} (h : K w) : Lv [] w K := h
theorem Lv.cons {D : Nat} {ds : List Deferred} {w : World} {K : World → Prop} (hd : w.heap[D]? = some (.deferred (some [])))
    (h : ∀ w', Chg (· = D) w w' → w'.heap.size = w.heap.size → (∀ b, b ≠ D → w'.heap[b]? = w.heap[b]?) → Lv ds w' K) : Lv (mark D :: ds) w K :=
  ⟨hd, h _ ⟨rfl, rfl, rfl, by simp, fun k _ hn => World.putObj_heap_other hn⟩ (by simp) fun b hb => World.putObj_heap_other hb⟩
end Go.Eng
namespace Go.Eng
open Go

/-- A number on a loop's list: for measures. -/
def intAt (l : List Value) (k : Nat) : Int :=
  match l[k]? with
  | some (.int _ i) => i
  | _ => 0

/-! ### Steps whose facts on types are reckoned in place -/
def ixB (P : Program) (T sz : Nat) : Bool :=
  match P.underlying T with
  | some (.slice E) => match P.info? E with
    | some i => Nat.beq i.size sz
    | none => false
  | _ => false
def slB (P : Program) (T E sz : Nat) : Bool :=
  match P.underlying T, P.info? E with
  | some (.slice E'), some i => Nat.beq E' E && Nat.beq i.size sz && Nat.ble i.bytes 1000 && Nat.blt 0 i.bytes && Nat.blt 0 sz && (match i.zero with
    | some z => Nat.beq z.cells.size sz
    | none => false)
  | _, _ => false
def slT (P : Program) (T : Nat) : Bool := match P.underlying T with | some (.slice _) => true | _ => false
def strT (P : Program) (T : Nat) : Bool := match P.underlying T with | some .string => true | _ => false
def aggT (P : Program) (T : Nat) : Bool := match P.underlying T with | some (.struct _) | some (.array ..) => false | some _ => true | none => false
def szT (P : Program) (T n : Nat) : Bool := match P.info? T with | some i => Nat.beq i.size n | none => false

section
variable {P : Program} {w : World} {K : Value → World → Prop} {T : Nat}
theorem run_isAgg (h : aggT P T = true) : ∀ w, (isAgg T).run P w = .ok false w := by
  intro w
  unfold aggT at h
  have hu : ∀ d, P.underlying T = some d → (underlying T).run P w = .ok d w := fun d hd => by unfold underlying program; simp [Sem.run_bind, Sem.run, hd, Result.andThen]
  cases hd : P.underlying T with
  | none => rw [hd] at h; cases h
  | some d =>
    unfold isAgg
    rw [Sem.run_bind, hu d hd]
    rw [hd] at h
    cases d <;> first | rfl | cases h
theorem run_sizeOf {n : Nat} (h : szT P T n = true) : ∀ w, (sizeOf T).run P w = .ok n w := by
  intro w
  unfold szT at h
  cases hi : P.info? T with
  | none => rw [hi] at h; cases h
  | some i =>
    rw [hi] at h
    have := Nat.eq_of_beq_eq_true h
    unfold sizeOf typeInfo program
    simp [Sem.run_bind, Sem.run, hi, Result.andThen, this]
theorem SlT.of {E sz : Nat} (h : slB P T E sz = true) : ∃ by_ i z, SlT P T E sz by_ i z ∧ by_ ≤ 1000 ∧ 0 < by_ := by
  unfold slB at h
  split at h
  · rename_i E' i hu hi
    simp only [Bool.and_eq_true] at h
    obtain ⟨⟨⟨⟨⟨h1, h2⟩, h3⟩, h4⟩, h5⟩, h6⟩ := h
    cases hz : i.zero with
    | none => rw [hz] at h6; cases h6
    | some z =>
      rw [hz] at h6
      have e1 := Nat.eq_of_beq_eq_true h1
      subst e1
      exact ⟨i.bytes, i, z, ⟨hu, hi, hz, Nat.eq_of_beq_eq_true h2, rfl, Nat.eq_of_beq_eq_true h6, (Nat.blt_eq (x := _) (y := _)).mp h5⟩, Nat.le_of_ble_eq_true h3, (Nat.blt_eq (x := _) (y := _)).mp h4⟩
  · cases h

/-- load -/
theorem Vl.ld {b i E : Nat} {cs : List Value} {v : Value} (h : Cl w b E cs) (hv : cs[i]? = some v) (k : K v w) (hT : aggT P T = true := by kernel_rfl) :
    Vl P (Instr.loadAt T (.pointer (some ⟨b, i, none⟩))) w K := Vl.i (ldc (run_isAgg hT) h hv) k
theorem Vl.lda {a : Addr} {v : Value} (h : w.cell? a = some v) (k : K v w) (hT : aggT P T = true := by kernel_rfl) :
    Vl P (Instr.loadAt T (.pointer (some a))) w K := Vl.i (Go.Eng.ld (run_isAgg hT) h) k
theorem VQ.ld {S : World → Prop} {K : Value → Prop} {a : Addr} {v : Value} (h : ∀ w, S w → w.cell? a = some v) (k : K v) (hT : aggT P T = true := by kernel_rfl) :
    ValQ P S (Instr.loadAt T (.pointer (some a))) K := VQ.i (fun w hw => Go.Eng.ld (run_isAgg hT) (h w hw)) k
theorem Rs.ld {b i E : Nat} {cs : List Value} {v : Value} {K : Value → Prop} (h : Cl w b E cs) (hv : cs[i]? = some v) (k : K v) (hT : aggT P T = true := by kernel_rfl) :
    Rs P (Instr.loadAt T (.pointer (some ⟨b, i, none⟩))) w K := Rs.i (ldc (run_isAgg hT) h hv) k
/-- a field's address -/
theorem Vl.fa {b o f : Nat} (k : K (.pointer (some ⟨b, o + f, none⟩)) w)
    (h : ∀ w, (Instr.fieldAt T (.pointer (some ⟨b, o, none⟩)) f).run P w = .ok (.pointer (some ⟨b, o + f, none⟩)) w := by intro w; kernel_rfl) :
    Vl P (Instr.fieldAt T (.pointer (some ⟨b, o, none⟩)) f) w K := Vl.i (h w) k
theorem Pv.i {s : Sem Value} {v : Value} {K : Value → Prop} (h : ∀ w, s.run P w = .ok v w) (k : K v) : Pv P s K := ⟨v, h, k⟩
theorem Pv.fa {K : Value → Prop} {b o f : Nat} (k : K (.pointer (some ⟨b, o + f, none⟩)))
    (h : ∀ w, (Instr.fieldAt T (.pointer (some ⟨b, o, none⟩)) f).run P w = .ok (.pointer (some ⟨b, o + f, none⟩)) w := by intro w; kernel_rfl) :
    Pv P (Instr.fieldAt T (.pointer (some ⟨b, o, none⟩)) f) K := Pv.i h k
/-- an element's address -/
theorem run_ix {b o n c sz : Nat} {i : Int} (h0 : 0 ≤ i) (h1 : i < n) (hT : ixB P T sz = true) (w : World) :
    (Instr.indexAt T (.slice (some ⟨b, o, none⟩) n c) (.int .i64 i)).run P w = .ok (.pointer (some ⟨b, o + i.toNat * sz, none⟩)) w := by
  unfold ixB at hT
  split at hT
  · rename_i E hu
    split at hT
    · rename_i inf hi
      exact ix (E := E) hu (run_sizeOf (by unfold szT; rw [hi]; exact hT)) h0 h1
    · cases hT
  · cases hT
theorem Vl.ix {b o n c : Nat} (sz : Nat) {i : Int} (h0 : 0 ≤ i) (h1 : i < n) (k : K (.pointer (some ⟨b, o + i.toNat * sz, none⟩)) w) (hT : ixB P T sz = true := by kernel_rfl) :
    Vl P (Instr.indexAt T (.slice (some ⟨b, o, none⟩) n c) (.int .i64 i)) w K := Vl.i (run_ix h0 h1 hT w) k
theorem Pv.ix {K : Value → Prop} {b o n c : Nat} (sz : Nat) {i : Int} (h0 : 0 ≤ i) (h1 : i < n) (k : K (.pointer (some ⟨b, o + i.toNat * sz, none⟩))) (hT : ixB P T sz = true := by kernel_rfl) :
    Pv P (Instr.indexAt T (.slice (some ⟨b, o, none⟩) n c) (.int .i64 i)) K := Pv.i (run_ix h0 h1 hT) k
/-- lengths -/
theorem run_len {a : Option Addr} {n c t : Nat} (hT : slT P T = true) (w : World) : (Builtin.len_ #[T] t #[.slice a n c]).run P w = .ok (.int .i64 n) w := by
  unfold slT at hT
  split at hT
  · rename_i E hu; exact len_slice hu
  · cases hT
theorem run_lenS {s : ByteArray} {t : Nat} (hT : strT P T = true) (w : World) : (Builtin.len_ #[T] t #[.string s]).run P w = .ok (.int .i64 s.size) w := by
  unfold strT at hT
  split at hT
  · rename_i hu; exact len_string hu
  · cases hT
theorem Vl.len {a : Option Addr} {n c t : Nat} (k : K (.int .i64 n) w) (hT : slT P T = true := by kernel_rfl) : Vl P (Builtin.len_ #[T] t #[.slice a n c]) w K := Vl.i (run_len hT w) k
theorem VQ.len {S : World → Prop} {K : Value → Prop} {a : Option Addr} {n c t : Nat} (k : K (.int .i64 n)) (hT : slT P T = true := by kernel_rfl) : ValQ P S (Builtin.len_ #[T] t #[.slice a n c]) K :=
  VQ.i (fun w _ => run_len hT w) k
theorem Vl.lenS {s : ByteArray} {t : Nat} (k : K (.int .i64 s.size) w) (hT : strT P T = true := by kernel_rfl) : Vl P (Builtin.len_ #[T] t #[.string s]) w K := Vl.i (run_lenS hT w) k
/-- store -/
theorem Ef.set {b i E : Nat} {cs : List Value} {v : Value} {K : World → Prop} (h : Cl w b E cs) (hi : i < cs.length) (k : ∀ w', Upd w w' b E (cs.set i v) → K w')
    (hv : One v := by exact trivial) (hT : szT P T 1 = true := by kernel_rfl) : Ef P (Instr.storeAt T (.pointer (some ⟨b, i, none⟩)) v) w K := Ef.st (run_sizeOf hT) hv h hi k
/-- append of one element that lies in a block of its own -/
theorem Vl.app {E sz ty n b m c : Nat} {v : Value} {cs news : List Value} (h : Row w E sz v n cs) (hn : Cl w b E news) (hl : news.length = m * sz) (h1 : ∀ u ∈ news, u.oneCell' = true) (hb : n + m ≤ 100000000)
    (k : ∀ v' w', Row w' E sz v' (n + m) (cs ++ news) → Chg (fun k => blk v = some k) w w' → (∀ k, blk v' = some k → blk v = some k ∨ (w.heap.size ≤ k ∧ k < w'.heap.size)) → K v' w')
    (hT : slB P T E sz = true := by kernel_rfl) : Vl P (Builtin.append_ #[T, T] ty #[v, .slice (some ⟨b, 0, none⟩) m c]) w K := by
  obtain ⟨by_, i, z, hs, hb1, hb2⟩ := SlT.of hT
  refine Vl.append hs h hl (fun j u hu => ?_) h1 ?_ hb2 fun v' w' a b c _ => k v' w' a b c
  · have : (⟨b, 0, none⟩ : Addr).add j = ⟨b, j, none⟩ := by unfold Addr.add; split <;> simp_all
    rw [this]; exact hn.cell hu
  · calc (n + m) * by_ ≤ 100000000 * 1000 := Nat.mul_le_mul hb hb1
      _ ≤ 140737488355328 := by omega

theorem Vl.add {x y : Operand} {a b : Int} (k : K (.int .i64 (a + b)) w) (h0 : -9223372036854775808 ≤ a + b := by omega) (h1 : a + b ≤ 9223372036854775807 := by omega) : Vl P (binop .add T x y (.int .i64 a) (.int .i64 b)) w K := Vl.i (bo_add h0 h1) k
theorem Vl.sub {x y : Operand} {a b : Int} (k : K (.int .i64 (a - b)) w) (h0 : -9223372036854775808 ≤ a - b := by omega) (h1 : a - b ≤ 9223372036854775807 := by omega) : Vl P (binop .sub T x y (.int .i64 a) (.int .i64 b)) w K := Vl.i (bo_sub h0 h1) k
theorem Pv.add {K : Value → Prop} {x y : Operand} {a b : Int} (k : K (.int .i64 (a + b))) (h0 : -9223372036854775808 ≤ a + b := by omega) (h1 : a + b ≤ 9223372036854775807 := by omega) : Pv P (binop .add T x y (.int .i64 a) (.int .i64 b)) K := Pv.i (fun _ => bo_add h0 h1) k
theorem Pv.sub {K : Value → Prop} {x y : Operand} {a b : Int} (k : K (.int .i64 (a - b))) (h0 : -9223372036854775808 ≤ a - b := by omega) (h1 : a - b ≤ 9223372036854775807 := by omega) : Pv P (binop .sub T x y (.int .i64 a) (.int .i64 b)) K := Pv.i (fun _ => bo_sub h0 h1) k
theorem Vl.lss {x y : Operand} {kd : IntKind} {a b : Int} (k : K (.bool (decide (a < b))) w) : Vl P (binop .lss T x y (.int kd a) (.int kd b)) w K := Vl.i bo_lss k
theorem Vl.leq {x y : Operand} {kd : IntKind} {a b : Int} (k : K (.bool (decide (a ≤ b))) w) : Vl P (binop .leq T x y (.int kd a) (.int kd b)) w K := Vl.i bo_leq k
theorem Vl.gtr {x y : Operand} {kd : IntKind} {a b : Int} (k : K (.bool (decide (b < a))) w) : Vl P (binop .gtr T x y (.int kd a) (.int kd b)) w K := Vl.i bo_gtr k
theorem Vl.geq {x y : Operand} {kd : IntKind} {a b : Int} (k : K (.bool (decide (b ≤ a))) w) : Vl P (binop .geq T x y (.int kd a) (.int kd b)) w K := Vl.i bo_geq k
theorem Vl.eql {x y : Operand} {kd : IntKind} {a b : Int} (k : K (.bool (decide (a = b))) w) : Vl P (binop .eql T x y (.int kd a) (.int kd b)) w K := Vl.i bo_eql k
theorem Vl.neq {x y : Operand} {kd : IntKind} {a b : Int} (k : K (.bool (!decide (a = b))) w) : Vl P (binop .neq T x y (.int kd a) (.int kd b)) w K := Vl.i bo_neq k
theorem Vl.seql {x y : Operand} {a b : ByteArray} (k : K (.bool (decide (a = b))) w) : Vl P (binop .eql T x y (.string a) (.string b)) w K := Vl.i bs_eql k
theorem Vl.sneq {x y : Operand} {a b : ByteArray} (k : K (.bool (!decide (a = b))) w) : Vl P (binop .neq T x y (.string a) (.string b)) w K := Vl.i bs_neq k
theorem Vl.not {b : Bool} (k : K (.bool (!b)) w) : Vl P (Op.unary .not (.bool b)) w K := Vl.i un_not k

/-- a string's byte; a string's piece -/
theorem Vl.ixS {s : ByteArray} {i : Nat} (hi : i < s.size) (k : K (.int .u8 (s[i].toNat)) w) (hT : strT P T = true := by kernel_rfl) : Vl P (Instr.index T (.string s) (.int .i64 i)) w K := by
  unfold strT at hT
  split at hT
  · rename_i hu
    refine Vl.i ?_ k
    have hu : ∀ w, (underlying T).run P w = .ok .string w := fun w => by unfold underlying program; simp [Sem.run_bind, Sem.run, hu, Result.andThen]
    unfold Instr.index asIntOf
    simp only [Sem.run_bind, Sem.run_pure, Result.andThen, hu]
    have e : (if 0 ≤ (i : Int) then s[((i : Int)).toNat]? else none) = some s[i] := by
      rw [if_pos (by omega), Int.toNat_natCast]
      exact getElem?_pos s i hi
    rw [e]; rfl
  · cases hT
theorem run_underlying' {T : Nat} {d : TypeDesc} (h : P.underlying T = some d) (w : World) : (underlying T).run P w = .ok d w := by
  unfold underlying program; simp [Sem.run_bind, Sem.run, h, Result.andThen]
theorem run_sliceS {s : ByteArray} {lo hi : Option Value} {l h : Nat} (hT : strT P T = true) (hl : lo = none ∧ l = 0 ∨ lo = some (.int .i64 l)) (hh : hi = none ∧ h = s.size ∨ hi = some (.int .i64 h)) (h1 : l ≤ h) (h2 : h ≤ s.size) (w : World) :
    (Instr.sliceAt T (.string s) lo hi none).run P w = .ok (.string (s.extract l h)) w := by
  unfold strT at hT
  split at hT
  · rename_i hu
    have hu := run_underlying' hu
    have b1 : ∀ (x y : Nat) (c : BoundsCode), x ≤ y → ∀ w, (Instr.sliceBound (.int .i64 x) y c).run P w = .ok x w := fun x y c hxy w => by
      unfold Instr.sliceBound asIntOf
      simp only [Sem.run_bind, Sem.run_pure, Result.andThen]
      rw [if_pos ⟨by omega, by omega⟩]; rfl
    unfold Instr.sliceAt
    rw [Sem.run_bind, hu]
    simp only [Result.andThen]
    unfold Instr.slice
    rw [Sem.run_bind, hu]
    simp only [Result.andThen, Option.isSome_none, Bool.false_eq_true, if_false, Instr.sliceBounds]
    rcases hl with ⟨rfl, rfl⟩ | rfl <;> rcases hh with ⟨rfl, rfl⟩ | rfl <;> simp [Sem.run_bind, Result.andThen, b1, h1, h2]
  · cases hT
theorem Vl.sliceS {s : ByteArray} {lo hi : Option Value} (l h : Nat) (hl : lo = none ∧ l = 0 ∨ lo = some (.int .i64 l)) (hh : hi = none ∧ h = s.size ∨ hi = some (.int .i64 h)) (h1 : l ≤ h) (h2 : h ≤ s.size)
    (k : K (.string (s.extract l h)) w) (hT : strT P T = true := by kernel_rfl) : Vl P (Instr.sliceAt T (.string s) lo hi none) w K := Vl.i (run_sliceS hT hl hh h1 h2 w) k
/-- one integer kind into another -/
def intT (P : Program) (T : Nat) (k : IntKind) : Bool := match P.underlying T with | some (.int k') => k' == k | _ => false
theorem run_conv {S : Nat} {k1 k2 : IntKind} {n : Int} (h1 : (P.underlying S).isSome = true) (h2 : intT P T k2 = true) (w : World) : (convert S T (.int k1 n)).run P w = .ok (.int k2 (k2.wrap n)) w := by
  unfold intT at h2
  split at h2
  · rename_i k' hu
    have e : k' = k2 := by simpa using h2
    subst e
    cases hs : P.underlying S with
    | none => rw [hs] at h1; cases h1
    | some d =>
      have hu := run_underlying' hu
      have hs := run_underlying' hs
      unfold convert
      rw [Sem.run_bind, hs]; simp only [Result.andThen]
      rw [Sem.run_bind, hu]; simp only [Result.andThen]
      rfl
  · cases h2
theorem Vl.conv {S : Nat} {k1 : IntKind} (k2 : IntKind) {n : Int} (k : K (.int k2 (k2.wrap n)) w) (h1 : (P.underlying S).isSome = true := by kernel_rfl) (h2 : intT P T k2 = true := by kernel_rfl) : Vl P (convert S T (.int k1 n)) w K := Vl.i (run_conv h1 h2 w) k
/-- an element of an array's variable -/
def arrT (P : Program) (T n sz : Nat) : Bool := match P.underlying T with
  | some (.array m E) => Nat.beq m n && Nat.blt 1 n && szT P E sz
  | _ => false
theorem run_ixA {b o n sz : Nat} {kd : IntKind} {i : Int} (h0 : 0 ≤ i) (h1 : i < n) (hT : arrT P T n sz = true) (w : World) :
    (Instr.indexAt T (.pointer (some ⟨b, o, none⟩)) (.int kd i)).run P w = .ok (.pointer (some ⟨b, o + i.toNat * sz, none⟩)) w := by
  unfold arrT at hT
  split at hT
  · rename_i m E hu
    simp only [Bool.and_eq_true] at hT
    have e := Nat.eq_of_beq_eq_true hT.1.1
    subst e
    have hu := run_underlying' hu
    have hE := run_sizeOf hT.2
    unfold Instr.indexAt asIntOf
    have ha : (Instr.sureAddr (.pointer (some ⟨b, o, none⟩))).run P w = .ok ⟨b, o, none⟩ w := rfl
    simp only [Sem.run_bind, Sem.run_pure, Result.andThen, hu, ha]
    rw [if_pos ⟨h0, h1⟩]
    simp only [Sem.run_bind, hE, Result.andThen, Sem.run_pure]
    have : (⟨b, o, none⟩ : Addr).add (i.toNat * sz) = ⟨b, o + i.toNat * sz, none⟩ := by
      unfold Addr.add
      split
      · rename_i h; rw [h]; rfl
      · rfl
    rw [this]
  · cases hT
theorem Vl.ixA {b o : Nat} (n sz : Nat) {kd : IntKind} {i : Int} (h0 : 0 ≤ i) (h1 : i < n) (k : K (.pointer (some ⟨b, o + i.toNat * sz, none⟩)) w) (hT : arrT P T n sz = true := by kernel_rfl) :
    Vl P (Instr.indexAt T (.pointer (some ⟨b, o, none⟩)) (.int kd i)) w K := Vl.i (run_ixA h0 h1 hT w) k
theorem Vl.ext {vs : Array Value} {i : Nat} {v : Value} (hv : vs[i]? = some v) (k : K v w) : Vl P (Instr.extract (.tuple vs) i) w K := by
  refine Vl.i ?_ k
  unfold Instr.extract
  simp only [hv]; rfl
end
end Go.Eng
namespace Go.Eng
open Go

theorem ba_beq (a b : ByteArray) : (a == b) = decide (a = b) := by
  by_cases h : a = b
  · subst h
    rw [decide_eq_true rfl]
    cases a with | mk d => 
    show (d == d) = true
    simp
  · rw [decide_eq_false h]
    cases a with | mk d => 
    cases b with | mk e => 
    show (d == e) = false
    have : d ≠ e := fun x => h (by rw [x])
    simpa using this

/-! ### Maps from texts to ints -/
def lookE (s : ByteArray) : List MapEntry → Option Int
  | [] => none
  | e :: es => match e.key, e.val with
    | .string k, .int .i64 n => if s = k then some n else lookE s es
    | _, _ => none
def goodE (e : MapEntry) : Prop := ∃ k n, e.key = .string k ∧ e.val = .int .i64 n
/-- Block b is a map that has these. -/
def Mp (w : World) (b : Nat) (f : ByteArray → Option Int) : Prop :=
  ∃ es clock, w.heap[b]? = some (.map es clock) ∧ (∀ e ∈ es.toList, goodE e) ∧ ∀ s, lookE s es.toList = f s
theorem Mp.lt {w : World} {b : Nat} {f : ByteArray → Option Int} (h : Mp w b f) : b < w.heap.size := by
  obtain ⟨es, c, h, _⟩ := h; exact (Array.getElem?_eq_some_iff.1 h).1
theorem Mp.chg {w w' : World} {S : Nat → Prop} {b : Nat} {f : ByteArray → Option Int} (h : Mp w b f) (c : Chg S w w') (hn : ¬ S b) : Mp w' b f := by
  obtain ⟨es, cl, hb, hr⟩ := id h
  exact ⟨es, cl, (c.same b h.lt hn).trans hb, hr⟩
theorem Mp.ext {w w' : World} {b : Nat} {f : ByteArray → Option Int} (h : Mp w b f) (c : Ext w w') : Mp w' b f := h.chg c id
theorem Mp.loopStep {l : Nat} {w1 w2 : World} {b : Nat} {f : ByteArray → Option Int} (h : Mp w1 b f) (s : LoopStep l w1 w2) : Mp w2 b f := by
  refine h.chg s.chg fun e => ?_
  subst e
  obtain ⟨r, hr⟩ := s.loop
  obtain ⟨es, c, h, _⟩ := h
  rw [h] at hr; cases hr
theorem Mp.same {w w' : World} {b : Nat} {f : ByteArray → Option Int} (h : Mp w b f) (e : w'.heap = w.heap) : Mp w' b f := by
  unfold Mp at *; rw [e]; exact h

def mapT (P : Program) (T : Nat) : Bool := match P.underlying T with
  | some (.map k e) => (match P.underlying k with | some .string => true | _ => false) && (match P.info? e with
    | some i => (match i.zero with | some (.int .i64 z) => decide (z = 0) | _ => false)
    | none => false)
  | _ => false

section
variable {P : Program} {w : World} {K : Value → World → Prop} {T : Nat}

theorem mapT_out (h : mapT P T = true) : ∃ k e, (∀ w, (underlying T).run P w = .ok (.map k e) w) ∧ (∀ w, (underlying k).run P w = .ok .string w) ∧ ∀ w, (zeroValue e).run P w = .ok (.int .i64 0) w := by
  unfold mapT at h
  split at h
  · rename_i k e hu
    simp only [Bool.and_eq_true] at h
    obtain ⟨h1, h2⟩ := h
    refine ⟨k, e, run_underlying' hu, ?_, ?_⟩
    · split at h1
      · rename_i hk; exact run_underlying' hk
      · cases h1
    · split at h2
      · rename_i i hi
        split at h2
        · rename_i z hz
          intro w
          have hz0 : z = 0 := by simpa using h2
          subst hz0
          unfold zeroValue typeInfo program
          simp [Sem.run_bind, Sem.run, hi, Result.andThen, hz]
        · cases h2
      · cases h2
  · cases h

theorem run_checkKey {k : Nat} {e : Bool} {s : ByteArray} (hk : ∀ w, (underlying k).run P w = .ok .string w) (w : World) : (Instr.checkKey e 10000 k (.string s)).run P w = .ok () w := by
  show (Instr.checkKey e (9999 + 1) k (.string s)).run P w = _
  unfold Instr.checkKey
  rw [Sem.run_bind, hk]; rfl

theorem findNow_look (s : ByteArray) : ∀ (es : List MapEntry) (i : Nat), (∀ e ∈ es, goodE e) →
    ∃ r, Instr.findNow .string (.string s) es i = some r ∧ (match r with
      | none => lookE s es = none
      | some (j, v) => ∃ n, v = .int .i64 n ∧ lookE s es = some n ∧ i ≤ j ∧ j < i + es.length ∧ (∃ e, es[j - i]? = some e ∧ e.key = .string s) ∧ ∀ e' ∈ es.take (j - i), e'.key ≠ .string s)
  | [], i, _ => ⟨none, rfl, rfl⟩
  | e :: es, i, h => by
    obtain ⟨k, n, hk, hv⟩ := h e (by simp)
    obtain ⟨r, hr, hs⟩ := findNow_look s es (i + 1) fun e he => h e (List.mem_cons_of_mem _ he)
    unfold Instr.findNow lookE
    rw [hk, hv]
    by_cases hsk : s = k
    · have e1 : Instr.sameNow .string (.string s) (.string k) = some true := by simp [Instr.sameNow, ba_beq, hsk]
      rw [e1]
      refine ⟨some (i, .int .i64 n), rfl, n, rfl, by simp [hsk], Nat.le_refl _, by simp, ⟨e, by simp, by rw [hk, hsk]⟩, by simp⟩
    · have e1 : Instr.sameNow .string (.string s) (.string k) = some false := by simp [Instr.sameNow, ba_beq, hsk]
      rw [e1]
      refine ⟨r, hr, ?_⟩
      simp only [if_neg hsk]
      cases r with
      | none => exact hs
      | some p =>
        obtain ⟨j, v⟩ := p
        obtain ⟨m, h1, h2, h3, h4, ⟨e', h5, h6⟩, h7⟩ := hs
        have hj : j - i = (j - (i + 1)) + 1 := by omega
        refine ⟨m, h1, h2, by omega, by simp; omega, ⟨e', by rw [hj]; simpa using h5, h6⟩, ?_⟩
        rw [hj, List.take_succ_cons]
        intro e'' he
        rcases List.mem_cons.1 he with rfl | he
        · rw [hk]; intro h; injection h with h; exact hsk h.symm
        · exact h7 _ he

theorem run_lookupM {f : ByteArray → Option Int} {b : Nat} {s : ByteArray} (h : Mp w b f) (hT : mapT P T = true) : (Instr.lookup T (.map (some b)) (.string s) false).run P w = .ok (.int .i64 ((f s).getD 0)) w := by
  obtain ⟨es, c, hb, hg, hf⟩ := h
  obtain ⟨k, e, h1, h2, h3⟩ := mapT_out hT
  obtain ⟨r, hr, hs⟩ := findNow_look s es.toList 0 hg
  have hobj : (getObj b).run P w = .ok (.map es c) w := by unfold getObj; simp [Sem.run, hb]
  have hfk : (Instr.findKey k (.string s) es.toList).run P w = .ok r w := by
    unfold Instr.findKey
    rw [Sem.run_bind, h2]; simp only [Result.andThen, hr]; rfl
  unfold Instr.lookup
  simp only [Sem.run_bind, h1, Result.andThen, hobj, Sem.run_pure, run_checkKey h2, hfk]
  cases r with
  | none =>
    simp only [Sem.run_bind, h3, Result.andThen, Sem.run_pure]
    rw [← hf s, hs]; rfl
  | some p =>
    obtain ⟨j, v⟩ := p
    obtain ⟨n, rfl, h5, _⟩ := hs
    rw [← hf s, h5]; rfl
theorem Vl.lookM {f : ByteArray → Option Int} {b : Nat} {s : ByteArray} (h : Mp w b f) (k : K (.int .i64 ((f s).getD 0)) w) (hT : mapT P T = true := by kernel_rfl) : Vl P (Instr.lookup T (.map (some b)) (.string s) false) w K := Vl.i (run_lookupM h hT) k
theorem VQ.lookM {S : World → Prop} {K : Value → Prop} {f : ByteArray → Option Int} {b : Nat} {s : ByteArray} (h : ∀ w, S w → Mp w b f) (k : K (.int .i64 ((f s).getD 0))) (hT : mapT P T = true := by kernel_rfl) :
    ValQ P S (Instr.lookup T (.map (some b)) (.string s) false) K := VQ.i (fun _ hw => run_lookupM (h _ hw) hT) k

theorem lookE_push {s x : ByteArray} {n : Int} {c : Nat} : ∀ (es : List MapEntry), (∀ e ∈ es, goodE e) → lookE s es = none → lookE x (es ++ [{ key := .string s, val := .int .i64 n, born := c }]) = if x = s then some n else lookE x es
  | [], _, _ => rfl
  | e :: es, h, hn => by
    obtain ⟨k, m, hk, hv⟩ := h e (by simp)
    have ih := lookE_push (s := s) (x := x) (n := n) (c := c) es (fun e he => h e (List.mem_cons_of_mem _ he))
    unfold lookE at hn
    rw [hk, hv] at hn
    simp only at hn
    by_cases hsk : s = k
    · rw [if_pos hsk] at hn; cases hn
    · rw [if_neg hsk] at hn
      rw [List.cons_append]
      unfold lookE
      rw [hk, hv]
      simp only
      rw [ih hn]
      by_cases hx : x = k
      · rw [if_pos hx, if_neg (fun e => hsk (e.symm.trans hx)), if_pos hx]
      · rw [if_neg hx, if_neg hx]
theorem lookE_modify {s x : ByteArray} {n : Int} : ∀ (es : List MapEntry) (j : Nat), (∀ e ∈ es, goodE e) → (∃ e, es[j]? = some e ∧ e.key = .string s) → (∀ e ∈ es.take j, e.key ≠ .string s) →
    lookE x (es.modify j fun e => { e with key := .string s, val := .int .i64 n }) = if x = s then some n else lookE x es
  | [], j, _, h, _ => by obtain ⟨e, h, _⟩ := h; simp at h
  | e :: es, 0, h, he, _ => by
    obtain ⟨e', h1, h2⟩ := he
    have : e' = e := by simpa using h1.symm
    subst this
    obtain ⟨k, m, hk, hv⟩ := h e' (by simp)
    rw [hk] at h2; injection h2 with h2; subst h2
    rw [List.modify_zero_cons]
    unfold lookE
    rw [hk, hv]
    simp only
    by_cases hx : x = k
    · rw [if_pos hx, if_pos hx]
    · rw [if_neg hx, if_neg hx, if_neg hx]
  | e :: es, j + 1, h, he, hn => by
    obtain ⟨k, m, hk, hv⟩ := h e (by simp)
    have hks : k ≠ s := fun e' => hn e (by simp) (by rw [hk, e'])
    have ih := lookE_modify (s := s) (x := x) (n := n) es j (fun e he => h e (List.mem_cons_of_mem _ he)) (by simpa using he) (fun e he => hn e (by rw [List.take_succ_cons]; exact List.mem_cons_of_mem _ he))
    rw [List.modify_succ_cons]
    unfold lookE
    rw [hk, hv]
    simp only
    rw [ih]
    by_cases hx : x = k
    · rw [if_pos hx, if_pos hx, if_neg (fun e => hks (hx.symm.trans e))]
    · rw [if_neg hx, if_neg hx]

theorem Ef.updM {f : ByteArray → Option Int} {b : Nat} {s : ByteArray} {n : Int} {K : World → Prop} (h : Mp w b f) (k : ∀ w', Chg (· = b) w w' → w'.heap.size = w.heap.size → (∀ x, x ≠ b → w'.heap[x]? = w.heap[x]?) → Mp w' b (fun x => if x = s then some n else f x) → K w')
    (hT : mapT P T = true := by kernel_rfl) : Ef P (Instr.mapUpdate T (.map (some b)) (.string s) (.int .i64 n)) w K := by
  obtain ⟨es, c, hb, hg, hf⟩ := h
  obtain ⟨kt, e, h1, h2, h3⟩ := mapT_out hT
  obtain ⟨r, hr, hs⟩ := findNow_look s es.toList 0 hg
  have hlt : b < w.heap.size := (Array.getElem?_eq_some_iff.1 hb).1
  have hobj : (getObj b).run P w = .ok (.map es c) w := by unfold getObj; simp [Sem.run, hb]
  have hfk : (Instr.findKey kt (.string s) es.toList).run P w = .ok r w := by
    unfold Instr.findKey
    rw [Sem.run_bind, h2]; simp only [Result.andThen, hr]; rfl
  have hset : ∀ o, (setObj b o).run P w = .ok () (w.putObj b o) := fun o => by unfold setObj; simp [Sem.run, hb, World.putObj]
  have fin : ∀ es' c', (∀ e ∈ es'.toList, goodE e) → (∀ x, lookE x es'.toList = if x = s then some n else f x) → K (w.putObj b (.map es' c')) := fun es' c' h1 h2 =>
    k _ ⟨rfl, rfl, rfl, by simp, fun x _ hx => World.putObj_heap_other hx⟩ (by simp) (fun x hx => World.putObj_heap_other hx) ⟨es', c', World.putObj_heap_same hlt, h1, h2⟩
  unfold Ef Eff
  unfold Instr.mapUpdate
  simp only [Sem.run_bind, h1, Result.andThen, hobj, run_checkKey h2, hfk]
  cases r with
  | none =>
    simp only [hset]
    refine ⟨_, rfl, fin _ _ ?_ ?_⟩
    · intro e he
      simp only [Array.toList_push, List.mem_append, List.mem_singleton] at he
      rcases he with he | rfl
      · exact hg e he
      · exact ⟨s, n, rfl, rfl⟩
    · intro x
      rw [Array.toList_push, lookE_push es.toList hg hs, hf]
  | some p =>
    obtain ⟨j, v⟩ := p
    obtain ⟨m, rfl, h5, h6, h7, ⟨e', h8, h9⟩, h10⟩ := hs
    have hj : es[j]? = some e' := by simpa using h8
    have hks : (Instr.keyThatStays (((es[j]?).map (·.key)).getD (.string s)) (.string s)).run P w = .ok (.string s) w := by
      rw [hj]
      unfold Instr.keyThatStays
      have : Instr.sameBits 10000 (.string s) (.string s) = true := by show Instr.sameBits (9999 + 1) _ _ = true; simp [Instr.sameBits, ba_beq]
      simp only [Option.map_some, Option.getD_some, h9, this, if_true]; rfl
    simp only [Sem.run_bind, hks, Result.andThen, hset]
    refine ⟨_, rfl, fin _ _ ?_ ?_⟩
    · intro e he
      rw [Array.toList_modify] at he
      obtain ⟨i, hi⟩ := List.mem_iff_getElem?.1 he
      rw [List.getElem?_modify] at hi
      split at hi
      · cases hx : es.toList[i]? with
        | none => rw [hx] at hi; cases hi
        | some y => rw [hx] at hi; cases hi; exact ⟨s, n, rfl, rfl⟩
      · have hi : es.toList[i]? = some e := by simpa using hi
        exact hg e (List.mem_of_getElem? hi)
    · intro x
      rw [Array.toList_modify, lookE_modify es.toList j hg ⟨e', by simpa using h8, h9⟩ (by simpa using h10), hf]
end
end Go.Eng
namespace Go.Eng
open Go
/-! ### Structs and arrays, whole -/
def aggB (P : Program) (T n : Nat) : Bool := (match P.underlying T with | some (.struct _) | some (.array ..) => true | _ => false) && szT P T n
section
variable {P : Program} {w : World} {K : Value → World → Prop} {T : Nat}
theorem run_isAggT {n : Nat} (h : aggB P T n = true) (w : World) : (isAgg T).run P w = .ok true w := by
  unfold aggB at h
  simp only [Bool.and_eq_true] at h
  have h := h.1
  unfold isAgg
  split at h
  · rename_i d hu; rw [Sem.run_bind, run_underlying' hu]; rfl
  · rename_i d hu; rw [Sem.run_bind, run_underlying' hu]; rfl
  · cases h
/-- an element of an array's value, of one cell -/
def arr1T (P : Program) (T n : Nat) : Bool := match P.underlying T with
  | some (.array m E) => Nat.beq m n && szT P E 1 && aggT P E
  | _ => false
theorem Vl.ixV {cs : Array Value} {kd : IntKind} (n : Nat) {i : Nat} {v : Value} (hi : i < n) (hv : cs[i]? = some v) (k : K v w) (hT : arr1T P T n = true := by kernel_rfl) :
    Vl P (Instr.index T (.agg cs) (.int kd i)) w K := by
  refine Vl.i (w' := w) ?_ k
  unfold arr1T at hT
  split at hT
  · rename_i m E hu
    simp only [Bool.and_eq_true] at hT
    have e := Nat.eq_of_beq_eq_true hT.1.1
    subst e
    have hu := run_underlying' hu
    unfold Instr.index asIntOf
    simp only [Sem.run_bind, Sem.run_pure, Result.andThen, hu]
    rw [if_pos ⟨by omega, by omega⟩]
    simp only [Sem.run_bind, run_sizeOf hT.1.2, Result.andThen, Int.toNat_natCast, Nat.mul_one]
    unfold part
    simp only [Sem.run_bind, run_isAgg hT.2, Result.andThen, Bool.false_eq_true, if_false, hv]
    rfl
  · cases hT
theorem add_off (b o j : Nat) : (⟨b, o, none⟩ : Addr).add j = ⟨b, o + j, none⟩ := by
  unfold Addr.add; split
  · rename_i h; subst h; rfl
  · rfl
theorem run_loadCellsFrom {b o E : Nat} {cs : List Value} (h : Cl w b E cs) : ∀ (n i : Nat) (acc : Array Value), o + i + n ≤ cs.length →
    (loadCellsFrom ⟨b, o, none⟩ i n acc).run P w = .ok (acc ++ ((cs.drop (o + i)).take n).toArray) w
  | 0, i, acc, _ => by simp [loadCellsFrom]
  | n + 1, i, acc, hle => by
    have hc : cs[o + i]? = some (cs[o + i]'(by omega)) := by simp
    unfold loadCellsFrom
    have hl : (load (⟨b, o + i, none⟩ : Addr)).run P w = .ok (cs[o + i]'(by omega)) w := by unfold load; simp only [Sem.run, h.cell hc]
    rw [add_off, Sem.run_bind, hl]
    simp only [Result.andThen]
    rw [run_loadCellsFrom h n (i + 1) _ (by omega)]
    congr 1
    rw [List.drop_eq_getElem_cons (by omega : o + i < cs.length), List.take_succ_cons]
    apply Array.ext'
    simp [Nat.add_assoc]
theorem run_loadAgg {b o E n : Nat} {cs : List Value} (h : Cl w b E cs) (hle : o + n ≤ cs.length) (hT : aggB P T n = true) :
    (Instr.loadAt T (.pointer (some ⟨b, o, none⟩))).run P w = .ok (.agg ((cs.drop o).take n).toArray) w := by
  have hs : szT P T n = true := by unfold aggB at hT; simp only [Bool.and_eq_true] at hT; exact hT.2
  unfold Instr.loadAt Instr.sureAddr loadVar loadCells
  simp only [Sem.run_bind, Sem.run_pure, Result.andThen, run_isAggT hT]
  simp only [if_true, Sem.run_bind, run_sizeOf hs, Result.andThen]
  rw [run_loadCellsFrom h n 0 #[] (by omega)]
  simp
theorem Vl.ldA {b o E : Nat} (n : Nat) {cs : List Value} (h : Cl w b E cs) (hle : o + n ≤ cs.length) (k : K (.agg ((cs.drop o).take n).toArray) w) (hT : aggB P T n = true := by kernel_rfl) :
    Vl P (Instr.loadAt T (.pointer (some ⟨b, o, none⟩))) w K := Vl.i (run_loadAgg h hle hT) k
theorem Rs.ldA {b o E : Nat} (n : Nat) {cs : List Value} {K : Value → Prop} (h : Cl w b E cs) (hle : o + n ≤ cs.length) (k : K (.agg ((cs.drop o).take n).toArray)) (hT : aggB P T n = true := by kernel_rfl) :
    Rs P (Instr.loadAt T (.pointer (some ⟨b, o, none⟩))) w K := Rs.i (run_loadAgg h hle hT) k

theorem run_storeCells {b o E : Nat} : ∀ (vs : List Value) (i : Nat) (w : World) (cs : List Value), Cl w b E cs → o + i + vs.length ≤ cs.length → (∀ v ∈ vs, One v) →
    ∃ w', (storeCells ⟨b, o, none⟩ vs i).run P w = .ok () w' ∧ Upd w w' b E (cs.take (o + i) ++ vs ++ cs.drop (o + i + vs.length))
  | [], i, w, cs, h, _, _ => ⟨w, rfl, rfl, rfl, rfl, rfl, by simpa using h, fun _ _ => rfl⟩
  | v :: vs, i, w, cs, h, hle, h1 => by
    simp only [List.length_cons] at hle
    have hv := h1 v (by simp)
    have hst := run_store_one (P := P) (i := o + i) hv h (by omega)
    have hu := upd_setCell (i := o + i) v h
    obtain ⟨w', hr, hu'⟩ := run_storeCells (o := o) vs (i + 1) _ _ hu.cl (by simp; omega) (fun v hv => h1 v (List.mem_cons_of_mem _ hv))
    refine ⟨w', ?_, hu'.os.trans hu.os, hu'.tape.trans hu.tape, hu'.output.trans hu.output, hu'.size.trans hu.size, ?_, fun k hk => (hu'.same k hk).trans (hu.same k hk)⟩
    · unfold storeCells
      rw [add_off, Sem.run_bind, hst]; exact hr
    · have := hu'.cl
      have e : (cs.set (o + i) v).take (o + (i + 1)) ++ vs ++ (cs.set (o + i) v).drop (o + (i + 1) + vs.length) = cs.take (o + i) ++ v :: vs ++ cs.drop (o + i + (v :: vs).length) := by
        have e1 : (cs.set (o + i) v).take (o + (i + 1)) = cs.take (o + i) ++ [v] := by
          apply List.ext_getElem?; intro j
          simp only [List.getElem?_take, List.getElem?_set, List.getElem?_append, List.length_take]
          by_cases h1 : j < o + i
          · rw [if_pos (by omega), if_neg (by omega), if_pos (by omega), if_pos h1]
          · by_cases h2 : j = o + i
            · subst h2
              have e : min (o + i) cs.length = o + i := by omega
              rw [if_pos (by omega), if_pos rfl, if_pos (by omega), e, if_neg (by omega)]
              simp
            · rw [if_neg (by omega), if_neg (by omega)]
              rw [List.getElem?_eq_none (by simp; omega)]
        have e2 : (cs.set (o + i) v).drop (o + (i + 1) + vs.length) = cs.drop (o + i + (v :: vs).length) := by
          rw [List.drop_set_of_lt (by omega)]
          congr 1; simp; omega
        rw [e1, e2]; simp
      rw [e] at this; exact this
theorem Ef.setA {b o E n : Nat} {cs : List Value} {vs : Array Value} {K : World → Prop} (h : Cl w b E cs) (hn : vs.size = n) (hle : o + n ≤ cs.length) (h1 : ∀ v ∈ vs.toList, One v)
    (k : ∀ w', Upd w w' b E (cs.take o ++ vs.toList ++ cs.drop (o + n)) → K w') (hT : szT P T n = true := by kernel_rfl) : Ef P (Instr.storeAt T (.pointer (some ⟨b, o, none⟩)) (.agg vs)) w K := by
  obtain ⟨w', hr, hu⟩ := run_storeCells (P := P) (o := o) vs.toList 0 w cs h (by simp; omega) h1
  refine Ef.i (w' := w') ?_ (k w' (by simpa [hn] using hu))
  unfold Instr.storeAt Instr.sureAddr storeVar
  simp only [Sem.run_bind, Sem.run_pure, Result.andThen, run_sizeOf hT]
  have : (Value.agg vs).cells.size = n := hn
  rw [if_neg (by rw [this]; simp)]
  exact hr
end
end Go.Eng
namespace Go.Eng
open Go
section
variable {P : Program} {w : World} {K : Value → World → Prop} {T : Nat}

theorem foldl_fill : ∀ (l : List Value) (k : Nat) (cs : Array Value), ((l.zipIdx k).foldl (fun cs (c, j) => cs.setIfInBounds (0 + j) c) cs).size = cs.size ∧
    ∀ i, ((l.zipIdx k).foldl (fun cs (c, j) => cs.setIfInBounds (0 + j) c) cs)[i]? = if k ≤ i ∧ i < k + l.length ∧ i < cs.size then l[i - k]? else cs[i]?
  | [], k, cs => ⟨rfl, fun i => by rw [if_neg (by simp; omega)]; rfl⟩
  | c :: l, k, cs => by
    obtain ⟨h1, h2⟩ := foldl_fill l (k + 1) (cs.setIfInBounds (0 + k) c)
    rw [List.zipIdx_cons, List.foldl_cons]
    refine ⟨h1.trans (by simp), fun i => (h2 i).trans ?_⟩
    simp only [Array.size_setIfInBounds, List.length_cons, Nat.zero_add]
    by_cases h : i = k
    · subst h
      rw [if_neg (by omega)]
      by_cases hs : i < cs.size
      · rw [if_pos ⟨by omega, by omega, hs⟩]; simp [hs]
      · rw [if_neg (by omega)]
        rw [Array.getElem?_eq_none (by simp; omega), Array.getElem?_eq_none (by omega)]
    · have hk : (cs.setIfInBounds k c)[i]? = cs[i]? := Array.getElem?_setIfInBounds_ne (fun e => h e.symm)
      rw [hk]
      by_cases hc : k + 1 ≤ i ∧ i < k + 1 + l.length ∧ i < cs.size
      · rw [if_pos hc, if_pos (by omega)]
        have e : i - k = (i - (k + 1)) + 1 := by omega
        rw [e, List.getElem?_cons_succ]
      · rw [if_neg hc, if_neg (by omega)]
theorem run_buildSlice1 {E sz : Nat} {v : Value} (hT : slB P T E sz = true) (hv : v.cells.size = sz) (hs : sz ≤ 1000) : (Instr.buildSlice T 1 #[(0, v)]).run P w = .ok (.slice (some ⟨w.heap.size, 0, none⟩) 1 1) (w.alloc (.cells v.cells E)) := by
  obtain ⟨by_, i, z, h, _⟩ := SlT.of hT
  have hu := run_underlying' h.under
  have hsz : ∀ w, (sizeOf E).run P w = .ok sz w := run_sizeOf (by unfold szT; rw [h.info]; show Nat.beq i.size sz = true; rw [h.size]; exact Nat.beq_refl sz)
  have hz : ∀ w, (zeroValue E).run P w = .ok z w := fun w => by
    unfold zeroValue typeInfo program
    simp [Sem.run_bind, Sem.run, h.info, Result.andThen, h.zero]
  have hpos := h.pos
  unfold Instr.buildSlice
  simp only [Sem.run_bind, hu, Result.andThen, hsz]
  rw [if_neg (by omega)]
  rw [if_neg (by omega)]
  simp only [Sem.run_bind, hz, Result.andThen, Sem.run_pure]
  have hf : Instr.fill (fun i => some (i * sz, sz)) ((Array.range (1 * sz)).map (z.cells[· % z.cells.size]!)) [(0, v)] = some v.cells := by
    unfold Instr.fill
    have e1 : (v.cells.size ≠ sz || 0 * sz + v.cells.size > ((Array.range (1 * sz)).map (z.cells[· % z.cells.size]!)).size) = false := by simp [hv]
    simp only [e1, Bool.false_eq_true, if_false, Instr.fill]
    congr 1
    rw [← Array.foldl_toList, Array.toList_zipIdx]
    obtain ⟨h1, h2⟩ := foldl_fill v.cells.toList 0 ((Array.range (1 * sz)).map (z.cells[· % z.cells.size]!))
    have e0 : (0 * sz) = 0 := by omega
    rw [e0]
    apply Array.ext_getElem?
    intro i
    rw [h2 i]
    by_cases hi : i < sz
    · rw [if_pos ⟨by omega, by simp; omega, by simp; omega⟩]; simp
    · rw [if_neg (by simp; omega), Array.getElem?_eq_none (by simp; omega), Array.getElem?_eq_none (by omega)]
  rw [hf]
  rfl
/-- a slice of one -/
theorem Vl.bs1 {E sz : Nat} {v : Value} (hv : v.cells.size = sz) (k : ∀ w', Nw w w' (.cells v.cells E) → K (.slice (some ⟨w.heap.size, 0, none⟩) 1 1) w') (hs : sz ≤ 1000 := by omega) (hT : slB P T E sz = true := by kernel_rfl) :
    Vl P (Instr.buildSlice T 1 #[(0, v)]) w K := Vl.i (run_buildSlice1 hT hv hs) (k _ (nw_alloc w _))
theorem Vl.bs0 {E sz : Nat} (k : ∀ w', Nw w w' (.cells #[] E) → K (.slice (some ⟨w.heap.size, 0, none⟩) 0 0) w') (hT : slB P T E sz = true := by kernel_rfl) :
    Vl P (Instr.buildSlice T 0 #[]) w K := by
  obtain ⟨by_, i, z, h, _⟩ := SlT.of hT
  have hu := run_underlying' h.under
  have hsz : ∀ w, (sizeOf E).run P w = .ok sz w := run_sizeOf (by unfold szT; rw [h.info]; show Nat.beq i.size sz = true; rw [h.size]; exact Nat.beq_refl sz)
  refine Vl.i (w' := w.alloc (.cells #[] E)) ?_ (k _ (nw_alloc w _))
  unfold Instr.buildSlice
  simp only [Sem.run_bind, hu, Result.andThen, hsz]
  rw [if_neg (by omega)]
  rw [if_pos (by omega)]
  have hf : Instr.fill (fun i => some (i * sz, sz)) ((Array.range (0 * sz)).map (fun x => (#[] : Array Value)[x % (#[] : Array Value).size]!)) [] = some #[] := by
    unfold Instr.fill; simp
  simp only [Sem.run_bind, Result.andThen]
  rw [Sem.run_pure]
  simp only []
  rw [hf]
  rfl

/-- a slice against nil -/
theorem bo_nil {x y : Operand} {a : Option Addr} {n c : Nat} (hT : slT P T = true) : (binop .eql T x y (.slice a n c) (.slice none 0 0)).run P w = .ok (.bool a.isNone) w := by
  unfold slT at hT
  split at hT
  · rename_i E hu
    have hu := run_underlying' hu
    have he : (Op.equal T (.slice a n c) (.slice none 0 0)).run P w = .ok a.isNone w := by
      show (Op.equalIn (9999 + 1) T _ _).run P w = _
      unfold Op.equalIn
      rw [Sem.run_bind, hu]
      cases a <;> rfl
    show (do eqGuard .eql T x y (.slice a n c) (.slice none 0 0); binOp .eql T (.slice a n c) (.slice none 0 0) : Sem Value).run P w = _
    rw [Sem.run_bind]
    have hg : (eqGuard .eql T x y (.slice a n c) (.slice none 0 0)).run P w = .ok () w := by
      unfold eqGuard; rfl
    rw [hg]
    simp only [Result.andThen]
    show (do pure (.bool (← Op.equal T (.slice a n c) (.slice none 0 0))) : Sem Value).run P w = _
    rw [Sem.run_bind, he]
    rfl
  · cases hT
theorem Vl.nil {x y : Operand} {a : Option Addr} {n c : Nat} (k : K (.bool a.isNone) w) (hT : slT P T = true := by kernel_rfl) : Vl P (binop .eql T x y (.slice a n c) (.slice none 0 0)) w K := Vl.i (bo_nil hT) k
end
end Go.Eng
namespace Go.Eng
open Go
section
variable {P : Program} {w : World} {K : Value → World → Prop} {T : Nat}
/-- append of nothing -/
theorem run_append_none {E sz ty n : Nat} {v : Value} {cs : List Value} (h : Row w E sz v n cs) (hT : slB P T E sz = true) : (Builtin.append_ #[T, T] ty #[v, .slice none 0 0]).run P w = .ok v w := by
  obtain ⟨by_, i, z, hs, _⟩ := SlT.of hT
  rcases h.2 with ⟨a, rfl, rfl⟩ | ⟨g, cap, full, rfl, _, hle, _⟩
  · cases a <;> simp [Builtin.append_, run_underlying hs.under, sizeOf, typeInfo, hs.info, Builtin.lenOf, Builtin.firstCells, storeCells]
  · simp [Builtin.append_, run_underlying hs.under, sizeOf, typeInfo, hs.info, Builtin.lenOf, Builtin.firstCells, storeCells, hle]
/-- append of a row's elements -/
theorem Vl.appRow {E sz ty n m : Nat} {v s : Value} {cs news : List Value} (h : Row w E sz v n cs) (hn : Row w E sz s m news) (h1 : ∀ u ∈ news, u.oneCell' = true) (hb : n + m ≤ 100000000)
    (k : ∀ v' w', Row w' E sz v' (n + m) (cs ++ news) → Chg (fun k => blk v = some k) w w' → (∀ k, blk v' = some k → blk v = some k ∨ (w.heap.size ≤ k ∧ k < w'.heap.size)) → ((∃ a, v = .slice a 0 0) → ∀ k, blk v' = some k → w.heap.size ≤ k) → K v' w')
    (hT : slB P T E sz = true := by kernel_rfl) : Vl P (Builtin.append_ #[T, T] ty #[v, s]) w K := by
  have hbound : ∀ by_, by_ ≤ 1000 → (n + m) * by_ ≤ 140737488355328 := fun by_ hb1 => by
    calc (n + m) * by_ ≤ 100000000 * 1000 := Nat.mul_le_mul hb hb1
      _ ≤ 140737488355328 := by omega
  obtain ⟨by_, i, z, hs, hb1, hb2⟩ := SlT.of hT
  rcases hn.2 with ⟨a, rfl, rfl⟩ | ⟨g, cap, full, rfl, hcl, hle, hc, _, hfl, htk⟩
  · have hnil : news = [] := List.eq_nil_of_length_eq_zero (by simpa using hn.1)
    subst hnil
    cases a with
    | none =>
      refine Vl.i (run_append_none h hT) (k v w (by simpa using h) (Chg.refl _ _) (fun x hx => .inl hx) ?_)
      rintro ⟨a, rfl⟩ x hx
      cases a <;> cases hx
    | some a => exact Vl.append hs h (by simp) (fun j u hu => by simp at hu) h1 (hbound _ hb1) hb2 k
  · refine Vl.append hs h hn.1 (fun j u hu => ?_) h1 (hbound _ hb1) hb2 k
    rw [add_off, Nat.zero_add]; exact hn.cell hu
/-- slices.Clone's two ways: of nil nothing; else an append onto an empty row. -/
theorem clone_vc {E sz ty m : Nat} {s : Value} {x y : Operand} {news : List Value} (hn : Row w E sz s m news) (h1 : ∀ u ∈ news, u.oneCell' = true) (hb : m ≤ 100000000)
    (k : ∀ v' w', Row w' E sz v' m news → Ext w w' → (∀ k, blk v' = some k → w.heap.size ≤ k) → K v' w') (hT : slB P T E sz = true := by kernel_rfl) (hS : slT P T = true := by kernel_rfl) :
    Vl P (binop BinOp.eql T x y s (Value.slice none 0 0)) w fun v4 wa => Cond v4 (K (Value.slice none 0 0) wa)
      (Vl P (Instr.buildSlice T 0 #[]) wa fun v5 wb => Vl P (Builtin.append_ #[T, T] ty #[v5, s]) wb fun v7 wc => K v7 wc) := by
  obtain ⟨a, c, rfl, ha⟩ := hn.val
  refine Vl.nil (Cond_bool (fun h => ?_) (fun h => ?_)) hS
  · cases a with
    | some a => cases h
    | none =>
      have hm : m = 0 := by
        cases m with
        | zero => rfl
        | succ m => obtain ⟨g, hg⟩ := ha (by omega); cases hg
      subst hm
      have hnil : news = [] := List.eq_nil_of_length_eq_zero (by simpa using hn.1)
      subst hnil
      exact k _ _ (Row.nil _ _ _) (Chg.refl _ _) (fun x hx => by cases hx)
  · refine Vl.bs0 (E := E) (sz := sz) (fun w1 h1' => ?_) hT
    refine Vl.appRow (n := 0) (cs := []) ⟨by simp, .inl ⟨_, rfl, rfl⟩⟩ (hn.ext h1'.ext) h1 (by omega) (fun v' w' hr hc _ hnew => ?_) hT
    have hE : Ext w1 w' := hc.mono fun x _ e => by cases e
    refine k v' w' (by simpa using hr) (h1'.ext.then hE) fun x hx => ?_
    have := hnew ⟨_, rfl⟩ x hx
    rw [h1'.size] at this; omega
end
end Go.Eng
namespace Go.Eng
open Go
section
variable {P : Program} {w : World} {K : Value → World → Prop} {T : Nat}
/-- a slice's piece -/
theorem run_slc {E sz n c : Nat} {a : Option Addr} {lo hi : Option Value} {l h : Nat} (hT : slB P T E sz = true) (hl : lo = none ∧ l = 0 ∨ lo = some (.int .i64 l)) (hh : hi = none ∧ h = n ∨ hi = some (.int .i64 h)) (h1 : l ≤ h) (h2 : h ≤ c) (w : World) :
    (Instr.sliceAt T (.slice a n c) lo hi none).run P w = .ok (.slice (if c = l then a else a.map (·.add (l * sz))) (h - l) (c - l)) w := by
  obtain ⟨by_, i, z, hs, _⟩ := SlT.of hT
  have hu := run_underlying' hs.under
  have hsz : ∀ w, (sizeOf E).run P w = .ok sz w := run_sizeOf (by unfold szT; rw [hs.info]; show Nat.beq i.size sz = true; rw [hs.size]; exact Nat.beq_refl sz)
  have b1 : ∀ (x y : Nat) (c : BoundsCode), x ≤ y → ∀ w, (Instr.sliceBound (.int .i64 x) y c).run P w = .ok x w := fun x y c hxy w => by
    unfold Instr.sliceBound asIntOf
    simp only [Sem.run_bind, Sem.run_pure, Result.andThen]
    rw [if_pos ⟨by omega, by omega⟩]; rfl
  unfold Instr.sliceAt
  rw [Sem.run_bind, hu]
  simp only [Result.andThen]
  unfold Instr.slice
  rw [Sem.run_bind, hu]
  simp only [Result.andThen, Instr.sliceBounds]
  rcases hl with ⟨rfl, rfl⟩ | rfl <;> rcases hh with ⟨rfl, rfl⟩ | rfl <;> simp [Sem.run_bind, Result.andThen, b1, h1, h2, hsz]
theorem Vl.slc {E sz n c : Nat} {a : Option Addr} {lo hi : Option Value} (l h : Nat) (hl : lo = none ∧ l = 0 ∨ lo = some (.int .i64 l)) (hh : hi = none ∧ h = n ∨ hi = some (.int .i64 h)) (h1 : l ≤ h) (h2 : h ≤ c)
    (k : K (.slice (if c = l then a else a.map (·.add (l * sz))) (h - l) (c - l)) w) (hT : slB P T E sz = true := by kernel_rfl) : Vl P (Instr.sliceAt T (.slice a n c) lo hi none) w K := Vl.i (run_slc hT hl hh h1 h2 w) k
/-- a row's head -/
theorem Row.take {E sz n : Nat} {v : Value} {cs : List Value} (h : Row w E sz v n cs) {m : Nat} (hm : m ≤ n) {a : Option Addr} {c : Nat} (hv : v = .slice a n c) : Row w E sz (.slice a m c) m (cs.take (m * sz)) := by
  have hms : m * sz ≤ n * sz := Nat.mul_le_mul_right _ hm
  rcases h.2 with ⟨a', e, rfl⟩ | ⟨g, cap, full, e, hcl, h1, h2, h3, h4, h5⟩
  · rw [hv] at e; cases e
    have : m = 0 := by omega
    subst this
    exact ⟨by simp, .inl ⟨_, rfl, rfl⟩⟩
  · rw [hv] at e; cases e
    refine ⟨by rw [List.length_take, h.1]; omega, .inr ⟨g, _, full, rfl, hcl, by omega, h2, h3, h4, ?_⟩⟩
    rw [← h5, List.take_take, Nat.min_eq_left hms]
theorem blk_take {a : Option Addr} {n m c : Nat} : blk (.slice a n c) = blk (.slice a m c) := by cases a <;> cases c <;> rfl
theorem run_slcTake {E sz n c m : Nat} {a : Option Addr} (hT : slB P T E sz = true) (h2 : m ≤ c) (ha : ∀ x, a = some x → ∃ g, x = ⟨g, 0, none⟩) (w : World) :
    (Instr.sliceAt T (.slice a n c) none (some (.int .i64 m)) none).run P w = .ok (.slice a m c) w := by
  rw [run_slc (l := 0) (h := m) hT (.inl ⟨rfl, rfl⟩) (.inr rfl) (by omega) h2 w]
  congr 2
  split
  · rfl
  · cases a with
    | none => rfl
    | some x => rw [Nat.zero_mul]; show some (x.add 0) = _; obtain ⟨b, o, s⟩ := x; cases s <;> simp [Addr.add]
theorem Row.le {E sz n c : Nat} {a : Option Addr} {cs : List Value} (h : Row w E sz (.slice a n c) n cs) : n ≤ c := by
  rcases h.2 with ⟨a', e, rfl⟩ | ⟨g, cap, full, e, hcl, h1, h2, h3, h4, h5⟩
  · omega
  · cases e; exact h1
theorem Vl.take {E sz n c : Nat} {a : Option Addr} {cs : List Value} (h : Row w E sz (.slice a n c) n cs) {m : Nat} (hm : m ≤ n) (k : K (.slice a m c) w) (hT : slB P T E sz = true := by kernel_rfl) : Vl P (Instr.sliceAt T (.slice a n c) none (some (.int .i64 m)) none) w K := by
  refine Vl.i (w' := w) ?_ k
  rcases h.2 with ⟨a', e, rfl⟩ | ⟨g, cap, full, e, hcl, h1, h2, h3, h4, h5⟩
  · cases e
    have : m = 0 := by omega
    subst this
    rw [run_slc (l := 0) (h := 0) hT (.inl ⟨rfl, rfl⟩) (.inr rfl) (by omega) (by omega) w]
    rfl
  · cases e
    exact run_slcTake hT (by omega) (fun x hx => by cases hx; exact ⟨_, rfl⟩) w
theorem Pv.take {K : Value → Prop} {E sz n c : Nat} {a : Option Addr} {cs : List Value} (h : Row w E sz (.slice a n c) n cs) {m : Nat} (hm : m ≤ n) (k : K (.slice a m c)) (hT : slB P T E sz = true := by kernel_rfl) : Pv P (Instr.sliceAt T (.slice a n c) none (some (.int .i64 m)) none) K := by
  refine Pv.i (v := .slice a m c) (fun w => ?_) k
  rcases h.2 with ⟨a', e, rfl⟩ | ⟨g, cap, full, e, hcl, h1, h2, h3, h4, h5⟩
  · cases e
    have : m = 0 := by omega
    subst this
    rw [run_slc (l := 0) (h := 0) hT (.inl ⟨rfl, rfl⟩) (.inr rfl) (by omega) (by omega) w]
    rfl
  · cases e
    exact run_slcTake hT (by omega) (fun x hx => by cases hx; exact ⟨_, rfl⟩) w
end
end Go.Eng
