/- Part of the proof of a law of this seat: facts that it uses, each proved here. No conditions. -/
import Derived.Test.YtcapooghkabloaaDoorIter
import Derived.KernelRfl
namespace Go.Eng
open Go

/-- A number on a loop's list: for measures. -/
def intAt (l : List Value) (k : Nat) : Int :=
  match l[k]? with
  | some (.int _ i) => i
  | _ => 0

/-! ### Steps whose facts on types are reckoned in place -/
def ixB (P : Program) (T sz : Nat) : Bool :=
  match P.underlying T with
  | some (.slice E) => match P.info? E with
    | some i => Nat.beq i.size sz
    | none => false
  | _ => false
def slB (P : Program) (T E sz : Nat) : Bool :=
  match P.underlying T, P.info? E with
  | some (.slice E'), some i => Nat.beq E' E && Nat.beq i.size sz && Nat.ble i.bytes 1000 && Nat.blt 0 i.bytes && Nat.blt 0 sz && (match i.zero with
    | some z => Nat.beq z.cells.size sz
    | none => false)
  | _, _ => false
def slT (P : Program) (T : Nat) : Bool := match P.underlying T with | some (.slice _) => true | _ => false
def strT (P : Program) (T : Nat) : Bool := match P.underlying T with | some .string => true | _ => false
def aggT (P : Program) (T : Nat) : Bool := match P.underlying T with | some (.struct _) | some (.array ..) => false | some _ => true | none => false
def szT (P : Program) (T n : Nat) : Bool := match P.info? T with | some i => Nat.beq i.size n | none => false

section
variable {P : Program} {w : World} {K : Value → World → Prop} {T : Nat}
theorem run_isAgg (h : aggT P T = true) : ∀ w, (isAgg T).run P w = .ok false w := by
  intro w
  unfold aggT at h
  have hu : ∀ d, P.underlying T = some d → (underlying T).run P w = .ok d w := fun d hd => by unfold underlying program; simp [Sem.run_bind, Sem.run, hd, Result.andThen]
  cases hd : P.underlying T with
  | none => rw [hd] at h; cases h
  | some d =>
    unfold isAgg
    rw [Sem.run_bind, hu d hd]
    rw [hd] at h
    cases d <;> first | rfl | cases h
theorem run_sizeOf {n : Nat} (h : szT P T n = true) : ∀ w, (sizeOf T).run P w = .ok n w := by
  intro w
  unfold szT at h
  cases hi : P.info? T with
  | none => rw [hi] at h; cases h
  | some i =>
    rw [hi] at h
    have := Nat.eq_of_beq_eq_true h
    unfold sizeOf typeInfo program
    simp [Sem.run_bind, Sem.run, hi, Result.andThen, this]
theorem SlT.of {E sz : Nat} (h : slB P T E sz = true) : ∃ by_ i z, SlT P T E sz by_ i z ∧ by_ ≤ 1000 ∧ 0 < by_ := by
  unfold slB at h
  split at h
  · rename_i E' i hu hi
    simp only [Bool.and_eq_true] at h
    obtain ⟨⟨⟨⟨⟨h1, h2⟩, h3⟩, h4⟩, h5⟩, h6⟩ := h
    cases hz : i.zero with
    | none => rw [hz] at h6; cases h6
    | some z =>
      rw [hz] at h6
      have e1 := Nat.eq_of_beq_eq_true h1
      subst e1
      exact ⟨i.bytes, i, z, ⟨hu, hi, hz, Nat.eq_of_beq_eq_true h2, rfl, Nat.eq_of_beq_eq_true h6, (Nat.blt_eq (x := _) (y := _)).mp h5⟩, Nat.le_of_ble_eq_true h3, (Nat.blt_eq (x := _) (y := _)).mp h4⟩
  · cases h

/-- load -/
theorem Vl.ld {b i E : Nat} {cs : List Value} {v : Value} (h : Cl w b E cs) (hv : cs[i]? = some v) (k : K v w) (hT : aggT P T = true := by kernel_rfl) :
    Vl P (Instr.loadAt T (.pointer (some ⟨b, i, none⟩))) w K := Vl.i (ldc (run_isAgg hT) h hv) k
theorem Vl.lda {a : Addr} {v : Value} (h : w.cell? a = some v) (k : K v w) (hT : aggT P T = true := by kernel_rfl) :
    Vl P (Instr.loadAt T (.pointer (some a))) w K := Vl.i (Go.Eng.ld (run_isAgg hT) h) k
theorem VQ.ld {S : World → Prop} {K : Value → Prop} {a : Addr} {v : Value} (h : ∀ w, S w → w.cell? a = some v) (k : K v) (hT : aggT P T = true := by kernel_rfl) :
    ValQ P S (Instr.loadAt T (.pointer (some a))) K := VQ.i (fun w hw => Go.Eng.ld (run_isAgg hT) (h w hw)) k
theorem Rs.ld {b i E : Nat} {cs : List Value} {v : Value} {K : Value → Prop} (h : Cl w b E cs) (hv : cs[i]? = some v) (k : K v) (hT : aggT P T = true := by kernel_rfl) :
    Rs P (Instr.loadAt T (.pointer (some ⟨b, i, none⟩))) w K := Rs.i (ldc (run_isAgg hT) h hv) k
/-- a field's address -/
theorem Vl.fa {b o f : Nat} (k : K (.pointer (some ⟨b, o + f, none⟩)) w)
    (h : ∀ w, (Instr.fieldAt T (.pointer (some ⟨b, o, none⟩)) f).run P w = .ok (.pointer (some ⟨b, o + f, none⟩)) w := by intro w; kernel_rfl) :
    Vl P (Instr.fieldAt T (.pointer (some ⟨b, o, none⟩)) f) w K := Vl.i (h w) k
theorem Pv.i {s : Sem Value} {v : Value} {K : Value → Prop} (h : ∀ w, s.run P w = .ok v w) (k : K v) : Pv P s K := ⟨v, h, k⟩
theorem Pv.fa {K : Value → Prop} {b o f : Nat} (k : K (.pointer (some ⟨b, o + f, none⟩)))
    (h : ∀ w, (Instr.fieldAt T (.pointer (some ⟨b, o, none⟩)) f).run P w = .ok (.pointer (some ⟨b, o + f, none⟩)) w := by intro w; kernel_rfl) :
    Pv P (Instr.fieldAt T (.pointer (some ⟨b, o, none⟩)) f) K := Pv.i h k
/-- an element's address -/
theorem run_ix {b o n c sz : Nat} {i : Int} (h0 : 0 ≤ i) (h1 : i < n) (hT : ixB P T sz = true) (w : World) :
    (Instr.indexAt T (.slice (some ⟨b, o, none⟩) n c) (.int .i64 i)).run P w = .ok (.pointer (some ⟨b, o + i.toNat * sz, none⟩)) w := by
  unfold ixB at hT
  split at hT
  · rename_i E hu
    split at hT
    · rename_i inf hi
      exact ix (E := E) hu (run_sizeOf (by unfold szT; rw [hi]; exact hT)) h0 h1
    · cases hT
  · cases hT
theorem Vl.ix {b o n c : Nat} (sz : Nat) {i : Int} (h0 : 0 ≤ i) (h1 : i < n) (k : K (.pointer (some ⟨b, o + i.toNat * sz, none⟩)) w) (hT : ixB P T sz = true := by kernel_rfl) :
    Vl P (Instr.indexAt T (.slice (some ⟨b, o, none⟩) n c) (.int .i64 i)) w K := Vl.i (run_ix h0 h1 hT w) k
theorem Pv.ix {K : Value → Prop} {b o n c : Nat} (sz : Nat) {i : Int} (h0 : 0 ≤ i) (h1 : i < n) (k : K (.pointer (some ⟨b, o + i.toNat * sz, none⟩))) (hT : ixB P T sz = true := by kernel_rfl) :
    Pv P (Instr.indexAt T (.slice (some ⟨b, o, none⟩) n c) (.int .i64 i)) K := Pv.i (run_ix h0 h1 hT) k
/-- lengths -/
theorem run_len {a : Option Addr} {n c t : Nat} (hT : slT P T = true) (w : World) : (Builtin.len_ #[T] t #[.slice a n c]).run P w = .ok (.int .i64 n) w := by
  unfold slT at hT
  split at hT
  · rename_i E hu; exact len_slice hu
  · cases hT
theorem run_lenS {s : ByteArray} {t : Nat} (hT : strT P T = true) (w : World) : (Builtin.len_ #[T] t #[.string s]).run P w = .ok (.int .i64 s.size) w := by
  unfold strT at hT
  split at hT
  · rename_i hu; exact len_string hu
  · cases hT
theorem Vl.len {a : Option Addr} {n c t : Nat} (k : K (.int .i64 n) w) (hT : slT P T = true := by kernel_rfl) : Vl P (Builtin.len_ #[T] t #[.slice a n c]) w K := Vl.i (run_len hT w) k
theorem VQ.len {S : World → Prop} {K : Value → Prop} {a : Option Addr} {n c t : Nat} (k : K (.int .i64 n)) (hT : slT P T = true := by kernel_rfl) : ValQ P S (Builtin.len_ #[T] t #[.slice a n c]) K :=
  VQ.i (fun w _ => run_len hT w) k
theorem Vl.lenS {s : ByteArray} {t : Nat} (k : K (.int .i64 s.size) w) (hT : strT P T = true := by kernel_rfl) : Vl P (Builtin.len_ #[T] t #[.string s]) w K := Vl.i (run_lenS hT w) k
/-- store -/
theorem Ef.set {b i E : Nat} {cs : List Value} {v : Value} {K : World → Prop} (h : Cl w b E cs) (hi : i < cs.length) (k : ∀ w', Upd w w' b E (cs.set i v) → K w')
    (hv : One v := by exact trivial) (hT : szT P T 1 = true := by kernel_rfl) : Ef P (Instr.storeAt T (.pointer (some ⟨b, i, none⟩)) v) w K := Ef.st (run_sizeOf hT) hv h hi k
/-- append of one element that lies in a block of its own -/
theorem Vl.app {E sz ty n b m c : Nat} {v : Value} {cs news : List Value} (h : Row w E sz v n cs) (hn : Cl w b E news) (hl : news.length = m * sz) (h1 : ∀ u ∈ news, u.oneCell' = true) (hb : n + m ≤ 100000000)
    (k : ∀ v' w', Row w' E sz v' (n + m) (cs ++ news) → Chg (fun k => blk v = some k) w w' → (∀ k, blk v' = some k → blk v = some k ∨ (w.heap.size ≤ k ∧ k < w'.heap.size)) → K v' w')
    (hT : slB P T E sz = true := by kernel_rfl) : Vl P (Builtin.append_ #[T, T] ty #[v, .slice (some ⟨b, 0, none⟩) m c]) w K := by
  obtain ⟨by_, i, z, hs, hb1, hb2⟩ := SlT.of hT
  refine Vl.append hs h hl (fun j u hu => ?_) h1 ?_ hb2 fun v' w' a b c _ => k v' w' a b c
  · have : (⟨b, 0, none⟩ : Addr).add j = ⟨b, j, none⟩ := by unfold Addr.add; split <;> simp_all
    rw [this]; exact hn.cell hu
  · calc (n + m) * by_ ≤ 100000000 * 1000 := Nat.mul_le_mul hb hb1
      _ ≤ 140737488355328 := by omega

theorem Vl.add {x y : Operand} {a b : Int} (k : K (.int .i64 (a + b)) w) (h0 : -9223372036854775808 ≤ a + b := by omega) (h1 : a + b ≤ 9223372036854775807 := by omega) : Vl P (binop .add T x y (.int .i64 a) (.int .i64 b)) w K := Vl.i (bo_add h0 h1) k
theorem Vl.sub {x y : Operand} {a b : Int} (k : K (.int .i64 (a - b)) w) (h0 : -9223372036854775808 ≤ a - b := by omega) (h1 : a - b ≤ 9223372036854775807 := by omega) : Vl P (binop .sub T x y (.int .i64 a) (.int .i64 b)) w K := Vl.i (bo_sub h0 h1) k
theorem Pv.add {K : Value → Prop} {x y : Operand} {a b : Int} (k : K (.int .i64 (a + b))) (h0 : -9223372036854775808 ≤ a + b := by omega) (h1 : a + b ≤ 9223372036854775807 := by omega) : Pv P (binop .add T x y (.int .i64 a) (.int .i64 b)) K := Pv.i (fun _ => bo_add h0 h1) k
theorem Pv.sub {K : Value → Prop} {x y : Operand} {a b : Int} (k : K (.int .i64 (a - b))) (h0 : -9223372036854775808 ≤ a - b := by omega) (h1 : a - b ≤ 9223372036854775807 := by omega) : Pv P (binop .sub T x y (.int .i64 a) (.int .i64 b)) K := Pv.i (fun _ => bo_sub h0 h1) k
theorem Vl.lss {x y : Operand} {kd : IntKind} {a b : Int} (k : K (.bool (decide (a < b))) w) : Vl P (binop .lss T x y (.int kd a) (.int kd b)) w K := Vl.i bo_lss k
theorem Vl.leq {x y : Operand} {kd : IntKind} {a b : Int} (k : K (.bool (decide (a ≤ b))) w) : Vl P (binop .leq T x y (.int kd a) (.int kd b)) w K := Vl.i bo_leq k
theorem Vl.gtr {x y : Operand} {kd : IntKind} {a b : Int} (k : K (.bool (decide (b < a))) w) : Vl P (binop .gtr T x y (.int kd a) (.int kd b)) w K := Vl.i bo_gtr k
theorem Vl.geq {x y : Operand} {kd : IntKind} {a b : Int} (k : K (.bool (decide (b ≤ a))) w) : Vl P (binop .geq T x y (.int kd a) (.int kd b)) w K := Vl.i bo_geq k
theorem Vl.eql {x y : Operand} {kd : IntKind} {a b : Int} (k : K (.bool (decide (a = b))) w) : Vl P (binop .eql T x y (.int kd a) (.int kd b)) w K := Vl.i bo_eql k
theorem Vl.neq {x y : Operand} {kd : IntKind} {a b : Int} (k : K (.bool (!decide (a = b))) w) : Vl P (binop .neq T x y (.int kd a) (.int kd b)) w K := Vl.i bo_neq k
theorem Vl.seql {x y : Operand} {a b : ByteArray} (k : K (.bool (decide (a = b))) w) : Vl P (binop .eql T x y (.string a) (.string b)) w K := Vl.i bs_eql k
theorem Vl.sneq {x y : Operand} {a b : ByteArray} (k : K (.bool (!decide (a = b))) w) : Vl P (binop .neq T x y (.string a) (.string b)) w K := Vl.i bs_neq k
theorem Vl.not {b : Bool} (k : K (.bool (!b)) w) : Vl P (Op.unary .not (.bool b)) w K := Vl.i un_not k

/-- a string's byte; a string's piece -/
theorem Vl.ixS {s : ByteArray} {i : Nat} (hi : i < s.size) (k : K (.int .u8 (s[i].toNat)) w) (hT : strT P T = true := by kernel_rfl) : Vl P (Instr.index T (.string s) (.int .i64 i)) w K := by
  unfold strT at hT
  split at hT
  · rename_i hu
    refine Vl.i ?_ k
    have hu : ∀ w, (underlying T).run P w = .ok .string w := fun w => by unfold underlying program; simp [Sem.run_bind, Sem.run, hu, Result.andThen]
    unfold Instr.index asIntOf
    simp only [Sem.run_bind, Sem.run_pure, Result.andThen, hu]
    have e : (if 0 ≤ (i : Int) then s[((i : Int)).toNat]? else none) = some s[i] := by
      rw [if_pos (by omega), Int.toNat_natCast]
      exact getElem?_pos s i hi
    rw [e]; rfl
  · cases hT
theorem run_underlying' {T : Nat} {d : TypeDesc} (h : P.underlying T = some d) (w : World) : (underlying T).run P w = .ok d w := by
  unfold underlying program; simp [Sem.run_bind, Sem.run, h, Result.andThen]
theorem run_sliceS {s : ByteArray} {lo hi : Option Value} {l h : Nat} (hT : strT P T = true) (hl : lo = none ∧ l = 0 ∨ lo = some (.int .i64 l)) (hh : hi = none ∧ h = s.size ∨ hi = some (.int .i64 h)) (h1 : l ≤ h) (h2 : h ≤ s.size) (w : World) :
    (Instr.sliceAt T (.string s) lo hi none).run P w = .ok (.string (s.extract l h)) w := by
  unfold strT at hT
  split at hT
  · rename_i hu
    have hu := run_underlying' hu
    have b1 : ∀ (x y : Nat) (c : BoundsCode), x ≤ y → ∀ w, (Instr.sliceBound (.int .i64 x) y c).run P w = .ok x w := fun x y c hxy w => by
      unfold Instr.sliceBound asIntOf
      simp only [Sem.run_bind, Sem.run_pure, Result.andThen]
      rw [if_pos ⟨by omega, by omega⟩]; rfl
    unfold Instr.sliceAt
    rw [Sem.run_bind, hu]
    simp only [Result.andThen]
    unfold Instr.slice
    rw [Sem.run_bind, hu]
    simp only [Result.andThen, Option.isSome_none, Bool.false_eq_true, if_false, Instr.sliceBounds]
    rcases hl with ⟨rfl, rfl⟩ | rfl <;> rcases hh with ⟨rfl, rfl⟩ | rfl <;> simp [Sem.run_bind, Result.andThen, b1, h1, h2]
  · cases hT
theorem Vl.sliceS {s : ByteArray} {lo hi : Option Value} (l h : Nat) (hl : lo = none ∧ l = 0 ∨ lo = some (.int .i64 l)) (hh : hi = none ∧ h = s.size ∨ hi = some (.int .i64 h)) (h1 : l ≤ h) (h2 : h ≤ s.size)
    (k : K (.string (s.extract l h)) w) (hT : strT P T = true := by kernel_rfl) : Vl P (Instr.sliceAt T (.string s) lo hi none) w K := Vl.i (run_sliceS hT hl hh h1 h2 w) k
/-- one integer kind into another -/
def intT (P : Program) (T : Nat) (k : IntKind) : Bool := match P.underlying T with | some (.int k') => k' == k | _ => false
theorem run_conv {S : Nat} {k1 k2 : IntKind} {n : Int} (h1 : (P.underlying S).isSome = true) (h2 : intT P T k2 = true) (w : World) : (convert S T (.int k1 n)).run P w = .ok (.int k2 (k2.wrap n)) w := by
  unfold intT at h2
  split at h2
  · rename_i k' hu
    have e : k' = k2 := by simpa using h2
    subst e
    cases hs : P.underlying S with
    | none => rw [hs] at h1; cases h1
    | some d =>
      have hu := run_underlying' hu
      have hs := run_underlying' hs
      unfold convert
      rw [Sem.run_bind, hs]; simp only [Result.andThen]
      rw [Sem.run_bind, hu]; simp only [Result.andThen]
      rfl
  · cases h2
theorem Vl.conv {S : Nat} {k1 : IntKind} (k2 : IntKind) {n : Int} (k : K (.int k2 (k2.wrap n)) w) (h1 : (P.underlying S).isSome = true := by kernel_rfl) (h2 : intT P T k2 = true := by kernel_rfl) : Vl P (convert S T (.int k1 n)) w K := Vl.i (run_conv h1 h2 w) k
/-- an element of an array's variable -/
def arrT (P : Program) (T n sz : Nat) : Bool := match P.underlying T with
  | some (.array m E) => Nat.beq m n && Nat.blt 1 n && szT P E sz
  | _ => false
theorem run_ixA {b o n sz : Nat} {kd : IntKind} {i : Int} (h0 : 0 ≤ i) (h1 : i < n) (hT : arrT P T n sz = true) (w : World) :
    (Instr.indexAt T (.pointer (some ⟨b, o, none⟩)) (.int kd i)).run P w = .ok (.pointer (some ⟨b, o + i.toNat * sz, none⟩)) w := by
  unfold arrT at hT
  split at hT
  · rename_i m E hu
    simp only [Bool.and_eq_true] at hT
    have e := Nat.eq_of_beq_eq_true hT.1.1
    subst e
    have hu := run_underlying' hu
    have hE := run_sizeOf hT.2
    unfold Instr.indexAt asIntOf
    have ha : (Instr.sureAddr (.pointer (some ⟨b, o, none⟩))).run P w = .ok ⟨b, o, none⟩ w := rfl
    simp only [Sem.run_bind, Sem.run_pure, Result.andThen, hu, ha]
    rw [if_pos ⟨h0, h1⟩]
    simp only [Sem.run_bind, hE, Result.andThen, Sem.run_pure]
    have : (⟨b, o, none⟩ : Addr).add (i.toNat * sz) = ⟨b, o + i.toNat * sz, none⟩ := by
      unfold Addr.add
      split
      · rename_i h; rw [h]; rfl
      · rfl
    rw [this]
  · cases hT
theorem Vl.ixA {b o : Nat} (n sz : Nat) {kd : IntKind} {i : Int} (h0 : 0 ≤ i) (h1 : i < n) (k : K (.pointer (some ⟨b, o + i.toNat * sz, none⟩)) w) (hT : arrT P T n sz = true := by kernel_rfl) :
    Vl P (Instr.indexAt T (.pointer (some ⟨b, o, none⟩)) (.int kd i)) w K := Vl.i (run_ixA h0 h1 hT w) k
theorem Vl.ext {vs : Array Value} {i : Nat} {v : Value} (hv : vs[i]? = some v) (k : K v w) : Vl P (Instr.extract (.tuple vs) i) w K := by
  refine Vl.i ?_ k
  unfold Instr.extract
  simp only [hv]; rfl
end
end Go.Eng
