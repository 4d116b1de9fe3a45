/- Part of the proof of a law of this seat: facts that it uses, each proved here. No conditions. -/
import Derived.Test.YtcapooghkabloaaDoorSl
namespace Go.Eng
open Go
section
variable {P : Program} {w : World} {K : Value → World → Prop} {T : Nat}
/-- append of nothing -/
theorem run_append_none {E sz ty n : Nat} {v : Value} {cs : List Value} (h : Row w E sz v n cs) (hT : slB P T E sz = true) : (Builtin.append_ #[T, T] ty #[v, .slice none 0 0]).run P w = .ok v w := by
  obtain ⟨by_, i, z, hs, _⟩ := SlT.of hT
  rcases h.2 with ⟨a, rfl, rfl⟩ | ⟨g, cap, full, rfl, _, hle, _⟩
  · cases a <;> simp [Builtin.append_, run_underlying hs.under, sizeOf, typeInfo, hs.info, Builtin.lenOf, Builtin.firstCells, storeCells]
  · simp [Builtin.append_, run_underlying hs.under, sizeOf, typeInfo, hs.info, Builtin.lenOf, Builtin.firstCells, storeCells, hle]
/-- append of a row's elements -/
theorem Vl.appRow {E sz ty n m : Nat} {v s : Value} {cs news : List Value} (h : Row w E sz v n cs) (hn : Row w E sz s m news) (h1 : ∀ u ∈ news, u.oneCell' = true) (hb : n + m ≤ 100000000)
    (k : ∀ v' w', Row w' E sz v' (n + m) (cs ++ news) → Chg (fun k => blk v = some k) w w' → (∀ k, blk v' = some k → blk v = some k ∨ (w.heap.size ≤ k ∧ k < w'.heap.size)) → ((∃ a, v = .slice a 0 0) → ∀ k, blk v' = some k → w.heap.size ≤ k) → K v' w')
    (hT : slB P T E sz = true := by kernel_rfl) : Vl P (Builtin.append_ #[T, T] ty #[v, s]) w K := by
  have hbound : ∀ by_, by_ ≤ 1000 → (n + m) * by_ ≤ 140737488355328 := fun by_ hb1 => by
    calc (n + m) * by_ ≤ 100000000 * 1000 := Nat.mul_le_mul hb hb1
      _ ≤ 140737488355328 := by omega
  obtain ⟨by_, i, z, hs, hb1, hb2⟩ := SlT.of hT
  rcases hn.2 with ⟨a, rfl, rfl⟩ | ⟨g, cap, full, rfl, hcl, hle, hc, _, hfl, htk⟩
  · have hnil : news = [] := List.eq_nil_of_length_eq_zero (by simpa using hn.1)
    subst hnil
    cases a with
    | none =>
      refine Vl.i (run_append_none h hT) (k v w (by simpa using h) (Chg.refl _ _) (fun x hx => .inl hx) ?_)
      rintro ⟨a, rfl⟩ x hx
      cases a <;> cases hx
    | some a => exact Vl.append hs h (by simp) (fun j u hu => by simp at hu) h1 (hbound _ hb1) hb2 k
  · refine Vl.append hs h hn.1 (fun j u hu => ?_) h1 (hbound _ hb1) hb2 k
    rw [add_off, Nat.zero_add]; exact hn.cell hu
/-- slices.Clone's two ways: of nil nothing; else an append onto an empty row. -/
theorem clone_vc {E sz ty m : Nat} {s : Value} {x y : Operand} {news : List Value} (hn : Row w E sz s m news) (h1 : ∀ u ∈ news, u.oneCell' = true) (hb : m ≤ 100000000)
    (k : ∀ v' w', Row w' E sz v' m news → Ext w w' → (∀ k, blk v' = some k → w.heap.size ≤ k) → K v' w') (hT : slB P T E sz = true := by kernel_rfl) (hS : slT P T = true := by kernel_rfl) :
    Vl P (binop BinOp.eql T x y s (Value.slice none 0 0)) w fun v4 wa => Cond v4 (K (Value.slice none 0 0) wa)
      (Vl P (Instr.buildSlice T 0 #[]) wa fun v5 wb => Vl P (Builtin.append_ #[T, T] ty #[v5, s]) wb fun v7 wc => K v7 wc) := by
  obtain ⟨a, c, rfl, ha⟩ := hn.val
  refine Vl.nil (Cond_bool (fun h => ?_) (fun h => ?_)) hS
  · cases a with
    | some a => cases h
    | none =>
      have hm : m = 0 := by
        cases m with
        | zero => rfl
        | succ m => obtain ⟨g, hg⟩ := ha (by omega); cases hg
      subst hm
      have hnil : news = [] := List.eq_nil_of_length_eq_zero (by simpa using hn.1)
      subst hnil
      exact k _ _ (Row.nil _ _ _) (Chg.refl _ _) (fun x hx => by cases hx)
  · refine Vl.bs0 (E := E) (sz := sz) (fun w1 h1' => ?_) hT
    refine Vl.appRow (n := 0) (cs := []) ⟨by simp, .inl ⟨_, rfl, rfl⟩⟩ (hn.ext h1'.ext) h1 (by omega) (fun v' w' hr hc _ hnew => ?_) hT
    have hE : Ext w1 w' := hc.mono fun x _ e => by cases e
    refine k v' w' (by simpa using hr) (h1'.ext.then hE) fun x hx => ?_
    have := hnew ⟨_, rfl⟩ x hx
    rw [h1'.size] at this; omega
end
end Go.Eng
