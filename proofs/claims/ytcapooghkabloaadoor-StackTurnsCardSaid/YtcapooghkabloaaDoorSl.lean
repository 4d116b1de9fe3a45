/- Part of the proof of a law of this seat: facts that it uses, each proved here. No conditions. -/
import Derived.Test.YtcapooghkabloaaDoorAgg
namespace Go.Eng
open Go
section
variable {P : Program} {w : World} {K : Value → World → Prop} {T : Nat}

theorem foldl_fill : ∀ (l : List Value) (k : Nat) (cs : Array Value), ((l.zipIdx k).foldl (fun cs (c, j) => cs.setIfInBounds (0 + j) c) cs).size = cs.size ∧
    ∀ i, ((l.zipIdx k).foldl (fun cs (c, j) => cs.setIfInBounds (0 + j) c) cs)[i]? = if k ≤ i ∧ i < k + l.length ∧ i < cs.size then l[i - k]? else cs[i]?
  | [], k, cs => ⟨rfl, fun i => by rw [if_neg (by simp; omega)]; rfl⟩
  | c :: l, k, cs => by
    obtain ⟨h1, h2⟩ := foldl_fill l (k + 1) (cs.setIfInBounds (0 + k) c)
    rw [List.zipIdx_cons, List.foldl_cons]
    refine ⟨h1.trans (by simp), fun i => (h2 i).trans ?_⟩
    simp only [Array.size_setIfInBounds, List.length_cons, Nat.zero_add]
    by_cases h : i = k
    · subst h
      rw [if_neg (by omega)]
      by_cases hs : i < cs.size
      · rw [if_pos ⟨by omega, by omega, hs⟩]; simp [hs]
      · rw [if_neg (by omega)]
        rw [Array.getElem?_eq_none (by simp; omega), Array.getElem?_eq_none (by omega)]
    · have hk : (cs.setIfInBounds k c)[i]? = cs[i]? := Array.getElem?_setIfInBounds_ne (fun e => h e.symm)
      rw [hk]
      by_cases hc : k + 1 ≤ i ∧ i < k + 1 + l.length ∧ i < cs.size
      · rw [if_pos hc, if_pos (by omega)]
        have e : i - k = (i - (k + 1)) + 1 := by omega
        rw [e, List.getElem?_cons_succ]
      · rw [if_neg hc, if_neg (by omega)]
theorem run_buildSlice1 {E sz : Nat} {v : Value} (hT : slB P T E sz = true) (hv : v.cells.size = sz) (hs : sz ≤ 1000) : (Instr.buildSlice T 1 #[(0, v)]).run P w = .ok (.slice (some ⟨w.heap.size, 0, none⟩) 1 1) (w.alloc (.cells v.cells E)) := by
  obtain ⟨by_, i, z, h, _⟩ := SlT.of hT
  have hu := run_underlying' h.under
  have hsz : ∀ w, (sizeOf E).run P w = .ok sz w := run_sizeOf (by unfold szT; rw [h.info]; show Nat.beq i.size sz = true; rw [h.size]; exact Nat.beq_refl sz)
  have hz : ∀ w, (zeroValue E).run P w = .ok z w := fun w => by
    unfold zeroValue typeInfo program
    simp [Sem.run_bind, Sem.run, h.info, Result.andThen, h.zero]
  have hpos := h.pos
  unfold Instr.buildSlice
  simp only [Sem.run_bind, hu, Result.andThen, hsz]
  rw [if_neg (by omega)]
  rw [if_neg (by omega)]
  simp only [Sem.run_bind, hz, Result.andThen, Sem.run_pure]
  have hf : Instr.fill (fun i => some (i * sz, sz)) ((Array.range (1 * sz)).map (z.cells[· % z.cells.size]!)) [(0, v)] = some v.cells := by
    unfold Instr.fill
    have e1 : (v.cells.size ≠ sz || 0 * sz + v.cells.size > ((Array.range (1 * sz)).map (z.cells[· % z.cells.size]!)).size) = false := by simp [hv]
    simp only [e1, Bool.false_eq_true, if_false, Instr.fill]
    congr 1
    rw [← Array.foldl_toList, Array.toList_zipIdx]
    obtain ⟨h1, h2⟩ := foldl_fill v.cells.toList 0 ((Array.range (1 * sz)).map (z.cells[· % z.cells.size]!))
    have e0 : (0 * sz) = 0 := by omega
    rw [e0]
    apply Array.ext_getElem?
    intro i
    rw [h2 i]
    by_cases hi : i < sz
    · rw [if_pos ⟨by omega, by simp; omega, by simp; omega⟩]; simp
    · rw [if_neg (by simp; omega), Array.getElem?_eq_none (by simp; omega), Array.getElem?_eq_none (by omega)]
  rw [hf]
  rfl
/-- a slice of one -/
theorem Vl.bs1 {E sz : Nat} {v : Value} (hv : v.cells.size = sz) (k : ∀ w', Nw w w' (.cells v.cells E) → K (.slice (some ⟨w.heap.size, 0, none⟩) 1 1) w') (hs : sz ≤ 1000 := by omega) (hT : slB P T E sz = true := by kernel_rfl) :
    Vl P (Instr.buildSlice T 1 #[(0, v)]) w K := Vl.i (run_buildSlice1 hT hv hs) (k _ (nw_alloc w _))
theorem Vl.bs0 {E sz : Nat} (k : ∀ w', Nw w w' (.cells #[] E) → K (.slice (some ⟨w.heap.size, 0, none⟩) 0 0) w') (hT : slB P T E sz = true := by kernel_rfl) :
    Vl P (Instr.buildSlice T 0 #[]) w K := by
  obtain ⟨by_, i, z, h, _⟩ := SlT.of hT
  have hu := run_underlying' h.under
  have hsz : ∀ w, (sizeOf E).run P w = .ok sz w := run_sizeOf (by unfold szT; rw [h.info]; show Nat.beq i.size sz = true; rw [h.size]; exact Nat.beq_refl sz)
  refine Vl.i (w' := w.alloc (.cells #[] E)) ?_ (k _ (nw_alloc w _))
  unfold Instr.buildSlice
  simp only [Sem.run_bind, hu, Result.andThen, hsz]
  rw [if_neg (by omega)]
  rw [if_pos (by omega)]
  have hf : Instr.fill (fun i => some (i * sz, sz)) ((Array.range (0 * sz)).map (fun x => (#[] : Array Value)[x % (#[] : Array Value).size]!)) [] = some #[] := by
    unfold Instr.fill; simp
  simp only [Sem.run_bind, Result.andThen]
  rw [Sem.run_pure]
  simp only []
  rw [hf]
  rfl

/-- a slice against nil -/
theorem bo_nil {x y : Operand} {a : Option Addr} {n c : Nat} (hT : slT P T = true) : (binop .eql T x y (.slice a n c) (.slice none 0 0)).run P w = .ok (.bool a.isNone) w := by
  unfold slT at hT
  split at hT
  · rename_i E hu
    have hu := run_underlying' hu
    have he : (Op.equal T (.slice a n c) (.slice none 0 0)).run P w = .ok a.isNone w := by
      show (Op.equalIn (9999 + 1) T _ _).run P w = _
      unfold Op.equalIn
      rw [Sem.run_bind, hu]
      cases a <;> rfl
    show (do eqGuard .eql T x y (.slice a n c) (.slice none 0 0); binOp .eql T (.slice a n c) (.slice none 0 0) : Sem Value).run P w = _
    rw [Sem.run_bind]
    have hg : (eqGuard .eql T x y (.slice a n c) (.slice none 0 0)).run P w = .ok () w := by
      unfold eqGuard; rfl
    rw [hg]
    simp only [Result.andThen]
    show (do pure (.bool (← Op.equal T (.slice a n c) (.slice none 0 0))) : Sem Value).run P w = _
    rw [Sem.run_bind, he]
    rfl
  · cases hT
theorem Vl.nil {x y : Operand} {a : Option Addr} {n c : Nat} (k : K (.bool a.isNone) w) (hT : slT P T = true := by kernel_rfl) : Vl P (binop .eql T x y (.slice a n c) (.slice none 0 0)) w K := Vl.i (bo_nil hT) k
end
end Go.Eng
