/- Part of the proof of a law of this seat: facts that it uses, each proved here. No conditions. -/
import Derived.Test.YtcapooghkabloaaDoorSl2
namespace Go.Eng
open Go
section
variable {P : Program} {w : World} {K : Value → World → Prop} {T : Nat}
/-- a slice's piece -/
theorem run_slc {E sz n c : Nat} {a : Option Addr} {lo hi : Option Value} {l h : Nat} (hT : slB P T E sz = true) (hl : lo = none ∧ l = 0 ∨ lo = some (.int .i64 l)) (hh : hi = none ∧ h = n ∨ hi = some (.int .i64 h)) (h1 : l ≤ h) (h2 : h ≤ c) (w : World) :
    (Instr.sliceAt T (.slice a n c) lo hi none).run P w = .ok (.slice (if c = l then a else a.map (·.add (l * sz))) (h - l) (c - l)) w := by
  obtain ⟨by_, i, z, hs, _⟩ := SlT.of hT
  have hu := run_underlying' hs.under
  have hsz : ∀ w, (sizeOf E).run P w = .ok sz w := run_sizeOf (by unfold szT; rw [hs.info]; show Nat.beq i.size sz = true; rw [hs.size]; exact Nat.beq_refl sz)
  have b1 : ∀ (x y : Nat) (c : BoundsCode), x ≤ y → ∀ w, (Instr.sliceBound (.int .i64 x) y c).run P w = .ok x w := fun x y c hxy w => by
    unfold Instr.sliceBound asIntOf
    simp only [Sem.run_bind, Sem.run_pure, Result.andThen]
    rw [if_pos ⟨by omega, by omega⟩]; rfl
  unfold Instr.sliceAt
  rw [Sem.run_bind, hu]
  simp only [Result.andThen]
  unfold Instr.slice
  rw [Sem.run_bind, hu]
  simp only [Result.andThen, Instr.sliceBounds]
  rcases hl with ⟨rfl, rfl⟩ | rfl <;> rcases hh with ⟨rfl, rfl⟩ | rfl <;> simp [Sem.run_bind, Result.andThen, b1, h1, h2, hsz]
theorem Vl.slc {E sz n c : Nat} {a : Option Addr} {lo hi : Option Value} (l h : Nat) (hl : lo = none ∧ l = 0 ∨ lo = some (.int .i64 l)) (hh : hi = none ∧ h = n ∨ hi = some (.int .i64 h)) (h1 : l ≤ h) (h2 : h ≤ c)
    (k : K (.slice (if c = l then a else a.map (·.add (l * sz))) (h - l) (c - l)) w) (hT : slB P T E sz = true := by kernel_rfl) : Vl P (Instr.sliceAt T (.slice a n c) lo hi none) w K := Vl.i (run_slc hT hl hh h1 h2 w) k
/-- a row's head -/
theorem Row.take {E sz n : Nat} {v : Value} {cs : List Value} (h : Row w E sz v n cs) {m : Nat} (hm : m ≤ n) {a : Option Addr} {c : Nat} (hv : v = .slice a n c) : Row w E sz (.slice a m c) m (cs.take (m * sz)) := by
  have hms : m * sz ≤ n * sz := Nat.mul_le_mul_right _ hm
  rcases h.2 with ⟨a', e, rfl⟩ | ⟨g, cap, full, e, hcl, h1, h2, h3, h4, h5⟩
  · rw [hv] at e; cases e
    have : m = 0 := by omega
    subst this
    exact ⟨by simp, .inl ⟨_, rfl, rfl⟩⟩
  · rw [hv] at e; cases e
    refine ⟨by rw [List.length_take, h.1]; omega, .inr ⟨g, _, full, rfl, hcl, by omega, h2, h3, h4, ?_⟩⟩
    rw [← h5, List.take_take, Nat.min_eq_left hms]
theorem blk_take {a : Option Addr} {n m c : Nat} : blk (.slice a n c) = blk (.slice a m c) := by cases a <;> cases c <;> rfl
theorem run_slcTake {E sz n c m : Nat} {a : Option Addr} (hT : slB P T E sz = true) (h2 : m ≤ c) (ha : ∀ x, a = some x → ∃ g, x = ⟨g, 0, none⟩) (w : World) :
    (Instr.sliceAt T (.slice a n c) none (some (.int .i64 m)) none).run P w = .ok (.slice a m c) w := by
  rw [run_slc (l := 0) (h := m) hT (.inl ⟨rfl, rfl⟩) (.inr rfl) (by omega) h2 w]
  congr 2
  split
  · rfl
  · cases a with
    | none => rfl
    | some x => rw [Nat.zero_mul]; show some (x.add 0) = _; obtain ⟨b, o, s⟩ := x; cases s <;> simp [Addr.add]
theorem Row.le {E sz n c : Nat} {a : Option Addr} {cs : List Value} (h : Row w E sz (.slice a n c) n cs) : n ≤ c := by
  rcases h.2 with ⟨a', e, rfl⟩ | ⟨g, cap, full, e, hcl, h1, h2, h3, h4, h5⟩
  · omega
  · cases e; exact h1
theorem Vl.take {E sz n c : Nat} {a : Option Addr} {cs : List Value} (h : Row w E sz (.slice a n c) n cs) {m : Nat} (hm : m ≤ n) (k : K (.slice a m c) w) (hT : slB P T E sz = true := by kernel_rfl) : Vl P (Instr.sliceAt T (.slice a n c) none (some (.int .i64 m)) none) w K := by
  refine Vl.i (w' := w) ?_ k
  rcases h.2 with ⟨a', e, rfl⟩ | ⟨g, cap, full, e, hcl, h1, h2, h3, h4, h5⟩
  · cases e
    have : m = 0 := by omega
    subst this
    rw [run_slc (l := 0) (h := 0) hT (.inl ⟨rfl, rfl⟩) (.inr rfl) (by omega) (by omega) w]
    rfl
  · cases e
    exact run_slcTake hT (by omega) (fun x hx => by cases hx; exact ⟨_, rfl⟩) w
theorem Pv.take {K : Value → Prop} {E sz n c : Nat} {a : Option Addr} {cs : List Value} (h : Row w E sz (.slice a n c) n cs) {m : Nat} (hm : m ≤ n) (k : K (.slice a m c)) (hT : slB P T E sz = true := by kernel_rfl) : Pv P (Instr.sliceAt T (.slice a n c) none (some (.int .i64 m)) none) K := by
  refine Pv.i (v := .slice a m c) (fun w => ?_) k
  rcases h.2 with ⟨a', e, rfl⟩ | ⟨g, cap, full, e, hcl, h1, h2, h3, h4, h5⟩
  · cases e
    have : m = 0 := by omega
    subst this
    rw [run_slc (l := 0) (h := 0) hT (.inl ⟨rfl, rfl⟩) (.inr rfl) (by omega) (by omega) w]
    rfl
  · cases e
    exact run_slcTake hT (by omega) (fun x hx => by cases hx; exact ⟨_, rfl⟩) w
end
end Go.Eng
