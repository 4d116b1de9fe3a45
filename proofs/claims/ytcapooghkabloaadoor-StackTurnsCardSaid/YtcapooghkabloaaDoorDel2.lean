/- Part of the proof of a law of this seat: facts that it uses, each proved here. No conditions. -/
import Derived.Test.YtcapooghkabloaaDoorRh
import Derived.Test.YtcapooghkabloaaDoorDel
namespace Go.Proofs
open Go Go.Eng
theorem zeroCells1 : (Builtin.zeroCells (Value.int .i64 0).cells 1).toList = [.int .i64 0] := by kernel_rfl
theorem run_clear1 {w : World} {g o c : Nat} {full : List Value} (hcl : Cl w g T_int full) (hle : o + 1 ≤ full.length) :
    ∃ w', (Builtin.clear_ #[T_sl_int] 0 #[.slice (some ⟨g, o, none⟩) 1 c]).run Tryd.prog w = .ok (.tuple #[]) w' ∧ Upd w w' g T_int (full.take o ++ [.int .i64 0] ++ full.drop (o + 1)) := by
  obtain ⟨w', hr, hu⟩ := run_storeCells (P := Tryd.prog) (o := o) [.int .i64 0] 0 w full hcl (by simpa using hle) (by intro v hv; simp at hv; subst hv; trivial)
  refine ⟨w', ?_, by simpa using hu⟩
  have hz : ∀ w, (zeroValue T_int).run Tryd.prog w = .ok (.int .i64 0) w := by intro w; kernel_rfl
  have hun : ∀ w, (underlying T_sl_int).run Tryd.prog w = .ok (.slice T_int) w := by intro w; kernel_rfl
  unfold Builtin.clear_
  simp only [List.getElem?_toArray, List.getElem?_cons_zero, Sem.run_bind, hun, Result.andThen, hz, zeroCells1, hr, Sem.run_pure]
end Go.Proofs
