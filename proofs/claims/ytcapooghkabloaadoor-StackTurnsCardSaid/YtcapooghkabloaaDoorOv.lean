/- Part of the proof of a law of this seat: facts that it uses, each proved here. No conditions. -/
import Derived.Test.YtcapooghkabloaaDoorDel4
import Derived.Lib.Overlaps
import Derived.Laws.CopyRow
namespace Go.Proofs
open Go Go.Eng
theorem run_call_overlaps (a b : Value) (w : World) : (callFunc n_slices_overlaps_int #[a, b]).run Tryd.prog w = ((do pure (.value (← Extern.SlicesOverlaps.overlaps #[T_sl_int, T_sl_int] #[T_bool] #[a, b])) : Sem Next)).run Tryd.prog w := by kernel_rfl
theorem c_overlaps {w : World} {b g o lb ca cb : Nat} {x : Value} {full : List Value} (h1 : Cl w b T_int [x]) (h2 : Cl w g T_int full) (hne : b ≠ g) (hf : full ≠ []) {K : Value → World → Prop} (k : K (.bool false) w) :
    Cf Tryd.prog n_slices_overlaps_int #[.slice (some ⟨b, 0, none⟩) 1 ca, .slice (some ⟨g, o, none⟩) lb cb] w K := by
  refine CallF.value_ (.bool false) w ?_ k
  rw [run_call_overlaps, Sem.run_bind]
  have hz : ∀ w, (Go.sizeOf T_int).run Tryd.prog w = .ok 1 w := by intro w; kernel_rfl
  rw [Go.Lib.run_overlaps_apart w T_sl_int T_bool T_int (by kernel_rfl) 1 hz ⟨b, 0, none⟩ ⟨g, o, none⟩ 1 ca lb cb hne T_int T_int 1 full.length
    (by unfold World.shape?; unfold Cl at h1; rw [h1]; rfl) (by unfold World.shape?; unfold Cl at h2; rw [h2]; simp) (by intro e; exact hf (List.eq_nil_of_length_eq_zero e)) (h1.frozen 0) (h1.frozen 1)]
  rfl
end Go.Proofs
