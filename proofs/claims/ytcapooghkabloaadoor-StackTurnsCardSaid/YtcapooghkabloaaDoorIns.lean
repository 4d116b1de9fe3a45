/- Part of the proof of a law of this seat: facts that it uses, each proved here. No conditions. -/
import Derived.Test.YtcapooghkabloaaDoorCp
namespace Go.Proofs
open Go Go.Eng

theorem insert_pure {α : Type} (full cs : List α) (x : α) (i n : Nat) (hcs : full.take n = cs) (hi : i < n) (hn : n + 1 ≤ full.length) :
    let mid := (full.drop i).take (n - i)
    let f1 := full.take (i + 1) ++ mid ++ full.drop (i + 1 + mid.length)
    let f2 := f1.take i ++ [x] ++ f1.drop (i + [x].length)
    f2.length = full.length ∧ f2.take (n + 1) = cs.take i ++ [x] ++ cs.drop i := by
  intro mid f1 f2
  have hm : mid.length = n - i := by simp [mid]; omega
  have hf1 : f1.length = full.length := by simp [f1, hm]; omega
  have e1 : f1.take i = full.take i := by
    simp only [f1, List.append_assoc]
    rw [List.take_append_of_le_length (by simp; omega), List.take_take, Nat.min_eq_left (by omega)]
  have e2 : f1.drop (i + 1) = mid ++ full.drop (i + 1 + mid.length) := by
    simp only [f1, List.append_assoc]
    have : (full.take (i + 1)).length = i + 1 := by simp; omega
    exact List.drop_left' this
  have hf2 : f2 = full.take i ++ [x] ++ (mid ++ full.drop (i + 1 + mid.length)) := by
    show f1.take i ++ [x] ++ f1.drop (i + 1) = _
    rw [e1, e2]
  have hti : (full.take i).length = i := by simp; omega
  refine ⟨by rw [hf2]; simp [hm]; omega, ?_⟩
  have ec : cs.take i = full.take i := by rw [← hcs, List.take_take, Nat.min_eq_left (by omega)]
  have ed : cs.drop i = mid := by rw [← hcs, List.drop_take]
  rw [hf2, ec, ed]
  have hl : (full.take i ++ [x] ++ mid).length = n + 1 := by simp [hm]; omega
  rw [← List.append_assoc]
  exact List.take_left' hl
end Go.Proofs
