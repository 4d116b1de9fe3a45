/- Part of the proof of a law of this seat: facts that it uses, each proved here. No conditions. -/
import Derived.Test.YtcapooghkabloaaDoorDel2
namespace Go.Eng
open Go
theorem run_slc3 {P : Program} {T E sz n c : Nat} {a : Option Addr} {l h m : Nat} (hT : slB P T E sz = true) (h1 : l ≤ h) (h2 : h ≤ m) (h3 : m ≤ c) (w : World) :
    (Instr.sliceAt T (.slice a n c) (some (.int .i64 l)) (some (.int .i64 h)) (some (.int .i64 m))).run P w = .ok (.slice (if m = l then a else a.map (·.add (l * sz))) (h - l) (m - l)) w := by
  obtain ⟨by_, i, z, hs, _⟩ := SlT.of hT
  have hu := run_underlying' hs.under
  have hsz : ∀ w, (sizeOf E).run P w = .ok sz w := run_sizeOf (by unfold szT; rw [hs.info]; show Nat.beq i.size sz = true; rw [hs.size]; exact Nat.beq_refl sz)
  have b1 : ∀ (x y : Nat) (c : BoundsCode), x ≤ y → ∀ w, (Instr.sliceBound (.int .i64 x) y c).run P w = .ok x w := fun x y c hxy w => by
    unfold Instr.sliceBound asIntOf
    simp only [Sem.run_bind, Sem.run_pure, Result.andThen]
    rw [if_pos ⟨by omega, by omega⟩]; rfl
  unfold Instr.sliceAt
  rw [Sem.run_bind, hu]
  simp only [Result.andThen]
  unfold Instr.slice
  rw [Sem.run_bind, hu]
  simp only [Result.andThen, Instr.sliceBounds]
  simp [Sem.run_bind, Result.andThen, b1, h1, h2, h3, hsz]
end Go.Eng
namespace Go.Proofs
open Go Go.Eng

theorem slB31 : slB Tryd.prog T_sl_int T_int 1 = true := by kernel_rfl
theorem c_Delete1 {w : World} {g cap n : Nat} {cs : List Value} (h : Row w T_int 1 (.slice (some ⟨g, 0, none⟩) n cap) n cs) (h1 : ∀ u ∈ cs, u.oneCell' = true) {i : Nat} (hi : i < n) (hb : n ≤ 1000000) {K : Value → World → Prop}
    (k : ∀ w', Row w' T_int 1 (.slice (some ⟨g, 0, none⟩) (n - 1) cap) (n - 1) (cs.eraseIdx i) → Chg (· = g) w w' → K (.slice (some ⟨g, 0, none⟩) (n - 1) cap) w') :
    Cf Tryd.prog n_slices_Delete_ints #[.slice (some ⟨g, 0, none⟩) n cap, .int .i64 i, .int .i64 ((i : Int) + 1)] w K := by
  refine L_slices_Delete_ints _ _ _ _ _ ?_
  unfold S_slices_Delete_ints
  have hcs : cs.length = n := by have := h.1; omega
  rcases h.2 with ⟨a, e, h0⟩ | ⟨g', cap', full, e, hcl, hnc, hc0, hcm, hfl, hft⟩
  · omega
  cases e
  have ei : (i : Int) + 1 = ((i + 1 : Nat) : Int) := by omega
  rw [Nat.mul_one] at hft hfl
  refine Vl.len ?_
  rw [ei]
  refine Vl.i (run_slc3 slB31 (by omega) (by omega) hnc w) (Vl.eql (Cond_bool (fun h => by have := of_decide_eq_true h; omega) fun _ => Vl.len ⟨fun _ => True, trivial, ?_⟩))
  refine Pv.i (v := .slice (some ⟨g, 0, none⟩) i cap) (run_slcTake slB31 (by omega) (fun x hx => by cases hx; exact ⟨_, rfl⟩)) ?_
  refine Pv.i (run_slc (l := i + 1) (h := n) slB31 (.inr rfl) (.inl ⟨rfl, rfl⟩) (by omega) hnc) ?_
  -- the source
  have hsrc : ∃ a' : Addr, (if cap = i + 1 then (some (⟨g, 0, none⟩ : Addr)) else (some (⟨g, 0, none⟩ : Addr)).map (·.add ((i + 1) * 1))) = some a' ∧ ∀ j u, (cs.drop (i + 1))[j]? = some u → (dr w).cell? (a'.add j) = some u := by
    by_cases hc : cap = i + 1
    · refine ⟨_, if_pos hc, fun j u hu => ?_⟩
      have : cs.drop (i + 1) = [] := List.drop_eq_nil_of_le (by omega)
      rw [this] at hu; cases hu
    · refine ⟨⟨g, i + 1, none⟩, ?_, fun j u hu => ?_⟩
      · rw [if_neg hc]
        show some ((⟨g, 0, none⟩ : Addr).add ((i + 1) * 1)) = _
        rw [add_off]; congr 2; omega
      · rw [add_off]
        rw [List.getElem?_drop] at hu
        exact (h.ext (dr_ext w)).cell hu
  obtain ⟨a', ea, hcell⟩ := hsrc
  rw [ea]
  have hdl : (cs.drop (i + 1)).length = n - (i + 1) := by rw [List.length_drop, hcs]
  refine Vl.appendFit (E := T_int) (sz := 1) (news := cs.drop (i + 1)) slB31 hcl.dr (by omega) (by omega) (by omega) hcell (fun u hu => h1 u (List.mem_of_mem_drop hu)) fun w2 h2 => ⟨fun _ => True, trivial, ?_⟩
  have en : i + (n - (i + 1)) = n - 1 := by omega
  rw [en]
  rw [hdl] at h2
  have en' : i * 1 + (n - (i + 1)) = n - 1 := by omega
  rw [en', Nat.mul_one] at h2
  have ef1 : (full.take i ++ cs.drop (i + 1) ++ full.drop (n - 1)).length = cap := by simp [hcs]; omega
  refine Vl.len (Vl.slc (E := T_int) (sz := 1) (n - 1) n (.inr rfl) (.inr rfl) (by omega) hnc ?_)
  rw [if_neg (by omega)]
  have e1 : n - (n - 1) = 1 := by omega
  have e2 : (some (⟨g, 0, none⟩ : Addr)).map (·.add ((n - 1) * 1)) = some ⟨g, n - 1, none⟩ := by
    show some ((⟨g, 0, none⟩ : Addr).add ((n - 1) * 1)) = _
    rw [add_off]; congr 2; omega
  rw [e1, e2]
  obtain ⟨w3, hr3, h3⟩ := run_clear1 (c := cap - (n - 1)) h2.cl (o := n - 1) (by omega)
  refine Vl.i hr3 (k w3 ⟨?_, .inr ⟨g, cap, _, rfl, h3.cl, by omega, hc0, hcm, ?_, ?_⟩⟩ ?_)
  · rw [List.length_eraseIdx]; simp [hcs, hi]
  · simp [hcs]; omega
  · have el2 : (full.take i ++ cs.drop (i + 1)).length = n - 1 := by simp [hcs]; omega
    rw [Nat.mul_one, List.append_assoc, List.take_append_of_le_length (by rw [List.length_take, ef1]; omega), List.take_take, Nat.min_self, List.take_append_of_le_length (by rw [el2]; omega), List.take_of_length_le (by rw [el2]; omega), List.eraseIdx_eq_take_drop_succ]
    have ecs : cs.take i = full.take i := by
      exact (congrArg (List.take i) hft.symm).trans ((List.take_take ..).trans (congrArg (fun k => full.take k) (Nat.min_eq_left (Nat.le_of_lt hi))))
    rw [ecs]
  · exact ((dr_ext w).to (S := (· = g))).then h2.chg |>.then h3.chg
end Go.Proofs
