/- Part of the proof of a law of this seat: facts that it uses, each proved here. No conditions. -/
import Derived.Test.YtcapooghkabloaaDoorIns
namespace Go.Proofs
open Go Go.Eng

theorem c_Insert_room {w : World} {g b cap n : Nat} {cs : List Value} {x : Value} (h : Row w T_int 1 (.slice (some ⟨g, 0, none⟩) n cap) n cs) (h1 : ∀ u ∈ cs, u.oneCell' = true) (hx : Cl w b T_int [x]) (hx1 : x.oneCell' = true) (hbg : b ≠ g) {i : Nat} (hi : i < n) (hroom : n + 1 ≤ cap) (hb : n ≤ 1000000) {K : Value → World → Prop}
    (k : ∀ w', Row w' T_int 1 (.slice (some ⟨g, 0, none⟩) (n + 1) cap) (n + 1) (cs.take i ++ [x] ++ cs.drop i) → Chg (· = g) w w' → K (.slice (some ⟨g, 0, none⟩) (n + 1) cap) w') :
    Cf Tryd.prog n_slices_Insert_ints #[.slice (some ⟨g, 0, none⟩) n cap, .int .i64 i, .slice (some ⟨b, 0, none⟩) 1 1] w K := by
  refine L_slices_Insert_ints _ _ _ _ _ ?_
  unfold S_slices_Insert_ints
  have hcs : cs.length = n := by have := h.1; omega
  rcases h.2 with ⟨a, e, h0⟩ | ⟨g', cap', full, e, hcl, hnc, hc0, hcm, hfl, hft⟩
  · omega
  cases e
  rw [Nat.mul_one] at hft hfl
  refine Vl.i (run_slc (l := i) (h := n) slB31 (.inr rfl) (.inl ⟨rfl, rfl⟩) (by omega) hnc w) ?_
  refine Vl.len (Vl.eql (Cond_bool (fun h => by have := of_decide_eq_true h; omega) fun _ => ?_))
  refine Vl.len (Vl.eql (Cond_bool (fun h => by have := of_decide_eq_true h; omega) fun _ => ?_))
  have en1 : (n : Int) + ((1 : Nat) : Int) = ((n + 1 : Nat) : Int) := by omega
  have ei1 : (i : Int) + ((1 : Nat) : Int) = ((i + 1 : Nat) : Int) := by omega
  refine Vl.add (Vl.cap (Vl.gtr (Cond_bool (fun h => by have := of_decide_eq_true h; omega) fun _ => ?_)))
  refine Vl.add ?_
  rw [en1]
  refine Vl.i (run_slcTake slB31 hroom (fun x hx => by cases hx; exact ⟨_, rfl⟩) w) ?_
  refine Vl.add ?_
  rw [ei1]
  have sl : ∀ l : Nat, 0 < cap - l → l ≤ n + 1 → ∀ w, (Instr.sliceAt T_sl_int (.slice (some ⟨g, 0, none⟩) (n + 1) cap) (some (.int .i64 (l : Nat))) none none).run Tryd.prog w = .ok (.slice (some ⟨g, l, none⟩) (n + 1 - l) (cap - l)) w := fun l hl hl2 w => by
    rw [run_slc (l := l) (h := n + 1) slB31 (.inr rfl) (.inl ⟨rfl, rfl⟩) hl2 hroom w, if_neg (by omega)]
    have : (some (⟨g, 0, none⟩ : Addr)).map (·.add (l * 1)) = some ⟨g, l, none⟩ := by
      show some ((⟨g, 0, none⟩ : Addr).add (l * 1)) = _
      rw [add_off]; congr 2; omega
    rw [this]
  have sl0 : ∀ l : Nat, 0 < cap - l → l ≤ n → ∀ w, (Instr.sliceAt T_sl_int (.slice (some ⟨g, 0, none⟩) n cap) (some (.int .i64 (l : Nat))) none none).run Tryd.prog w = .ok (.slice (some ⟨g, l, none⟩) (n - l) (cap - l)) w := fun l hl hl2 w => by
    rw [run_slc (l := l) (h := n) slB31 (.inr rfl) (.inl ⟨rfl, rfl⟩) hl2 hnc w, if_neg (by omega)]
    have : (some (⟨g, 0, none⟩ : Addr)).map (·.add (l * 1)) = some ⟨g, l, none⟩ := by
      show some ((⟨g, 0, none⟩ : Addr).add (l * 1)) = _
      rw [add_off]; congr 2; omega
    rw [this]
  refine Vl.i (sl (i + 1) (by omega) (by omega) w) ?_
  have hfne : full ≠ [] := by intro e; rw [e] at hfl; simp at hfl; omega
  refine c_overlaps hx hcl hbg hfne (Vl.not (Cond_bool (fun _ => ?_) fun h => by cases h))
  refine ⟨fun _ => True, trivial, Pv.add ?_⟩
  rw [ei1]
  refine Pv.i (sl (i + 1) (by omega) (by omega)) (Pv.i (sl i (by omega) (by omega)) ?_)
  have hmid : ((full.drop i).take (n - i)).length = n - i := by simp; omega
  have hp := insert_pure full cs x i n hft hi (by omega)
  have hall : ∀ u ∈ (full.drop i).take (n - i), u.oneCell' = true := fun u hu => by
    refine h1 u ?_
    have : (full.drop i).take (n - i) = cs.drop i := by rw [← hft, List.drop_take]
    rw [this] at hu
    exact List.mem_of_mem_drop hu
  refine Vl.copy (cs := (full.drop i).take (n - i)) hcl.dr (by rw [hmid]; have e : Nat.min (n + 1 - i) (n + 1 - (i + 1)) = n + 1 - (i + 1) := Nat.min_eq_right (by omega); rw [e]; omega) (fun j v hv => ?_) (by rw [hmid]; omega) hall fun w2 h2 => ⟨fun _ => True, trivial, ?_⟩
  · rw [add_off]
    refine hcl.dr.cell ?_
    rw [List.getElem?_take] at hv
    split at hv
    · rw [List.getElem?_drop] at hv; exact hv
    · cases hv
  refine Vl.i (sl i (by omega) (by omega) w2) ?_
  have hx2 : Cl w2 b T_int [x] := (hx.ext (dr_ext w)).chg h2.chg hbg
  refine Vl.copy (cs := [x]) h2.cl (Nat.min_eq_left (show 1 ≤ n + 1 - i by omega)).symm (fun j v hv => ?_) ?_ (fun u hu => by simp at hu; subst hu; exact hx1) fun w3 h3 => ?_
  · rw [add_off, Nat.zero_add]; exact hx2.cell hv
  · simp [hmid]; omega
  · refine k w3 ⟨?_, .inr ⟨g, cap, _, rfl, h3.cl, hroom, hc0, hcm, ?_, ?_⟩⟩ ?_
    · simp [hcs]; omega
    · rw [Nat.mul_one, ← hfl]; exact hp.1
    · rw [Nat.mul_one]; exact hp.2
    · exact ((dr_ext w).to (S := (· = g))).then h2.chg |>.then h3.chg
end Go.Proofs
