/- Part of the proof of a law of this seat: facts that it uses, each proved here. No conditions. -/
import Derived.Test.YtcapooghkabloaaDoorIns3
namespace Go.Proofs
open Go Go.Eng
/-- slices.Insert of one value at a place of a row. -/
theorem c_SlIns {w : World} {v : Value} {b n : Nat} {cs : List Value} {x : Value} (h : Row w T_int 1 v n cs) (h1 : ∀ u ∈ cs, u.oneCell' = true) (hx : Cl w b T_int [x]) (hx1 : x.oneCell' = true) (hbg : blk v ≠ some b) {i : Nat} (hi : i ≤ n) (hb : n ≤ 1000000) {K : Value → World → Prop}
    (k : ∀ v' w', Row w' T_int 1 v' (n + 1) (cs.take i ++ [x] ++ cs.drop i) → Chg (fun k => blk v = some k) w w' → (∀ k, blk v' = some k → blk v = some k ∨ (w.heap.size ≤ k ∧ k < w'.heap.size)) → K v' w') :
    Cf Tryd.prog n_slices_Insert_ints #[v, .int .i64 i, .slice (some ⟨b, 0, none⟩) 1 1] w K := by
  have hcs : cs.length = n := by have := h.1; omega
  obtain ⟨a, c, rfl, ha⟩ := h.val
  have hnc := h.le
  by_cases hlt : i < n
  · obtain ⟨g, rfl⟩ := ha (by omega)
    have hbv : blk (.slice (some ⟨g, 0, none⟩) n c) = some g := blk_some (by omega)
    rw [hbv] at hbg k
    have hne : b ≠ g := fun e => hbg (by rw [e])
    by_cases hroom : n + 1 ≤ c
    · refine c_Insert_room h h1 hx hx1 hne hlt hroom hb fun w' hr hC => k _ w' hr (hC.mono fun x _ e => ?_) fun x hx => .inl ?_
      · have e : x = g := e
        rw [e]
      · rw [blk_some (by omega)] at hx; exact hx
    · refine c_Insert_grow h h1 hx hx1 hlt hroom hb fun cap' w' hr hc hE hs => k _ w' hr (Ext.to hE) fun x hx => .inr ?_
      rw [blk_some hc] at hx; cases hx
      exact ⟨Nat.le_refl _, hs⟩
  · have e : i = n := by omega
    subst e
    refine L_slices_Insert_ints _ _ _ _ _ ?_
    unfold S_slices_Insert_ints
    refine Vl.i (run_slc (l := i) (h := i) slB31 (.inr rfl) (.inl ⟨rfl, rfl⟩) (Nat.le_refl _) hnc w) ?_
    refine Vl.len (Vl.eql (Cond_bool (fun h => by have := of_decide_eq_true h; omega) fun _ => ?_))
    refine Vl.len (Vl.eql (Cond_bool (fun _ => ?_) fun h => by have := of_decide_eq_false h; omega))
    refine Vl.app (m := 1) h hx rfl (by intro u hu; simp at hu; subst hu; exact hx1) (by omega) fun v' w' hr hc hbk => ?_
    refine k v' w' ?_ hc hbk
    rw [List.take_of_length_le (by omega), List.drop_of_length_le (by omega), List.append_nil]
    exact hr

theorem c_Insert {ρ : Roles} {j : Nat} {w : World} {S A : Nat} {xs : List Nat} (h : SInv ρ j w S A xs) {p i : Nat} (hp : p ≤ xs.length) (hb : xs.length ≤ 1000000) {K : Value → World → Prop}
    (k : ∀ ρ' w', RGrow j ρ ρ' w → Chg (StB j ρ) w w' → SInv ρ' j w' S A (xs.take p ++ [i] ++ xs.drop p) → K (.tuple #[]) w') : Cf Tryd.prog n_stack_Stack_Insert #[.pointer (some ⟨S, 0, none⟩), .int .i64 p, .int .i64 i] w K := by
  obtain ⟨ov, h⟩ := h
  refine L_stack_Stack_Insert _ _ _ _ _ ?_
  unfold S_stack_Stack_Insert
  refine ⟨trivial, Vl.fa (Vl.ld h.cl rfl (Vl.bs1 (E := T_int) (sz := 1) rfl fun w1 h1 => ?_))⟩
  refine c_SlIns (h.row.ext h1.ext) (by intro u hu; unfold nats at hu; obtain ⟨x, _, rfl⟩ := List.mem_map.1 hu; rfl) h1.cl rfl (fun e => by have := h.row.lt _ e; omega) hp hb fun v' w2 hr hc hbk => ?_
  have hne : ∀ b, blk ov = some b → b ≠ S := fun b hb e => by have := h.rowRole b hb; rw [e, h.role] at this; cases this
  have hS := h.cl
  have hSlt := hS.lt
  have hs1 : w1.heap.size = w.heap.size + 1 := h1.size
  have hS2 : Cl w2 S T_stack_Stack [.pointer (some ⟨A, 0, none⟩), ov] := (hS.nw h1).chg hc fun e => hne S e rfl
  refine ⟨trivial, Vl.fa ?_⟩
  have hone : One v' := by obtain ⟨a, c, rfl, _⟩ := hr.val; trivial
  refine Ef.set hS2 (by simp) (fun w3 h3 => ?_) hone
  have hC : Chg (fun b => blk ov = some b ∨ b = S) w w3 := (h1.ext.to.then hc).trans h3.chg |>.mono fun x _ e => e
  refine k (grow ρ w v' (j, .opn)) w3 (grow_grow _ _ _ _ _) (hC.mono fun x _ e => e.elim (fun e => .inr (h.rowRole x e)) fun e => .inl (e ▸ h.role)) ⟨v', h3.cl, (grow_ext _ _ _ _ S hSlt).trans h.role, ?_, fun b hb => grow_role hb fun hlt => ?_⟩
  · have := hr.chg h3.chg fun b hb => fun e => by
      subst e
      rcases hbk b hb with h6 | h6
      · exact hne b h6 rfl
      · omega
    have e1 : (xs.take p ++ [i] ++ xs.drop p).length = xs.length + 1 := by simp; omega
    have e2 : nats (xs.take p ++ [i] ++ xs.drop p) = (nats xs).take p ++ [Value.int .i64 i] ++ (nats xs).drop p := by unfold nats; simp
    rw [e1, e2]; exact this
  · rcases hbk b hb with h6 | h6
    · exact h.rowRole b h6
    · omega
end Go.Proofs
