/- Part of the proof of a law of this seat: facts that it uses, each proved here. No conditions. -/
import Derived.Test.YtcapooghkabloaaDoorDel3
namespace Go.Proofs
open Go Go.Eng

theorem idx_lt {α : Type} [DecidableEq α] (a : α) : ∀ (l : List α) (k : Nat), idx a l k < (k + l.length : Nat) ∧ -1 ≤ idx a l k
  | [], k => ⟨by show (-1 : Int) < _; omega, Int.le_refl _⟩
  | x :: l, k => by
    have := idx_lt a l (k + 1)
    unfold idx
    simp only [List.length_cons]
    split <;> constructor <;> omega
/-- What is left when an element is taken out. -/
def remF (i : Nat) (xs : List Nat) : List Nat := if 0 ≤ idx i xs 0 then xs.eraseIdx (idx i xs 0).toNat else xs
theorem c_Remove {ρ : Roles} {j : Nat} {w : World} {S A : Nat} {xs : List Nat} (h : SInv ρ j w S A xs) (hb : xs.length ≤ 1000000) {i : Nat} {K : Value → World → Prop}
    (k : ∀ w', Chg (StB j ρ) w w' → SInv ρ j w' S A (remF i xs) → K (.tuple #[]) w') : Cf Tryd.prog n_stack_Stack_Remove #[.pointer (some ⟨S, 0, none⟩), .int .i64 i] w K := by
  refine L_stack_Stack_Remove _ _ _ _ ?_
  unfold S_stack_Stack_Remove
  have hlt := idx_lt i xs 0
  refine c_Find h hb (Vl.geq (Cond_bool (fun h0 => ?_) (fun h0 => ?_)))
  · have h0 := of_decide_eq_true h0
    have hr : remF i xs = xs.eraseIdx (idx i xs 0).toNat := by unfold remF; rw [if_pos h0]
    rw [hr] at k
    obtain ⟨n, hn⟩ : ∃ n : Nat, idx i xs 0 = n := ⟨(idx i xs 0).toNat, by omega⟩
    rw [hn] at hlt k ⊢
    have e : ((n : Int)).toNat = n := by omega
    rw [e] at k
    obtain ⟨ov, h⟩ := h
    obtain ⟨oa, oc, rfl, hoa⟩ := h.row.val
    obtain ⟨g, rfl⟩ := hoa (by omega)
    refine ⟨trivial, Vl.fa (Vl.ld h.cl rfl (Vl.add ?_))⟩
    have hg : ρ g = some (j, .opn) := by
      refine h.rowRole g ?_
      have : 0 < oc := by have := h.row.le; omega
      exact blk_some this
    have hgS : g ≠ S := fun e => by rw [e, h.role] at hg; cases hg
    refine c_Delete1 h.row (by intro u hu; unfold nats at hu; obtain ⟨x, _, rfl⟩ := List.mem_map.1 hu; rfl) (by omega) hb fun w1 hr1 hC1 => ?_
    have hS1 : Cl w1 S T_stack_Stack [.pointer (some ⟨A, 0, none⟩), .slice (some ⟨g, 0, none⟩) xs.length oc] := h.cl.chg hC1 fun e => hgS e.symm
    refine ⟨trivial, Vl.fa (Ef.set hS1 (by simp) fun w2 h2 => ?_)⟩
    have hlen : (xs.eraseIdx n).length = xs.length - 1 := by rw [List.length_eraseIdx]; rw [if_pos (by omega)]
    refine k w2 ((hC1.trans h2.chg).mono fun x _ e => ?_) ⟨.slice (some ⟨g, 0, none⟩) (xs.length - 1) oc, h2.cl, h.role, ?_, fun b hb => ?_⟩
    · rcases e with e | e
      · have e : x = g := e
        exact .inr (e ▸ hg)
      · have e : x = S := e
        exact .inl (e ▸ h.role)
    · rw [hlen]
      have := hr1.chg h2.chg fun b hb e => by
        have e : b = S := e
        rw [e, blk_take (m := xs.length)] at hb
        have := h.rowRole S hb
        rw [h.role] at this; cases this
      have e2 : nats (xs.eraseIdx n) = (nats xs).eraseIdx n := by unfold nats; simp [List.eraseIdx_eq_take_drop_succ]
      rw [e2]; exact this
    · refine h.rowRole b ?_
      rw [blk_take (m := xs.length - 1)]; exact hb
  · have h0 := of_decide_eq_false h0
    have hr : remF i xs = xs := by unfold remF; rw [if_neg h0]
    rw [hr] at k
    exact k w (Chg.refl _ _) h
end Go.Proofs
