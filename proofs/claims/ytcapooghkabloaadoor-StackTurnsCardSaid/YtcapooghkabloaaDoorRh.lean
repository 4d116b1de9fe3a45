/- Part of the proof of a law of this seat: facts that it uses, each proved here. No conditions. -/
import Derived.Test.YtcapooghkabloaaDoorRg
namespace Go.Proofs
open Go Go.Eng

theorem AInv.chgOne {ρ : Roles} {i j : Nat} {w w' : World} {A S : Nat} {m : AM} {r : RK} (h : AInv ρ j w A m) (hS : ρ S = some (i, r)) (hr : isAr r = false) (hC : Chg (· = S) w w') : AInv ρ j w' A m :=
  h.chg (RExt.refl _ _) hC (fun b hb e => by
    have e : b = S := e
    rw [e, hS] at hb; cases hb) (fun b hb e => by
    have e : b = S := e
    obtain ⟨r', h1, h2⟩ := hb
    rw [e, hS] at h1; cases h1; rw [hr] at h2; cases h2)
theorem SInv.take {ρ : Roles} {j : Nat} {w w' : World} {S A : Nat} {xs : List Nat} {a : Option Addr} {c : Nat} (h : SPh ρ j w S A xs (.slice a xs.length c)) {n : Nat} (hn : n ≤ xs.length) (hC : Chg (· = S) w w')
    (hcl : Cl w' S T_stack_Stack [.pointer (some ⟨A, 0, none⟩), .slice a n c]) : SInv ρ j w' S A (xs.take n) := by
  refine ⟨.slice a n c, hcl, h.role, ?_, fun b hb => ?_⟩
  · have := (h.row.take hn rfl).chg hC fun b hb e => by
      have e : b = S := e
      rw [e, blk_take (m := xs.length)] at hb
      have := h.rowRole S hb
      rw [h.role] at this; cases this
    have e3 : (xs.take n).length = n := by simp; omega
    have e2 : nats (xs.take n) = (nats xs).take (n * 1) := by unfold nats; simp
    rw [e3, e2]; exact this
  · refine h.rowRole b ?_
    rw [blk_take (m := n)]; exact hb

theorem c_Pop {ρ : Roles} {j : Nat} {w : World} {S A : Nat} {xs : List Nat} (h : SInv ρ j w S A xs) (hb : xs.length ≤ 1000000) {K : Value → World → Prop}
    (k0 : xs = [] → K (.tuple #[.int .i64 0, .bool false]) w)
    (k : 0 < xs.length → ∀ w', Chg (· = S) w w' → SInv ρ j w' S A (xs.take (xs.length - 1)) → K (.tuple #[.int .i64 (topOf xs), .bool true]) w') : Cf Tryd.prog n_stack_Stack_Pop #[.pointer (some ⟨S, 0, none⟩)] w K := by
  obtain ⟨ov, h⟩ := h
  obtain ⟨oa, oc, rfl, _⟩ := h.row.val
  refine L_stack_Stack_Pop _ _ _ ?_
  unfold S_stack_Stack_Pop
  refine ⟨trivial, Vl.fa (Vl.ld h.cl rfl (Vl.len (Vl.sub (Vl.lss (Cond_bool (fun h0 => ?_) (fun h0 => ?_))))))⟩
  · have h0 := of_decide_eq_true h0
    exact k0 (List.eq_nil_of_length_eq_zero (by omega))
  · have h0 := of_decide_eq_false h0
    have hlt : xs.length - 1 < xs.length := by omega
    obtain ⟨g, rfl, hc⟩ := h.cell hlt
    have e : (xs.length : Int) - 1 = (xs.length - 1 : Nat) := by omega
    rw [e]
    refine ⟨trivial, Vl.fa (Vl.ld h.cl rfl (Vl.ix 1 (by omega) (by omega) (Vl.lda (v := .int .i64 (topOf xs)) (by rw [Nat.mul_one, Nat.zero_add]; exact hc) ⟨trivial, Vl.fa (Vl.ld h.cl rfl (Vl.take h.row (by omega) ⟨trivial, Vl.fa (Ef.set h.cl (by simp) fun w1 h1 => ?_)⟩))⟩)))⟩
    exact k (by omega) w1 h1.chg (SInv.take h (by omega) h1.chg h1.cl)
end Go.Proofs
