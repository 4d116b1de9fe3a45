/- Part of the proof of a law of this seat: facts that it uses, each proved here. No conditions. -/
import Derived.Test.YtcapooghkabloaaDoorAr6
namespace Go.Proofs
open Go Go.Eng

def elN (n : ByteArray) : NodeM := ⟨n, [], ⟨#[]⟩, -1, []⟩
def mOf (l : List ByteArray) : AM := ⟨rootN :: l.map elN, List.range (l.length + 1), 0⟩
def xsOf (n : Nat) : List Nat := (List.range n).map (· + 1)
theorem xsOf_len (n : Nat) : (xsOf n).length = n := by unfold xsOf; simp
theorem mOf_snoc (l : List ByteArray) (n : ByteArray) : ({ mOf l with nodes := (mOf l).nodes ++ [elN n], elems := (mOf l).elems ++ [(mOf l).nodes.length] } : AM) = mOf (l ++ [n]) := by
  unfold mOf
  simp [List.range_succ]
theorem xsOf_succ (n : Nat) : xsOf (n + 1) = xsOf n ++ [n + 1] := by unfold xsOf; simp [List.range_succ]
theorem mOf_elems (l : List ByteArray) : (mOf l).elems.length = l.length + 1 := by unfold mOf; simp
theorem mOf_nodes (l : List ByteArray) : (mOf l).nodes.length = l.length + 1 := by unfold mOf; simp
theorem live_mOf (l : List ByteArray) : ∀ i ∈ xsOf l.length, Live (mOf l) i := by
  intro i hi
  obtain ⟨k, hk, rfl⟩ := List.mem_map.1 hi
  have hk := List.mem_range.1 hk
  refine ⟨k + 1, elN l[k], ?_, ?_⟩
  · show (List.range (l.length + 1))[k + 1]? = some (k + 1)
    rw [List.getElem?_range (by omega)]
  · show (rootN :: l.map elN)[k + 1]? = some (elN l[k])
    simp [hk]
theorem nm_mOf (l : List ByteArray) (k : Nat) (hk : k < l.length) : nmOf (mOf l) (xsOf l.length) k = l[k] := by
  unfold nmOf xsOf
  have : ((List.range l.length).map (· + 1)).getD k 0 = k + 1 := by simp [hk]
  rw [this]
  unfold nameAt mOf
  have h1 : (List.range (l.length + 1))[k + 1]? = some (k + 1) := by rw [List.getElem?_range (by omega)]
  simp only [h1, Option.bind_some]
  simp [hk, elN]

theorem SInv.chgA {ρ ρ' : Roles} {j : Nat} {w w' : World} {S A : Nat} {xs : List Nat} (h : SInv ρ j w S A xs) (hr : RExt ρ ρ' w) (c : Chg (ArB j ρ) w w') : SInv ρ' j w' S A xs :=
  h.chg hr c fun _ hb hx => not_StB_ArB hx hb
theorem AInv.chgS {ρ ρ' : Roles} {j : Nat} {w w' : World} {A : Nat} {m : AM} (h : AInv ρ j w A m) (hr : RExt ρ ρ' w) (c : Chg (StB j ρ) w w') : AInv ρ' j w' A m :=
  h.chg hr c (fun b hb hx => by rcases hx with e | e <;> (rw [hb] at e; cases e)) fun b hb hx => not_StB_ArB hb hx
theorem RGrow.refl (ρ : Roles) (j : Nat) {w : World} (h : ∀ k, w.heap.size ≤ k → ρ k = none) : RGrow j ρ ρ w := ⟨RExt.refl _ _, fun k hk i r e => by rw [h k hk] at e; cases e⟩
/-- What changes only in new blocks of an instance. -/
theorem new_only {ρ ρ' : Roles} {j : Nat} {w w1 w2 : World} (hF : Fresh ρ j w) (hR : RExt ρ ρ' w) (hE : Ext w w1) {X : Nat → Prop} (hX : ∀ b, X b → ∃ r, ρ' b = some (j, r)) (c : Chg X w1 w2) : Ext w w2 :=
  Chg.newer hE c fun x hx e => by
    obtain ⟨r, e⟩ := hX x e
    rw [hR x hx] at e
    exact hF x r hx e
theorem ArB.role {ρ : Roles} {j b : Nat} (h : ArB j ρ b) : ∃ r, ρ b = some (j, r) := by obtain ⟨r, h, _⟩ := h; exact ⟨r, h⟩
theorem StB.role {ρ : Roles} {j b : Nat} (h : StB j ρ b) : ∃ r, ρ b = some (j, r) := by rcases h with h | h <;> exact ⟨_, h⟩

theorem c_laid {ρ : Roles} {j : Nat} {w : World} (hF : Fresh ρ j w) {v : Value} {l : List ByteArray} (hv : Strs w v l) (hb : l.length ≤ 1000) {K : Value → World → Prop}
    (k : ∀ ρ' w' S A, RGrow j ρ ρ' w → Ext w w' → AInv ρ' j w' A (mOf l) → SInv ρ' j w' S A (xsOf l.length) → K (.pointer (some ⟨S, 0, none⟩)) w') : Cf Tryd.prog n_decanterlaw13_laid #[v] w K := by
  refine L_decanterlaw13_laid _ _ _ ?_
  unfold S_decanterlaw13_laid
  refine c_arena_New hF fun ρ1 w1 A hR1 hE1 hA1 => ?_
  refine Vl.i (w' := w1) (v := .bool false) (by kernel_rfl) (Cond_bool (fun h => by cases h) fun _ => ?_)
  refine c_stack_New (ρ := ρ1) (j := j) fun ρ2 w2 S hR2 hE2 hS2 => ?_
  refine Vl.i (w' := w2) (v := .bool false) (by kernel_rfl) (Cond_bool (fun h => by cases h) fun _ => ?_)
  obtain ⟨a, c, rfl⟩ := hv.val
  have s1 := hE1.size
  have hR02 := hR1.trans hR2 s1
  refine Vl.len ⟨fun g ds w' => ∃ (i : Nat) (ρ' : Roles), g = [.int .i64 i] ∧ ds = [] ∧ i ≤ l.length ∧ RGrow j ρ ρ' w ∧ Ext w w' ∧ AInv ρ' j w' A (mOf (l.take i)) ∧ SInv ρ' j w' S A (xsOf i), fun g _ => (l.length - intAt g 0).toNat,
    ⟨0, ρ2, rfl, rfl, by omega, hR02, hE1.then hE2, hA1.chg hR2.1 hE2 (fun _ _ => id) (fun _ _ => id), hS2⟩, ?_⟩
  rintro g ds wa ⟨i, ρ', hg, rfl, hi, hR, hE, hA, hS⟩
  have e16 : g 16 = .int .i64 i := by injection hg
  rw [e16]
  refine Vl.lss (Cond_bool (fun h => ?_) (fun h => ?_))
  · have hlt : i < l.length := by have := of_decide_eq_true h; omega
    obtain ⟨gb, go, rfl, hcell⟩ := (hv.ext hE).at_ hlt
    refine Vl.ix 1 (by omega) (by omega) (Vl.lda (v := .string l[i]) (by simpa using hcell) ?_)
    have hlen : (l.take i).length = i := by simp; omega
    refine c_Element hA (l := []) (Row.nil _ _ _) (by simp) (by rw [mOf_nodes]; omega) (by rw [mOf_elems]; omega) fun ρ3 w3 hR3 hC3 hA3 => ?_
    have hS3 := hS.chgA hR3.1 hC3
    have s3 := hC3.size
    have s0 := hE.size
    refine c_Push hS3 (by rw [xsOf_len]; omega) fun ρ4 w4 hR4 hC4 hS4 => ?_
    have hA4 := hA3.chgS hR4.1 hC4
    have hE3 := new_only hF hR.1 hE (fun _ => ArB.role) hC3
    have hE4 := new_only hF (hR.trans hR3 s0).1 hE3 (fun _ => StB.role) hC4
    refine Vl.add ⟨⟨i + 1, ρ4, rfl, rfl, by omega, (hR.trans hR3 s0).trans hR4 hE3.size, hE4, ?_, ?_⟩, ?_⟩
    · have e : l.take (i + 1) = l.take i ++ [l[i]] := List.take_succ_eq_append_getElem hlt
      rw [e, ← mOf_snoc]; exact hA4
    · rw [xsOf_succ]
      rw [mOf_elems, hlen] at hS4; exact hS4
    · show ((l.length : Int) - ((i : Int) + 1)).toNat < ((l.length : Int) - (i : Int)).toNat; omega
  · have : i = l.length := by have := of_decide_eq_false h; omega
    subst this
    rw [List.take_length] at hA
    exact Lv.nil (k ρ' wa S A hR hE hA hS)

def emp : ByteArray := ⟨#[]⟩
def rightF (l : List ByteArray) : Bool := !(among l emp) && decide (l.length ≤ 40)
theorem c_right {w : World} {v : Value} {l : List ByteArray} (hv : Strs w v l) (hb : l.length ≤ 9223372036854775807) {K : Value → World → Prop} (k : K (.bool (rightF l)) w) : Cf Tryd.prog n_decanterlaw13_right #[v] w K := by
  refine L_decanterlaw13_right _ _ _ ?_
  unfold S_decanterlaw13_right
  obtain ⟨a, c, rfl⟩ := hv.val
  refine Vl.len ⟨fun g ds w' => ∃ (i : Nat), g = [.int .i64 i] ∧ ds = [] ∧ i ≤ l.length ∧ w' = w ∧ among (l.take i) emp = false, fun g _ => (l.length - intAt g 0).toNat,
    ⟨0, rfl, rfl, by omega, rfl, rfl⟩, ?_⟩
  rintro g ds _ ⟨i, hg, rfl, hi, rfl, hn⟩
  have e7 : g 7 = .int .i64 i := by injection hg
  rw [e7]
  refine Vl.lss (Cond_bool (fun h => ?_) (fun h => ?_))
  · have hlt : i < l.length := by have := of_decide_eq_true h; omega
    obtain ⟨gb, go, rfl, hcell⟩ := hv.at_ hlt
    refine Vl.ix 1 (by omega) (by omega) (Vl.lda (v := .string l[i]) (by simpa using hcell) (Vl.seql (Cond_bool (fun h => ?_) (fun h => ?_))))
    · have h := of_decide_eq_true h
      have : rightF l = false := by
        have : among l emp = true := by rw [among_iff]; unfold emp; rw [← h]; exact List.getElem_mem hlt
        unfold rightF; rw [this]; rfl
      rw [this] at k; exact Lv.nil k
    · have h := of_decide_eq_false h
      refine Vl.add ⟨⟨i + 1, rfl, rfl, by omega, rfl, ?_⟩, ?_⟩
      · rw [List.take_succ_eq_append_getElem hlt]
        unfold among at *
        rw [List.any_append, hn]
        have : emp ≠ l[i] := fun e => h e.symm
        simp [this]
      · show ((l.length : Int) - ((i : Int) + 1)).toNat < ((l.length : Int) - (i : Int)).toNat; omega
  · have : i = l.length := by have := of_decide_eq_false h; omega
    subst this
    rw [List.take_length] at hn
    refine Vl.len (Vl.leq (Lv.nil ?_))
    have : rightF l = decide ((l.length : Int) ≤ 40) := by unfold rightF; rw [hn]; simp; omega
    rw [this] at k; exact k
end Go.Proofs
