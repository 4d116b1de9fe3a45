/- Part of the proof of a law of this seat: facts that it uses, each proved here. No conditions. -/
import Derived.Test.YtcapooghkabloaaDoorRg
namespace Go.Proofs
open Go Go.Eng

theorem Strs.drop {w : World} {a : Option Addr} {c : Nat} {l : List ByteArray} (h : Strs w (.slice a l.length c) l) {n : Nat} (hn : n ≤ l.length) : Strs w (.slice (if c = n then a else a.map (·.add (n * 1))) (l.length - n) (c - n)) (l.drop n) := by
  obtain ⟨a', c', e, hle, h⟩ := h
  cases e
  refine ⟨_, _, by rw [List.length_drop], by rw [List.length_drop]; omega, fun i hi => ?_⟩
  rw [List.length_drop] at hi
  obtain ⟨b, o, rfl, hc⟩ := h (n + i) (by omega)
  refine ⟨b, o + n, ?_, ?_⟩
  · rw [if_neg (by omega)]
    show some ((⟨b, o, none⟩ : Addr).add (n * 1)) = _
    rw [add_off, Nat.mul_one]
  · rw [Nat.add_assoc, hc]; simp
theorem Glob.pos {w : World} (h : Glob w) : 0 < w.heap.size := by
  have := h 0
  unfold World.cell? at this
  cases hx : w.heap[0]? with
  | none => simp only [hx] at this; cases this
  | some o => exact (Array.getElem?_eq_some_iff.1 hx).1
theorem SInv.new {ρ ρ' : Roles} {j : Nat} {w w' : World} {S A : Nat} {xs : List Nat} (hF : Fresh ρ j w) (hR : RExt ρ ρ' w) (h : SInv ρ' j w' S A xs) : w.heap.size ≤ S := by
  obtain ⟨ov, h⟩ := h
  by_cases hlt : S < w.heap.size
  · have := h.role
    rw [hR S hlt] at this
    exact absurd this (hF S _ hlt)
  · omega
theorem imp_mOf {but : ByteArray} {l : List ByteArray} : impF but (nmOf (mOf l) (xsOf l.length)) (xsOf l.length).length = impF but (nmL l) l.length := by rw [xsOf_len]; exact impF_congr _ (nm_mOf' l)
theorem impF_fix (but : ByteArray) (nm : Nat → ByteArray) : ∀ n, impF but nm (impF but nm n) = impF but nm n
  | 0 => rfl
  | n + 1 => by
    rw [impF_succ]
    split
    · rename_i h; rw [impF_succ, if_pos h]
    · rename_i h
      split
      · exact impF_fix but nm n
      · rename_i h2; rw [impF_succ, if_neg h, if_neg h2]
theorem impF_gone (but : ByteArray) (nm : Nat → ByteArray) : ∀ n k, impF but nm n ≤ k → k < n → nm k ≠ but ∧ inK 7 (nm k) = true
  | 0, k, _, h => by omega
  | n + 1, k, h1, h2 => by
    rw [impF_succ] at h1
    split at h1
    · omega
    · rename_i hb
      split at h1
      · rename_i hk
        by_cases e : k = n
        · subst e; exact ⟨hb, hk⟩
        · exact impF_gone but nm n k h1 (by omega)
      · omega
theorem impF_last (but : ByteArray) (nm : Nat → ByteArray) : ∀ n k, impF but nm n = k + 1 → nm k = but ∨ inK 7 (nm k) = false
  | 0, k, h => by cases h
  | n + 1, k, h => by
    rw [impF_succ] at h
    split at h
    · rename_i hb; have : n = k := by omega
      subst this; exact .inl hb
    · rename_i hb
      split at h
      · exact impF_last but nm n k h
      · rename_i hk
        have : n = k := by omega
        subst this
        exact .inr (by simpa using hk)

theorem c_StackImplied {w : World} (hG : Glob w) {v0 : Value} {names : List ByteArray} {but : ByteArray} (h0 : Strs w v0 names) (b0 : names.length ≤ 9223372036854775807) (hz : okSizes names)
    {K : Value → World → Prop} (k : ∀ w', Ext w w' → K (.bool true) w') : Cf Tryd.prog n_decanterlaw13_StackImplied #[v0, .string but] w K := by
  refine L_decanterlaw13_StackImplied _ _ _ _ ?_
  unfold S_decanterlaw13_StackImplied
  refine c_speaks hG fun w1 hE1 => Vl.not (Cond_bool (fun h => by cases h) fun _ => ?_)
  have sp : ∀ {wx : World}, Ext w wx → Cf Tryd.prog n_decanterlaw13_speaks #[] wx K := fun hx => c_speaks (hG.ext hx) fun w2 hE2 => k w2 (hx.then hE2)
  refine c_right (h0.ext hE1) b0 (Vl.not (Cond_bool (fun _ => sp hE1) fun hr0 => ?_))
  have l0 : names.length ≤ 40 := by
    have h : rightF names = true := by simpa using hr0
    unfold rightF at h; simp at h; exact h.2
  refine c_laid (j := 0) (fresh0 _ _) (h0.ext hE1) (by omega) fun ρ2 w2 S A hR2 hE2 hA2 hS2 => ?_
  have hE02 := hE1.then hE2
  have hSn : S ≠ 0 := by
    have := SInv.new (fresh0 0 w1) hR2.1 hS2
    have := (hG.ext hE1).pos
    omega
  have hnew : ∀ w', Chg (· = S) w2 w' → Ext w w' := fun w' hC => hE1.then (new_only (fresh0 0 w1) hR2.1 hE2 (X := (· = S)) (fun b hb => by
    obtain ⟨ov, hS⟩ := hS2
    exact ⟨_, hb ▸ hS.role⟩) hC)
  refine Vl.i (w' := w2) (v := .bool false) (by kernel_rfl) (Cond_bool (fun h => by cases h) fun _ => ?_)
  refine c_Implied hA2 hS2 (live_mOf _) (by rw [xsOf_len]; omega) (hG.ext hE02) hSn fun w3 hC3 hS3 => ?_
  rw [imp_mOf] at hS3
  have hle := impF_le but (nmL names) names.length
  have hlast := impF_last but (nmL names) names.length
  have hgone := impF_gone but (nmL names) names.length
  have hfix := impF_fix but (nmL names) names.length
  generalize hn : impF but (nmL names) names.length = n at *
  have hxl : ((xsOf names.length).take n).length = n := by simp [xsOf_len]; omega
  have hA3 : AInv ρ2 0 w3 A (mOf names) := hA2.chg (RExt.refl _ _) hC3 (fun b hb e => by
      have e : b = S := e
      obtain ⟨ov, hS⟩ := hS2
      rw [e, hS.role] at hb; cases hb) (fun b hb e => by
      have e : b = S := e
      obtain ⟨ov, hS⟩ := hS2
      obtain ⟨r, h1, h2⟩ := hb
      rw [e, hS.role] at h1; cases h1; cases h2)
  refine c_All hS3 (by rw [hxl]; omega) fun va w4 hr4 hE4 _ => ?_
  rw [hxl] at hr4
  obtain ⟨aa, ac, rfl, _⟩ := hr4.val
  refine Vl.len ?_
  have hS4 := hS3.ext hE4
  have hE04 : Ext w w4 := (hnew w3 hC3).then hE4
  refine c_Implied (hA3.ext hE4) hS4 (fun i hi => live_mOf names i (List.mem_of_mem_take hi)) (by rw [hxl]; omega) (hG.ext hE04) hSn fun w5 hC5 hS5 => ?_
  have e5 : impF but (nmOf (mOf names) ((xsOf names.length).take n)) ((xsOf names.length).take n).length = n := by
    rw [hxl]
    rw [impF_congr (nm' := nmL names) n fun k hk => by
      rw [nmOf_take _ _ hk (by rw [xsOf_len]; exact hle)]
      exact nm_mOf' names k (by omega)]
    exact hfix
  rw [e5, List.take_take, Nat.min_self] at hS5
  refine c_All hS5 (by rw [hxl]; omega) fun vb w6 hr6 hE6 _ => ?_
  rw [hxl] at hr6
  obtain ⟨ba, bc, rfl, _⟩ := hr6.val
  have hC25 : Chg (· = S) w2 w5 := (hC3.ext hE4).then hC5
  have hE06 : Ext w w6 := (hnew w5 hC25).then hE6
  have h06 := h0.ext hE06
  obtain ⟨a, c, rfl⟩ := h0.val
  have hlc : names.length ≤ c := by obtain ⟨_, _, e, hle, _⟩ := h06; cases e; exact hle
  refine Vl.len (Vl.neq (Cond_bool (fun h => by simp at h) fun _ => ?_))
  refine Vl.len (Vl.gtr (Cond_bool (fun h => by have := of_decide_eq_true h; omega) fun _ => ?_))
  refine Vl.slc (E := T_string) (sz := 1) n names.length (.inr rfl) (.inl ⟨rfl, rfl⟩) hle hlc ?_
  have hd := h06.drop hle
  have hdl : (names.drop n).length = names.length - n := by rw [List.length_drop]
  generalize (if c = n then a else a.map (·.add (n * 1))) = da at hd ⊢
  rw [← hdl] at hd ⊢
  refine Vl.len ⟨fun g ds w' => ∃ i : Nat, g = [.int .i64 i] ∧ ds = [] ∧ Ext w6 w' ∧ i ≤ (names.drop n).length, fun g _ => ((names.drop n).length - intAt g 0).toNat, ⟨0, rfl, rfl, Chg.refl _ _, by omega⟩, ?_⟩
  rintro g ds wt ⟨i, hg, rfl, hEt, hi⟩
  have e45 : g 45 = .int .i64 i := by injection hg
  rw [e45]
  refine Vl.lss (Cond_bool (fun h => ?_) (fun h => ?_))
  · have hlt : i < (names.drop n).length := by have := of_decide_eq_true h; omega
    have hlt' : n + i < names.length := by omega
    have en : nmL (names.drop n) i = nmL names (n + i) := by rw [nmL_get _ hlt, nmL_get _ hlt']; simp
    obtain ⟨hg1, hg2⟩ := hgone (n + i) (by omega) hlt'
    refine Vl.strAt (hd.ext hEt) hlt ?_
    rw [en]
    refine Vl.seql (Cond_bool (fun h1 => absurd (of_decide_eq_true h1) hg1) fun _ => ?_)
    refine c_ref_Is (i := 7) (by omega) (hz.nm hlt') fun w' hE' => ?_
    rw [hg2]
    refine Vl.not (Cond_bool (fun h => by cases h) fun _ => Vl.add ⟨⟨i + 1, rfl, rfl, hEt.then hE', by omega⟩, ?_⟩)
    show (((names.drop n).length : Int) - ((i : Int) + 1)).toNat < (((names.drop n).length : Int) - (i : Int)).toNat; omega
  · refine Vl.eql (Cond_bool (fun _ => Lv.nil (k wt (hE06.then hEt))) fun h1 => ?_)
    have h1 := of_decide_eq_false h1
    obtain ⟨m, rfl⟩ : ∃ j, n = j + 1 := ⟨n - 1, by omega⟩
    have e : ((m + 1 : Nat) : Int) - 1 = (m : Nat) := by omega
    refine Vl.sub ?_
    rw [e]
    refine Vl.strAt (h06.ext hEt) (by omega) (Vl.seql (Cond_bool (fun _ => Lv.nil (k wt (hE06.then hEt))) fun h2 => ?_))
    have h2 := of_decide_eq_false h2
    refine Vl.sub ?_
    rw [e]
    refine Vl.strAt (h06.ext hEt) (by omega) (c_ref_Is (i := 7) (by omega) (hz.nm (by omega)) fun w' hE' => ?_)
    rcases hlast m rfl with h3 | h3
    · exact absurd h3 h2
    · rw [h3]
      exact Vl.not (Lv.nil (k w' ((hE06.then hEt).then hE')))
end Go.Proofs
