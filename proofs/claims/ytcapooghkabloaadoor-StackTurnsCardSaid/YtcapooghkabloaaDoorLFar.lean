/- Part of the proof of a law of this seat: facts that it uses, each proved here. No conditions. -/
import Derived.Test.YtcapooghkabloaaDoorAr7
namespace Go.Proofs
open Go Go.Eng

def nmL (l : List ByteArray) (k : Nat) : ByteArray := l.getD k emp
theorem seesF_congr {far : Int} {ns : List ByteArray} {nm nm' : Nat → ByteArray} : ∀ (n : Nat), (∀ k, k < n → nm k = nm' k) → seesF far ns nm n = seesF far ns nm' n
  | 0, _ => rfl
  | n + 1, h => by rw [seesF_succ, seesF_succ, h n (by omega), seesF_congr n fun k hk => h k (by omega)]
theorem toF_congr {ns : List ByteArray} {nm nm' : Nat → ByteArray} : ∀ (n : Nat), (∀ k, k < n → nm k = nm' k) → toF ns nm n = toF ns nm' n
  | 0, _ => rfl
  | n + 1, h => by rw [toF_succ, toF_succ, h n (by omega), toF_congr n fun k hk => h k (by omega)]
theorem nm_mOf' (l : List ByteArray) (k : Nat) (hk : k < l.length) : nmOf (mOf l) (xsOf l.length) k = nmL l k := by rw [nm_mOf l k hk]; unfold nmL; simp [hk]
theorem sees_mOf {far : Int} {ns l : List ByteArray} : seesF far ns (nmOf (mOf l) (xsOf l.length)) (xsOf l.length).length = seesF far ns (nmL l) l.length := by rw [xsOf_len]; exact seesF_congr _ (nm_mOf' l)
theorem to_mOf {ns l : List ByteArray} : toF ns (nmOf (mOf l) (xsOf l.length)) (xsOf l.length).length = toF ns (nmL l) l.length := by rw [xsOf_len]; exact toF_congr _ (nm_mOf' l)

theorem sees_item {ns : List ByteArray} {nm : Nat → ByteArray} : ∀ n, seesF 1 ns nm n = true → seesF 0 ns nm n = true
  | 0, h => h
  | n + 1, h => by
    rw [seesF_succ] at h ⊢
    split
    · rfl
    · rename_i h1
      rw [if_neg h1] at h
      split at h
      · cases h
      · rename_i h2
        have : ¬ bnd 0 (nm n) = true := fun e => h2 (by
          have e : isKind (nm n) 32 = true := e
          unfold bnd; rw [if_pos rfl]; split; rfl; split; rfl; exact e)
        rw [if_neg this]; exact sees_item n h
theorem sees_button {ns : List ByteArray} {nm : Nat → ByteArray} : ∀ n, seesF 2 ns nm n = true → seesF 0 ns nm n = true
  | 0, h => h
  | n + 1, h => by
    rw [seesF_succ] at h ⊢
    split
    · rfl
    · rename_i h1
      rw [if_neg h1] at h
      split at h
      · cases h
      · rename_i h2
        have : ¬ bnd 0 (nm n) = true := fun e => h2 (by
          have e : isKind (nm n) 32 = true := e
          unfold bnd; rw [if_neg (by decide), if_neg (by decide), if_pos e])
        rw [if_neg this]; exact sees_button n h
theorem sees_to {far : Int} {ns : List ByteArray} {nm : Nat → ByteArray} : ∀ n, seesF far ns nm n = true → 0 ≤ toF ns nm n
  | 0, h => by cases h
  | n + 1, h => by
    rw [seesF_succ] at h
    rw [toF_succ]
    split
    · omega
    · rename_i h1
      rw [if_neg h1] at h
      split at h
      · cases h
      · exact sees_to n h

def ρ0 : Roles := fun _ => none
theorem fresh0 (j : Nat) (w : World) : Fresh ρ0 j w := fun b r _ e => by cases e
theorem nw_strs {w w' : World} {l : List ByteArray} (h : Nw w w' (.cells (strs l).toArray T_string)) (hb : l.length ≤ 1000) (h0 : 0 < l.length) : Strs w' (.slice (some ⟨w.heap.size, 0, none⟩) l.length l.length) l := by
  refine Strs.of_row ⟨by unfold strs; simp, .inr ⟨w.heap.size, l.length, strs l, rfl, h.new, by omega, h0, ?_, by unfold strs; simp, ?_⟩⟩
  · unfold maxLen; omega
  · rw [List.take_of_length_le]; unfold strs; simp

def nDiv : ByteArray := ⟨#[100, 105, 118]⟩
def nP : ByteArray := ⟨#[112]⟩
def nB : ByteArray := ⟨#[98]⟩
def nTable : ByteArray := ⟨#[116, 97, 98, 108, 101]⟩
theorem see1 : seesF 0 [nP] (nmL [nDiv, nP, nB]) [nDiv, nP, nB].length = true := by decide +kernel
theorem see2 : seesF 0 [nP] (nmL [nP, nTable, nB]) [nP, nTable, nB].length = false := by decide +kernel

theorem c_speaks {w : World} (hG : Glob w) {K : Value → World → Prop} (k : ∀ w', Ext w w' → K (.bool true) w') : Cf Tryd.prog n_decanterlaw13_speaks #[] w K := by
  refine L_decanterlaw13_speaks _ _ ?_
  unfold S_decanterlaw13_speaks
  refine Vl.i (w' := w.alloc (.cells (strs [nDiv, nP, nB]).toArray T_string)) (v := .slice (some ⟨w.heap.size, 0, none⟩) 3 3) (by kernel_rfl) ?_
  have n1 := nw_alloc w (.cells (strs [nDiv, nP, nB]).toArray T_string)
  generalize w.alloc (.cells (strs [nDiv, nP, nB]).toArray T_string) = w1 at n1 ⊢
  have hv1 : Strs w1 _ _ := nw_strs n1 (by decide) (by decide)
  refine c_laid (j := 0) (fresh0 _ _) hv1 (by decide) fun ρ2 w2 S1 A1 hR2 hE2 hA2 hS2 => ?_
  refine Vl.i (w' := w2.alloc (.cells (strs [nP, nTable, nB]).toArray T_string)) (v := .slice (some ⟨w2.heap.size, 0, none⟩) 3 3) (by kernel_rfl) ?_
  have n3 := nw_alloc w2 (.cells (strs [nP, nTable, nB]).toArray T_string)
  generalize w2.alloc (.cells (strs [nP, nTable, nB]).toArray T_string) = w3 at n3 ⊢
  have hv3 : Strs w3 _ _ := nw_strs n3 (by decide) (by decide)
  refine c_laid (j := 1) ((fresh0 1 _).grow hR2 (by decide)) hv3 (by decide) fun ρ4 w4 S2 A2 hR4 hE4 hA4 hS4 => ?_
  have hA3 := (hA2.ext n3.ext).chg hR4.1 hE4 (fun _ _ => id) (fun _ _ => id)
  have hS3 := (hS2.ext n3.ext).chg hR4.1 hE4 (fun _ _ => id)
  have hE04 : Ext w w4 := ((n1.ext.then hE2).then n3.ext).then hE4
  refine Vl.i (w' := w4) (v := .bool true) (by kernel_rfl) (Cond_bool (fun _ => ?_) fun h => by cases h)
  refine Vl.i (w' := w4) (v := .bool true) (by kernel_rfl) (Cond_bool (fun _ => ?_) fun h => by cases h)
  refine Vl.i (w' := w4.alloc (.cells (strs [nP]).toArray T_string)) (v := .slice (some ⟨w4.heap.size, 0, none⟩) 1 1) (by kernel_rfl) ?_
  have n5 := nw_alloc w4 (.cells (strs [nP]).toArray T_string)
  generalize w4.alloc (.cells (strs [nP]).toArray T_string) = w5 at n5 ⊢
  have hv5 : Strs w5 _ _ := nw_strs n5 (by decide) (by decide)
  have hE05 := hE04.then n5.ext
  refine c_In (hA3.ext n5.ext) (hS3.ext n5.ext) (live_mOf [nDiv, nP, nB]) (by simp [xsOf_len]) (hG.ext hE05) hv5 (by simp) fun w6 hE6 => ?_
  rw [sees_mOf]
  rw [see1]
  refine Cond_bool (fun _ => ?_) (fun h => by cases h)
  refine Vl.i (w' := w6.alloc (.cells (strs [nP]).toArray T_string)) (v := .slice (some ⟨w6.heap.size, 0, none⟩) 1 1) (by kernel_rfl) ?_
  have n7 := nw_alloc w6 (.cells (strs [nP]).toArray T_string)
  generalize w6.alloc (.cells (strs [nP]).toArray T_string) = w7 at n7 ⊢
  have hv7 : Strs w7 _ _ := nw_strs n7 (by decide) (by decide)
  have hE47 : Ext w4 w7 := (n5.ext.then hE6).then n7.ext
  have hE07 := hE04.then hE47
  refine c_In (hA4.ext hE47) (hS4.ext hE47) (live_mOf [nP, nTable, nB]) (by simp [xsOf_len]) (hG.ext hE07) hv7 (by simp) fun w8 hE8 => ?_
  rw [sees_mOf, see2]
  refine Vl.not (Cond_bool (fun _ => ?_) fun h => by cases h)
  refine c_All (hS3.ext (hE47.then hE8)) (by simp [xsOf_len]) fun v w9 hr hE9 _ => ?_
  obtain ⟨a, c, rfl, _⟩ := hr.val
  exact Vl.len (Vl.eql (k w9 ((hE07.then hE8).then hE9)))

theorem c_StackFar {w : World} (hG : Glob w) {v0 v1 : Value} {open_ names : List ByteArray} (h0 : Strs w v0 open_) (h1 : Strs w v1 names) (b0 : open_.length ≤ 9223372036854775807) (b1 : names.length ≤ 9223372036854775807)
    {K : Value → World → Prop} (k : ∀ w', Ext w w' → K (.bool true) w') : Cf Tryd.prog n_decanterlaw13_StackFar #[v0, v1] w K := by
  refine L_decanterlaw13_StackFar _ _ _ _ ?_
  unfold S_decanterlaw13_StackFar
  refine c_speaks hG fun w1 hE1 => Vl.not (Cond_bool (fun h => by cases h) fun _ => ?_)
  have sp : ∀ {wx : World}, Ext w wx → Cf Tryd.prog n_decanterlaw13_speaks #[] wx K := fun hx => c_speaks (hG.ext hx) fun w2 hE2 => k w2 (hx.then hE2)
  refine c_right (h0.ext hE1) b0 (Vl.not (Cond_bool (fun _ => sp hE1) fun hr0 => ?_))
  refine c_right (h1.ext hE1) b1 (Vl.not (Cond_bool (fun _ => sp hE1) fun hr1 => ?_))
  have l0 : open_.length ≤ 40 := by
    have h : rightF open_ = true := by simpa using hr0
    unfold rightF at h; simp at h; exact h.2
  have l1 : names.length ≤ 40 := by
    have h : rightF names = true := by simpa using hr1
    unfold rightF at h; simp at h; exact h.2
  refine c_laid (j := 0) (fresh0 _ _) (h0.ext hE1) (by omega) fun ρ2 w2 S A hR2 hE2 hA2 hS2 => ?_
  have hE02 := hE1.then hE2
  refine Vl.i (w' := w2) (v := .bool false) (by kernel_rfl) (Cond_bool (fun h => by cases h) fun _ => ?_)
  refine c_In hA2 hS2 (live_mOf _) (by rw [xsOf_len]; omega) (hG.ext hE02) (h1.ext hE02) (by omega) fun w3 hE3 => ?_
  refine c_In (hA2.ext hE3) (hS2.ext hE3) (live_mOf _) (by rw [xsOf_len]; omega) (hG.ext (hE02.then hE3)) (h1.ext (hE02.then hE3)) (by omega) fun w4 hE4 => ?_
  have hE24 := hE3.then hE4
  refine c_In (hA2.ext hE24) (hS2.ext hE24) (live_mOf _) (by rw [xsOf_len]; omega) (hG.ext (hE02.then hE24)) (h1.ext (hE02.then hE24)) (by omega) fun w5 hE5 => ?_
  have hE25 := hE24.then hE5
  have hE05 := hE02.then hE25
  rw [sees_mOf, sees_mOf, sees_mOf]
  have i1 := sees_item (ns := names) (nm := nmL open_) open_.length
  have i2 := sees_button (ns := names) (nm := nmL open_) open_.length
  have i3 := sees_to (far := 0) (ns := names) (nm := nmL open_) open_.length
  generalize seesF 0 names (nmL open_) open_.length = g at *
  generalize seesF 1 names (nmL open_) open_.length = i at *
  generalize seesF 2 names (nmL open_) open_.length = b at *
  refine ⟨fun a ds w' => a = [] ∧ ds = [] ∧ w' = w5, ?_, ?_⟩
  · refine Cond_bool (fun hi => Vl.not (Cond_bool (fun hg => ?_) fun _ => ⟨rfl, rfl, rfl⟩)) fun _ => Cond_bool (fun hb => Vl.not (Cond_bool (fun hg => ?_) fun _ => ⟨rfl, rfl, rfl⟩)) fun _ => ⟨rfl, rfl, rfl⟩
    · rw [i1 hi] at hg; cases hg
    · rw [i2 hb] at hg; cases hg
  · rintro gg ds wo ⟨_, rfl, rfl⟩
    refine c_PopTo (hA2.ext hE25) (hS2.ext hE25) (live_mOf _) (by rw [xsOf_len]; omega) (h1.ext hE05) (by omega) fun w6 hC6 hS6 => ?_
    have hE6 : Ext w w6 := new_only (fresh0 0 w1) hR2.1 hE2 (X := (· = S)) (fun b hb => by
      obtain ⟨ov, hS⟩ := hS2
      exact ⟨_, hb ▸ hS.role⟩) ((Ext.to (S := (· = S)) hE25).then hC6) |> hE1.then
    rw [to_mOf]
    refine Cond_bool (fun _ => Lv.nil (k w6 hE6)) fun hf => Vl.not (Lv.nil ?_)
    cases hg : g
    · exact k w6 hE6
    · have := i3 hg
      rw [decide_eq_true this] at hf; cases hf
end Go.Proofs
