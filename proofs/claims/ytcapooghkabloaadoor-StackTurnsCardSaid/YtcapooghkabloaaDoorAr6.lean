/- Part of the proof of a law of this seat: facts that it uses, each proved here. No conditions. -/
import Derived.Test.YtcapooghkabloaaDoorAr5
namespace Go.Proofs
open Go Go.Eng

theorem toF_succ (ns : List ByteArray) (nm : Nat → ByteArray) (k : Nat) : toF ns nm (k + 1) = if among ns (nm k) = true then (k : Int) else toF ns nm k := rfl
/-- What closing up to one of some names leaves. -/
def popTo (r : Int) (xs : List Nat) : List Nat := if 0 ≤ r then xs.take r.toNat else xs

theorem c_PopTo {ρ : Roles} {j : Nat} {w : World} {S A : Nat} {xs : List Nat} {m : AM} (hA : AInv ρ j w A m) (h : SInv ρ j w S A xs) (hl : ∀ i ∈ xs, Live m i) (hb : xs.length ≤ 1000000)
    {nv : Value} {ns : List ByteArray} (hn : Strs w nv ns) (hnb : ns.length ≤ 1000000) {K : Value → World → Prop}
    (k : ∀ w', Chg (· = S) w w' → SInv ρ j w' S A (popTo (toF ns (nmOf m xs) xs.length) xs) → K (.bool (decide (0 ≤ toF ns (nmOf m xs) xs.length))) w') : Cf Tryd.prog n_stack_Stack_PopTo #[.pointer (some ⟨S, 0, none⟩), nv] w K := by
  obtain ⟨ov, h⟩ := h
  refine L_stack_Stack_PopTo _ _ _ _ ?_
  unfold S_stack_Stack_PopTo
  obtain ⟨na, nc, rfl⟩ := hn.val
  obtain ⟨oa, oc, hov, _⟩ := h.row.val
  refine Vl.box1 trivial fun w1 h1 => Vl.box1 trivial fun w3 h3 => Vl.alloc (z := .bool false) (by intro w; kernel_rfl) fun w4 h4 => ?_
  have s1 := h1.size; have s3 := h3.size; have s4 := h4.size
  have hE4 : Ext w w4 := (h1.ext.then h3.ext).then h4.ext
  have a3 : Cl w4 w.heap.size T_p_stack_Stack [.pointer (some ⟨S, 0, none⟩)] := (Cl.nw h1.cl h3).nw h4
  have a5 : Cl w4 w1.heap.size T_sl_string [.slice na ns.length nc] := Cl.nw h3.cl h4
  have a6 : Cl w4 w3.heap.size T_bool [.bool false] := h4.cl
  have hSlt := h.cl.lt
  refine Vl.ld a3 rfl ⟨trivial, Vl.fa (Vl.ld (h.cl.ext hE4) rfl ?_)⟩
  refine c_Backward (by rw [hov]; trivial) fun w5 h5 => ?_
  have s5 := h5.size
  have hE5 : Ext w w5 := hE4.then h5.ext
  have hE45 : Ext w4 w5 := h5.ext
  refine Rf.iter (iter_Backward (ov := ov) hb) (by intro x hx; obtain ⟨y, _, rfl⟩ := List.mem_map.1 hx; rfl)
    (fun k w' => Ext w5 w' ∧ w5.heap.size + 2 ≤ w'.heap.size ∧ toF ns (nmOf m xs) xs.length = toF ns (nmOf m xs) (xs.length - k))
    (fun o w' => Chg (fun x => x = w3.heap.size ∨ x = S) w5 w' ∧ w5.heap.size + 2 ≤ w'.heap.size ∧ (match o with
      | none => Cl w' w3.heap.size T_bool [.bool true] ∧ ∃ at_ : Nat, at_ ≤ xs.length ∧ toF ns (nmOf m xs) xs.length = at_ ∧ Cl w' S T_stack_Stack [.pointer (some ⟨A, 0, none⟩), .slice oa at_ oc]
      | some id => False)) ?_ ?_ ?_ ?_ ?_ ?_ ?_ ?_
  · rintro k w1 w2 ⟨q1, q2, q3⟩ hls
    exact ⟨Chg.newer q1 hls.chg fun x hx e => by omega, by rw [hls.size]; exact q2, q3⟩
  · rintro o w1 w2 ⟨q1, q2, q3⟩ hls
    refine ⟨Chg.newer q1 hls.chg fun x hx e => by omega, by rw [hls.size]; exact q2, ?_⟩
    cases o with
    | none => obtain ⟨q3, at_, q4, q5, q6⟩ := q3; exact ⟨q3.loopStep hls, at_, q4, q5, q6.loopStep hls⟩
    | some id => exact q3
  · rintro k w1 ⟨q1, _⟩
    exact ⟨(Cl.ext h5.cl q1), (h.row.ext hE5).ext q1⟩
  · intro w1 hw1 hs1
    exact ⟨hw1, by omega, rfl⟩
  · rintro k hk w6 Bg Kn Kr Kx wz ⟨q1, q2, q3⟩ hd hl2 hn2 hr2 hx2 hB
    refine hB _ ?_
    rw [backs_len] at hk
    have hE6 : Ext w w6 := hE5.then q1
    have hE46 : Ext w4 w6 := hE45.then q1
    have cS : ∀ x : World, Ext w6 x → Cl x S T_stack_Stack [.pointer (some ⟨A, 0, none⟩), ov] := fun x hx => (h.cl.ext hE6).ext hx
    refine ⟨fun x => Ext w6 x, dr_ext w6, ?_⟩
    refine VQ.ld (fun x hx => ((a5.ext hE46).ext hx).cell rfl) (VQ.ld (fun x hx => ((a3.ext hE46).ext hx).cell rfl) ⟨trivial, Pv.fa (VQ.ld (fun x hx => (cS x hx).cell rfl) ?_)⟩)
    have e1 : (fun i => (backs xs)[k].toList.getD i undef) 1 = .int .i64 (xs.getD (xs.length - 1 - k) 0 : Nat) := by rw [backs_get]; rfl
    rw [e1]
    have hin : xs.getD (xs.length - 1 - k) 0 ∈ xs := by
      have hlt : xs.length - 1 - k < xs.length := by omega
      simp [hlt]
    refine c_Name' (hA.ext (hE6.then (dr_ext w6))) (hl _ hin) fun w7 hw7 hE7 => ?_
    have hE67 : Ext w6 w7 := (dr_ext w6).then hE7
    have hE07 := hE6.then hE67
    have hE47 := hE46.then hE67
    refine ⟨fun x => Ext w6 x, fun _ h => h, hE67, ?_⟩
    have hstep : xs.length - k = (xs.length - 1 - k) + 1 := by omega
    rw [hstep, toF_succ] at q3
    refine c_Contains_strs (hn.ext hE07) hnb ⟨fun x => Ext w6 x, fun _ h => h, hE67, Cond_bool (fun h0 => ?_) (fun h0 => ?_)⟩
    · rw [if_pos (show among ns (nmOf m xs (xs.length - 1 - k)) = true from h0)] at q3
      have hE6d : Ext w6 (dr w7) := hE67.then (dr_ext w7)
      refine ⟨fun x => Ext w6 x, hE6d, VQ.ld (fun x hx => ((a3.ext hE46).ext hx).cell rfl) (VQ.ld (fun x hx => ((a3.ext hE46).ext hx).cell rfl) ⟨trivial, Pv.fa (VQ.ld (fun x hx => (cS x hx).cell rfl) ?_)⟩)⟩
      have e0 : (fun i => (backs xs)[k].toList.getD i undef) 0 = .int .i64 ((xs.length - 1 - k : Nat) : Int) := by rw [backs_get]; rfl
      rw [e0, hov]
      have hrow := h.row
      rw [hov] at hrow
      refine Pv.take hrow (by omega) ⟨trivial, Pv.fa (Ef.set (cS _ hE6d) (by simp) fun w8 h8 => ⟨fun _ => True, trivial, ?_⟩)⟩
      have a6' : Cl w8 w3.heap.size T_bool [.bool false] := ((a6.ext hE46).ext hE6d).upd h8 (by omega)
      refine Ef.set a6' (by simp) fun w9 h9 => ?_
      have c9 : Chg (fun x => x = w3.heap.size ∨ x = S) w6 w9 := (hE6d.to (S := fun x => x = S)).then h8.chg |>.trans h9.chg |>.mono fun x _ e => e.symm
      have z9 := c9.size
      refine hr2 w9 ⟨(q1.to.then c9), by omega, h9.cl, xs.length - 1 - k, by omega, q3, ?_⟩ (c9.keep (by omega) (by rintro (e | e) <;> (have e : w5.heap.size = _ := e; omega)) (by rintro (e | e) <;> (have e : w5.heap.size + 1 = _ := e; omega)))
      have := h8.cl
      exact this.upd h9 (by omega)
    · have hne : ¬ among ns (nmOf m xs (xs.length - 1 - k)) = true := by
        show ¬ among ns (nameAt m _) = true
        rw [h0]; decide
      rw [if_neg hne] at q3
      have z7 := hE67.size
      refine hn2 w7 ⟨q1.then hE67, by omega, ?_⟩ (hE67.keep (by omega) id id)
      rw [q3]; congr 1; omega
  · rintro w6 ⟨q1, q2, q3⟩ hd
    refine Ef.set (a6.ext (hE45.then q1)) (by simp) fun w7 h7 => ?_
    have c7 : Chg (· = w3.heap.size) w5 w7 := q1.to.then h7.chg
    refine Lv.cons ((h7.chg.same _ (Array.getElem?_eq_some_iff.1 hd).1 (by omega)).trans hd) fun w8 h8 hs8 hsame => Lv.nil (Rs.ld ((Cl.chg h7.cl h8) (by omega)) rfl ?_)
    rw [backs_len, Nat.sub_self] at q3
    have hC : Ext w w8 := Chg.newer hE5 (c7.trans h8) fun x hx e => by omega
    have q3 : toF ns (nmOf m xs) xs.length = -1 := q3
    have := k w8 hC.to
    rw [q3] at this
    exact this ⟨ov, h.chg (RExt.refl _ _) hC fun _ _ => id⟩
  · rintro w6 ⟨q1, q2, q3, at_, q4, q5, q6⟩ hd
    refine Lv.cons hd fun w8 h8 hs8 hsame => Lv.nil (Rs.ld (q3.chg h8 (by omega)) rfl ?_)
    have hC : Chg (· = S) w w8 := Chg.newer hE5.to (q1.trans h8) fun x hx e => by omega
    have := k w8 hC
    rw [q5] at this
    have e : decide ((0 : Int) ≤ (at_ : Int)) = true := decide_eq_true (by omega)
    rw [e] at this
    refine this ⟨.slice oa at_ oc, q6.chg h8 (by omega), h.role, ?_, fun b hb => ?_⟩
    · have hrow := h.row
      have hp : popTo (at_ : Int) xs = xs.take at_ := by unfold popTo; rw [if_pos (by omega)]; simp
      rw [hp]
      have hlen : (xs.take at_).length = at_ := by simp; omega
      rw [hlen]
      have := (hrow.take q4 hov).chg hC fun b hb e => by
        have e : b = S := e
        rw [e, blk_take (m := xs.length), ← hov] at hb
        have := h.rowRole S hb
        rw [h.role] at this; cases this
      have e2 : nats (xs.take at_) = (nats xs).take (at_ * 1) := by unfold nats; simp
      rw [e2]; exact this
    · refine h.rowRole b ?_
      rw [hov, blk_take (m := at_)]; exact hb
  · rintro id w6 ⟨q1, q2, hf⟩ hd
    exact hf.elim
end Go.Proofs
