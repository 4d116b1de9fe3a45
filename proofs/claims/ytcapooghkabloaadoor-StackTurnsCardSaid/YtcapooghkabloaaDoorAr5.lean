/- Part of the proof of a law of this seat: facts that it uses, each proved here. No conditions. -/
import Derived.Test.YtcapooghkabloaaDoorAr4
namespace Go.Proofs
open Go Go.Eng

def nameAt (m : AM) (i : Nat) : ByteArray := ((m.elems[i]?.bind fun q => m.nodes[q]?).map NodeM.name).getD ⟨#[]⟩
def Live (m : AM) (i : Nat) : Prop := ∃ q n, m.elems[i]? = some q ∧ m.nodes[q]? = some n
theorem c_Name' {ρ : Roles} {j : Nat} {w : World} {A : Nat} {m : AM} (h : AInv ρ j w A m) {i : Nat} (hi : Live m i) {K : Value → World → Prop}
    (k : ∀ w', w'.heap = w.heap → Ext w w' → K (.string (nameAt m i)) w') : Cf Tryd.prog n_arena_Arena_Name #[.pointer (some ⟨A, 0, none⟩), .int .i64 i] w K := by
  obtain ⟨q, n, h1, h2⟩ := hi
  have : nameAt m i = n.name := by unfold nameAt; rw [h1]; show ((m.nodes[q]?).map NodeM.name).getD _ = _; rw [h2]; rfl
  rw [this] at k
  exact c_Name h h1 h2 k

theorem c_All {ρ : Roles} {j : Nat} {w : World} {S A : Nat} {xs : List Nat} (h : SInv ρ j w S A xs) (hb : xs.length ≤ 1000000) {K : Value → World → Prop}
    (k : ∀ v w', Row w' T_int 1 v xs.length (nats xs) → Ext w w' → (∀ b, blk v = some b → w.heap.size ≤ b) → K v w') : Cf Tryd.prog n_stack_Stack_All #[.pointer (some ⟨S, 0, none⟩)] w K := by
  obtain ⟨ov, h⟩ := h
  refine L_stack_Stack_All _ _ _ ?_
  unfold S_stack_Stack_All
  exact ⟨trivial, Vl.fa (Vl.ld h.cl rfl (c_Clone_ints h.row (by intro u hu; unfold nats at hu; obtain ⟨x, _, rfl⟩ := List.mem_map.1 hu; rfl) hb k))⟩
theorem c_Find {ρ : Roles} {j : Nat} {w : World} {S A : Nat} {xs : List Nat} (h : SInv ρ j w S A xs) (hb : xs.length ≤ 1000000) {i : Nat} {K : Value → World → Prop}
    (k : K (.int .i64 (idx i xs 0)) w) : Cf Tryd.prog n_stack_Stack_Find #[.pointer (some ⟨S, 0, none⟩), .int .i64 i] w K := by
  obtain ⟨ov, h⟩ := h
  refine L_stack_Stack_Find _ _ _ _ ?_
  unfold S_stack_Stack_Find
  exact ⟨trivial, Vl.fa (Vl.ld h.cl rfl (c_Index_ints h.row hb k))⟩

def nOl : ByteArray := ⟨#[111, 108]⟩
def nUl : ByteArray := ⟨#[117, 108]⟩
def nButton : ByteArray := ⟨#[98, 117, 116, 116, 111, 110]⟩
def bnd (far : Int) (name : ByteArray) : Bool :=
  if far = 1 then (if name = nOl then true else if name = nUl then true else isKind name 32)
  else if far = 0 then isKind name 32 else if isKind name 32 then true else decide (name = nButton)
theorem c_bound {w : World} {far : Int} {name : ByteArray} {K : Value → World → Prop} (hG : Glob w) (k : ∀ w', Ext w w' → K (.bool (bnd far name)) w') : Cf Tryd.prog n_stack_bound #[.int .i64 far, .string name] w K := by
  refine L_stack_bound _ _ _ _ ?_
  unfold S_stack_bound
  unfold bnd nOl nUl nButton at k
  refine Vl.eql (Cond_bool (fun h => ?_) (fun h => ?_))
  · rw [if_pos (of_decide_eq_true h)] at k
    refine Vl.seql (Cond_bool (fun h => ?_) (fun h => ?_))
    · rw [if_pos (of_decide_eq_true h)] at k; exact k w (Chg.refl _ _)
    · rw [if_neg (of_decide_eq_false h)] at k
      refine Vl.seql (Cond_bool (fun h => ?_) (fun h => ?_))
      · rw [if_pos (of_decide_eq_true h)] at k; exact k w (Chg.refl _ _)
      · rw [if_neg (of_decide_eq_false h)] at k
        exact c_kind_Is hG k
  · rw [if_neg (of_decide_eq_false h)] at k
    refine Vl.eql (Cond_bool (fun h => ?_) (fun h => ?_))
    · rw [if_pos (of_decide_eq_true h)] at k; exact c_kind_Is hG k
    · rw [if_neg (of_decide_eq_false h)] at k
      refine c_kind_Is hG fun w' hE => Cond_bool (fun h => ?_) (fun h => ?_)
      · rw [if_pos h] at k; exact k w' hE
      · rw [if_neg (by simp [h])] at k; exact Vl.seql (k w' hE)

def seesF (far : Int) (ns : List ByteArray) (nm : Nat → ByteArray) : Nat → Bool
  | 0 => false
  | k + 1 => if among ns (nm k) = true then true else if bnd far (nm k) = true then false else seesF far ns nm k
theorem seesF_succ (far : Int) (ns : List ByteArray) (nm : Nat → ByteArray) (k : Nat) : seesF far ns nm (k + 1) = if among ns (nm k) = true then true else if bnd far (nm k) = true then false else seesF far ns nm k := rfl
def toF (ns : List ByteArray) (nm : Nat → ByteArray) : Nat → Int
  | 0 => -1
  | k + 1 => if among ns (nm k) = true then k else toF ns nm k
def nmOf (m : AM) (xs : List Nat) (k : Nat) : ByteArray := nameAt m (xs.getD k 0)

theorem c_In {ρ : Roles} {j : Nat} {w : World} {S A : Nat} {xs : List Nat} {m : AM} (hA : AInv ρ j w A m) (h : SInv ρ j w S A xs) (hl : ∀ i ∈ xs, Live m i) (hb : xs.length ≤ 1000000) (hG : Glob w)
    {nv : Value} {ns : List ByteArray} (hn : Strs w nv ns) (hnb : ns.length ≤ 1000000) {far : Int} {K : Value → World → Prop}
    (k : ∀ w', Ext w w' → K (.bool (seesF far ns (nmOf m xs) xs.length)) w') : Cf Tryd.prog n_stack_Stack_In #[.pointer (some ⟨S, 0, none⟩), .int .i64 far, nv] w K := by
  obtain ⟨ov, h⟩ := h
  refine L_stack_Stack_In _ _ _ _ _ ?_
  unfold S_stack_Stack_In
  obtain ⟨na, nc, rfl⟩ := hn.val
  obtain ⟨oa, oc, hov, _⟩ := h.row.val
  refine Vl.box1 trivial fun w1 h1 => Vl.box1 trivial fun w2 h2 => Vl.box1 trivial fun w3 h3 => Vl.alloc (z := .bool false) (by intro w; kernel_rfl) fun w4 h4 => ?_
  have s1 := h1.size; have s2 := h2.size; have s3 := h3.size; have s4 := h4.size
  have hE4 : Ext w w4 := ((h1.ext.then h2.ext).then h3.ext).then h4.ext
  have a3 : Cl w4 w.heap.size T_p_stack_Stack [.pointer (some ⟨S, 0, none⟩)] := ((Cl.nw h1.cl h2).nw h3).nw h4
  have a4 : Cl w4 w1.heap.size T_int [.int .i64 far] := (Cl.nw h2.cl h3).nw h4
  have a5 : Cl w4 w2.heap.size T_sl_string [.slice na ns.length nc] := Cl.nw h3.cl h4
  have a6 : Cl w4 w3.heap.size T_bool [.bool false] := h4.cl
  refine Vl.ld a3 rfl ⟨trivial, Vl.fa (Vl.ld (h.cl.ext hE4) rfl ?_)⟩
  refine c_Backward (by rw [hov]; trivial) fun w5 h5 => ?_
  have s5 := h5.size
  have hE5 : Ext w w5 := hE4.then h5.ext
  have hE45 : Ext w4 w5 := h5.ext
  refine Rf.iter (iter_Backward (ov := ov) hb) (by intro x hx; obtain ⟨y, _, rfl⟩ := List.mem_map.1 hx; rfl)
    (fun k w' => Ext w5 w' ∧ w5.heap.size + 2 ≤ w'.heap.size ∧ seesF far ns (nmOf m xs) xs.length = seesF far ns (nmOf m xs) (xs.length - k))
    (fun o w' => Chg (· = w3.heap.size) w5 w' ∧ w5.heap.size + 2 ≤ w'.heap.size ∧ (match o with
      | none => Cl w' w3.heap.size T_bool [.bool true] ∧ seesF far ns (nmOf m xs) xs.length = true
      | some id => id = 0 ∧ Ext w5 w' ∧ seesF far ns (nmOf m xs) xs.length = false)) ?_ ?_ ?_ ?_ ?_ ?_ ?_ ?_
  · rintro k w1 w2 ⟨q1, q2, q3⟩ hls
    exact ⟨Chg.newer q1 hls.chg fun x hx e => by omega, by rw [hls.size]; exact q2, q3⟩
  · rintro o w1 w2 ⟨q1, q2, q3⟩ hls
    refine ⟨Chg.newer q1 hls.chg fun x hx e => by omega, by rw [hls.size]; exact q2, ?_⟩
    cases o with
    | none => exact ⟨q3.1.loopStep hls, q3.2⟩
    | some id => exact ⟨q3.1, Chg.newer q3.2.1 hls.chg fun x hx e => by omega, q3.2.2⟩
  · rintro k w1 ⟨q1, _⟩
    exact ⟨(Cl.ext h5.cl q1), (h.row.ext hE5).ext q1⟩
  · intro w1 hw1 hs1
    exact ⟨hw1, by omega, rfl⟩
  · rintro k hk w6 Bg Kn Kr Kx wz ⟨q1, q2, q3⟩ hd hl2 hn2 hr2 hx2 hB
    refine hB _ ?_
    rw [backs_len] at hk
    have hE6 : Ext w w6 := hE5.then q1
    have hE46 : Ext w4 w6 := hE45.then q1
    refine Vl.ld (a3.ext hE46) rfl ⟨trivial, Vl.fa (Vl.ld (h.cl.ext hE6) rfl ?_)⟩
    have e1 : (fun i => (backs xs)[k].toList.getD i undef) 1 = .int .i64 (xs.getD (xs.length - 1 - k) 0 : Nat) := by rw [backs_get]; rfl
    rw [e1]
    have hin : xs.getD (xs.length - 1 - k) 0 ∈ xs := by
      have hlt : xs.length - 1 - k < xs.length := by omega
      simp [hlt]
    refine c_Name' (hA.ext hE6) (hl _ hin) fun w7 hw7 hE7 => ?_
    have hE67 := hE6.then hE7
    have hE47 := hE46.then hE7
    refine Vl.ld (a5.ext hE47) rfl ?_
    have hstep : xs.length - k = (xs.length - 1 - k) + 1 := by omega
    rw [hstep, seesF_succ] at q3
    refine c_Contains_strs (hn.ext hE67) hnb (Cond_bool (fun h0 => ?_) (fun h0 => ?_))
    · rw [if_pos (show among ns (nmOf m xs (xs.length - 1 - k)) = true from h0)] at q3
      refine Ef.set (a6.ext hE47) (by simp) fun w8 h8 => ?_
      have c8 : Chg (· = w3.heap.size) w6 w8 := hE7.to.then h8.chg
      refine hr2 w8 ⟨(q1.to.then hE7.to).then h8.chg, ?_, h8.cl, q3⟩ (c8.keep (by omega) (fun e => by have e : w5.heap.size = w3.heap.size := e; omega) (fun e => by have e : w5.heap.size + 1 = w3.heap.size := e; omega))
      have := c8.size; omega
    · have hne : ¬ among ns (nmOf m xs (xs.length - 1 - k)) = true := by
        show ¬ among ns (nameAt m _) = true
        rw [h0]; decide
      rw [if_neg hne] at q3
      refine Vl.ld (a4.ext hE47) rfl ?_
      refine c_bound (hG.ext hE67) fun w8 hE8 => ?_
      have c8 : Ext w6 w8 := hE7.then hE8
      have z8 := c8.size
      refine Cond_bool (fun h3 => ?_) (fun h3 => ?_)
      · rw [if_pos (show bnd far (nmOf m xs (xs.length - 1 - k)) = true from h3)] at q3
        exact hx2 0 w8 ⟨Ext.to (q1.then c8), by omega, rfl, q1.then c8, q3⟩ (c8.keep (by omega) id id)
      · have hne : ¬ bnd far (nmOf m xs (xs.length - 1 - k)) = true := by
          show ¬ bnd far (nameAt m _) = true
          rw [h3]; decide
        rw [if_neg hne] at q3
        refine hn2 w8 ⟨q1.then c8, by omega, ?_⟩ (c8.keep (by omega) id id)
        rw [q3]; congr 1; omega
  · rintro w6 ⟨q1, q2, q3⟩ hd
    refine Ef.set (a6.ext (hE45.then q1)) (by simp) fun w7 h7 => ?_
    have c7 : Chg (· = w3.heap.size) w5 w7 := q1.to.then h7.chg
    refine Lv.cons ((h7.chg.same _ (Array.getElem?_eq_some_iff.1 hd).1 (by omega)).trans hd) fun w8 h8 hs8 hsame => Lv.nil (Rs.ld ((Cl.chg h7.cl h8) (by omega)) rfl ?_)
    rw [backs_len, Nat.sub_self] at q3
    have := k w8 (Chg.newer hE5 (c7.trans h8) fun x hx e => by omega)
    rw [q3] at this; exact this
  · rintro w6 ⟨q1, q2, q3, q4⟩ hd
    refine Lv.cons hd fun w8 h8 hs8 hsame => Lv.nil (Rs.ld (q3.chg h8 (by omega)) rfl ?_)
    have := k w8 (Chg.newer hE5 (q1.trans h8) fun x hx e => by omega)
    rw [q4] at this; exact this
  · rintro id w6 ⟨q1, q2, rfl, q5, q4⟩ hd
    show Ef _ _ _ _
    refine Ef.set (a6.ext (hE45.then q5)) (by simp) fun w7 h7 => ?_
    refine Lv.cons ((h7.chg.same _ (Array.getElem?_eq_some_iff.1 hd).1 (by omega)).trans hd) fun w8 h8 hs8 hsame => Lv.nil (Rs.ld ((Cl.chg h7.cl h8) (by omega)) rfl ?_)
    have := k w8 (Chg.newer hE5 ((q1.then h7.chg).trans h8) fun x hx e => by omega)
    rw [q4] at this; exact this
end Go.Proofs
