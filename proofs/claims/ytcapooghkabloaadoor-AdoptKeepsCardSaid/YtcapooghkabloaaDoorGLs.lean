/- Part of the proof of a law of this seat: facts that it uses, each proved here. No conditions. -/
import Derived.Test.YtcapooghkabloaaDoorGA
namespace Go.Proofs
open Go Go.Eng

/-! ### Attributes: what one has, and whether two are the same -/
theorem AtV.rd {w : World} {v : Value} {l : List (ByteArray × ByteArray)} (h : AtV w v l) {i : Nat} (hi : i < l.length) {T E : Nat} {K : Value → World → Prop} (k : K (.agg #[.string l[i].1, .string l[i].2]) w) (s2 : ixB Tryd.prog T 2 = true := by kernel_rfl) (s3 : aggB Tryd.prog E 2 = true := by kernel_rfl) :
    Vl Tryd.prog (Instr.indexAt T v (.int .i64 (i : Nat))) w fun p w' => Vl Tryd.prog (Instr.loadAt E p) w' K := by
  have h' := h
  obtain ⟨a, c, rfl, _⟩ := h'
  obtain ⟨b, o, rfl, hc⟩ := h.at_ (by omega) hi
  refine Vl.ix 2 (by omega) (by omega) ?_ s2
  have ei : ((i : Int)).toNat = i := by omega
  rw [ei]
  refine Vl.ldC [.string l[i].1, .string l[i].2] (fun j u hj => ?_) k s3
  have h2 : j < 2 := by have := (List.getElem?_eq_some_iff.1 hj).1; simpa using this
  exact hc j u h2 (by rw [attrCells_get l i j l[i] (List.getElem?_eq_getElem hi) h2]; exact hj)
def findF {α : Type} (p : α → Bool) : List α → Nat → Int
  | [], _ => -1
  | x :: l, k => if p x = true then k else findF p l (k + 1)
theorem findF_cons {α : Type} (p : α → Bool) (x : α) (l : List α) (k : Nat) : findF p (x :: l) k = if p x = true then (k : Int) else findF p l (k + 1) := rfl
theorem findF_any {α : Type} (p : α → Bool) : ∀ (l : List α) (k : Nat), decide ((0 : Int) ≤ findF p l k) = l.any p
  | [], k => rfl
  | x :: l, k => by
    rw [findF_cons, List.any_cons]
    by_cases h : p x = true
    · rw [if_pos h, h]; simp
    · rw [if_neg h, findF_any p l (k + 1)]; simp [h]
theorem findF_spec {α : Type} (p : α → Bool) : ∀ (l : List α) (k : Nat), (findF p l k = -1 ∧ ∀ x ∈ l, p x = false) ∨ ∃ i : Nat, findF p l k = (k + i : Nat) ∧ ∃ h : i < l.length, p l[i] = true
  | [], k => .inl ⟨rfl, fun x hx => by cases hx⟩
  | x :: l, k => by
    rw [findF_cons]
    by_cases h : p x = true
    · rw [if_pos h]; exact .inr ⟨0, rfl, by simp, h⟩
    · rw [if_neg h]
      rcases findF_spec p l (k + 1) with ⟨h1, h2⟩ | ⟨i, h1, h2, h3⟩
      · refine .inl ⟨h1, fun y hy => ?_⟩
        rcases List.mem_cons.1 hy with rfl | hy
        · simpa using h
        · exact h2 y hy
      · exact .inr ⟨i + 1, by rw [h1]; congr 1; omega, by simpa using h2, h3⟩
theorem c_IndexFunc_attrs {w : World} {v f : Value} {l : List (ByteArray × ByteArray)} {p : ByteArray × ByteArray → Bool} (h : AtV w v l) (hb : l.length ≤ 1000000)
    (hf : ∀ (x : ByteArray × ByteArray) (w' : World) (K : Value → World → Prop), x ∈ l → Ext w w' → (∀ w'', Ext w' w'' → K (.bool (p x)) w'') → Cv Tryd.prog f #[.agg #[.string x.1, .string x.2]] w' K) {K : Value → World → Prop}
    (k : ∀ w', Ext w w' → K (.int .i64 (findF p l 0)) w') : Cf Tryd.prog n_slices_IndexFunc_attrs #[v, f] w K := by
  refine L_slices_IndexFunc_attrs _ _ _ _ ?_
  unfold S_slices_IndexFunc_attrs
  have h' := h
  obtain ⟨a, c, rfl, _⟩ := h'
  refine Vl.len ⟨fun g ds w' => ∃ i : Nat, g = [.int .i64 i] ∧ ds = [] ∧ Ext w w' ∧ i ≤ l.length ∧ findF p l 0 = findF p (l.drop i) i, fun g _ => (l.length - intAt g 0).toNat, ⟨0, rfl, rfl, Chg.refl _ _, by omega, rfl⟩, ?_⟩
  rintro g ds wa ⟨i, hg, rfl, hE, hi, hx⟩
  have e8 : g 8 = .int .i64 i := (List.cons.inj hg).1
  rw [e8]
  refine Vl.lss (Cond_bool (fun hlt => ?_) (fun hlt => ?_))
  · have hlt : i < l.length := by have := of_decide_eq_true hlt; omega
    rw [List.drop_eq_getElem_cons hlt, findF_cons] at hx
    refine AtV.rd (h.ext hE) hlt ?_
    refine hf _ wa _ (List.getElem_mem hlt) hE fun wb hEb => Cond_bool (fun h1 => ?_) (fun h1 => ?_)
    · rw [if_pos h1] at hx
      have := k wb (hE.then hEb)
      rw [hx] at this; exact Lv.nil this
    · rw [if_neg (by rw [h1]; decide)] at hx
      refine Vl.add ⟨⟨i + 1, rfl, rfl, hE.then hEb, by omega, hx⟩, ?_⟩
      show ((l.length : Int) - ((i : Int) + 1)).toNat < ((l.length : Int) - (i : Int)).toNat; omega
  · have : i = l.length := by have := of_decide_eq_false hlt; omega
    subst this
    rw [List.drop_length] at hx
    have := k wa hE
    rw [hx] at this; exact Lv.nil this
theorem c_ContainsFunc_attrs {w : World} {v f : Value} {l : List (ByteArray × ByteArray)} {p : ByteArray × ByteArray → Bool} (h : AtV w v l) (hb : l.length ≤ 1000000)
    (hf : ∀ (x : ByteArray × ByteArray) (w' : World) (K : Value → World → Prop), x ∈ l → Ext w w' → (∀ w'', Ext w' w'' → K (.bool (p x)) w'') → Cv Tryd.prog f #[.agg #[.string x.1, .string x.2]] w' K) {K : Value → World → Prop}
    (k : ∀ w', Ext w w' → K (.bool (l.any p)) w') : Cf Tryd.prog n_slices_ContainsFunc_attrs #[v, f] w K := by
  refine L_slices_ContainsFunc_attrs _ _ _ _ ?_
  unfold S_slices_ContainsFunc_attrs
  refine c_IndexFunc_attrs h hb hf fun w' hE => Vl.geq ?_
  have := k w' hE
  rw [← findF_any p l 0] at this
  exact this
def attrFind (l : List (ByteArray × ByteArray)) (n : ByteArray) : Int := findF (fun x => decide (x.1 = n)) l 0
theorem c_attr_find {w : World} {v : Value} {l : List (ByteArray × ByteArray)} (h : AtV w v l) (hb : l.length ≤ 1000000) {n : ByteArray} {K : Value → World → Prop} (k : ∀ w', Ext w w' → K (.int .i64 (attrFind l n)) w') :
    Cf Tryd.prog n_attr_find #[v, .string n] w K := by
  refine L_attr_find _ _ _ _ ?_
  unfold S_attr_find
  refine Vl.box1 trivial fun w1 h1 => ?_
  have hE1 := h1.ext
  have c1 : Cl w1 w.heap.size T_string [.string n] := h1.new
  refine Vl.i (v := .func (.func 111) #[] #[.pointer (some ⟨w.heap.size, 0, none⟩)]) (w' := w1) (by kernel_rfl) ?_
  refine c_IndexFunc_attrs (p := fun x => decide (x.1 = n)) (h.ext hE1) hb (fun x w' K _ hE hk => Cv.fn (L_attr_find_1 _ _ _ _ ?_)) fun w2 hE2 => k w2 (hE1.then hE2)
  unfold S_attr_find_1
  refine Vl.box fun w3 h3 => ?_
  have c3 : Cl w3 w'.heap.size T_api_Attr [.string x.1, .string x.2] := h3.new
  exact Vl.fa (Vl.ld c3 rfl (Vl.ld ((c1.ext hE).ext h3.ext) rfl (Vl.seql (hk w3 h3.ext))))
def attrGet (l : List (ByteArray × ByteArray)) (n : ByteArray) : ByteArray × Bool := if attrFind l n < 0 then (⟨#[]⟩, false) else ((l.getD (attrFind l n).toNat (⟨#[]⟩, ⟨#[]⟩)).2, true)
theorem c_attr_Get {w : World} {v : Value} {l : List (ByteArray × ByteArray)} (h : AtV w v l) (hb : l.length ≤ 1000000) {n : ByteArray} {K : Value → World → Prop} (k : ∀ w', Ext w w' → K (.tuple #[.string (attrGet l n).1, .bool (attrGet l n).2]) w') :
    Cf Tryd.prog n_attr_Get #[v, .string n] w K := by
  refine L_attr_Get _ _ _ _ ?_
  unfold S_attr_Get
  refine c_attr_find h hb fun w1 hE1 => Vl.lss (Cond_bool (fun h0 => ?_) (fun h0 => ?_))
  · have h0 := of_decide_eq_true h0
    have := k w1 hE1
    unfold attrGet at this
    rw [if_pos h0] at this; exact this
  · have h0 := of_decide_eq_false h0
    have hk := k w1 hE1
    unfold attrGet at hk
    rw [if_neg h0] at hk
    rcases findF_spec (fun x => decide (x.1 = n)) l 0 with ⟨h1, _⟩ | ⟨i, h1, h2, _⟩
    · unfold attrFind at h0; rw [h1] at h0; exact absurd (by decide) h0
    · have e : attrFind l n = (i : Nat) := by unfold attrFind; rw [h1]; congr 1; omega
      rw [e] at hk ⊢
      have h1 := h.ext hE1
      have h1' := h1
      obtain ⟨a, c, rfl, _⟩ := h1'
      obtain ⟨b, o, rfl, hc⟩ := h1.at_ (by omega) h2
      have ei : ((i : Int)).toNat = i := by omega
      refine Vl.ix 2 (by omega) (by omega) (Vl.fa ?_)
      rw [ei]
      refine Vl.lda (hc 1 (.string l[i].2) (by omega) (by rw [attrCells_get l i 1 l[i] (List.getElem?_eq_getElem h2) (by omega)]; rfl)) ?_
      rw [ei] at hk
      have eg : (l.getD i (⟨#[]⟩, ⟨#[]⟩)) = l[i] := by simp [List.getD, h2]
      rw [eg] at hk; exact hk
def withinA (a b : List (ByteArray × ByteArray)) : Bool := !(a.any fun x => !(attrGet b x.1).2 || !decide ((attrGet b x.1).1 = x.2))
theorem c_within {w : World} {v u : Value} {a b : List (ByteArray × ByteArray)} (h : AtV w v a) (hu : AtV w u b) (ha : a.length ≤ 1000000) (hb : b.length ≤ 1000000) {K : Value → World → Prop} (k : ∀ w', Ext w w' → K (.bool (withinA a b)) w') :
    Cf Tryd.prog n_attr_within #[v, u] w K := by
  refine L_attr_within _ _ _ _ ?_
  unfold S_attr_within
  have ou : One u := by obtain ⟨a, c, e, _⟩ := hu; rw [e]; trivial
  refine Vl.box1 ou fun w1 h1 => ?_
  have c1 : Cl w1 w.heap.size T_sl_api_Attr [u] := h1.new
  refine Vl.i (v := .func (.func 98) #[] #[.pointer (some ⟨w.heap.size, 0, none⟩)]) (w' := w1) (by kernel_rfl) ?_
  refine c_ContainsFunc_attrs (p := fun x => !(attrGet b x.1).2 || !decide ((attrGet b x.1).1 = x.2)) (h.ext h1.ext) ha (fun x w' K _ hE hk => Cv.fn (L_attr_within_1 _ _ _ _ ?_)) fun w2 hE2 => Vl.not (k w2 (h1.ext.then hE2))
  unfold S_attr_within_1
  refine Vl.box fun w3 h3 => ?_
  have c3 : Cl w3 w'.heap.size T_api_Attr [.string x.1, .string x.2] := h3.new
  refine Vl.ld ((c1.ext hE).ext h3.ext) rfl (Vl.fa (Vl.ld c3 rfl ?_))
  refine c_attr_Get (((hu.ext h1.ext).ext hE).ext h3.ext) hb fun w4 hE4 => ?_
  have hE34 := h3.ext.then hE4
  refine Vl.extr (v := .string (attrGet b x.1).1) (Vl.extr (v := .bool (attrGet b x.1).2) (Vl.not (Cond_bool (fun h5 => ?_) (fun h5 => ?_))))
  · have := hk w4 hE34
    rw [h5] at this; exact this
  · have := hk w4 hE34
    rw [h5, Bool.false_or] at this
    exact Vl.fa (Vl.ld (c3.ext hE4) rfl (Vl.sneq this))
def attrSame (a b : List (ByteArray × ByteArray)) : Bool := decide (a.length = b.length) && (withinA a b && withinA b a)
theorem c_attr_Same {w : World} {v u : Value} {a b : List (ByteArray × ByteArray)} (h : AtV w v a) (hu : AtV w u b) (ha : a.length ≤ 1000000) (hb : b.length ≤ 1000000) {K : Value → World → Prop} (k : ∀ w', Ext w w' → K (.bool (attrSame a b)) w') :
    Cf Tryd.prog n_attr_Same #[v, u] w K := by
  refine L_attr_Same _ _ _ _ ?_
  unfold S_attr_Same
  unfold attrSame at k
  have h' := h
  have hu' := hu
  obtain ⟨_, _, rfl, _⟩ := h'
  obtain ⟨_, _, rfl, _⟩ := hu'
  refine Vl.len (Vl.len (Vl.eql (Cond_bool (fun h0 => ?_) (fun h0 => ?_))))
  · have e : decide (a.length = b.length) = true := by have := of_decide_eq_true h0; rw [decide_eq_true_iff]; omega
    rw [e] at k
    refine c_within h hu ha hb fun w1 hE1 => Cond_bool (fun h1 => ?_) (fun h1 => ?_)
    · rw [h1] at k
      exact c_within (hu.ext hE1) (h.ext hE1) hb ha fun w2 hE2 => k w2 (hE1.then hE2)
    · rw [h1] at k
      exact k w1 hE1
  · have e : decide (a.length = b.length) = false := by have := of_decide_eq_false h0; rw [decide_eq_false_iff_not]; omega
    rw [e] at k
    exact k w (Chg.refl _ _)
end Go.Proofs
namespace Go.Proofs
open Go Go.Eng

theorem c_IndexZ {w : World} {v : Value} {l : List Int} (h : IView w v l) (hb : l.length ≤ 1000000) {a : Int} {K : Value → World → Prop} (k : K (.int .i64 (idx a l 0)) w) :
    Cf Tryd.prog n_slices_Index_ints #[v, .int .i64 a] w K := by
  refine L_slices_Index_ints _ _ _ _ ?_
  unfold S_slices_Index_ints
  obtain ⟨b, c, rfl⟩ := h.val
  refine Vl.len ⟨fun g ds w' => ∃ i : Nat, g = [.int .i64 i] ∧ ds = [] ∧ w' = w ∧ i ≤ l.length ∧ idx a l 0 = idx a (l.drop i) i, fun g _ => (l.length - intAt g 0).toNat, ⟨0, rfl, rfl, rfl, by omega, by simp⟩, ?_⟩
  rintro g ds _ ⟨i, hg, rfl, rfl, hi, hx⟩
  have e8 : g 8 = .int .i64 i := by injection hg
  rw [e8]
  refine Vl.lss (Cond_bool (fun h0 => ?_) (fun h0 => ?_))
  · have hlt : i < l.length := by have := of_decide_eq_true h0; omega
    refine h.rd hlt (Vl.eql (Cond_bool (fun h1 => ?_) (fun h1 => ?_)))
    · have h1 : a = l[i] := by have := of_decide_eq_true h1; omega
      rw [idx_drop a l i hlt, if_pos h1] at hx
      rw [hx] at k
      exact Lv.nil k
    · have h1 : ¬ a = l[i] := by have := of_decide_eq_false h1; omega
      rw [idx_drop a l i hlt, if_neg h1] at hx
      refine Vl.add ⟨⟨i + 1, rfl, rfl, rfl, by omega, hx⟩, ?_⟩
      show ((l.length : Int) - ((i : Int) + 1)).toNat < ((l.length : Int) - (i : Int)).toNat; omega
  · have : i = l.length := by have := of_decide_eq_false h0; omega
    subst this
    rw [List.drop_length] at hx
    rw [hx] at k
    exact Lv.nil k
def backsZ (l : List Int) : List (Array Value) := (List.range l.length).map fun k => #[.int .i64 ((l.length - 1 - k : Nat) : Int), .int .i64 (l.getD (l.length - 1 - k) 0)]
theorem backsZ_len (l : List Int) : (backsZ l).length = l.length := by unfold backsZ; simp
theorem backsZ_get (l : List Int) (k : Nat) (h : k < (backsZ l).length) : (backsZ l)[k] = #[.int .i64 ((l.length - 1 - k : Nat) : Int), .int .i64 (l.getD (l.length - 1 - k) 0)] := by unfold backsZ; simp
theorem iter_BackwardZ {bx : Nat} {ov : Value} {l : List Int} (hb : l.length ≤ 1000000) :
    Iter Tryd.prog n_slices_Backward_ints_1 #[.pointer (some ⟨bx, 0, none⟩)] (backsZ l) (fun w => Cl w bx T_sl_int [ov] ∧ IView w ov l) := by
  intro lp J Jx w h0 hpre hY
  refine CallF.enter (by intro a w; kernel_rfl) (L_slices_Backward_ints_1 _ _ _ _ ?_)
  unfold S_slices_Backward_ints_1
  obtain ⟨hc0, hr0⟩ := hpre _ _ h0
  obtain ⟨b, c, rfl⟩ := hr0.val
  refine Vl.ld hc0 rfl (Vl.len (Vl.sub ⟨fun a ds w => ∃ k : Nat, a = [.int .i64 ((l.length : Int) - 1 - k)] ∧ ds = [] ∧ k ≤ l.length ∧ J k w, fun a _ => (intAt a 0 + 1).toNat, ⟨0, by simp, rfl, by omega, h0⟩, ?_⟩))
  rintro g ds wa ⟨k, hg, rfl, hk, hJ⟩
  have e3 : g 3 = .int .i64 ((l.length : Int) - 1 - k) := by injection hg
  rw [e3]
  refine Vl.geq (Cond_bool (fun h => ?_) (fun h => ?_))
  · have hlt : k < l.length := by have := of_decide_eq_true h; omega
    obtain ⟨hc, hr⟩ := hpre _ _ hJ
    have en2 : (l.length : Int) - 1 - k = ((l.length - 1 - k : Nat) : Int) := by omega
    refine Vl.ld hc rfl ?_
    have hy := hY k (by rw [backsZ_len]; exact hlt) wa hJ
    rw [backsZ_get] at hy
    rw [en2]
    refine hr.rd (i := l.length - 1 - k) (by omega) ?_
    have ev : l[l.length - 1 - k]'(by omega) = l.getD (l.length - 1 - k) 0 := by
      have : l.length - 1 - k < l.length := by omega
      simp [List.getD, this]
    rw [ev]
    refine Cv.yield (YieldC.mono hy ?_)
    rintro v w' (⟨rfl, hJ'⟩ | ⟨rfl, hx⟩)
    · refine Vl.not (Cond_bool (fun h => by cases h) fun _ => ?_)
      refine Vl.sub ⟨⟨k + 1, by congr 2; omega, rfl, by omega, hJ'⟩, ?_⟩
      show (((l.length - 1 - k : Nat) : Int) - 1 + 1).toNat < (((l.length - 1 - k : Nat) : Int) + 1).toNat; omega
    · exact Vl.not (Cond_bool (fun _ => Lv.nil (.inr hx)) fun h => by cases h)
  · have : k = l.length := by have := of_decide_eq_false h; omega
    subst this
    refine Lv.nil (.inl ?_)
    rw [backsZ_len]; exact hJ

/-! ### The list -/
structure LPh (ρ : Roles) (j : Nat) (w : World) (L A : Nat) (ls : List Int) (ov : Value) : Prop where
  cl : Cl w L T_list_List [.pointer (some ⟨A, 0, none⟩), ov]
  role : ρ L = some (j, .lst)
  row : Row w T_int 1 ov ls.length (ints ls)
  rowRole : ∀ b, blk ov = some b → ρ b = some (j, .ents)
def LInv (ρ : Roles) (j : Nat) (w : World) (L A : Nat) (ls : List Int) : Prop := ∃ ov, LPh ρ j w L A ls ov
theorem LPh.chg {ρ ρ' : Roles} {j : Nat} {w w' : World} {L A : Nat} {ls : List Int} {ov : Value} {X : Nat → Prop} (h : LPh ρ j w L A ls ov) (hr : RExt ρ ρ' w) (c : Chg X w w') (h2 : ∀ b, LsB j ρ b → ¬ X b) : LPh ρ' j w' L A ls ov :=
  ⟨h.cl.chg c (h2 L (.inl h.role)), (hr L h.cl.lt).trans h.role, h.row.chg c fun b hb => h2 b (.inr (h.rowRole b hb)), fun b hb => (hr b (h.row.lt b hb)).trans (h.rowRole b hb)⟩
theorem LInv.chg {ρ ρ' : Roles} {j : Nat} {w w' : World} {L A : Nat} {ls : List Int} {X : Nat → Prop} (h : LInv ρ j w L A ls) (hr : RExt ρ ρ' w) (c : Chg X w w') (h2 : ∀ b, LsB j ρ b → ¬ X b) : LInv ρ' j w' L A ls := by
  obtain ⟨ov, h⟩ := h
  exact ⟨ov, h.chg hr c h2⟩
theorem LInv.ext {ρ : Roles} {j : Nat} {w w' : World} {L A : Nat} {ls : List Int} (h : LInv ρ j w L A ls) (c : Ext w w') : LInv ρ j w' L A ls := h.chg (RExt.refl _ _) c fun _ _ => id

theorem c_list_New {ρ : Roles} {j : Nat} {w : World} {A : Nat} {K : Value → World → Prop}
    (k : ∀ ρ' w' L, RGrow j ρ ρ' w → Ext w w' → w.heap.size ≤ L → LInv ρ' j w' L A [] → K (.pointer (some ⟨L, 0, none⟩)) w') : Cf Tryd.prog n_list_New #[.pointer (some ⟨A, 0, none⟩)] w K := by
  refine L_list_New _ _ _ ?_
  unfold S_list_New
  refine Vl.i (w' := w) (v := .agg #[.pointer (some ⟨A, 0, none⟩), .slice none 0 0]) (by kernel_rfl) ?_
  refine Vl.box fun w1 h1 => ?_
  have c1 : Cl w1 w.heap.size T_list_List [.pointer (some ⟨A, 0, none⟩), .slice none 0 0] := h1.new
  exact k (putR ρ w w.heap.size (j, .lst)) w1 _ (putR_grow _ _ _ _ _) h1.ext (Nat.le_refl _) ⟨_, c1, putR_at _ _ _ _ (Nat.le_refl _), Row.nil _ _ _, fun b hb => by cases hb⟩

def findL (ls : List Int) (i : Int) : Int := if i = -1 then -1 else idx i ls 0
theorem c_LFind {ρ : Roles} {j : Nat} {w : World} {L A : Nat} {ls : List Int} (h : LInv ρ j w L A ls) (hb : ls.length ≤ 1000000) {i : Int} {K : Value → World → Prop}
    (k : K (.int .i64 (findL ls i)) w) : Cf Tryd.prog n_list_List_Find #[.pointer (some ⟨L, 0, none⟩), .int .i64 i] w K := by
  obtain ⟨ov, h⟩ := h
  refine L_list_List_Find _ _ _ _ ?_
  unfold S_list_List_Find
  unfold findL at k
  refine Vl.eql (Cond_bool (fun h0 => ?_) (fun h0 => ?_))
  · rw [if_pos (of_decide_eq_true h0)] at k; exact k
  · rw [if_neg (of_decide_eq_false h0)] at k
    exact ⟨trivial, Vl.fa (Vl.ld h.cl rfl (c_IndexZ (Row.iview h.row) hb k))⟩
theorem c_LAll {ρ : Roles} {j : Nat} {w : World} {L A : Nat} {ls : List Int} (h : LInv ρ j w L A ls) (hb : ls.length ≤ 1000000) {K : Value → World → Prop}
    (k : ∀ v w', Row w' T_int 1 v ls.length (ints ls) → Ext w w' → (∀ b, blk v = some b → w.heap.size ≤ b) → K v w') : Cf Tryd.prog n_list_List_All #[.pointer (some ⟨L, 0, none⟩)] w K := by
  obtain ⟨ov, h⟩ := h
  refine L_list_List_All _ _ _ ?_
  unfold S_list_List_All
  exact ⟨trivial, Vl.fa (Vl.ld h.cl rfl (c_Clone_ints h.row (one_ints _) hb k))⟩
theorem findL_lt (ls : List Int) (i : Int) : findL ls i < ls.length ∧ -1 ≤ findL ls i := by
  unfold findL
  have := idx_lt i ls 0
  split <;> constructor <;> omega
def removeL (ls : List Int) (i : Int) : List Int := if 0 ≤ findL ls i then ls.eraseIdx (findL ls i).toNat else ls
theorem LPh.put {ρ : Roles} {j : Nat} {w w1 w' : World} {L A : Nat} {ls ls' : List Int} {ov v' : Value} (h : LPh ρ j w L A ls ov) (hr : Row w1 T_int 1 v' ls'.length (ints ls')) (hbk : ∀ k, blk v' = some k → ρ k = some (j, .ents) ∨ w.heap.size ≤ k)
    (hu : Upd w1 w' L T_list_List [.pointer (some ⟨A, 0, none⟩), v']) : LInv (grow ρ w v' (j, .ents)) j w' L A ls' := by
  have hlt := h.cl.lt
  refine ⟨v', hu.cl, (grow_ext _ _ _ _ L hlt).trans h.role, hr.chg hu.chg fun k hk e => ?_, fun k hk => grow_role hk fun hl => ?_⟩
  · have e : k = L := e
    rcases hbk k hk with h2 | h2
    · rw [e, h.role] at h2; cases h2
    · omega
  · rcases hbk k hk with h2 | h2
    · exact h2
    · omega
theorem LPh.put' {ρ : Roles} {j : Nat} {w w1 w' : World} {L A : Nat} {ls ls' : List Int} {ov v' : Value} (h : LPh ρ j w L A ls ov) (hr : Row w1 T_int 1 v' ls'.length (ints ls')) (hbk : ∀ k, blk v' = some k → ρ k = some (j, .ents))
    (hu : Upd w1 w' L T_list_List [.pointer (some ⟨A, 0, none⟩), v']) : LInv ρ j w' L A ls' := by
  refine ⟨v', hu.cl, h.role, hr.chg hu.chg fun k hk e => ?_, hbk⟩
  have e : k = L := e
  have := hbk k hk
  rw [e, h.role] at this; cases this
theorem ints_erase (ls : List Int) (n : Nat) : ints (ls.eraseIdx n) = (ints ls).eraseIdx n := by unfold ints; simp [List.eraseIdx_eq_take_drop_succ]
theorem c_LRemove {ρ : Roles} {j : Nat} {w : World} {L A : Nat} {ls : List Int} (h : LInv ρ j w L A ls) (hb : ls.length ≤ 1000000) {i : Int} {K : Value → World → Prop}
    (k : ∀ w', Chg (LsB j ρ) w w' → LInv ρ j w' L A (removeL ls i) → K (.tuple #[]) w') : Cf Tryd.prog n_list_List_Remove #[.pointer (some ⟨L, 0, none⟩), .int .i64 i] w K := by
  refine L_list_List_Remove _ _ _ _ ?_
  unfold S_list_List_Remove
  have hlt := findL_lt ls i
  unfold removeL at k
  refine c_LFind h hb (Vl.geq (Cond_bool (fun h0 => ?_) (fun h0 => ?_)))
  · have h0 := of_decide_eq_true h0
    rw [if_pos h0] at k
    obtain ⟨n, hn⟩ : ∃ n : Nat, findL ls i = n := ⟨(findL ls i).toNat, by omega⟩
    rw [hn] at hlt k ⊢
    have e : ((n : Int)).toNat = n := by omega
    rw [e] at k
    obtain ⟨ov, h⟩ := h
    obtain ⟨oa, oc, rfl, hoa⟩ := h.row.val
    obtain ⟨g, rfl⟩ := hoa (by omega)
    refine ⟨trivial, Vl.fa (Vl.ld h.cl rfl (Vl.add ?_))⟩
    have hle := h.row.le
    have hg : ρ g = some (j, .ents) := h.rowRole g (blk_some (by omega))
    have hgL : g ≠ L := fun e => by rw [e, h.role] at hg; cases hg
    refine c_Delete1 h.row (one_ints _) (by omega) hb fun w1 hr1 hC1 => ?_
    have hL1 := h.cl.chg hC1 fun e => hgL e.symm
    refine ⟨trivial, Vl.fa (Ef.set hL1 (by simp) fun w2 h2 => ?_)⟩
    have hlen : (ls.eraseIdx n).length = ls.length - 1 := by rw [List.length_eraseIdx]; rw [if_pos (by omega)]
    refine k w2 ((hC1.trans h2.chg).mono fun x _ e => ?_) (h.put' (w1 := w1) (by rw [hlen, ints_erase]; exact hr1) (fun b hb => ?_) h2)
    · rcases e with e | e
      · have e : x = g := e
        exact .inr (e ▸ hg)
      · have e : x = L := e
        exact .inl (e ▸ h.role)
    · rw [blk_take (m := ls.length)] at hb
      exact h.rowRole b hb
  · rw [if_neg (of_decide_eq_false h0)] at k
    exact k w (Chg.refl _ _) h
def replaceL (ls : List Int) (i by_ : Int) : List Int := if 0 ≤ findL ls i then ls.set (findL ls i).toNat by_ else ls
theorem c_LReplace {ρ : Roles} {j : Nat} {w : World} {L A : Nat} {ls : List Int} (h : LInv ρ j w L A ls) (hb : ls.length ≤ 1000000) {i by_ : Int} {K : Value → World → Prop}
    (k : ∀ w', Chg (LsB j ρ) w w' → LInv ρ j w' L A (replaceL ls i by_) → K (.tuple #[]) w') : Cf Tryd.prog n_list_List_Replace #[.pointer (some ⟨L, 0, none⟩), .int .i64 i, .int .i64 by_] w K := by
  refine L_list_List_Replace _ _ _ _ _ ?_
  unfold S_list_List_Replace
  have hlt := findL_lt ls i
  unfold replaceL at k
  refine c_LFind h hb (Vl.geq (Cond_bool (fun h0 => ?_) (fun h0 => ?_)))
  · have h0 := of_decide_eq_true h0
    rw [if_pos h0] at k
    obtain ⟨n, hn⟩ : ∃ n : Nat, findL ls i = n := ⟨(findL ls i).toNat, by omega⟩
    rw [hn] at hlt k ⊢
    have e : ((n : Int)).toNat = n := by omega
    rw [e] at k
    obtain ⟨ov, h⟩ := h
    obtain ⟨oa, oc, rfl, hoa⟩ := h.row.val
    obtain ⟨g, rfl⟩ := hoa (by omega)
    have hle := h.row.le
    have hg : ρ g = some (j, .ents) := h.rowRole g (blk_some (by omega))
    have hgL : g ≠ L := fun e => by rw [e, h.role] at hg; cases hg
    refine ⟨trivial, Vl.fa (Vl.ld h.cl rfl (Vl.ix 1 (by omega) (by omega) ?_))⟩
    rw [e, Nat.mul_one, Nat.zero_add]
    refine Ef.row h.row (by rw [ints_len]; omega) trivial fun w2 hC2 hr2 => ?_
    refine k w2 (hC2.mono fun x _ e => .inr ((show x = g from e) ▸ hg)) ⟨_, h.cl.chg hC2 fun e => hgL e.symm, h.role, ?_, h.rowRole⟩
    have ei : ints (ls.set n by_) = (ints ls).set n (.int .i64 by_) := by unfold ints; rw [List.map_set]
    rw [ei, List.length_set]; exact hr2
  · rw [if_neg (of_decide_eq_false h0)] at k
    exact k w (Chg.refl _ _) h
def insZ (p : Nat) (i : Int) (ls : List Int) : List Int := ls.take p ++ [i] ++ ls.drop p
theorem c_LInsert {ρ : Roles} {j : Nat} {w : World} {L A : Nat} {ls : List Int} (h : LInv ρ j w L A ls) {p : Nat} {i : Int} (hp : p ≤ ls.length) (hb : ls.length ≤ 1000000) {K : Value → World → Prop}
    (k : ∀ ρ' w', RGrow j ρ ρ' w → Chg (LsB j ρ) w w' → LInv ρ' j w' L A (insZ p i ls) → K (.tuple #[]) w') : Cf Tryd.prog n_list_List_Insert #[.pointer (some ⟨L, 0, none⟩), .int .i64 p, .int .i64 i] w K := by
  obtain ⟨ov, h⟩ := h
  refine L_list_List_Insert _ _ _ _ _ ?_
  unfold S_list_List_Insert
  refine ⟨trivial, Vl.fa (Vl.ld h.cl rfl (Vl.bs1 (E := T_int) (sz := 1) rfl fun w1 h1 => ?_))⟩
  refine c_SlIns (h.row.ext h1.ext) (one_ints _) h1.cl rfl (fun e => by have := h.row.lt _ e; omega) hp hb fun v' w2 hr hc hbk => ?_
  have hne : ∀ b, blk ov = some b → b ≠ L := fun b hb e => by have := h.rowRole b hb; rw [e, h.role] at this; cases this
  have hs1 : w1.heap.size = w.heap.size + 1 := h1.size
  have hL2 := (h.cl.nw h1).chg hc fun e => hne L e rfl
  have hone : One v' := by obtain ⟨a, c, rfl, _⟩ := hr.val; trivial
  refine ⟨trivial, Vl.fa (Ef.set hL2 (by simp) (fun w3 h3 => ?_) hone)⟩
  have hC : Chg (fun b => blk ov = some b ∨ b = L) w w3 := (h1.ext.to.then hc).trans h3.chg |>.mono fun x _ e => e
  have e1 : (insZ p i ls).length = ls.length + 1 := by unfold insZ; simp; omega
  have e2 : ints (insZ p i ls) = (ints ls).take p ++ [Value.int .i64 i] ++ (ints ls).drop p := by unfold ints insZ; simp
  refine k _ w3 (grow_grow ρ w v' j .ents) (hC.mono fun x _ e => e.elim (fun e => .inr (h.rowRole x e)) fun e => .inl (e ▸ h.role)) (h.put (w1 := w2) (by rw [e1, e2]; exact hr) (fun b hb => ?_) h3)
  rcases hbk b hb with h6 | h6
  · exact .inl (h.rowRole b h6)
  · right; omega
end Go.Proofs
namespace Go.Proofs
open Go Go.Eng
def lm (ls : List Int) : Nat → Int
  | 0 => -1
  | n + 1 => if ls.getD n 0 = -1 then (n : Int) else lm ls n
def markL (ls : List Int) : Int := lm ls ls.length
theorem lm_succ (ls : List Int) (n : Nat) : lm ls (n + 1) = if ls.getD n 0 = -1 then (n : Int) else lm ls n := rfl
theorem lm_lt (ls : List Int) : ∀ n, lm ls n < n ∧ -1 ≤ lm ls n
  | 0 => ⟨by show (-1 : Int) < _; omega, Int.le_refl _⟩
  | n + 1 => by
    have := lm_lt ls n
    rw [lm_succ]
    split <;> constructor <;> omega
theorem c_LMark {ρ : Roles} {j : Nat} {w : World} {L A : Nat} {ls : List Int} (h : LInv ρ j w L A ls) (hb : ls.length ≤ 1000000) {K : Value → World → Prop}
    (k : ∀ w', Ext w w' → K (.int .i64 (markL ls)) w') : Cf Tryd.prog n_list_List_mark #[.pointer (some ⟨L, 0, none⟩)] w K := by
  obtain ⟨ov, h⟩ := h
  refine L_list_List_mark _ _ _ ?_
  unfold S_list_List_mark
  obtain ⟨oa, oc, hov, _⟩ := h.row.val
  refine Vl.alloc (z := .int .i64 0) (by intro w; kernel_rfl) fun w4 h4 => ?_
  have s4 := h4.size
  have hE4 := h4.ext
  have a6 : Cl w4 w.heap.size T_int [.int .i64 0] := h4.cl
  refine ⟨trivial, Vl.fa (Vl.ld (h.cl.ext hE4) rfl ?_)⟩
  refine c_Backward (by rw [hov]; trivial) fun w5 h5 => ?_
  have s5 := h5.size
  have hE5 : Ext w w5 := hE4.then h5.ext
  have hE45 : Ext w4 w5 := h5.ext
  unfold markL at k
  refine Rf.iter (iter_BackwardZ (ov := ov) hb) (by intro x hx; obtain ⟨y, _, rfl⟩ := List.mem_map.1 hx; rfl)
    (fun k w' => Ext w5 w' ∧ w5.heap.size + 2 ≤ w'.heap.size ∧ lm ls ls.length = lm ls (ls.length - k))
    (fun o w' => Chg (· = w.heap.size) w5 w' ∧ w5.heap.size + 2 ≤ w'.heap.size ∧ (match o with
      | none => Cl w' w.heap.size T_int [.int .i64 (lm ls ls.length)]
      | some id => False)) ?_ ?_ ?_ ?_ ?_ ?_ ?_ ?_
  · rintro k w1 w2 ⟨q1, q2, q3⟩ hls
    exact ⟨Chg.newer q1 hls.chg fun x hx e => by omega, by rw [hls.size]; exact q2, q3⟩
  · rintro o w1 w2 ⟨q1, q2, q3⟩ hls
    refine ⟨Chg.newer q1 hls.chg fun x hx e => by omega, by rw [hls.size]; exact q2, ?_⟩
    cases o with
    | none => exact q3.loopStep hls
    | some id => exact q3
  · rintro k w1 ⟨q1, _⟩
    exact ⟨(Cl.ext h5.cl q1), ((Row.iview h.row).ext hE5).ext q1⟩
  · intro w1 hw1 hs1
    exact ⟨hw1, by omega, rfl⟩
  · rintro k hk w6 Bg Kn Kr Kx wz ⟨q1, q2, q3⟩ hd hl2 hn2 hr2 hx2 hB
    refine hB _ ?_
    rw [backsZ_len] at hk
    have hE46 : Ext w4 w6 := hE45.then q1
    have e1 : (fun i => (backsZ ls)[k].toList.getD i undef) 1 = .int .i64 (ls.getD (ls.length - 1 - k) 0) := by rw [backsZ_get]; rfl
    have e0 : (fun i => (backsZ ls)[k].toList.getD i undef) 0 = .int .i64 ((ls.length - 1 - k : Nat) : Int) := by rw [backsZ_get]; rfl
    rw [e1, e0]
    have hstep : ls.length - k = (ls.length - 1 - k) + 1 := by omega
    rw [hstep, lm_succ] at q3
    refine Vl.eql (Cond_bool (fun h0 => ?_) (fun h0 => ?_))
    · rw [if_pos (of_decide_eq_true h0)] at q3
      refine Ef.set (a6.ext hE46) (by simp) fun w8 h8 => ?_
      have c8 : Chg (· = w.heap.size) w6 w8 := h8.chg
      refine hr2 w8 ⟨q1.to.then c8, ?_, by rw [q3]; exact h8.cl⟩ (c8.keep (by omega) (fun e => by have e : w5.heap.size = w.heap.size := e; omega) (fun e => by have e : w5.heap.size + 1 = w.heap.size := e; omega))
      have := c8.size; omega
    · rw [if_neg (of_decide_eq_false h0)] at q3
      refine hn2 w6 ⟨q1, q2, ?_⟩ ⟨rfl, rfl⟩
      rw [q3]; congr 1; omega
  · rintro w6 ⟨q1, q2, q3⟩ hd
    refine Ef.set (a6.ext (hE45.then q1)) (by simp) fun w7 h7 => ?_
    have c7 : Chg (· = w.heap.size) w5 w7 := q1.to.then h7.chg
    refine Lv.cons ((h7.chg.same _ (Array.getElem?_eq_some_iff.1 hd).1 (by omega)).trans hd) fun w8 h8 hs8 hsame => Lv.nil (Rs.ld ((Cl.chg h7.cl h8) (by omega)) rfl ?_)
    rw [backsZ_len, Nat.sub_self] at q3
    have := k w8 (Chg.newer hE5 (c7.trans h8) fun x hx e => by omega)
    rw [q3] at this; exact this
  · rintro w6 ⟨q1, q2, q3⟩ hd
    refine Lv.cons hd fun w8 h8 hs8 hsame => Lv.nil (Rs.ld (q3.chg h8 (by omega)) rfl ?_)
    exact k w8 (Chg.newer hE5 (q1.trans h8) fun x hx e => by omega)
  · rintro id w6 ⟨_, _, q⟩ hd
    exact q.elim
/-- The last of a name, behind the last mark. -/
def lastF (m : AM) (name : ByteArray) (ls : List Int) : Nat → Int × Bool
  | 0 => (0, false)
  | n + 1 => if ls.getD n 0 = -1 then (0, false) else if nameAt m (ls.getD n 0).toNat = name then (ls.getD n 0, true) else lastF m name ls n
theorem lastF_succ (m : AM) (name : ByteArray) (ls : List Int) (n : Nat) : lastF m name ls (n + 1) = if ls.getD n 0 = -1 then (0, false) else if nameAt m (ls.getD n 0).toNat = name then (ls.getD n 0, true) else lastF m name ls n := rfl
def LLive (m : AM) (ls : List Int) : Prop := ∀ x ∈ ls, x = -1 ∨ ∃ i : Nat, x = i ∧ Live m i
theorem LLive.at_ {m : AM} {ls : List Int} (h : LLive m ls) {n : Nat} (hn : n < ls.length) (h1 : ls.getD n 0 ≠ -1) : ∃ i : Nat, ls.getD n 0 = i ∧ Live m i := by
  have e : ls.getD n 0 = ls[n] := by simp [List.getD, hn]
  rcases h _ (List.getElem_mem hn) with h2 | h2
  · rw [e] at h1; exact absurd h2 h1
  · rw [e]; exact h2
theorem c_LLast {ρ : Roles} {j : Nat} {w : World} {L A : Nat} {m : AM} {ls : List Int} (hA : AInv ρ j w A m) (h : LInv ρ j w L A ls) (hl : LLive m ls) (hb : ls.length ≤ 1000000) {name : ByteArray} {K : Value → World → Prop}
    (k : ∀ w', Ext w w' → K (.tuple #[.int .i64 (lastF m name ls ls.length).1, .bool (lastF m name ls ls.length).2]) w') : Cf Tryd.prog n_list_List_Last #[.pointer (some ⟨L, 0, none⟩), .string name] w K := by
  obtain ⟨ov, h⟩ := h
  refine L_list_List_Last _ _ _ _ ?_
  unfold S_list_List_Last
  obtain ⟨oa, oc, hov, _⟩ := h.row.val
  refine Vl.box1 trivial fun w1 h1 => Vl.box1 trivial fun w2 h2 => Vl.alloc (z := .int .i64 0) (by intro w; kernel_rfl) fun w3 h3 => Vl.alloc (z := .bool false) (by intro w; kernel_rfl) fun w4 h4 => ?_
  have s1 := h1.size; have s2 := h2.size; have s3 := h3.size; have s4 := h4.size
  have hE4 : Ext w w4 := ((h1.ext.then h2.ext).then h3.ext).then h4.ext
  have a2 : Cl w4 w.heap.size T_p_list_List [.pointer (some ⟨L, 0, none⟩)] := ((Cl.nw h1.cl h2).nw h3).nw h4
  have a3 : Cl w4 w1.heap.size T_string [.string name] := (Cl.nw h2.cl h3).nw h4
  have a4 : Cl w4 w2.heap.size T_int [.int .i64 0] := Cl.nw h3.cl h4
  have a5 : Cl w4 w3.heap.size T_bool [.bool false] := h4.cl
  refine Vl.ld a2 rfl ⟨trivial, Vl.fa (Vl.ld (h.cl.ext hE4) rfl ?_)⟩
  refine c_Backward (by rw [hov]; trivial) fun w5 h5 => ?_
  have s5 := h5.size
  have hE5 : Ext w w5 := hE4.then h5.ext
  have hE45 : Ext w4 w5 := h5.ext
  refine Rf.iter (iter_BackwardZ (ov := ov) hb) (by intro x hx; obtain ⟨y, _, rfl⟩ := List.mem_map.1 hx; rfl)
    (fun k w' => Ext w5 w' ∧ w5.heap.size + 2 ≤ w'.heap.size ∧ lastF m name ls ls.length = lastF m name ls (ls.length - k))
    (fun o w' => Chg (fun x => x = w2.heap.size ∨ x = w3.heap.size) w5 w' ∧ w5.heap.size + 2 ≤ w'.heap.size ∧ (match o with
      | none => Cl w' w2.heap.size T_int [.int .i64 (lastF m name ls ls.length).1] ∧ Cl w' w3.heap.size T_bool [.bool (lastF m name ls ls.length).2]
      | some id => False)) ?_ ?_ ?_ ?_ ?_ ?_ ?_ ?_
  · rintro k w1 w2 ⟨q1, q2, q3⟩ hls
    exact ⟨Chg.newer q1 hls.chg fun x hx e => by omega, by rw [hls.size]; exact q2, q3⟩
  · rintro o wa wb ⟨q1, q2, q3⟩ hls
    refine ⟨Chg.newer q1 hls.chg fun x hx e => by omega, by rw [hls.size]; exact q2, ?_⟩
    cases o with
    | none => exact ⟨q3.1.loopStep hls, q3.2.loopStep hls⟩
    | some id => exact q3
  · rintro k w1 ⟨q1, _⟩
    exact ⟨(Cl.ext h5.cl q1), ((Row.iview h.row).ext hE5).ext q1⟩
  · intro w1 hw1 hs1
    exact ⟨hw1, by omega, rfl⟩
  · rintro k hk w6 Bg Kn Kr Kx wz ⟨q1, q2, q3⟩ hd hl2 hn2 hr2 hx2 hB
    refine hB _ ?_
    rw [backsZ_len] at hk
    have hE46 : Ext w4 w6 := hE45.then q1
    have hE6 := hE5.then q1
    have e1 : (fun i => (backsZ ls)[k].toList.getD i undef) 1 = .int .i64 (ls.getD (ls.length - 1 - k) 0) := by rw [backsZ_get]; rfl
    rw [e1]
    have hstep : ls.length - k = (ls.length - 1 - k) + 1 := by omega
    rw [hstep, lastF_succ] at q3
    refine Vl.eql (Cond_bool (fun h0 => ?_) (fun h0 => ?_))
    · rw [if_pos (of_decide_eq_true h0)] at q3
      refine Ef.set (a4.ext hE46) (by simp) fun w7 h7 => Ef.set ((a5.ext hE46).upd h7 (by omega)) (by simp) fun w8 h8 => ?_
      have c8 : Chg (fun x => x = w2.heap.size ∨ x = w3.heap.size) w6 w8 := h7.chg.trans h8.chg
      refine hr2 w8 ⟨q1.to.then c8, ?_, ?_⟩ (c8.keep (by omega) (fun e => by omega) (fun e => by omega))
      · have := c8.size; omega
      · rw [q3]; exact ⟨Cl.upd h7.cl h8 (by omega), h8.cl⟩
    · have h0 := of_decide_eq_false h0
      rw [if_neg h0] at q3
      obtain ⟨i, hi, hlive⟩ := hl.at_ (n := ls.length - 1 - k) (by omega) h0
      rw [hi] at q3 ⊢
      have ei : ((i : Int)).toNat = i := by omega
      rw [ei] at q3
      refine ⟨fun x => Ext w6 x, dr_ext w6, VQ.ld (fun x hx => ((a2.ext hE46).ext hx).cell rfl) ⟨trivial, Pv.fa (VQ.ld (fun x hx => ((h.cl.ext hE6).ext hx).cell rfl) (VQ.ld (fun x hx => ((a3.ext hE46).ext hx).cell rfl) ?_))⟩⟩
      refine c_Name' (hA.ext (hE6.then (dr_ext w6))) hlive fun w7 hw7 hE7 => ⟨_, fun _ h => h, (dr_ext w6).then hE7, ?_⟩
      have hE67 := (dr_ext w6).then hE7
      have z7 := hE67.size
      refine Pv.i (fun w => bs_eql) (Cond_bool (fun h1 => ?_) (fun h1 => ?_))
      · rw [if_pos (of_decide_eq_true h1)] at q3
        refine Ef.set ((a4.ext hE46).ext hE67) (by simp) fun w8 h8 => Ef.set (((a5.ext hE46).ext hE67).upd h8 (by omega)) (by simp) fun w9 h9 => ?_
        have c9 : Chg (fun x => x = w2.heap.size ∨ x = w3.heap.size) w6 w9 := (Ext.to hE67).then (h8.chg.trans h9.chg)
        refine hr2 w9 ⟨q1.to.then c9, ?_, ?_⟩ (c9.keep (by omega) (fun e => by omega) (fun e => by omega))
        · have := c9.size; omega
        · rw [q3]; exact ⟨Cl.upd h8.cl h9 (by omega), h9.cl⟩
      · rw [if_neg (of_decide_eq_false h1)] at q3
        refine hn2 w7 ⟨q1.then hE67, by omega, ?_⟩ (hE67.keep (by omega) id id)
        rw [q3]; congr 1; omega
  · rintro w6 ⟨q1, q2, q3⟩ hd
    have hE46 : Ext w4 w6 := hE45.then q1
    refine Ef.set (a4.ext hE46) (by simp) fun w7 h7 => Ef.set ((a5.ext hE46).upd h7 (by omega)) (by simp) fun w8 h8 => ?_
    have c8 : Chg (fun x => x = w2.heap.size ∨ x = w3.heap.size) w6 w8 := h7.chg.trans h8.chg
    refine Lv.cons ((c8.same _ (Array.getElem?_eq_some_iff.1 hd).1 (fun e => by omega)).trans hd) fun w9 h9 hs9 hsame => Lv.nil (Rs.ld (Cl.chg (Cl.upd h7.cl h8 (by omega)) h9 (by omega)) rfl (Rs.ld (Cl.chg h8.cl h9 (by omega)) rfl ?_))
    rw [backsZ_len, Nat.sub_self] at q3
    have := k w9 (Chg.newer hE5 ((q1.to.then c8).trans h9) fun x hx e => by omega)
    rw [q3] at this; exact this
  · rintro w6 ⟨q1, q2, q3, q4⟩ hd
    refine Lv.cons hd fun w8 h8 hs8 hsame => Lv.nil (Rs.ld (q3.chg h8 (by omega)) rfl (Rs.ld (q4.chg h8 (by omega)) rfl ?_))
    exact k w8 (Chg.newer hE5 (q1.trans h8) fun x hx e => by omega)
  · rintro id w6 ⟨_, _, q⟩ hd
    exact q.elim
end Go.Proofs
namespace Go.Proofs
open Go Go.Eng
theorem lm_spec (ls : List Int) : ∀ n k : Nat, lm ls n < (k : Int) → k < n → ls.getD k 0 ≠ -1
  | 0, k, _, h => by omega
  | n + 1, k, h1, h2 => by
    rw [lm_succ] at h1
    by_cases h : ls.getD n 0 = -1
    · rw [if_pos h] at h1; omega
    · rw [if_neg h] at h1
      by_cases hk : k = n
      · subst hk; exact h
      · exact lm_spec ls n k h1 (by omega)
def sameEl (m : AM) (k : Nat) (name : ByteArray) (attrs : List (ByteArray × ByteArray)) : Bool := decide (nameAt m k = name) && attrSame (attrsAt m k) attrs
def pscan (m : AM) (name : ByteArray) (attrs : List (ByteArray × ByteArray)) (ls : List Int) (mk : Int) : Nat → Nat × Nat → Nat × Nat
  | 0, r => r
  | n + 1, r => if (n : Int) ≤ mk then r else if sameEl m (ls.getD n 0).toNat name attrs = true then pscan m name attrs ls mk n (n, r.2 + 1) else pscan m name attrs ls mk n r
theorem pscan_succ (m : AM) (name : ByteArray) (attrs : List (ByteArray × ByteArray)) (ls : List Int) (mk : Int) (n : Nat) (r : Nat × Nat) :
    pscan m name attrs ls mk (n + 1) r = if (n : Int) ≤ mk then r else if sameEl m (ls.getD n 0).toNat name attrs = true then pscan m name attrs ls mk n (n, r.2 + 1) else pscan m name attrs ls mk n r := rfl
def pushL (m : AM) (ls : List Int) (i : Nat) : List Int :=
  (if 3 ≤ (pscan m (nameAt m i) (attrsAt m i) ls (markL ls) ls.length (0, 0)).2 then ls.eraseIdx (pscan m (nameAt m i) (attrsAt m i) ls (markL ls) ls.length (0, 0)).1 else ls) ++ [(i : Int)]
theorem Live.attrs {c : Nat} {m : AM} (hok : AOk c m) {i : Nat} (h : Live m i) : ∃ n, m.elems[i]? = some (elAt m i) ∧ m.nodes[elAt m i]? = some n ∧ attrsAt m i = n.attrs ∧ n.attrs.length ≤ 1000000 := by
  obtain ⟨q, n, h1, h2⟩ := h
  have e : elAt m i = q := by unfold elAt; rw [List.getD_eq_getElem?_getD, h1]; rfl
  refine ⟨n, by rw [e]; exact h1, by rw [e]; exact h2, by unfold attrsAt; rw [e, h2]; rfl, hok.att q n h2⟩
theorem c_Attrs' {ρ : Roles} {j : Nat} {w : World} {A : Nat} {m : AM} (h : AInv ρ j w A m) {c : Nat} (hok : AOk c m) {i : Nat} (hi : Live m i) {K : Value → World → Prop}
    (k : ∀ v' w', Row w' T_api_Attr 2 v' (attrsAt m i).length (attrCells (attrsAt m i)) → Ext w w' → K v' w') : Cf Tryd.prog n_arena_Arena_Attrs #[.pointer (some ⟨A, 0, none⟩), .int .i64 i] w K := by
  obtain ⟨n, h1, h2, h3, h4⟩ := hi.attrs hok
  exact c_Attrs h h1 h2 h4 fun v' w' hr hE _ => k v' w' (by rw [h3]; exact hr) hE
theorem c_LPush {ρ : Roles} {j : Nat} {w : World} {L A : Nat} {m : AM} {ls : List Int} (hA : AInv ρ j w A m) {c : Nat} (hok : AOk c m) (h : LInv ρ j w L A ls) (hl : LLive m ls) (hb : ls.length ≤ 1000000) {i : Nat} (hi : Live m i) {K : Value → World → Prop}
    (k : ∀ ρ' w', RGrow j ρ ρ' w → Chg (LsB j ρ) w w' → LInv ρ' j w' L A (pushL m ls i) → K (.tuple #[]) w') : Cf Tryd.prog n_list_List_Push #[.pointer (some ⟨L, 0, none⟩), .int .i64 i] w K := by
  have hA := hA.cut
  have h : LInv (cutR ρ w) j w L A ls := h.chg (cutR_ext ρ w) (Chg.refl (fun _ => False) _) (fun _ _ => id)
  have k : ∀ ρ' w', RGrow j (cutR ρ w) ρ' w → Chg (LsB j (cutR ρ w)) w w' → LInv ρ' j w' L A (pushL m ls i) → K (.tuple #[]) w' := fun ρ' w' hr hc h => k ρ' w' hr.uncut (hc.mono fun b hb e => e.imp (fun e => (cutR_ext ρ w b hb).symm.trans e) fun e => (cutR_ext ρ w b hb).symm.trans e) h
  have hcut := cut_none ρ w
  generalize cutR ρ w = ρ at hA h k hcut
  have hL := h
  obtain ⟨ov, h⟩ := h
  refine L_list_List_Push _ _ _ _ ?_
  unfold S_list_List_Push
  have hd := dr_ext w
  refine ⟨fun x => Ext w x, hd, trivial, Pv.fa (VQ.ld (fun x hx => (h.cl.ext hx).cell rfl) ⟨trivial, Pv.fa (VQ.ld (fun x hx => (h.cl.ext hx).cell rfl) ?_)⟩)⟩
  refine c_Name' (hA.ext hd) hi fun w1 _ hE1 => ⟨_, fun _ h => h, hd.then hE1, ?_⟩
  have hE01 := hd.then hE1
  refine c_Attrs' (hA.ext hE01) hok hi fun av w2 hav hE2 => ⟨_, fun _ h => h, hE01.then hE2, ?_⟩
  have hE02 := hE01.then hE2
  obtain ⟨ni, _, _, ea, hal⟩ := hi.attrs hok
  have hal' : (attrsAt m i).length ≤ 1000000 := by rw [ea]; exact hal
  unfold pushL at k
  generalize nameAt m i = name at k
  generalize attrsAt m i = attrs at k hav hal'
  refine ⟨trivial, Vl.fa (Vl.ld (h.cl.ext hE02) rfl (lenRow (h.row.ext hE02) (Vl.sub ?_)))⟩
  obtain ⟨R, hR⟩ : ∃ R, R = pscan m name attrs ls (markL ls) ls.length (0, 0) := ⟨_, rfl⟩
  rw [← hR] at k
  refine ⟨fun g ds w' => ∃ (n f c : Nat), g = [.int .i64 f, .int .i64 c, .int .i64 ((n : Int) - 1)] ∧ ds = [] ∧ Ext w w' ∧ Ext w2 w' ∧ n ≤ ls.length ∧ c + n ≤ ls.length ∧ (0 < c → f < ls.length) ∧ R = pscan m name attrs ls (markL ls) n (f, c),
    fun g _ => (intAt g 2 + 1).toNat, ⟨ls.length, 0, 0, rfl, rfl, hE02, Chg.refl _ _, by omega, by omega, fun h => by omega, hR⟩, ?_⟩
  rintro g ds wa ⟨n, f, c, hg, rfl, hE, hE2a, hn, hcn, hf, hRn⟩
  have e4 : g 4 = .int .i64 f := (List.cons.inj hg).1
  have e5 : g 5 = .int .i64 c := (List.cons.inj (List.cons.inj hg).2).1
  have e8 : g 8 = .int .i64 ((n : Int) - 1) := (List.cons.inj (List.cons.inj (List.cons.inj hg).2).2).1
  rw [e4, e5, e8]
  refine c_LMark (hL.ext hE) hb fun wb hEb => ?_
  have hEwb := hE.then hEb
  have hmk := lm_lt ls ls.length
  have hmk' : markL ls = lm ls ls.length := rfl
  have done : pscan m name attrs ls (markL ls) n (f, c) = (f, c) → (∃ J : List Value → List Deferred → World → Prop, (Vl Tryd.prog (binop BinOp.geq 3 (Operand.tmp 62) (Operand.const ((Value.int IntKind.i64 3))) (.int .i64 (c : Nat)) (Value.int IntKind.i64 3)) wb fun v63 wz27 =>
      Cond v63
      (NN (.pointer (some ⟨L, 0, none⟩)) ∧
      Vl Tryd.prog (Instr.fieldAt 107 (.pointer (some ⟨L, 0, none⟩)) 1) wz27 fun v67 wz28 =>
      Vl Tryd.prog (Instr.loadAt 31 v67) wz28 fun v68 wz29 =>
      Vl Tryd.prog (binop BinOp.add 3 (Operand.tmp 70) (Operand.const ((Value.int IntKind.i64 1))) (.int .i64 (f : Nat)) (Value.int IntKind.i64 1)) wz29 fun v71 wz30 =>
      Cf Tryd.prog n_slices_Delete_ints #[v68, .int .i64 (f : Nat), v71] wz30 fun v72 wz31 =>
      NN (.pointer (some ⟨L, 0, none⟩)) ∧
      Vl Tryd.prog (Instr.fieldAt 107 (.pointer (some ⟨L, 0, none⟩)) 1) wz31 fun v74 wz32 =>
      Ef Tryd.prog (Instr.storeAt 31 v74 v72) wz32 fun wz33 =>
      J [] [] wz33)
      (J [] [] wz27)) ∧
      ∀ (ga : Nat → Value) (dsa : List Deferred) (wz : World), J [] dsa wz →
      NN (.pointer (some ⟨L, 0, none⟩)) ∧
      Vl Tryd.prog (Instr.fieldAt 107 (.pointer (some ⟨L, 0, none⟩)) 1) wz fun v78 wz34 =>
      Vl Tryd.prog (Instr.loadAt 31 v78) wz34 fun v79 wz35 =>
      Vl Tryd.prog (Instr.buildSlice 31 1 #[(0, .int .i64 (i : Nat))]) wz35 fun v81 wz36 =>
      Vl Tryd.prog (Builtin.append_ #[31, 31] 31 #[v79, v81]) wz36 fun v82 wz37 =>
      NN (.pointer (some ⟨L, 0, none⟩)) ∧
      Vl Tryd.prog (Instr.fieldAt 107 (.pointer (some ⟨L, 0, none⟩)) 1) wz37 fun v84 wz38 =>
      Ef Tryd.prog (Instr.storeAt 31 v84 v82) wz38 fun wz39 =>
      Lv dsa wz39 fun wz40 => K (Value.tuple #[]) wz40) := fun hdone => by
    have eR : R = (f, c) := by rw [hRn, hdone]
    rw [eR] at k
    have fin : ∀ (ls2 : List Int) (w3 : World), ls2.length ≤ ls.length → LInv ρ j w3 L A ls2 → Chg (LsB j ρ) w w3 → (∀ ρ' w', RGrow j ρ ρ' w → Chg (LsB j ρ) w w' → LInv ρ' j w' L A (ls2 ++ [(i : Int)]) → K (.tuple #[]) w') → 
        NN (.pointer (some ⟨L, 0, none⟩)) ∧
        Vl Tryd.prog (Instr.fieldAt 107 (.pointer (some ⟨L, 0, none⟩)) 1) w3 fun v78 wz34 =>
        Vl Tryd.prog (Instr.loadAt 31 v78) wz34 fun v79 wz35 =>
        Vl Tryd.prog (Instr.buildSlice 31 1 #[(0, .int .i64 (i : Nat))]) wz35 fun v81 wz36 =>
        Vl Tryd.prog (Builtin.append_ #[31, 31] 31 #[v79, v81]) wz36 fun v82 wz37 =>
        NN (.pointer (some ⟨L, 0, none⟩)) ∧
        Vl Tryd.prog (Instr.fieldAt 107 (.pointer (some ⟨L, 0, none⟩)) 1) wz37 fun v84 wz38 =>
        Ef Tryd.prog (Instr.storeAt 31 v84 v82) wz38 fun wz39 =>
        Lv [] wz39 fun wz40 => K (Value.tuple #[]) wz40 := fun ls2 w3 hl2 hL3 hC3 hk => by
      obtain ⟨ov3, h3⟩ := hL3
      refine ⟨trivial, Vl.fa (Vl.ld h3.cl rfl (Vl.bs1 (E := T_int) (sz := 1) rfl fun w4 h4 => ?_))⟩
      refine Vl.app (m := 1) (h3.row.ext h4.ext) h4.cl rfl (by intro u hu; simp at hu; subst hu; rfl) (by omega) fun v' w5 hr5 hC5 hb5 => ?_
      have hne : ∀ b, blk ov3 = some b → b ≠ L := fun b hb e => by have := h3.rowRole b hb; rw [e, h3.role] at this; cases this
      have hL5 := (h3.cl.nw h4).chg hC5 fun e => hne L e rfl
      have hone : One v' := by obtain ⟨a, c, rfl, _⟩ := hr5.val; trivial
      refine ⟨trivial, Vl.fa (Ef.set hL5 (by simp) (fun w6 h6 => Lv.nil ?_) hone)⟩
      have s3 := hC3.size
      have s4 : w4.heap.size = w3.heap.size + 1 := h4.size
      have hC36 : Chg (fun b => blk ov3 = some b ∨ b = L) w3 w6 := (h4.ext.to.then hC5).trans h6.chg |>.mono fun x _ e => e
      have e2 : ints (ls2 ++ [(i : Int)]) = ints ls2 ++ [Value.int .i64 (i : Int)] := by unfold ints; simp
      refine hk _ w6 ((grow_grow ρ w3 v' j .ents).from hcut s3) ((hC3.trans hC36).mono fun b _ e => e.elim id fun e => e.elim (fun e => .inr (h3.rowRole b e)) fun e => .inl (e ▸ h3.role)) (h3.put (w1 := w5) (by rw [e2, List.length_append]; exact hr5) (fun b hb => ?_) h6)
      rcases hb5 b hb with h7 | h7
      · exact .inl (h3.rowRole b h7)
      · right; omega
    refine ⟨fun g ds w' => g = [] ∧ ds = [] ∧ ∃ ls2 : List Int, ls2.length ≤ ls.length ∧ LInv ρ j w' L A ls2 ∧ Chg (LsB j ρ) w w' ∧ ls2 = (if 3 ≤ c then ls.eraseIdx f else ls), ?_, ?_⟩
    · refine Vl.geq (Cond_bool (fun h0 => ?_) (fun h0 => ?_))
      · have h0 : 3 ≤ c := by have := of_decide_eq_true h0; omega
        have hfl := hf (by omega)
        obtain ⟨oa, oc, rfl, hoa⟩ := h.row.val
        obtain ⟨gg, rfl⟩ := hoa (by omega)
        have hb' := h.chg (RExt.refl _ _) hEwb (fun _ _ => id)
        have hle := h.row.le
        have hgr : ρ gg = some (j, .ents) := h.rowRole gg (blk_some (by omega))
        have hgL : gg ≠ L := fun e => by rw [e, h.role] at hgr; cases hgr
        refine ⟨trivial, Vl.fa (Vl.ld hb'.cl rfl (Vl.add ?_))⟩
        refine c_Delete1 hb'.row (one_ints _) hfl hb fun w3 hr3 hC3 => ?_
        have hL3 := hb'.cl.chg hC3 fun e => hgL e.symm
        refine ⟨trivial, Vl.fa (Ef.set hL3 (by simp) fun w4 h4 => ⟨rfl, rfl, ls.eraseIdx f, List.length_eraseIdx_le .., ?_, ?_, by rw [if_pos h0]⟩)⟩
        · have hlen : (ls.eraseIdx f).length = ls.length - 1 := by rw [List.length_eraseIdx]; rw [if_pos hfl]
          refine hb'.put' (w1 := w3) (by rw [hlen, ints_erase]; exact hr3) (fun b hb => ?_) h4
          rw [blk_take (m := ls.length)] at hb
          exact h.rowRole b hb
        · refine ((Ext.to hEwb).then ((hC3.trans h4.chg).mono fun x _ e => ?_))
          rcases e with e | e
          · have e : x = gg := e
            exact .inr (e ▸ hgr)
          · have e : x = L := e
            exact .inl (e ▸ h.role)
      · have h0 : ¬ 3 ≤ c := by have := of_decide_eq_false h0; omega
        exact ⟨rfl, rfl, ls, Nat.le_refl _, hL.ext hEwb, Ext.to hEwb, by rw [if_neg h0]⟩
    · rintro ga dsa wz ⟨_, rfl, ls2, hl2, hL2, hC2, e2⟩
      exact fin ls2 wz hl2 hL2 hC2 (by rw [e2]; exact k)
  refine Vl.gtr (Cond_bool (fun h0 => ?_) (fun h0 => ?_))
  · have h0 := of_decide_eq_true h0
    obtain ⟨n, rfl⟩ : ∃ q, n = q + 1 := ⟨n - 1, by omega⟩
    have en : ((n + 1 : Nat) : Int) - 1 = (n : Nat) := by omega
    rw [en] at h0 ⊢
    rw [pscan_succ, if_neg (by omega)] at hRn
    have hnl : n < ls.length := by omega
    have hne : ls.getD n 0 ≠ -1 := lm_spec ls ls.length n (by rw [← hmk']; omega) hnl
    obtain ⟨q, hq, hqL⟩ := hl.at_ hnl hne
    have hq' : ls[n] = q := by
      have : ls.getD n 0 = ls[n] := by simp [List.getD, hnl]
      rw [← this]; exact hq
    rw [hq] at hRn
    have eq : ((q : Int)).toNat = q := by omega
    rw [eq] at hRn
    have hb' := h.chg (RExt.refl _ _) hEwb (fun _ _ => id)
    refine ⟨trivial, Vl.fa (Vl.ld hb'.cl rfl ?_)⟩
    refine IView.rd (Row.iview hb'.row) hnl ?_
    rw [hq']
    refine ⟨trivial, Vl.fa (Vl.ld hb'.cl rfl ?_)⟩
    refine c_Name' (hA.ext hEwb) hqL fun wc _ hEc => Vl.seql (Cond_bool (fun h1 => ?_) (fun h1 => ?_))
    · have hEwc := hEwb.then hEc
      have hc' := h.chg (RExt.refl _ _) hEwc (fun _ _ => id)
      refine ⟨trivial, Vl.fa (Vl.ld hc'.cl rfl ?_)⟩
      refine c_Attrs' (hA.ext hEwc) hok hqL fun qv wd hqv hEd => ?_
      obtain ⟨nq, _, _, eaq, hqal⟩ := hqL.attrs hok
      have hE2d : Ext w2 wd := ((hE2a.then hEb).then hEc).then hEd
      refine c_attr_Same (Row.viewN hqv) (Row.viewN (hav.ext hE2d)) (by rw [eaq]; exact hqal) hal' fun we hEe => Cond_bool (fun h2 => ?_) (fun h2 => ?_)
      · have hs : sameEl m q name attrs = true := by unfold sameEl; rw [h1, h2]; rfl
        rw [if_pos hs] at hRn
        refine Vl.add (Vl.sub ⟨⟨n, n, c + 1, rfl, rfl, (hEwc.then hEd).then hEe, hE2d.then hEe, by omega, by omega, fun _ => hnl, hRn⟩, ?_⟩)
        show ((n : Int) - 1 + 1).toNat < ((n : Int) + 1).toNat; omega
      · have hs : ¬ sameEl m q name attrs = true := by unfold sameEl; rw [h1, h2]; decide
        rw [if_neg hs] at hRn
        refine Vl.sub ⟨⟨n, f, c, rfl, rfl, (hEwc.then hEd).then hEe, hE2d.then hEe, by omega, by omega, hf, hRn⟩, ?_⟩
        show ((n : Int) - 1 + 1).toNat < ((n : Int) + 1).toNat; omega
    · have hs : ¬ sameEl m q name attrs = true := by unfold sameEl; rw [h1, Bool.false_and]; decide
      rw [if_neg hs] at hRn
      refine Vl.sub ⟨⟨n, f, c, rfl, rfl, hEwb.then hEc, (hE2a.then hEb).then hEc, by omega, by omega, hf, hRn⟩, ?_⟩
      show ((n : Int) - 1 + 1).toNat < ((n : Int) + 1).toNat; omega
  · have h0 := of_decide_eq_false h0
    refine done ?_
    cases n with
    | zero => rfl
    | succ n =>
      rw [pscan_succ, if_pos]
      omega
end Go.Proofs
namespace Go.Proofs
open Go Go.Eng
theorem nodup_len : ∀ (N : Nat) (l : List Nat), l.Nodup → (∀ x ∈ l, x < N) → l.length ≤ N
  | 0, l, _, h => by
    cases l with
    | nil => exact Nat.le_refl _
    | cons x l => have := h x (by simp); omega
  | N + 1, l, hn, h => by
    have h1 := nodup_len N (l.erase N) (hn.erase N) (fun x hx => by
      have hm := List.mem_of_mem_erase hx
      have := h x hm
      have hne : x ≠ N := fun e => by
        rw [e] at hx
        exact (List.Nodup.not_mem_erase hn) hx
      omega)
    by_cases hN : N ∈ l
    · rw [List.length_erase_of_mem hN] at h1; omega
    · rw [List.erase_of_not_mem hN] at h1; omega
/-- An arena whose nodes stand each in at most one other, as both say. -/
structure TOk (c : Nat) (m : AM) : Prop where
  par : ∀ (q : Nat) (n : NodeM), m.nodes[q]? = some n → n.parent < m.nodes.length
  nod : ∀ (q : Nat) (n : NodeM), m.nodes[q]? = some n → n.inner.Nodup
  inb : ∀ (q : Nat) (n : NodeM), m.nodes[q]? = some n → ∀ y ∈ n.inner, y < m.nodes.length
  con : ∀ (q : Nat) (n : NodeM), m.nodes[q]? = some n → ∀ y ∈ n.inner, ∀ z, m.nodes[y]? = some z → z.parent = q
  many : m.nodes.length ≤ c
  el : ∀ (i q : Nat), m.elems[i]? = some q → q < m.nodes.length
  elm : m.elems.length ≤ c
  att : ∀ (q : Nat) (n : NodeM), m.nodes[q]? = some n → n.attrs.length ≤ 1000000
  cps : m.copies ≤ c
theorem TOk.aok {c : Nat} {m : AM} (h : TOk c m) : AOk c m :=
  ⟨h.par, fun q n hn => Nat.le_trans (nodup_len _ _ (h.nod q n hn) (h.inb q n hn)) h.many, h.inb, h.many, h.el, h.elm, h.att, Nat.zero_le _, h.cps⟩
theorem TOk.wide {c d : Nat} {m : AM} (h : TOk c m) (hd : c ≤ d) : TOk d m := ⟨h.par, h.nod, h.inb, h.con, Nat.le_trans h.many hd, h.el, Nat.le_trans h.elm hd, h.att, Nat.le_trans h.cps hd⟩
theorem leaveM_copies (m : AM) (q : Nat) : (leaveM m q).copies = m.copies := by
  unfold leaveM
  split
  · rfl
  · split
    · rfl
    · exact modN_copies _ _ _
theorem putM_copies (m : AM) (p q : Nat) : (putM m p q).copies = m.copies := by unfold putM; rw [modN_copies, modN_copies, leaveM_copies]
/-- What a node is behind a leaving. -/
theorem leaveM_at {c : Nat} {m : AM} (h : TOk c m) {q k : Nat} {n : NodeM} (hn : (leaveM m q).nodes[k]? = some n) :
    ∃ x, m.nodes[k]? = some x ∧ n.parent = x.parent ∧ n.attrs = x.attrs ∧ n.name = x.name ∧ n.text = x.text ∧ n.inner = x.inner.filter (fun y => decide (y ≠ q)) := by
  have self : ∀ x : NodeM, m.nodes[k]? = some x → (∀ y ∈ x.inner, y ≠ q) → x.inner = x.inner.filter (fun y => decide (y ≠ q)) := fun x _ hy => by
    rw [eq_comm, List.filter_eq_self]; intro y h'; simpa using hy y h'
  unfold leaveM at hn
  cases hq : m.nodes[q]? with
  | none =>
    rw [hq] at hn
    have hn : m.nodes[k]? = some n := hn
    refine ⟨n, hn, rfl, rfl, rfl, rfl, self n hn fun y hy e => ?_⟩
    have := h.inb k n hn y hy
    rw [e] at this
    rw [List.getElem?_eq_getElem this] at hq; cases hq
  | some z =>
    rw [hq] at hn
    have hn : (if z.parent < 0 then m else modN m z.parent.toNat fun x => { x with inner := x.inner.filter (fun y => decide (y ≠ q)) }).nodes[k]? = some n := hn
    by_cases hz : z.parent < 0
    · rw [if_pos hz] at hn
      refine ⟨n, hn, rfl, rfl, rfl, rfl, self n hn fun y hy e => ?_⟩
      have := h.con k n hn y hy z (e ▸ hq)
      omega
    · rw [if_neg hz] at hn
      obtain ⟨x, hx, rfl | ⟨hk, rfl⟩⟩ := modN_at hn
      · -- another one: it does not hold q, unless it is the one
        by_cases hk : k = z.parent.toNat
        · have hs : (modN m z.parent.toNat fun x => { x with inner := x.inner.filter (fun y => decide (y ≠ q)) }).nodes[k]? = some { n with inner := n.inner.filter (fun y => decide (y ≠ q)) } := by
            rw [← hk, modN_some hx]
            show (m.nodes.set k _)[k]? = _
            rw [List.getElem?_set_self (List.getElem?_eq_some_iff.1 hx).1]
          rw [hs] at hn
          have e : n.inner.filter (fun y => decide (y ≠ q)) = n.inner := by
            injection hn with hn
            exact congrArg NodeM.inner hn
          exact ⟨n, hx, rfl, rfl, rfl, rfl, e.symm⟩
        · refine ⟨n, hx, rfl, rfl, rfl, rfl, self n hx fun y hy e => ?_⟩
          have := h.con k n hx y hy z (e ▸ hq)
          omega
      · exact ⟨x, hx, rfl, rfl, rfl, rfl, rfl⟩
theorem TOk.put {c : Nat} {m : AM} (h : TOk c m) {p q : Nat} (hp : p < m.nodes.length) (hq : q < m.nodes.length) : TOk c (putM m p q) := by
  have at_ : ∀ (k : Nat) (n : NodeM), (putM m p q).nodes[k]? = some n → ∃ x, m.nodes[k]? = some x ∧ n.attrs = x.attrs ∧ n.parent = (if k = q then (p : Int) else x.parent) ∧ n.inner = x.inner.filter (fun y => decide (y ≠ q)) ++ (if k = p then [q] else []) := fun k n hn => by
    unfold putM at hn
    have l1 := leaveM_len m q
    obtain ⟨n1, hn1⟩ : ∃ n1, (leaveM m q).nodes[k]? = some n1 := by
      have hk := (List.getElem?_eq_some_iff.1 hn).1
      rw [modN_len, modN_len] at hk
      exact ⟨_, List.getElem?_eq_getElem hk⟩
    obtain ⟨x, hx, e1, e2, _, _, e5⟩ := leaveM_at h hn1
    have h2 : (modN (leaveM m q) q fun x => { x with parent := (p : Int) }).nodes[k]? = some (if k = q then { n1 with parent := (p : Int) } else n1) := by
      by_cases hk : k = q
      · subst hk
        rw [if_pos rfl, modN_some hn1]
        show ((leaveM m k).nodes.set k _)[k]? = _
        rw [List.getElem?_set_self (List.getElem?_eq_some_iff.1 hn1).1]
      · rw [if_neg hk]
        unfold modN
        split
        · exact hn1
        · show ((leaveM m q).nodes.set q _)[k]? = _
          rw [List.getElem?_set_ne (fun e => hk e.symm)]; exact hn1
    have h3 : n = (if k = p then { (if k = q then { n1 with parent := (p : Int) } else n1) with inner := (if k = q then { n1 with parent := (p : Int) } else n1).inner ++ [q] } else (if k = q then { n1 with parent := (p : Int) } else n1)) := by
      by_cases hk : k = p
      · subst hk
        rw [if_pos rfl]
        rw [modN_some h2] at hn
        have hn : ((modN (leaveM m q) q fun x => { x with parent := (k : Int) }).nodes.set k _)[k]? = some n := hn
        rw [List.getElem?_set_self (List.getElem?_eq_some_iff.1 h2).1] at hn
        injection hn with hn
        exact hn.symm
      · rw [if_neg hk]
        unfold modN at hn
        split at hn
        · have := h2.symm.trans hn
          injection this with this
          exact this.symm
        · rename_i z hz
          have hn : ((modN (leaveM m q) q fun x => { x with parent := (p : Int) }).nodes.set p _)[k]? = some n := hn
          rw [List.getElem?_set_ne (fun e => hk e.symm)] at hn
          have := h2.symm.trans hn
          injection this with this
          exact this.symm
    have hi : (if k = q then { n1 with parent := (p : Int) } else n1).inner = n1.inner := by split <;> rfl
    refine ⟨x, hx, ?_, ?_, ?_⟩
    · rw [h3]; split <;> split <;> exact e2
    · rw [h3]
      by_cases hkq : k = q
      · rw [if_pos hkq, if_pos hkq]; split <;> rfl
      · rw [if_neg hkq, if_neg hkq]; split <;> exact e1
    · rw [h3]
      by_cases hkp : k = p
      · rw [if_pos hkp, if_pos hkp]
        show (if k = q then { n1 with parent := (p : Int) } else n1).inner ++ [q] = _
        rw [hi, e5]
      · rw [if_neg hkp, if_neg hkp, hi, e5, List.append_nil]
  have hl := putM_len m p q
  refine ⟨fun k n hn => ?_, fun k n hn => ?_, fun k n hn y hy => ?_, fun k n hn y hy z hz => ?_, by rw [hl]; exact h.many, fun i k hk => by rw [putM_elems] at hk; rw [hl]; exact h.el i k hk, by rw [putM_elems]; exact h.elm, fun k n hn => ?_, by rw [putM_copies]; exact h.cps⟩
  · obtain ⟨x, hx, _, e, _⟩ := at_ k n hn
    rw [hl, e]
    split
    · omega
    · exact h.par k x hx
  · obtain ⟨x, hx, _, _, e⟩ := at_ k n hn
    rw [e]
    have hf : (x.inner.filter (fun y => decide (y ≠ q))).Nodup := (h.nod k x hx).filter _
    split
    · rw [List.nodup_append]
      refine ⟨hf, by simp, fun a ha b hb => ?_⟩
      have hb : b = q := by simpa using hb
      have := (List.mem_filter.1 ha).2
      rw [hb]
      simpa using this
    · rw [List.append_nil]; exact hf
  · obtain ⟨x, hx, _, _, e⟩ := at_ k n hn
    rw [e] at hy
    rw [hl]
    rcases List.mem_append.1 hy with hy | hy
    · exact h.inb k x hx y (List.mem_filter.1 hy).1
    · split at hy
      · have : y = q := by simpa using hy
        omega
      · cases hy
  · obtain ⟨x, hx, _, _, e⟩ := at_ k n hn
    obtain ⟨x2, hx2, _, e2, _⟩ := at_ y z hz
    rw [e] at hy
    rw [e2]
    rcases List.mem_append.1 hy with hy | hy
    · have h1 := List.mem_filter.1 hy
      have hne : y ≠ q := by simpa using h1.2
      rw [if_neg hne]
      exact h.con k x hx y h1.1 x2 hx2
    · split at hy
      · rename_i hk
        have : y = q := by simpa using hy
        rw [if_pos this, hk]
      · cases hy
  · obtain ⟨x, hx, e, _⟩ := at_ k n hn
    rw [e]; exact h.att k x hx
/-- A new node that stands nowhere, and has nothing in it. -/
theorem TOk.newNode {c : Nat} {m m' : AM} (h : TOk c m) {n0 : NodeM} (hn0 : n0.parent = -1 ∧ n0.inner = [] ∧ n0.attrs.length ≤ 1000000) (hm : m'.nodes = m.nodes ++ [n0]) (he : ∀ (i q : Nat), m'.elems[i]? = some q → m.elems[i]? = some q ∨ q = m.nodes.length) (hel : m'.elems.length ≤ c + 1) (hcp : m'.copies ≤ c + 1) : TOk (c + 1) m' := by
  have hl : m'.nodes.length = m.nodes.length + 1 := by rw [hm]; simp
  have at_ : ∀ (q : Nat) (n : NodeM), m'.nodes[q]? = some n → m.nodes[q]? = some n ∨ (q = m.nodes.length ∧ n = n0) := fun q n hn => by
    rw [hm] at hn
    by_cases hq : q < m.nodes.length
    · rw [List.getElem?_append_left hq] at hn; exact .inl hn
    · rw [List.getElem?_append_right (by omega)] at hn
      have := (List.getElem?_eq_some_iff.1 hn).1
      have e : q - m.nodes.length = 0 := by simp at this; omega
      rw [e] at hn
      right; exact ⟨by omega, by simpa using hn.symm⟩
  refine ⟨fun q n hn => ?_, fun q n hn => ?_, fun q n hn y hy => ?_, fun q n hn y hy z hz => ?_, by rw [hl]; have := h.many; omega, fun i q hq => ?_, hel, fun q n hn => ?_, hcp⟩
  · rw [hl]
    rcases at_ q n hn with e | ⟨_, rfl⟩
    · have := h.par q n e; omega
    · rw [hn0.1]; omega
  · rcases at_ q n hn with e | ⟨_, rfl⟩
    · exact h.nod q n e
    · rw [hn0.2.1]; exact List.nodup_nil
  · rw [hl]
    rcases at_ q n hn with e | ⟨_, rfl⟩
    · have := h.inb q n e y hy; omega
    · rw [hn0.2.1] at hy; cases hy
  · rcases at_ q n hn with e | ⟨_, rfl⟩
    · have hyl := h.inb q n e y hy
      rcases at_ y z hz with e2 | ⟨e2, _⟩
      · exact h.con q n e y hy z e2
      · omega
    · rw [hn0.2.1] at hy; cases hy
  · rw [hl]
    rcases he i q hq with e | e
    · have := h.el i q e; omega
    · omega
  · rcases at_ q n hn with e | ⟨_, rfl⟩
    · exact h.att q n e
    · exact hn0.2.2
theorem elems_snoc {l : List Nat} {x i q : Nat} (h : (l ++ [x])[i]? = some q) : l[i]? = some q ∨ q = x := by
  by_cases hi : i < l.length
  · rw [List.getElem?_append_left hi] at h; exact .inl h
  · rw [List.getElem?_append_right (by omega)] at h
    have := (List.getElem?_eq_some_iff.1 h).1
    have e : i - l.length = 0 := by simp at this; omega
    rw [e] at h
    right; simpa using h.symm
theorem TOk.elem {c : Nat} {m : AM} (h : TOk c m) {n0 : NodeM} (hn0 : n0.parent = -1 ∧ n0.inner = [] ∧ n0.attrs.length ≤ 1000000) : TOk (c + 1) (addEl m n0) :=
  h.newNode hn0 rfl (fun i q hq => elems_snoc hq) (by show (m.elems ++ [_]).length ≤ _; simp; exact h.elm) (by show m.copies ≤ _; have := h.cps; omega)
theorem TOk.text {c : Nat} {m : AM} (h : TOk c m) {p : Nat} (hp : p < m.elems.length) (s : ByteArray) : TOk (c + 1) (textM m p s) := by
  unfold textM
  split
  · exact h.wide (by omega)
  · split
    · -- a text grows
      have hm : ∀ (k : Nat), (modN m k fun x => { x with text := x.text ++ s }).nodes.length = m.nodes.length := fun k => modN_len _ _ _
      generalize (innerAt m p).getD ((innerAt m p).length - 1) 0 = k0
      have at_ : ∀ (q : Nat) (n : NodeM), (modN m k0 fun x => { x with text := x.text ++ s }).nodes[q]? = some n → ∃ x, m.nodes[q]? = some x ∧ n.parent = x.parent ∧ n.inner = x.inner ∧ n.attrs = x.attrs := fun q n hn => by
        obtain ⟨x, hx, rfl | ⟨_, rfl⟩⟩ := modN_at hn
        · exact ⟨_, hx, rfl, rfl, rfl⟩
        · exact ⟨x, hx, rfl, rfl, rfl⟩
      refine ⟨fun q n hn => ?_, fun q n hn => ?_, fun q n hn y hy => ?_, fun q n hn y hy z hz => ?_, by rw [hm]; have := h.many; omega, fun i q hq => by rw [modN_elems] at hq; rw [hm]; exact h.el i q hq, by rw [modN_elems]; have := h.elm; omega, fun q n hn => ?_, by rw [modN_copies]; have := h.cps; omega⟩
      · obtain ⟨x, hx, e, _⟩ := at_ q n hn
        rw [hm, e]; exact h.par q x hx
      · obtain ⟨x, hx, _, e, _⟩ := at_ q n hn
        rw [e]; exact h.nod q x hx
      · obtain ⟨x, hx, _, e, _⟩ := at_ q n hn
        rw [hm]; rw [e] at hy; exact h.inb q x hx y hy
      · obtain ⟨x, hx, _, e, _⟩ := at_ q n hn
        obtain ⟨x2, hx2, e2, _⟩ := at_ y z hz
        rw [e] at hy
        rw [e2]; exact h.con q x hx y hy x2 hx2
      · obtain ⟨x, hx, _, _, e⟩ := at_ q n hn
        rw [e]; exact h.att q x hx
    · have h1 : TOk (c + 1) (newText m s) := h.newNode (n0 := ⟨⟨#[]⟩, [], s, -1, []⟩) ⟨rfl, rfl, Nat.zero_le _⟩ rfl (fun i q hq => .inl hq) (by show m.elems.length ≤ _; have := h.elm; omega) (by show m.copies ≤ _; have := h.cps; omega)
      have hl : (newText m s).nodes.length = m.nodes.length + 1 := by unfold newText; simp
      exact h1.put (by rw [hl]; have := elAt_lt h.aok hp; omega) (by rw [hl]; omega)
theorem TOk.append {c : Nat} {m : AM} (h : TOk c m) {p i : Nat} (hp : p < m.elems.length) (hi : i < m.elems.length) : TOk c (appendM m p i) := h.put (elAt_lt h.aok hp) (elAt_lt h.aok hi)
theorem TOk.moveL {t c : Nat} : ∀ (l : List Nat) (m : AM), TOk c m → t < m.elems.length → (∀ q ∈ l, q < m.nodes.length) → TOk c (Go.Proofs.moveL m t l)
  | [], m, h, _, _ => h
  | q :: l, m, h, ht, hl => TOk.moveL l (putM m (elAt m t) q) (h.put (elAt_lt h.aok ht) (hl q (by simp))) (by rw [putM_elems]; exact ht) (fun y hy => by rw [putM_len]; exact hl y (by simp [hy]))
theorem TOk.move {c : Nat} {m : AM} (h : TOk c m) {f t : Nat} (hf : f < m.elems.length) (ht : t < m.elems.length) : TOk c (moveM m f t) :=
  TOk.moveL _ m h ht (h.inb _ _ (nodeAt_some (elAt_lt h.aok hf)))
end Go.Proofs
