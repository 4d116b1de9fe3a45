/- Part of the proof of a law of this seat: facts that it uses, each proved here. No conditions. -/
import Derived.Test.YtcapooghkabloaaDoorLImp
namespace Go.Proofs
open Go Go.Eng

theorem isRefBnd {far : Int} {x : ByteArray} (h0 : far = 0 ∨ far = 1 ∨ far = 2) : bnd far x = (inK 5 x || (decide (far = 1) && (decide (x = nOl) || decide (x = nUl))) || (decide (far = 2) && decide (x = nButton))) := by
  unfold bnd
  rw [isKind_scope]
  rcases h0 with rfl | rfl | rfl
  · simp
  · by_cases h1 : x = nOl
    · simp [h1]
    · by_cases h2 : x = nUl <;> simp [h1, h2]
  · cases inK 5 x <;> simp

theorem c_ref_In {w : World} {v u : Value} {l ns : List ByteArray} (h : Strs w v l) (hu : Strs w u ns) (hb : l.length ≤ 1000000) (hbn : ns.length ≤ 1000000) (hz : okSizes l) {far : Int} (hf : far = 0 ∨ far = 1 ∨ far = 2) {K : Value → World → Prop}
    (k : ∀ w', Ext w w' → K (.bool (seesF far ns (nmL l) l.length)) w') : Cf Tryd.prog n_decanterref13_In #[v, .int .i64 far, u] w K := by
  refine L_decanterref13_In _ _ _ _ _ ?_
  unfold S_decanterref13_In
  obtain ⟨a, c, rfl⟩ := h.val
  refine Vl.len (Vl.sub ⟨fun g ds w' => ∃ i : Nat, g = [.int .i64 ((i : Int) - 1)] ∧ ds = [] ∧ Ext w w' ∧ i ≤ l.length ∧ seesF far ns (nmL l) l.length = seesF far ns (nmL l) i, fun g _ => (intAt g 0 + 1).toNat, ⟨l.length, rfl, rfl, Chg.refl _ _, by omega, rfl⟩, ?_⟩)
  rintro g ds wa ⟨i, hg, rfl, hE, hi, hx⟩
  have e7 : g 7 = .int .i64 ((i : Int) - 1) := by injection hg
  rw [e7]
  refine Vl.geq (Cond_bool (fun h0 => ?_) (fun h0 => ?_))
  · have h0 := of_decide_eq_true h0
    obtain ⟨i, rfl⟩ : ∃ j, i = j + 1 := ⟨i - 1, by omega⟩
    have e : ((i + 1 : Nat) : Int) - 1 = (i : Nat) := by omega
    rw [e]
    rw [seesF_succ] at hx
    have hlt : i < l.length := by omega
    refine Vl.strAt (h.ext hE) hlt (c_Among (hu.ext hE) hbn (Cond_bool (fun h1 => ?_) (fun h1 => ?_)))
    · rw [if_pos h1] at hx
      have := k wa hE
      rw [hx] at this; exact Lv.nil this
    · rw [if_neg (by rw [h1]; decide)] at hx
      rw [isRefBnd hf] at hx
      refine Vl.strAt (h.ext hE) hlt (c_ref_Is (i := 5) (by omega) (hz.nm hlt) fun w' hE' => ?_)
      have hEw := hE.then hE'
      have stop : seesF far ns (nmL l) l.length = false → Lv [] w' fun wz => K (.bool false) wz := fun he => by
        have := k w' hEw
        rw [he] at this; exact Lv.nil this
      refine Cond_bool (fun h2 => stop ?_) (fun h2 => ?_)
      · rw [hx, h2]; simp
      rw [h2, Bool.false_or] at hx
      have next : seesF far ns (nmL l) l.length = seesF far ns (nmL l) i → Vl Tryd.prog (binop BinOp.sub 3 (Operand.tmp 13) (Operand.const ((Value.int IntKind.i64 1))) (.int .i64 (i : Nat)) (Value.int IntKind.i64 1)) w' fun v14 wz =>
          (∃ i : Nat, [v14] = [.int .i64 ((i : Int) - 1)] ∧ ([] : List Deferred) = [] ∧ Ext w wz ∧ i ≤ l.length ∧ seesF far ns (nmL l) l.length = seesF far ns (nmL l) i) ∧ (intAt [v14] 0 + 1).toNat < (intAt [.int .i64 (i : Nat)] 0 + 1).toNat := fun he =>
        Vl.sub ⟨⟨i, rfl, rfl, hEw, by omega, he⟩, by show ((i : Int) - 1 + 1).toNat < ((i : Int) + 1).toNat; omega⟩
      -- the way behind the item's test
      have tail : seesF far ns (nmL l) l.length = (if (decide (far = 2) && decide (nmL l i = nButton)) = true then false else seesF far ns (nmL l) i) →
          Vl Tryd.prog (binop BinOp.eql 3 (Operand.tmp 45) (Operand.const ((Value.int IntKind.i64 2))) (.int .i64 far) (Value.int IntKind.i64 2)) w' fun v46 wv => Cond v46
            (Vl Tryd.prog (Instr.indexAt 22 (.slice a l.length c) (.int .i64 (i : Nat))) wv fun v50 ww => Vl Tryd.prog (Instr.loadAt 9 v50) ww fun v51 wx =>
              Vl Tryd.prog (binop BinOp.eql 9 (Operand.tmp 51) (Operand.const ((Value.string nButton))) v51 (Value.string nButton)) wx fun v52 wy => Cond v52 (Lv [] wy fun wz => K (Value.bool false) wz)
                (Vl Tryd.prog (binop BinOp.sub 3 (Operand.tmp 13) (Operand.const ((Value.int IntKind.i64 1))) (.int .i64 (i : Nat)) (Value.int IntKind.i64 1)) wy fun v14 wz =>
                  (∃ i : Nat, [v14] = [.int .i64 ((i : Int) - 1)] ∧ ([] : List Deferred) = [] ∧ Ext w wz ∧ i ≤ l.length ∧ seesF far ns (nmL l) l.length = seesF far ns (nmL l) i) ∧ (intAt [v14] 0 + 1).toNat < (intAt [.int .i64 (i : Nat)] 0 + 1).toNat))
            (Vl Tryd.prog (binop BinOp.sub 3 (Operand.tmp 13) (Operand.const ((Value.int IntKind.i64 1))) (.int .i64 (i : Nat)) (Value.int IntKind.i64 1)) wv fun v14 wz =>
                  (∃ i : Nat, [v14] = [.int .i64 ((i : Int) - 1)] ∧ ([] : List Deferred) = [] ∧ Ext w wz ∧ i ≤ l.length ∧ seesF far ns (nmL l) l.length = seesF far ns (nmL l) i) ∧ (intAt [v14] 0 + 1).toNat < (intAt [.int .i64 (i : Nat)] 0 + 1).toNat) := fun hx => by
        refine Vl.eql (Cond_bool (fun h5 => ?_) (fun h5 => ?_))
        · rw [h5, Bool.true_and] at hx
          refine Vl.strAt (h.ext hEw) hlt (Vl.seql (Cond_bool (fun h6 => ?_) (fun h6 => ?_)))
          · rw [if_pos h6] at hx; exact stop hx
          · rw [if_neg (by rw [h6]; decide)] at hx; exact next hx
        · rw [h5, Bool.false_and, if_neg (by decide)] at hx
          exact next hx
      refine Vl.eql (Cond_bool (fun h3 => ?_) (fun h3 => ?_))
      · rw [h3, Bool.true_and] at hx
        refine Vl.strAt (h.ext hEw) hlt (Vl.seql (Cond_bool (fun h4 => ?_) (fun h4 => ?_)))
        · have h4 : decide (nmL l i = nOl) = true := h4
          rw [h4, Bool.true_or, Bool.true_or, if_pos rfl] at hx
          exact stop hx
        · have h4 : decide (nmL l i = nOl) = false := h4
          rw [h4, Bool.false_or] at hx
          refine Vl.strAt (h.ext hEw) hlt (Vl.seql (Cond_bool (fun h5 => ?_) (fun h5 => ?_)))
          · have h5 : decide (nmL l i = nUl) = true := h5
            rw [h5, Bool.true_or, if_pos rfl] at hx
            exact stop hx
          · have h5 : decide (nmL l i = nUl) = false := h5
            rw [h5, Bool.false_or] at hx
            exact tail hx
      · rw [h3, Bool.false_and, Bool.false_or] at hx
        exact tail hx
  · have : i = 0 := by have := of_decide_eq_false h0; omega
    subst this
    have := k wa hE
    rw [hx] at this; exact Lv.nil this
end Go.Proofs
namespace Go.Proofs
open Go Go.Eng
theorem toF_lt (ns : List ByteArray) (nm : Nat → ByteArray) : ∀ n, toF ns nm n < n ∧ -1 ≤ toF ns nm n
  | 0 => ⟨by show (-1 : Int) < 0; omega, Int.le_refl _⟩
  | n + 1 => by
    have := toF_lt ns nm n
    rw [toF_succ]
    split <;> constructor <;> omega
theorem bneq_same {w : World} {x y : Operand} (a : Bool) : (binop .neq T_bool x y (.bool a) (.bool a)).run Tryd.prog w = .ok (.bool false) w := by
  cases a <;> kernel_rfl
theorem Vl.bneqSame {w : World} {x y : Operand} {a : Bool} {K : Value → World → Prop} (k : K (.bool false) w) : Vl Tryd.prog (binop .neq T_bool x y (.bool a) (.bool a)) w K := Vl.i (bneq_same a) k

theorem c_StackLooks {w : World} (hG : Glob w) {v0 v1 : Value} {open_ names : List ByteArray} {but : ByteArray} (h0 : Strs w v0 open_) (h1 : Strs w v1 names) (b0 : open_.length ≤ 9223372036854775807) (b1 : names.length ≤ 9223372036854775807) (hz : okSizes open_)
    {K : Value → World → Prop} (k : ∀ w', Ext w w' → K (.bool true) w') : Cf Tryd.prog n_decanterlaw13_StackLooks #[v0, v1, .string but] w K := by
  refine L_decanterlaw13_StackLooks _ _ _ _ _ ?_
  unfold S_decanterlaw13_StackLooks
  refine c_speaks hG fun w1 hE1 => Vl.not (Cond_bool (fun h => by cases h) fun _ => ?_)
  have sp : ∀ {wx : World}, Ext w wx → Cf Tryd.prog n_decanterlaw13_speaks #[] wx K := fun hx => c_speaks (hG.ext hx) fun w2 hE2 => k w2 (hx.then hE2)
  refine c_right (h0.ext hE1) b0 (Vl.not (Cond_bool (fun _ => sp hE1) fun hr0 => ?_))
  refine c_right (h1.ext hE1) b1 (Vl.not (Cond_bool (fun _ => sp hE1) fun hr1 => ?_))
  have l0 : open_.length ≤ 40 := by
    have h : rightF open_ = true := by simpa using hr0
    unfold rightF at h; simp at h; exact h.2
  have l1 : names.length ≤ 40 := by
    have h : rightF names = true := by simpa using hr1
    unfold rightF at h; simp at h; exact h.2
  refine ⟨fun g ds w' => ∃ i : Nat, g = [.int .i64 i] ∧ ds = [] ∧ Ext w w' ∧ i ≤ 3, fun g _ => (3 - intAt g 0).toNat, ⟨0, rfl, rfl, hE1, by omega⟩, ?_⟩
  rintro g ds wj ⟨far, hg, rfl, hEj, hfar⟩
  have e7 : g 7 = .int .i64 far := by injection hg
  rw [e7]
  refine Vl.lss (Cond_bool (fun h => ?_) (fun h => ?_))
  · have hlt : far < 3 := by have := of_decide_eq_true h; omega
    have hf : (far : Int) = 0 ∨ (far : Int) = 1 ∨ (far : Int) = 2 := by omega
    refine c_laid (j := 0) (fresh0 _ _) (h0.ext hEj) (by omega) fun ρ2 w2 S A hR2 hE2 hA2 hS2 => ?_
    have hE02 := hEj.then hE2
    refine Vl.i (w' := w2) (v := .bool false) (by kernel_rfl) (Cond_bool (fun h => by cases h) fun _ => ?_)
    refine c_In hA2 hS2 (live_mOf _) (by rw [xsOf_len]; omega) (hG.ext hE02) (h1.ext hE02) (by omega) fun w3 hE3 => ?_
    have hE03 := hE02.then hE3
    refine c_ref_In (h0.ext hE03) (h1.ext hE03) (by omega) (by omega) hz hf fun w4 hE4 => ?_
    have hE24 := hE3.then hE4
    rw [sees_mOf]
    refine Vl.bneqSame (Cond_bool (fun h => by cases h) fun _ => ?_)
    refine c_All (hS2.ext hE24) (by rw [xsOf_len]; omega) fun v w5 hr hE5 _ => ?_
    rw [xsOf_len] at hr
    obtain ⟨a, c, rfl, _⟩ := hr.val
    obtain ⟨a', c', rfl⟩ := h0.val
    refine Vl.len (Vl.len (Vl.neq (Cond_bool (fun h => by simp at h) fun _ => Vl.add ⟨⟨far + 1, rfl, rfl, (hE02.then hE24).then hE5, by omega⟩, ?_⟩)))
    show ((3 : Int) - ((far : Int) + 1)).toNat < ((3 : Int) - (far : Int)).toNat; omega
  · refine c_laid (j := 0) (fresh0 _ _) (h0.ext hEj) (by omega) fun ρ2 w2 S1 A1 hR2 hE2 hA2 hS2 => ?_
    have hE02 := hEj.then hE2
    have hF1 : Fresh ρ2 1 w2 := (fresh0 1 _).grow hR2 (by decide)
    refine c_laid (j := 1) hF1 (h0.ext hE02) (by omega) fun ρ4 w4 S2 A2 hR4 hE4 hA4 hS4 => ?_
    have hE04 := hE02.then hE4
    have hA3 := hA2.chg hR4.1 hE4 (fun _ _ => id) (fun _ _ => id)
    have hS3 := hS2.chg hR4.1 hE4 (fun _ _ => id)
    have r1 : ρ4 S1 = some (0, .stk) := by obtain ⟨ov, hS⟩ := hS3; exact hS.role
    have r2 : ρ4 S2 = some (1, .stk) := by obtain ⟨ov, hS⟩ := hS4; exact hS.role
    have n1 : wj.heap.size ≤ S1 := SInv.new (fresh0 0 wj) hR2.1 hS2
    have n2 : w2.heap.size ≤ S2 := SInv.new hF1 hR4.1 hS4
    have z2 := hE2.size
    have zp := (hG.ext hEj).pos
    have hE24 : Ext wj w4 := hE2.then hE4
    refine Vl.i (w' := w4) (v := .bool false) (by kernel_rfl) (Cond_bool (fun h => by cases h) fun _ => ?_)
    refine Vl.i (w' := w4) (v := .bool false) (by kernel_rfl) (Cond_bool (fun h => by cases h) fun _ => ?_)
    refine c_ref_To (h0.ext hE04) (h1.ext hE04) (by omega) (by omega) ?_
    obtain ⟨a0, c0, rfl⟩ := h0.val
    refine ⟨fun g ds w' => g = [] ∧ ds = [] ∧ Ext wj w' ∧ AInv ρ4 1 w' A2 (mOf open_) ∧ SInv ρ4 1 w' S2 A2 (xsOf open_.length), ?_, ?_⟩
    · refine c_PopTo hA3 hS3 (live_mOf _) (by rw [xsOf_len]; omega) (h1.ext hE04) (by omega) fun w5 hC5 hS5 => ?_
      rw [to_mOf] at hS5 ⊢
      have ht := toF_lt names (nmL open_) open_.length
      generalize toF names (nmL open_) open_.length = n at hS5 ht ⊢
      have hEj5 : Ext wj w5 := Chg.newer hE24 hC5 fun x hx e => by have e : x = S1 := e; omega
      have hA5 : AInv ρ4 1 w5 A2 (mOf open_) := hA4.chg (RExt.refl _ _) hC5 (fun b hb e => by
        have e : b = S1 := e
        rw [e, r1] at hb; cases hb) (fun b hb e => by
        have e : b = S1 := e
        obtain ⟨r, h1, h2⟩ := hb
        rw [e, r1] at h1; cases h1)
      have hSt5 : SInv ρ4 1 w5 S2 A2 (xsOf open_.length) := hS4.chg (RExt.refl _ _) hC5 (fun b hb e => by
        have e : b = S1 := e
        rcases hb with hb | hb <;> (rw [e, r1] at hb; cases hb))
      have fin : ∀ w', Ext w5 w' → Ext wj w' ∧ AInv ρ4 1 w' A2 (mOf open_) ∧ SInv ρ4 1 w' S2 A2 (xsOf open_.length) := fun w' hE => ⟨hEj5.then hE, hA5.ext hE, hSt5.ext hE⟩
      refine Vl.geq (Vl.bneqSame (Cond_bool (fun h => by cases h) fun _ => Vl.geq (Cond_bool (fun h => ?_) (fun h => ?_))))
      · have h := of_decide_eq_true h
        have hp : popTo n (xsOf open_.length) = (xsOf open_.length).take n.toNat := by unfold popTo; rw [if_pos h]
        rw [hp] at hS5
        have hl : ((xsOf open_.length).take n.toNat).length = n.toNat := by simp [xsOf_len]; omega
        refine c_All hS5 (by rw [hl]; omega) fun v w6 hr hE6 _ => ?_
        rw [hl] at hr
        obtain ⟨a, c, rfl, _⟩ := hr.val
        refine Vl.len (Vl.neq (Cond_bool (fun h => ?_) fun _ => Vl.lss (Cond_bool (fun h => by have := of_decide_eq_true h; omega) fun _ => ⟨rfl, rfl, fin w6 hE6⟩)))
        have e : ((n.toNat : Nat) : Int) = n := by omega
        rw [e] at h; simp at h
      · have h := of_decide_eq_false h
        have hp : popTo n (xsOf open_.length) = xsOf open_.length := by unfold popTo; rw [if_neg h]
        rw [hp] at hS5
        refine Vl.lss (Cond_bool (fun _ => ?_) fun h => by have := of_decide_eq_false h; omega)
        refine c_All hS5 (by rw [xsOf_len]; omega) fun v w6 hr hE6 _ => ?_
        rw [xsOf_len] at hr
        obtain ⟨a, c, rfl, _⟩ := hr.val
        exact Vl.len (Vl.len (Vl.neq (Cond_bool (fun h => by simp at h) fun _ => ⟨rfl, rfl, fin w6 hE6⟩)))
    · rintro ga dsa w6 ⟨_, rfl, hEj6, hA6, hS6⟩
      have hE06 := hEj.then hEj6
      refine c_Implied hA6 hS6 (live_mOf _) (by rw [xsOf_len]; omega) (hG.ext hE06) (by omega) fun w7 hC7 hS7 => ?_
      rw [imp_mOf] at hS7
      have hle := impF_le but (nmL open_) open_.length
      have hl : ((xsOf open_.length).take (impF but (nmL open_) open_.length)).length = impF but (nmL open_) open_.length := by simp [xsOf_len]; omega
      refine c_All hS7 (by rw [hl]; omega) fun v w8 hr hE8 _ => ?_
      rw [hl] at hr
      obtain ⟨a, c, rfl, _⟩ := hr.val
      have hE78 : Ext wj w8 := Chg.newer hEj6 (hC7.ext hE8) fun x hx e => by have e : x = S2 := e; omega
      refine Vl.len (c_ref_Implied (h0.ext (hEj.then hE78)) (by omega) hz fun w9 hE9 => Vl.eql (Lv.nil ?_))
      have e : decide (((impF but (nmL open_) open_.length : Nat) : Int) = ((impF but (nmL open_) open_.length : Nat) : Int)) = true := decide_eq_true rfl
      rw [e]
      exact k w9 ((hEj.then hE78).then hE9)
end Go.Proofs
