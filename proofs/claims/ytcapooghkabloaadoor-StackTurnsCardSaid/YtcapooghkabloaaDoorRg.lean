/- Part of the proof of a law of this seat: facts that it uses, each proved here. No conditions. -/
import Derived.Test.YtcapooghkabloaaDoorRf
import Derived.Test.YtcapooghkabloaaDoorLFar
namespace Go.Proofs
open Go Go.Eng

theorem nmL_get (l : List ByteArray) {i : Nat} (hi : i < l.length) : nmL l i = l[i] := by unfold nmL; simp [hi]
theorem Strs.get {w : World} {a : Option Addr} {c : Nat} {l : List ByteArray} (h : Strs w (.slice a l.length c) l) {i : Nat} (hi : i < l.length) : ∃ b o, a = some ⟨b, o, none⟩ ∧ w.cell? ⟨b, o + i * 1, none⟩ = some (.string (nmL l i)) := by
  obtain ⟨b, o, e, hc⟩ := h.at_ hi
  exact ⟨b, o, e, by rw [Nat.mul_one, nmL_get l hi]; exact hc⟩
/-- Reading an element of a slice of strings, whatever else is made of it. -/
theorem Vl.strAt {w : World} {a : Option Addr} {c : Nat} {l : List ByteArray} (h : Strs w (.slice a l.length c) l) {i : Nat} (hi : i < l.length) {K : Value → World → Prop} (k : K (.string (nmL l i)) w) :
    Vl Tryd.prog (Instr.indexAt T_sl_string (.slice a l.length c) (.int .i64 i)) w fun p w' => Vl Tryd.prog (Instr.loadAt T_string p) w' K := by
  obtain ⟨b, o, rfl, hc⟩ := h.get hi
  exact Vl.ix 1 (by omega) (by omega) (Vl.lda (by simpa using hc) k)

theorem c_Among {w : World} {v : Value} {l : List ByteArray} (h : Strs w v l) (hb : l.length ≤ 1000000) {x : ByteArray} {K : Value → World → Prop} (k : K (.bool (among l x)) w) : Cf Tryd.prog n_decanterref13_Among #[.string x, v] w K := by
  refine L_decanterref13_Among _ _ _ _ ?_
  unfold S_decanterref13_Among
  obtain ⟨a, c, rfl⟩ := h.val
  refine ⟨fun g ds w' => ∃ i : Nat, g = [.int .i64 i] ∧ ds = [] ∧ w' = w ∧ i ≤ l.length ∧ among (l.take i) x = false, fun g _ => (l.length - intAt g 0).toNat, ⟨0, rfl, rfl, rfl, by omega, rfl⟩, ?_⟩
  rintro g ds _ ⟨i, hg, rfl, rfl, hi, hn⟩
  have e5 : g 5 = .int .i64 i := by injection hg
  rw [e5]
  refine Vl.len (Vl.lss (Cond_bool (fun h0 => ?_) (fun h0 => ?_)))
  · have hlt : i < l.length := by have := of_decide_eq_true h0; omega
    refine Vl.strAt h hlt (Vl.seql (Cond_bool (fun h1 => ?_) (fun h1 => ?_)))
    · have h1 := of_decide_eq_true h1
      have : among l x = true := by rw [among_iff, ← h1, nmL_get l hlt]; exact List.getElem_mem hlt
      rw [this] at k; exact Lv.nil k
    · have h1 := of_decide_eq_false h1
      refine Vl.add ⟨⟨i + 1, rfl, rfl, rfl, by omega, ?_⟩, ?_⟩
      · rw [List.take_succ_eq_append_getElem hlt]
        unfold among at *
        rw [List.any_append, hn]
        rw [nmL_get l hlt] at h1
        have : x ≠ l[i] := fun e => h1 e.symm
        simp [this]
      · show ((l.length : Int) - ((i : Int) + 1)).toNat < ((l.length : Int) - (i : Int)).toNat; omega
  · have : i = l.length := by have := of_decide_eq_false h0; omega
    subst this
    rw [List.take_length] at hn
    rw [hn] at k; exact Lv.nil k

theorem c_ref_To {w : World} {v u : Value} {l ns : List ByteArray} (h : Strs w v l) (hu : Strs w u ns) (hb : l.length ≤ 1000000) (hbn : ns.length ≤ 1000000) {K : Value → World → Prop} (k : K (.int .i64 (toF ns (nmL l) l.length)) w) :
    Cf Tryd.prog n_decanterref13_To #[v, u] w K := by
  refine L_decanterref13_To _ _ _ _ ?_
  unfold S_decanterref13_To
  obtain ⟨a, c, rfl⟩ := h.val
  refine Vl.len (Vl.sub ⟨fun g ds w' => ∃ i : Nat, g = [.int .i64 ((i : Int) - 1)] ∧ ds = [] ∧ w' = w ∧ i ≤ l.length ∧ toF ns (nmL l) l.length = toF ns (nmL l) i, fun g _ => (intAt g 0 + 1).toNat, ⟨l.length, rfl, rfl, rfl, by omega, rfl⟩, ?_⟩)
  rintro g ds _ ⟨i, hg, rfl, rfl, hi, hx⟩
  have e5 : g 5 = .int .i64 ((i : Int) - 1) := by injection hg
  rw [e5]
  refine Vl.geq (Cond_bool (fun h0 => ?_) (fun h0 => ?_))
  · have h0 := of_decide_eq_true h0
    obtain ⟨i, rfl⟩ : ∃ j, i = j + 1 := ⟨i - 1, by omega⟩
    have e : ((i + 1 : Nat) : Int) - 1 = (i : Nat) := by omega
    rw [e]
    rw [toF_succ] at hx
    refine Vl.strAt h (by omega) (c_Among hu hbn (Cond_bool (fun h1 => ?_) (fun h1 => ?_)))
    · rw [if_pos h1] at hx; rw [hx] at k; exact Lv.nil k
    · rw [if_neg (by rw [h1]; decide)] at hx
      refine Vl.sub ⟨⟨i, rfl, rfl, rfl, by omega, hx⟩, ?_⟩
      show ((i : Int) - 1 + 1).toNat < ((i : Int) + 1).toNat; omega
  · have : i = 0 := by have := of_decide_eq_false h0; omega
    subst this
    rw [hx] at k; exact Lv.nil k

def impF (but : ByteArray) (nm : Nat → ByteArray) : Nat → Nat
  | 0 => 0
  | k + 1 => if nm k = but then k + 1 else if inK 7 (nm k) = true then impF but nm k else k + 1
theorem impF_succ (but : ByteArray) (nm : Nat → ByteArray) (k : Nat) : impF but nm (k + 1) = if nm k = but then k + 1 else if inK 7 (nm k) = true then impF but nm k else k + 1 := rfl
theorem impF_congr {but : ByteArray} {nm nm' : Nat → ByteArray} : ∀ (n : Nat), (∀ k, k < n → nm k = nm' k) → impF but nm n = impF but nm' n
  | 0, _ => rfl
  | n + 1, h => by rw [impF_succ, impF_succ, h n (by omega), impF_congr n fun k hk => h k (by omega)]
theorem impF_le (but : ByteArray) (nm : Nat → ByteArray) : ∀ n, impF but nm n ≤ n
  | 0 => Nat.le_refl _
  | n + 1 => by
    rw [impF_succ]
    have := impF_le but nm n
    split
    · omega
    · split <;> omega
def okSizes (l : List ByteArray) : Prop := ∀ s ∈ l, s.size ≤ 140737488351232
theorem okSizes.nm {l : List ByteArray} (h : okSizes l) {i : Nat} (hi : i < l.length) : (nmL l i).size ≤ 4611686018427387000 := by
  rw [nmL_get l hi]
  have := h _ (List.getElem_mem hi)
  omega

theorem c_ref_Implied {w : World} {v : Value} {l : List ByteArray} (h : Strs w v l) (hb : l.length ≤ 1000000) (hz : okSizes l) {but : ByteArray} {K : Value → World → Prop} (k : ∀ w', Ext w w' → K (.int .i64 (impF but (nmL l) l.length)) w') :
    Cf Tryd.prog n_decanterref13_Implied #[v, .string but] w K := by
  refine L_decanterref13_Implied _ _ _ _ ?_
  unfold S_decanterref13_Implied
  obtain ⟨a, c, rfl⟩ := h.val
  refine Vl.len ⟨fun g ds w' => ∃ i : Nat, g = [.int .i64 i] ∧ ds = [] ∧ Ext w w' ∧ i ≤ l.length ∧ impF but (nmL l) l.length = impF but (nmL l) i, fun g _ => (intAt g 0).toNat, ⟨l.length, rfl, rfl, Chg.refl _ _, by omega, rfl⟩, ?_⟩
  rintro g ds wa ⟨i, hg, rfl, hE, hi, hx⟩
  have e5 : g 5 = .int .i64 i := by injection hg
  rw [e5]
  refine Vl.gtr (Cond_bool (fun h0 => ?_) (fun h0 => ?_))
  · have h0 := of_decide_eq_true h0
    obtain ⟨i, rfl⟩ : ∃ j, i = j + 1 := ⟨i - 1, by omega⟩
    have e : ((i + 1 : Nat) : Int) - 1 = (i : Nat) := by omega
    rw [impF_succ] at hx
    refine Vl.sub ?_
    rw [e]
    refine Vl.strAt (h.ext hE) (by omega) (Vl.sneq (Cond_bool (fun h1 => ?_) (fun h1 => ?_)))
    · have h1 : ¬ nmL l i = but := by simpa using h1
      rw [if_neg h1] at hx
      refine Vl.sub ?_
      rw [e]
      refine Vl.strAt (h.ext hE) (by omega) (c_ref_Is (i := 7) (by omega) (hz.nm (by omega)) fun w' hE' => Cond_bool (fun h2 => ?_) (fun h2 => ?_))
      · rw [if_pos h2] at hx
        refine Vl.sub ?_
        rw [e]
        refine ⟨⟨i, rfl, rfl, hE.then hE', by omega, hx⟩, ?_⟩
        show ((i : Int)).toNat < ((i : Int) + 1).toNat; omega
      · rw [if_neg (by rw [h2]; decide)] at hx
        have := k w' (hE.then hE')
        rw [hx] at this; exact Lv.nil this
    · have h1 : nmL l i = but := by simpa using h1
      rw [if_pos h1] at hx
      have := k wa hE
      rw [hx] at this; exact Lv.nil this
  · have : i = 0 := by have := of_decide_eq_false h0; omega
    subst this
    have := k wa hE
    rw [hx] at this; exact Lv.nil this

/-! ### The stack's own -/
def topOf (xs : List Nat) : Nat := xs.getD (xs.length - 1) 0
theorem SPh.cell {ρ : Roles} {j : Nat} {w : World} {S A : Nat} {xs : List Nat} {a : Option Addr} {c : Nat} (h : SPh ρ j w S A xs (.slice a xs.length c)) {i : Nat} (hi : i < xs.length) : ∃ g, a = some ⟨g, 0, none⟩ ∧ w.cell? ⟨g, i, none⟩ = some (.int .i64 (xs.getD i 0 : Nat)) := by
  have hr := h.row
  obtain ⟨a', c', e, ha⟩ := hr.val
  cases e
  obtain ⟨g, rfl⟩ := ha (by omega)
  exact ⟨g, rfl, hr.cell (by unfold nats; simp [hi])⟩
theorem c_Top {ρ : Roles} {j : Nat} {w : World} {S A : Nat} {xs : List Nat} (h : SInv ρ j w S A xs) (hb : xs.length ≤ 1000000) {K : Value → World → Prop}
    (k : ∀ w', w'.heap = w.heap → Ext w w' → K (.int .i64 (topOf xs)) w') : Cf Tryd.prog n_stack_Stack_Top #[.pointer (some ⟨S, 0, none⟩)] w K := by
  obtain ⟨ov, h⟩ := h
  obtain ⟨oa, oc, rfl, _⟩ := h.row.val
  refine L_stack_Stack_Top _ _ _ ?_
  unfold S_stack_Stack_Top
  refine ⟨trivial, Vl.fa (Vl.ld h.cl rfl (Vl.len (Vl.eql (Cond_bool (fun h0 => ?_) (fun h0 => ?_)))))⟩
  · have h0 := of_decide_eq_true h0
    have : topOf xs = 0 := by
      have : xs = [] := List.eq_nil_of_length_eq_zero (by omega)
      rw [this]; rfl
    have := k w rfl (Chg.refl _ _)
    rwa [‹topOf xs = 0›] at this
  · have h0 := of_decide_eq_false h0
    have hlt : xs.length - 1 < xs.length := by omega
    obtain ⟨g, rfl, hc⟩ := h.cell hlt
    have sc : ∀ x : World, x.heap = w.heap → ∀ a v, w.cell? a = some v → x.cell? a = some v := fun x hx a v hv => by unfold World.cell? at *; rw [hx]; exact hv
    refine ⟨fun x => x.heap = w.heap, rfl, trivial, Pv.fa (VQ.ld (fun x hx => sc x hx _ _ (h.cl.cell rfl)) ⟨trivial, Pv.fa (VQ.ld (fun x hx => sc x hx _ _ (h.cl.cell rfl)) (VQ.len (Pv.sub (Pv.ix 1 (by omega) (by omega) ?_))))⟩)⟩
    have en : ((xs.length : Int) - 1).toNat = xs.length - 1 := by omega
    rw [en]
    exact VQ.ld (v := .int .i64 (topOf xs)) (fun x hx => sc x hx _ _ (by rw [Nat.mul_one, Nat.zero_add]; exact hc)) (k (dr w) rfl (dr_ext w))

theorem nmOf_take (m : AM) (xs : List Nat) {n k : Nat} (hk : k < n) (hn : n ≤ xs.length) : nmOf m (xs.take n) k = nmOf m xs k := by
  unfold nmOf
  congr 1
  have h1 : k < (xs.take n).length := by simp; omega
  have h2 : k < xs.length := by omega
  simp [List.getD, h2, hk]
theorem c_Implied {ρ : Roles} {j : Nat} {w : World} {S A : Nat} {xs : List Nat} {m : AM} (hA : AInv ρ j w A m) (h : SInv ρ j w S A xs) (hl : ∀ i ∈ xs, Live m i) (hb : xs.length ≤ 1000000) (hG : Glob w) (hG0 : S ≠ 0) {but : ByteArray} {K : Value → World → Prop}
    (k : ∀ w', Chg (· = S) w w' → SInv ρ j w' S A (xs.take (impF but (nmOf m xs) xs.length)) → K (.tuple #[]) w') : Cf Tryd.prog n_stack_Stack_Implied #[.pointer (some ⟨S, 0, none⟩), .string but] w K := by
  refine L_stack_Stack_Implied _ _ _ _ ?_
  unfold S_stack_Stack_Implied
  refine ⟨fun g ds w' => ∃ n : Nat, g = [] ∧ ds = [] ∧ n ≤ xs.length ∧ Chg (· = S) w w' ∧ AInv ρ j w' A m ∧ SInv ρ j w' S A (xs.take n) ∧ impF but (nmOf m xs) xs.length = impF but (nmOf m xs) n,
    fun _ w' => match w'.cell? ⟨S, 1, none⟩ with | some (.slice _ n _) => n | _ => 0, ⟨xs.length, rfl, rfl, by omega, Chg.refl _ _, hA, by rw [List.take_length]; exact h, rfl⟩, ?_⟩
  rintro g ds wa ⟨n, _, rfl, hn, hC, hA', ⟨ov, h'⟩, hx⟩
  have hlen : (xs.take n).length = n := by simp; omega
  obtain ⟨oa, oc, rfl, _⟩ := h'.row.val
  rw [hlen] at h'
  refine ⟨trivial, Vl.fa (Vl.ld h'.cl rfl (Vl.len (Vl.gtr (Cond_bool (fun h0 => ?_) (fun h0 => ?_)))))⟩
  · have h0 := of_decide_eq_true h0
    obtain ⟨n, rfl⟩ : ∃ j, n = j + 1 := ⟨n - 1, by omega⟩
    rw [impF_succ] at hx
    refine ⟨fun x => Ext wa x, dr_ext wa, trivial, Pv.fa (VQ.ld (fun x hx => (h'.cl.ext hx).cell rfl) ?_)⟩
    have hS' : SInv ρ j (dr wa) S A (xs.take (n + 1)) := SInv.ext ⟨_, h'⟩ (dr_ext wa)
    refine c_Top hS' (by omega) fun wb hwb hEb => ⟨fun x => Ext wa x, fun _ h => h, (dr_ext wa).then hEb, ?_⟩
    have hEab := (dr_ext wa).then hEb
    have ht : topOf (xs.take (n + 1)) = xs.getD n 0 := by
      unfold topOf
      rw [hlen]
      have : n < xs.length := by omega
      simp [List.getD, this]
    rw [ht]
    have hin : xs.getD n 0 ∈ xs := by
      have hlt : n < xs.length := by omega
      simp [hlt]
    refine c_Name' (hA'.ext hEab) (hl _ hin) fun wc hwc hEc => ⟨fun x => Ext wa x, hEab.then hEc, ?_⟩
    have hEac := hEab.then hEc
    have hfin : ∀ w', Ext wa w' → impF but (nmOf m xs) xs.length = n + 1 → Lv [] w' fun wl => K (.tuple #[]) wl := fun w' hE he => by
      refine Lv.nil (k w' (hC.ext hE) ?_)
      rw [he]
      exact SInv.ext ⟨_, h'⟩ hE
    refine Vl.seql (Cond_bool (fun h1 => ?_) (fun h1 => ?_))
    · rw [if_pos (show nmOf m xs n = but from of_decide_eq_true h1)] at hx
      exact hfin wc hEac hx
    · rw [if_neg (show ¬ nmOf m xs n = but from of_decide_eq_false h1)] at hx
      refine c_kind_Is ((hG.chg hC fun e => hG0 e.symm).ext hEac) fun wd hEd => ?_
      rw [isKind_implied]
      have hEad := hEac.then hEd
      refine Vl.not (Cond_bool (fun h2 => ?_) (fun h2 => ?_))
      · have h2 : inK 7 (nmOf m xs n) = false := by
          have h2 : (!inK 7 (nmOf m xs n)) = true := h2
          cases hh : inK 7 (nmOf m xs n)
          · rfl
          · rw [hh] at h2; cases h2
        rw [h2] at hx
        exact hfin wd hEad hx
      · have h2 : inK 7 (nmOf m xs n) = true := by
          have h2 : (!inK 7 (nmOf m xs n)) = false := h2
          cases hh : inK 7 (nmOf m xs n)
          · rw [hh] at h2; cases h2
          · rfl
        rw [if_pos h2] at hx
        have cS : ∀ x, Ext wa x → Cl x S T_stack_Stack [.pointer (some ⟨A, 0, none⟩), .slice oa (n + 1) oc] := fun x hx => h'.cl.ext hx
        refine ⟨fun x => Ext wa x, hEad.then (dr_ext wd), trivial, Pv.fa (VQ.ld (fun x hx => (cS x hx).cell rfl) ⟨trivial, Pv.fa (VQ.ld (fun x hx => (cS x hx).cell rfl) (VQ.len (Pv.sub ?_)))⟩)⟩
        have e : ((n + 1 : Nat) : Int) - 1 = (n : Nat) := by omega
        rw [e]
        have hrow := h'.row
        rw [hlen] at hrow
        refine Pv.take hrow (by omega) ⟨trivial, Pv.fa (Ef.set (cS _ (hEad.then (dr_ext wd))) (by simp) fun we he => ⟨fun _ => True, trivial, ?_⟩)⟩
        have hEa := hEad.then (dr_ext wd)
        have hCe : Chg (· = S) wa we := (Ext.to hEa).then he.chg
        refine ⟨⟨n, rfl, rfl, by omega, hC.then hCe, hA'.chg (RExt.refl _ _) hCe (fun b hb e => by
          have e : b = S := e
          rw [e, h'.role] at hb; cases hb) (fun b hb e => by
          have e : b = S := e
          obtain ⟨r, h1, h2⟩ := hb
          rw [e, h'.role] at h1; cases h1; cases h2), ⟨.slice oa n oc, he.cl, h'.role, ?_, ?_⟩, hx⟩, ?_⟩
        · have := (hrow.take (m := n) (by omega) rfl).chg hCe fun b hb e => by
            have e : b = S := e
            rw [e, blk_take (m := n + 1)] at hb
            have := h'.rowRole S hb
            rw [h'.role] at this; cases this
          have e3 : (xs.take n).length = n := by simp; omega
          have e2 : nats (xs.take n) = (nats (xs.take (n + 1))).take (n * 1) := by
            unfold nats
            rw [← List.map_take, List.take_take]; congr 2; omega
          rw [e3, e2]; exact this
        · intro b hb
          refine h'.rowRole b ?_
          rw [blk_take (m := n)]; exact hb
        · show (match we.cell? ⟨S, 1, none⟩ with | some (.slice _ n _) => n | _ => 0) < (match wa.cell? ⟨S, 1, none⟩ with | some (.slice _ n _) => n | _ => 0)
          rw [he.cl.cell (i := 1) (v := .slice oa n oc) rfl, (cS wa (Chg.refl _ _)).cell (i := 1) (v := .slice oa (n + 1) oc) rfl]
          show n < n + 1; omega
  · have : n = 0 := by have := of_decide_eq_false h0; omega
    subst this
    refine Lv.nil (k wa hC ?_)
    rw [hx]
    exact ⟨_, h'⟩
end Go.Proofs
