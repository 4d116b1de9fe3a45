/- Part of the proof of a law of this seat: facts that it uses, each proved here. No conditions. -/
import Derived.Test.YtcapooghkabloaaDoorGV
namespace Go.Eng
open Go
section
variable {P : Program} {w : World} {T : Nat}
/-- A store into a row's cell. -/
theorem Ef.row {E sz g cap n i : Nat} {cs : List Value} {v : Value} {K : World → Prop} (h : Row w E sz (.slice (some ⟨g, 0, none⟩) n cap) n cs) (hi : i < cs.length) (hv : One v)
    (k : ∀ w', Chg (· = g) w w' → Row w' E sz (.slice (some ⟨g, 0, none⟩) n cap) n (cs.set i v) → K w') (hT : szT P T 1 = true := by kernel_rfl) : Ef P (Instr.storeAt T (.pointer (some ⟨g, i, none⟩)) v) w K := by
  have hl := h.1
  rcases h.2 with ⟨a, e, rfl⟩ | ⟨g', cap', full, e, hcl, h1, h2, h3, h4, h5⟩
  · omega
  · cases e
    have hif : i < full.length := by
      have : cs.length ≤ full.length := by rw [← h5, List.length_take]; omega
      omega
    refine Ef.set hcl hif (fun w' hu => k w' hu.chg ⟨by rw [List.length_set]; exact hl, .inr ⟨g, cap, full.set i v, rfl, hu.cl, h1, h2, h3, by rw [List.length_set]; exact h4, ?_⟩⟩) hv hT
    rw [List.take_set, h5]
/-- A row's cell is read. -/
theorem Vl.rowc {E sz g cap n i : Nat} {cs : List Value} {v : Value} {K : Value → World → Prop} (h : Row w E sz (.slice (some ⟨g, 0, none⟩) n cap) n cs) (hc : cs[i]? = some v) (k : K v w) (hT : aggT P T = true := by kernel_rfl) :
    Vl P (Instr.loadAt T (.pointer (some ⟨g, i, none⟩))) w K := Vl.lda (h.cell hc) k hT
end
end Go.Eng
namespace Go.Proofs
open Go Go.Eng

/-! ### Looking for what a closure finds -/
def firstF (p : Int → Bool) : List Int → Nat → Int
  | [], _ => -1
  | x :: l, k => if p x = true then k else firstF p l (k + 1)
theorem firstF_cons (p : Int → Bool) (x : Int) (l : List Int) (k : Nat) : firstF p (x :: l) k = if p x = true then (k : Int) else firstF p l (k + 1) := rfl
/-- A slice of integers, looked at, wherever it stands. -/
def IView (w : World) (v : Value) (l : List Int) : Prop := View w v (ints l)
theorem ints_len (l : List Int) : (ints l).length = l.length := by unfold ints; simp
theorem IView.val {w : World} {v : Value} {l : List Int} (h : IView w v l) : ∃ a c, v = .slice a l.length c := by
  obtain ⟨a, c, e, _⟩ := h
  rw [ints_len] at e; exact ⟨a, c, e⟩
theorem IView.rd {w : World} {v : Value} {l : List Int} (h : IView w v l) {i : Nat} (hi : i < l.length) {K : Value → World → Prop} (k : K (.int .i64 l[i]) w) :
    Vl Tryd.prog (Instr.indexAt T_sl_int v (.int .i64 (i : Nat))) w fun p w' => Vl Tryd.prog (Instr.loadAt T_int p) w' K := by
  obtain ⟨a, c, rfl, _, hc⟩ := h
  obtain ⟨b, o, rfl, hcell⟩ := hc i (.int .i64 l[i]) (by unfold ints; simp [hi])
  refine Vl.ix 1 (by omega) (by rw [ints_len]; omega) (Vl.lda (v := .int .i64 l[i]) ?_ k)
  have e : ((i : Int)).toNat = i := by omega
  rw [e, Nat.mul_one]; exact hcell
theorem c_IndexFunc {w : World} {v f : Value} {l : List Int} {p : Int → Bool} (h : IView w v l) (hb : l.length ≤ 1000000)
    (hf : ∀ (x : Int) (w' : World) (K : Value → World → Prop), x ∈ l → Ext w w' → (∀ w'', Ext w' w'' → K (.bool (p x)) w'') → Cv Tryd.prog f #[.int .i64 x] w' K) {K : Value → World → Prop}
    (k : ∀ w', Ext w w' → K (.int .i64 (firstF p l 0)) w') : Cf Tryd.prog n_slices_IndexFunc_ints #[v, f] w K := by
  refine L_slices_IndexFunc_ints _ _ _ _ ?_
  unfold S_slices_IndexFunc_ints
  obtain ⟨a, c, rfl⟩ := h.val
  refine Vl.len ⟨fun g ds w' => ∃ i : Nat, g = [.int .i64 i] ∧ ds = [] ∧ Ext w w' ∧ i ≤ l.length ∧ firstF p l 0 = firstF p (l.drop i) i, fun g _ => (l.length - intAt g 0).toNat, ⟨0, rfl, rfl, Chg.refl _ _, by omega, rfl⟩, ?_⟩
  rintro g ds wa ⟨i, hg, rfl, hE, hi, hx⟩
  have e8 : g 8 = .int .i64 i := by injection hg
  rw [e8]
  refine Vl.lss (Cond_bool (fun hlt => ?_) (fun hlt => ?_))
  · have hlt : i < l.length := by have := of_decide_eq_true hlt; omega
    rw [List.drop_eq_getElem_cons hlt] at hx
    refine IView.rd (h.ext hE) hlt ?_
    refine hf _ wa _ (List.getElem_mem hlt) hE fun wb hEb => Cond_bool (fun h1 => ?_) (fun h1 => ?_)
    · rw [firstF_cons, if_pos h1] at hx
      have := k wb (hE.then hEb)
      rw [hx] at this; exact Lv.nil this
    · rw [firstF_cons, if_neg (by rw [h1]; decide)] at hx
      refine Vl.add ⟨⟨i + 1, rfl, rfl, hE.then hEb, by omega, hx⟩, ?_⟩
      show ((l.length : Int) - ((i : Int) + 1)).toNat < ((l.length : Int) - (i : Int)).toNat; omega
  · have : i = l.length := by have := of_decide_eq_false hlt; omega
    subst this
    rw [List.drop_length] at hx
    have := k wa hE
    rw [hx] at this; exact Lv.nil this
theorem firstF_any (p : Int → Bool) : ∀ (l : List Int) (k : Nat), decide ((0 : Int) ≤ firstF p l k) = l.any p
  | [], k => rfl
  | x :: l, k => by
    unfold firstF
    rw [List.any_cons]
    by_cases h : p x = true
    · rw [if_pos h, h]; simp
    · rw [if_neg h, firstF_any p l (k + 1)]; simp [h]
theorem c_ContainsFunc {w : World} {v f : Value} {l : List Int} {p : Int → Bool} (h : IView w v l) (hb : l.length ≤ 1000000)
    (hf : ∀ (x : Int) (w' : World) (K : Value → World → Prop), x ∈ l → Ext w w' → (∀ w'', Ext w' w'' → K (.bool (p x)) w'') → Cv Tryd.prog f #[.int .i64 x] w' K) {K : Value → World → Prop}
    (k : ∀ w', Ext w w' → K (.bool (l.any p)) w') : Cf Tryd.prog n_slices_ContainsFunc_ints #[v, f] w K := by
  refine L_slices_ContainsFunc_ints _ _ _ _ ?_
  unfold S_slices_ContainsFunc_ints
  refine c_IndexFunc h hb hf fun w' hE => Vl.geq ?_
  have := k w' hE
  rw [← firstF_any p l 0] at this
  exact this
theorem firstF_lt (p : Int → Bool) : ∀ (l : List Int) (k : Nat), firstF p l k < (k + l.length : Nat) ∧ -1 ≤ firstF p l k
  | [], k => ⟨by show (-1 : Int) < _; omega, Int.le_refl _⟩
  | x :: l, k => by
    have := firstF_lt p l (k + 1)
    unfold firstF
    simp only [List.length_cons]
    split <;> constructor <;> omega
end Go.Proofs
namespace Go.Proofs
open Go Go.Eng
theorem zeroCells_toList (z : Value) (n : Nat) : (Builtin.zeroCells #[z] n).toList = List.replicate n z := by
  unfold Builtin.zeroCells
  apply List.ext_getElem
  · simp
  · intro i h1 h2; simp [Nat.mod_one]
theorem run_clearN {w : World} {g o c n : Nat} {full : List Value} (hn : 0 < n) (hcl : Cl w g T_int full) (hle : o + n ≤ full.length) :
    ∃ w', (Builtin.clear_ #[T_sl_int] 0 #[.slice (some ⟨g, o, none⟩) n c]).run Tryd.prog w = .ok (.tuple #[]) w' ∧ Upd w w' g T_int (full.take o ++ List.replicate n (.int .i64 0) ++ full.drop (o + n)) := by
  obtain ⟨w', hr, hu⟩ := run_storeCells (P := Tryd.prog) (o := o) (List.replicate n (.int .i64 0)) 0 w full hcl (by simpa using hle) (by intro v hv; rw [List.eq_of_mem_replicate hv]; trivial)
  refine ⟨w', ?_, by simpa using hu⟩
  have hz : ∀ w, (zeroValue T_int).run Tryd.prog w = .ok (.int .i64 0) w := by intro w; kernel_rfl
  have hun : ∀ w, (underlying T_sl_int).run Tryd.prog w = .ok (.slice T_int) w := by intro w; kernel_rfl
  have hzc : (Builtin.zeroCells (Value.int .i64 0).cells n).toList = List.replicate n (.int .i64 0) := zeroCells_toList _ _
  obtain ⟨n, rfl⟩ : ∃ m, n = m + 1 := ⟨n - 1, by omega⟩
  unfold Builtin.clear_
  simp only [List.getElem?_toArray, List.getElem?_cons_zero, Sem.run_bind, hun, Result.andThen, hz, hzc, hr, Sem.run_pure]

theorem c_leave_1 {w : World} {B place : Nat} {x : Int} (hB : Cl w B T_int [.int .i64 place]) {K : Value → World → Prop} (k : K (.bool (decide (x = place))) w) :
    Cf Tryd.prog n_arena_Arena_leave_1 #[.int .i64 x, .pointer (some ⟨B, 0, none⟩)] w K := by
  refine L_arena_Arena_leave_1 _ _ _ _ ?_
  unfold S_arena_Arena_leave_1
  exact Vl.ld hB rfl (Vl.eql k)
theorem Row.iview {w : World} {v : Value} {l : List Int} (h : Row w T_int 1 v l.length (ints l)) : IView w v l := by
  obtain ⟨a, c, rfl, _⟩ := h.val
  have := h.viewTake rfl (Nat.le_refl _)
  rw [List.take_of_length_le (by rw [ints_len]; exact Nat.le_refl _)] at this
  exact this
def zs (l : List Nat) : List Int := l.map fun (n : Nat) => (n : Int)
theorem ints_zs (l : List Nat) : ints (zs l) = nats l := by unfold ints zs nats; simp
theorem zs_len (l : List Nat) : (zs l).length = l.length := by unfold zs; simp
theorem firstF_zs (place : Nat) : ∀ (l : List Nat) (k : Nat), firstF (fun x => decide (x = (place : Int))) (zs l) k = idx place l k
  | [], k => rfl
  | x :: l, k => by
    show firstF _ ((x : Int) :: zs l) k = _
    rw [firstF_cons]
    unfold idx
    have e : (decide ((x : Int) = (place : Int)) = true) ↔ place = x := by rw [decide_eq_true_iff]; omega
    by_cases h : place = x
    · rw [if_pos (e.2 h), if_pos h]
    · rw [if_neg (fun h' => h (e.1 h')), if_neg h]; exact firstF_zs place l (k + 1)
theorem idx_take {α : Type} [DecidableEq α] (a : α) : ∀ (l : List α) (k : Nat), ∀ n : Nat, idx a l k = (k + n : Nat) → a ∉ l.take n ∧ ∃ h : n < l.length, l[n] = a
  | [], k, n, h => by unfold idx at h; omega
  | x :: l, k, n, h => by
    unfold idx at h
    by_cases hx : a = x
    · rw [if_pos hx] at h
      have : n = 0 := by omega
      subst this
      exact ⟨by simp, by simp, by simp [hx]⟩
    · rw [if_neg hx] at h
      have hlt := idx_lt a l (k + 1)
      by_cases hn : n = 0
      · subst hn
        have : ∀ (l : List α) (j : Nat), idx a l j = -1 ∨ (j : Int) ≤ idx a l j := by
          intro l
          induction l with
          | nil => intro j; exact .inl rfl
          | cons y l ih =>
            intro j
            unfold idx
            split
            · right; omega
            · rcases ih (j + 1) with h | h
              · exact .inl h
              · right; omega
        rcases this l (k + 1) with h1 | h1 <;> omega
      · obtain ⟨m, rfl⟩ : ∃ m, n = m + 1 := ⟨n - 1, by omega⟩
        obtain ⟨h1, h2, h3⟩ := idx_take a l (k + 1) m (by rw [h]; congr 1; omega)
        refine ⟨?_, by simpa using h2, by simpa using h3⟩
        rw [List.take_succ_cons, List.mem_cons]
        rintro (h | h)
        · exact hx h
        · exact h1 h
theorem c_DeleteEq {w : World} {B place : Nat} {v : Value} {l : List Nat} (h : Row w T_int 1 v l.length (nats l)) (hB : Cl w B T_int [.int .i64 place]) (hne : blk v ≠ some B) (hb : l.length ≤ 1000000) {K : Value → World → Prop}
    (k : ∀ v' w', Row w' T_int 1 v' (l.filter (fun x => decide (x ≠ place))).length (nats (l.filter (fun x => decide (x ≠ place)))) → Chg (fun b => blk v = some b) w w' → blk v' = blk v → K v' w') :
    Cf Tryd.prog n_slices_DeleteFunc_ints #[v, .func (.func 96) #[] #[.pointer (some ⟨B, 0, none⟩)]] w K := by
  refine L_slices_DeleteFunc_ints _ _ _ _ ?_
  unfold S_slices_DeleteFunc_ints
  have hz := zs_len l
  have hv : IView w v (zs l) := Row.iview (by rw [hz, ints_zs]; exact h)
  refine c_IndexFunc (p := fun x => decide (x = (place : Int))) hv (by omega) (fun x w' K _ hE hk => Cv.fn (c_leave_1 (hB.ext hE) (hk w' (Chg.refl _ _)))) fun w1 hE1 => ?_
  rw [firstF_zs]
  have hlt := idx_lt place l 0
  have h1 := h.ext hE1
  have hB1 := hB.ext hE1
  refine Vl.eql (Cond_bool (fun h0 => ?_) (fun h0 => ?_))
  · have h0 := of_decide_eq_true h0
    have hn : place ∉ l := fun hm => by have := (idx_mem place l 0).2 hm; omega
    have e : l.filter (fun x => decide (x ≠ place)) = l := by
      rw [List.filter_eq_self]; intro x hx
      have : x ≠ place := fun e => hn (e ▸ hx)
      simpa using this
    refine k v w1 (by rw [e]; exact h1) (Ext.to hE1) rfl
  · have h0 := of_decide_eq_false h0
    obtain ⟨i0, hi0⟩ : ∃ n : Nat, idx place l 0 = n := ⟨(idx place l 0).toNat, by omega⟩
    obtain ⟨hnot, hlt0, hat⟩ := idx_take place l 0 i0 (by rw [hi0, Nat.zero_add])
    rw [hi0]
    obtain ⟨a, c, rfl, ha⟩ := h1.val
    obtain ⟨g, rfl⟩ := ha (by omega)
    have hlc := h1.le
    have hg : blk (.slice (some ⟨g, 0, none⟩) l.length c) = some g := blk_some (by omega)
    rw [hg] at hne k
    have hBg : B ≠ g := fun e => hne (by rw [e])
    refine Vl.add ?_
    have hF : ∀ j, l.filter (fun x => decide (x ≠ place)) = (l.take j).filter (fun x => decide (x ≠ place)) ++ (l.drop j).filter (fun x => decide (x ≠ place)) := fun j => by rw [← List.filter_append, List.take_append_drop]
    refine ⟨fun gg ds w' => ∃ i j : Nat, gg = [.int .i64 i, .int .i64 j] ∧ ds = [] ∧ Chg (· = g) w w' ∧ i < j ∧ j ≤ l.length ∧ ((l.take j).filter (fun x => decide (x ≠ place))).length = i ∧
        ∃ cs : List Value, Row w' T_int 1 (.slice (some ⟨g, 0, none⟩) l.length c) l.length cs ∧ cs.take i = nats ((l.take j).filter (fun x => decide (x ≠ place))) ∧ cs.drop j = nats (l.drop j),
      fun gg _ => (l.length - intAt gg 1).toNat, ⟨i0, i0 + 1, rfl, rfl, Ext.to hE1, by omega, by omega, ?_, nats l, h1, ?_, ?_⟩, ?_⟩
    · rw [List.take_succ_eq_append_getElem hlt0, List.filter_append, hat]
      have : (l.take i0).filter (fun x => decide (x ≠ place)) = l.take i0 := by
        rw [List.filter_eq_self]; intro x hx
        have : x ≠ place := fun e => hnot (e ▸ hx)
        simpa using this
      rw [this]; simp; omega
    · rw [List.take_succ_eq_append_getElem hlt0, List.filter_append, hat]
      have : (l.take i0).filter (fun x => decide (x ≠ place)) = l.take i0 := by
        rw [List.filter_eq_self]; intro x hx
        have : x ≠ place := fun e => hnot (e ▸ hx)
        simpa using this
      rw [this, ← nats_take]; simp
    · unfold nats; simp
    rintro gg ds wa ⟨i, j, hgg, rfl, hC, hij, hj, hli, cs, hr, ht, hd⟩
    have e5 : gg 5 = .int .i64 i := by injection hgg
    have e6 : gg 6 = .int .i64 j := by injection hgg with _ e; injection e
    rw [e5, e6]
    have hBa : Cl wa B T_int [.int .i64 place] := hB.chg hC hBg
    have hcs : cs.length = l.length := by have := hr.1; omega
    refine Vl.len (Vl.lss (Cond_bool (fun hl => ?_) (fun hl => ?_)))
    · have hl : j < l.length := by have := of_decide_eq_true hl; omega
      have hcj : cs[j]? = some (.int .i64 (l[j] : Nat)) := by
        have : (cs.drop j)[0]? = (nats (l.drop j))[0]? := by rw [hd]
        rw [List.getElem?_drop, Nat.add_zero] at this
        rw [this]; unfold nats; simp [hl]
      refine Vl.ix 1 (by omega) (by omega) ?_
      have ej : ((j : Int)).toNat = j := by omega
      rw [ej, Nat.mul_one, Nat.zero_add]
      refine Vl.rowc hr hcj (Cv.fn (c_leave_1 hBa (Vl.not ?_)))
      have hdj : cs.drop (j + 1) = nats (l.drop (j + 1)) := by
        have : (cs.drop j).drop 1 = (nats (l.drop j)).drop 1 := by rw [hd]
        rw [List.drop_drop] at this
        rw [this]; unfold nats; simp
      refine Cond_bool (fun hp => ?_) (fun hp => ?_)
      · have hp : l[j] ≠ place := by simp at hp; omega
        have ef : (l.take (j + 1)).filter (fun x => decide (x ≠ place)) = (l.take j).filter (fun x => decide (x ≠ place)) ++ [l[j]] := by
          rw [List.take_succ_eq_append_getElem hl, List.filter_append, List.filter_cons_of_pos (by simpa using hp)]; rfl
        refine Vl.ix 1 (by omega) (by omega) ?_
        have ei : ((i : Int)).toNat = i := by omega
        rw [ei, Nat.mul_one, Nat.zero_add]
        refine Ef.row hr (by omega) trivial fun wb hCb hrb => Vl.add (Vl.add ⟨⟨i + 1, j + 1, rfl, rfl, hC.then hCb, by omega, by omega, ?_, _, hrb, ?_, ?_⟩, ?_⟩)
        · rw [ef, List.length_append, hli]; rfl
        · rw [ef]
          have : nats ((l.take j).filter (fun x => decide (x ≠ place)) ++ [l[j]]) = nats ((l.take j).filter (fun x => decide (x ≠ place))) ++ [.int .i64 (l[j] : Nat)] := by unfold nats; simp
          rw [this, ← ht]
          apply List.ext_getElem?; intro q
          simp only [List.getElem?_take, List.getElem?_set, List.getElem?_append, List.length_take]
          by_cases h1 : q < i
          · rw [if_pos (by omega), if_neg (by omega), if_pos (by omega), if_pos h1]
          · by_cases h2 : q = i
            · subst h2
              have e : min q cs.length = q := by omega
              rw [if_pos (by omega), if_pos rfl, if_pos (by omega), e, if_neg (by omega)]; simp
            · rw [if_neg (by omega), if_neg (by omega)]
              rw [List.getElem?_eq_none (by simp; omega)]
        · rw [List.drop_set_of_lt (by omega)]; exact hdj
        · show ((l.length : Int) - ((j : Int) + 1)).toNat < ((l.length : Int) - (j : Int)).toNat; omega
      · have hp : l[j] = place := by simp at hp; omega
        have ef : (l.take (j + 1)).filter (fun x => decide (x ≠ place)) = (l.take j).filter (fun x => decide (x ≠ place)) := by
          rw [List.take_succ_eq_append_getElem hl, List.filter_append, List.filter_cons_of_neg (by simp [hp])]; simp
        refine Vl.add ⟨⟨i, j + 1, rfl, rfl, hC, by omega, by omega, by rw [ef]; exact hli, cs, hr, by rw [ef]; exact ht, hdj⟩, ?_⟩
        show ((l.length : Int) - ((j : Int) + 1)).toNat < ((l.length : Int) - (j : Int)).toNat; omega
    · have : j = l.length := by have := of_decide_eq_false hl; omega
      subst this
      rw [List.take_length] at ht hli
      rcases hr.2 with ⟨a', e, e0⟩ | ⟨g', cap', full, e, hcl, hnc, hc0, hcm, hfl, hft⟩
      · omega
      cases e
      rw [Nat.mul_one] at hft hfl
      refine Vl.i (run_slc (l := i) (h := l.length) slB31 (.inr rfl) (.inl ⟨rfl, rfl⟩) (by omega) hlc wa) ?_
      rw [if_neg (by omega)]
      have e2 : (some (⟨g, 0, none⟩ : Addr)).map (·.add (i * 1)) = some ⟨g, i, none⟩ := by
        show some ((⟨g, 0, none⟩ : Addr).add (i * 1)) = _
        rw [add_off]; congr 2; omega
      rw [e2]
      obtain ⟨w3, hr3, h3⟩ := run_clearN (c := c - i) (n := l.length - i) (by omega) hcl (o := i) (by omega)
      refine Vl.i hr3 (Vl.i (run_slcTake slB31 (by omega) (fun x hx => by cases hx; exact ⟨_, rfl⟩) w3) (Lv.nil ?_))
      have hlen : (nats (l.filter (fun x => decide (x ≠ place)))).length = i := by rw [nats_len]; exact hli
      refine k _ w3 ⟨by rw [nats_len]; omega, .inr ⟨g, c, _, by rw [hli], h3.cl, by omega, hc0, hcm, ?_, ?_⟩⟩ ((hC.then h3.chg).mono fun x _ e => by rw [show x = g from e]) ?_
      · simp; omega
      · rw [hli, Nat.mul_one, ← ht, ← hft]
        rw [List.append_assoc, List.take_append_of_le_length (by rw [List.length_take]; omega), List.take_take, List.take_take, Nat.min_self, Nat.min_eq_left (show i ≤ l.length by omega)]
      · exact blk_some (show 0 < c by omega)
end Go.Proofs
namespace Go.Proofs
open Go Go.Eng

theorem nodesCells_set : ∀ (ns : List NodeM) (ps : List (Value × Value)) (k i : Nat) (n n' : NodeM) (p p' : Value × Value) (v : Value), ns[k]? = some n → ps[k]? = some p → i < 5 → nodeCells n' p' = (nodeCells n p).set i v →
    nodesCells (ns.set k n') (ps.set k p') = (nodesCells ns ps).set (k * 5 + i) v
  | [], _, k, i, n, n', p, p', v, h, _, _, _ => by simp at h
  | _ :: _, [], k, i, n, n', p, p', v, _, h, _, _ => by simp at h
  | a :: ns, b :: ps, 0, i, n, n', p, p', v, h1, h2, hi, he => by
    simp at h1 h2; subst h1; subst h2
    simp only [List.set_cons_zero, nodesCells, Nat.zero_mul, Nat.zero_add]
    rw [he, List.set_append_left _ _ (by simp [nodeCells]; omega)]
  | a :: ns, b :: ps, k + 1, i, n, n', p, p', v, h1, h2, hi, he => by
    simp only [List.set_cons_succ, nodesCells]
    rw [nodesCells_set ns ps k i n n' p p' v (by simpa using h1) (by simpa using h2) hi he, List.set_append_right _ _ (by simp [nodeCells]; omega)]
    congr 2
    simp [nodeCells]; omega

theorem ArenaPh.set {ρ ρ' : Roles} {j : Nat} {w w' : World} {A : Nat} {m : AM} {nv ev : Value} {ph : List (Value × Value)} (h : ArenaPh ρ j w A m nv ev ph) {k i : Nat} {n n' : NodeM} {p p' : Value × Value} {v : Value} {X : Nat → Prop}
    (hn : m.nodes[k]? = some n) (hp : ph[k]? = some p) (hi : i < 5) (he : nodeCells n' p' = (nodeCells n p).set i v) (hr : RExt ρ ρ' w) (hC : Chg X w w') (hX : ∀ b, X b → ρ b = some (j, .nodes) ∨ ρ b = some (j, .inner k))
    (hrow : Row w' T_arena_node 5 nv m.nodes.length ((nodesCells m.nodes ph).set (k * 5 + i) v)) (hph : PhOk ρ' j w' k n' p') :
    ArenaPh ρ' j w' A { m with nodes := m.nodes.set k n' } nv ev (ph.set k p') := by
  have no : ∀ b r, ρ b = some r → r ≠ (j, .nodes) → r ≠ (j, .inner k) → ¬ X b := fun b r hb h1 h2 hx => by
    rcases hX b hx with e | e
    · rw [hb] at e; injection e with e; exact h1 e
    · rw [hb] at e; injection e with e; exact h2 e
  have non : ∀ b, ρ b = none → ¬ X b := fun b hb hx => by
    rcases hX b hx with e | e <;> (rw [hb] at e; cases e)
  refine ⟨by simp [h.len], h.cl.chg hC (no A _ h.role (by simp) (by simp)), (hr A h.cl.lt).trans h.role, ?_, fun b hb => (hr b (h.nodes.lt b hb)).trans (h.nodesRole b hb),
    h.elems.chg hC fun b hb => no b _ (h.elemsRole b hb) (by simp) (by simp), fun b hb => (hr b (h.elems.lt b hb)).trans (h.elemsRole b hb), ?_⟩
  · rw [nodesCells_set _ _ _ _ _ _ _ _ _ hn hp hi he, List.length_set]; exact hrow
  · intro q nq pq hnq hpq
    by_cases hq : k = q
    · subst hq
      have hl := (List.getElem?_eq_some_iff.1 hn).1
      have hl2 := (List.getElem?_eq_some_iff.1 hp).1
      rw [List.getElem?_set_self hl] at hnq
      rw [List.getElem?_set_self hl2] at hpq
      cases hnq; cases hpq
      exact hph
    · rw [List.getElem?_set_ne hq] at hnq hpq
      exact (h.node q nq pq hnq hpq).chg hr hC non fun b hb => no b _ hb (by simp) (by simp; exact fun e => hq e.symm)
/-- The head of the nodes' slice. -/
theorem ArenaPh.nv_some {ρ : Roles} {j : Nat} {w : World} {A : Nat} {m : AM} {nv ev : Value} {ph : List (Value × Value)} (h : ArenaPh ρ j w A m nv ev ph) (hl : 0 < m.nodes.length) :
    ∃ g cap, nv = .slice (some ⟨g, 0, none⟩) m.nodes.length cap ∧ ρ g = some (j, .nodes) ∧ blk nv = some g := by
  obtain ⟨a, c, e, ha⟩ := h.nodes.val
  obtain ⟨g, rfl⟩ := ha hl
  have hle : m.nodes.length ≤ c := by
    have := h.nodes; rw [e] at this; exact this.le
  have hb : blk nv = some g := by rw [e]; exact blk_some (by omega)
  exact ⟨g, c, e, h.nodesRole g hb, hb⟩

theorem PhOk.inner' {ρ : Roles} {j : Nat} {w w' : World} {k : Nat} {n : NodeM} {p : Value × Value} {ρ' : Roles} {X : Nat → Prop} {l : List Nat} {v : Value} (h : PhOk ρ j w k n p) (hr : RExt ρ ρ' w) (hC : Chg X w w') (hX : ∀ b, ρ b = none → ¬ X b)
    (hrow : Row w' T_int 1 v l.length (nats l)) (hrole : ∀ b, blk v = some b → ρ' b = some (j, .inner k)) : PhOk ρ' j w' k { n with inner := l } (p.1, v) :=
  ⟨h.attrs.chg hC fun b hb => hX b (h.attrsRo b hb), fun b hb => (hr b (h.attrs.lt b hb)).trans (h.attrsRo b hb), hrow, hrole⟩

/-- The blocks of the j-th arena's nodes, and of what stands in them. -/
def isPt : RK → Bool
  | .nodes | .inner _ => true
  | _ => false
def PtB (j : Nat) (ρ : Roles) (k : Nat) : Prop := ∃ r, ρ k = some (j, r) ∧ isPt r = true
theorem PtB.ar {j : Nat} {ρ : Roles} {k : Nat} (h : PtB j ρ k) : ArB j ρ k := by
  obtain ⟨r, h1, h2⟩ := h
  exact ⟨r, h1, by cases r <;> first | rfl | cases h2⟩
theorem Chg.ar {j : Nat} {ρ : Roles} {w w' : World} (h : Chg (PtB j ρ) w w') : Chg (ArB j ρ) w w' := h.mono fun _ _ => PtB.ar
/-! ### A node leaves the one in which it stands -/
def modN (m : AM) (k : Nat) (f : NodeM → NodeM) : AM :=
  match m.nodes[k]? with
  | none => m
  | some x => { m with nodes := m.nodes.set k (f x) }
theorem modN_some {m : AM} {k : Nat} {f : NodeM → NodeM} {x : NodeM} (h : m.nodes[k]? = some x) : modN m k f = { m with nodes := m.nodes.set k (f x) } := by unfold modN; rw [h]
theorem modN_len (m : AM) (k : Nat) (f : NodeM → NodeM) : (modN m k f).nodes.length = m.nodes.length := by
  unfold modN
  split
  · rfl
  · simp
theorem modN_elems (m : AM) (k : Nat) (f : NodeM → NodeM) : (modN m k f).elems = m.elems := by
  unfold modN
  split <;> rfl
theorem modN_copies (m : AM) (k : Nat) (f : NodeM → NodeM) : (modN m k f).copies = m.copies := by
  unfold modN
  split <;> rfl
theorem modN_at {m : AM} {k q : Nat} {f : NodeM → NodeM} {n : NodeM} (h : (modN m k f).nodes[q]? = some n) : ∃ x, m.nodes[q]? = some x ∧ (n = x ∨ q = k ∧ n = f x) := by
  unfold modN at h
  split at h
  · exact ⟨n, h, .inl rfl⟩
  · rename_i x hx
    have h : (m.nodes.set k (f x))[q]? = some n := h
    by_cases hq : k = q
    · subst hq
      rw [List.getElem?_set_self (List.getElem?_eq_some_iff.1 hx).1] at h
      cases h
      exact ⟨x, hx, .inr ⟨rfl, rfl⟩⟩
    · rw [List.getElem?_set_ne hq] at h
      exact ⟨n, h, .inl rfl⟩
def leaveM (m : AM) (q : Nat) : AM :=
  match m.nodes[q]? with
  | none => m
  | some n => if n.parent < 0 then m else modN m n.parent.toNat fun x => { x with inner := x.inner.filter (fun y => decide (y ≠ q)) }
/-- What must hold of an arena so that its parts can be followed. -/
structure AOk (c : Nat) (m : AM) : Prop where
  par : ∀ (q : Nat) (n : NodeM), m.nodes[q]? = some n → n.parent < m.nodes.length
  inn : ∀ (q : Nat) (n : NodeM), m.nodes[q]? = some n → n.inner.length ≤ c
  inb : ∀ (q : Nat) (n : NodeM), m.nodes[q]? = some n → ∀ y ∈ n.inner, y < m.nodes.length
  many : m.nodes.length ≤ c
  el : ∀ (i q : Nat), m.elems[i]? = some q → q < m.nodes.length
  elm : m.elems.length ≤ c
  att : ∀ (q : Nat) (n : NodeM), m.nodes[q]? = some n → n.attrs.length ≤ 1000000
  cps : 0 ≤ m.copies ∧ m.copies ≤ c
theorem AOk.mod {c : Nat} {m : AM} (h : AOk c m) {k : Nat} {f : NodeM → NodeM} (h1 : ∀ x, m.nodes[k]? = some x → (f x).parent < m.nodes.length) {d : Nat} (hd : c ≤ d) (h2 : ∀ x, m.nodes[k]? = some x → (f x).inner.length ≤ d) (h3 : ∀ x, m.nodes[k]? = some x → ∀ y ∈ (f x).inner, y < m.nodes.length) (h4 : ∀ x, m.nodes[k]? = some x → (f x).attrs.length ≤ 1000000) : AOk d (modN m k f) := by
  refine ⟨fun q n hn => ?_, fun q n hn => ?_, fun q n hn => ?_, by rw [modN_len]; exact Nat.le_trans h.many hd, fun i q hq => by rw [modN_elems] at hq; rw [modN_len]; exact h.el i q hq, by rw [modN_elems]; exact Nat.le_trans h.elm hd, fun q n hn => ?_, by rw [modN_copies]; exact ⟨h.cps.1, Nat.le_trans h.cps.2 hd⟩⟩
  · rw [modN_len]
    obtain ⟨x, hx, rfl | ⟨rfl, rfl⟩⟩ := modN_at hn
    · exact h.par q _ hx
    · exact h1 x hx
  · obtain ⟨x, hx, rfl | ⟨rfl, rfl⟩⟩ := modN_at hn
    · exact Nat.le_trans (h.inn q _ hx) hd
    · exact h2 x hx
  · rw [modN_len]
    obtain ⟨x, hx, rfl | ⟨rfl, rfl⟩⟩ := modN_at hn
    · exact h.inb q _ hx
    · exact h3 x hx
  · obtain ⟨x, hx, rfl | ⟨rfl, rfl⟩⟩ := modN_at hn
    · exact h.att q _ hx
    · exact h4 x hx
theorem leaveM_len (m : AM) (q : Nat) : (leaveM m q).nodes.length = m.nodes.length := by
  unfold leaveM
  split
  · rfl
  · split
    · rfl
    · exact modN_len _ _ _
theorem AOk.leave {c : Nat} {m : AM} (h : AOk c m) (q : Nat) : AOk c (leaveM m q) := by
  unfold leaveM
  split
  · exact h
  · split
    · exact h
    · exact h.mod (f := fun x => { x with inner := x.inner.filter (fun y => decide (y ≠ q)) }) (fun x hx => have t := h.par _ _ hx; t) (Nat.le_refl _) (fun x hx => Nat.le_trans (List.length_filter_le _ _) (h.inn _ _ hx)) (fun x hx y hy => h.inb _ _ hx y (List.mem_filter.1 hy).1) (fun x hx => have t := h.att _ _ hx; t)

theorem c_leave {ρ : Roles} {j : Nat} {w : World} {A : Nat} {m : AM} (h : AInv ρ j w A m) {c : Nat} (hok : AOk c m) (hc : c ≤ 1000000) {q : Nat} (hq : q < m.nodes.length) {K : Value → World → Prop}
    (k : ∀ w', Chg (PtB j ρ) w w' → AInv ρ j w' A (leaveM m q) → K (.tuple #[]) w') : Cf Tryd.prog n_arena_Arena_leave #[.pointer (some ⟨A, 0, none⟩), .int .i64 q] w K := by
  obtain ⟨nv, ev, ph, h⟩ := h
  refine L_arena_Arena_leave _ _ _ _ ?_
  unfold S_arena_Arena_leave
  obtain ⟨g, cap, hv, hgr, hgb⟩ := h.nv_some (by omega)
  obtain ⟨n, hn⟩ : ∃ n, m.nodes[q]? = some n := ⟨_, List.getElem?_eq_getElem hq⟩
  have hqp : q < ph.length := by rw [h.len]; exact hq
  obtain ⟨pq, hpq⟩ : ∃ n, ph[q]? = some n := ⟨_, List.getElem?_eq_getElem hqp⟩
  refine Vl.box1 trivial fun w1 h1 => ?_
  have hE1 : Ext w (dr w1) := h1.ext.then (dr_ext w1)
  have hB : Cl (dr w1) w.heap.size T_int [.int .i64 q] := h1.new
  have hm := hok.many
  have hpar := hok.par q n hn
  refine ⟨fun x => Ext w x ∧ Cl x w.heap.size T_int [.int .i64 q], ⟨hE1, hB⟩, trivial, Pv.fa (VQ.ld (fun x hx => (h.cl.ext hx.1).cell rfl) (VQ.ld (fun x hx => hx.2.cell rfl) ?_))⟩
  rw [hv]
  refine Pv.ix 5 (by omega) (by omega) (Pv.fa (VQ.ld (v := .int .i64 n.parent) (fun x hx => ?_) ?_))
  · have := h.nodeCell hv hn hpq (i := 3) (by omega) (v := .int .i64 n.parent) rfl
    have e : ((q : Int)).toNat = q := by omega
    rw [e, Nat.zero_add]
    exact cell_same hx.1 this id
  refine Vl.geq (Cond_bool (fun h0 => ?_) (fun h0 => ?_))
  · have h0 := of_decide_eq_true h0
    obtain ⟨p, hp⟩ : ∃ p : Nat, n.parent = p := ⟨n.parent.toNat, by omega⟩
    have hpl : p < m.nodes.length := by omega
    obtain ⟨x, hx⟩ : ∃ x, m.nodes[p]? = some x := ⟨_, List.getElem?_eq_getElem hpl⟩
    have hpp : p < ph.length := by rw [h.len]; exact hpl
    obtain ⟨pp, hpp⟩ : ∃ n, ph[p]? = some n := ⟨_, List.getElem?_eq_getElem hpp⟩
    have hd := h.chg (RExt.refl _ _) hE1 (fun _ _ => id) (fun _ _ => id)
    refine ⟨trivial, Vl.fa (Vl.ld hd.cl rfl ?_)⟩
    rw [hv, hp]
    refine Vl.ix 5 (by omega) (by omega) ⟨trivial, Vl.fa ?_⟩
    have ep : ((p : Int)).toNat = p := by omega
    rw [ep, Nat.zero_add]
    have hin := hd.node p x pp hx hpp
    refine Vl.lda (hd.nodeCell hv hx hpp (i := 4) (by omega) (v := pp.2) rfl) ?_
    refine Vl.i (v := .func (.func 96) #[] #[.pointer (some ⟨w.heap.size, 0, none⟩)]) (w' := dr w1) (by kernel_rfl) ?_
    have hinl : ∀ b, blk pp.2 = some b → b < w.heap.size := fun b hb => (h.node p x pp hx hpp).inner.lt b hb
    refine c_DeleteEq hin.inner hB (fun e => by have := hinl _ e; omega) (Nat.le_trans (hok.inn p x hx) hc) fun v' w2 hr2 hC2 hb2 => ?_
    have hone : One v' := by obtain ⟨a, c, rfl, _⟩ := hr2.val; trivial
    have hX2 : ∀ b, blk pp.2 = some b → ρ b = some (j, .inner p) := hin.innerRole
    have hneg : ¬ blk pp.2 = some g := fun e => by
      have := hX2 g e
      rw [hgr] at this; cases this
    have hrow2 : Row w2 T_arena_node 5 nv m.nodes.length (nodesCells m.nodes ph) := hd.nodes.chg hC2 fun b hb e => by
      rw [hgb] at hb; cases hb; exact hneg e
    rw [hv] at hrow2
    have hcl := nodesCells_length _ _ h.len
    refine ⟨trivial, Vl.fa (Ef.row hrow2 (by rw [hcl]; omega) hone fun w3 hC3 hrow3 => ?_)⟩
    have hC : Chg (fun b => blk pp.2 = some b ∨ b = g) (dr w1) w3 := hC2.trans hC3
    have hXX : ∀ b, (blk pp.2 = some b ∨ b = g) → ρ b = some (j, .nodes) ∨ ρ b = some (j, .inner p) := fun b e => by
      rcases e with e | e
      · exact .inr (hX2 b e)
      · exact .inl (e ▸ hgr)
    refine k w3 (((Ext.to hE1).then (hC.mono fun b _ e => ?_))) ?_
    · rcases hXX b e with e | e <;> exact ⟨_, e, rfl⟩
    · have el : leaveM m q = { m with nodes := m.nodes.set p { x with inner := x.inner.filter (fun y => decide (y ≠ q)) } } := by
        unfold leaveM
        rw [hn]
        show (if n.parent < 0 then m else _) = _
        rw [if_neg (by omega), hp, ep]
        exact modN_some hx
      rw [el]
      refine ⟨nv, ev, _, hd.set (i := 4) (v := v') (p' := (pp.1, v')) hx hpp (by omega) rfl (RExt.refl _ _) hC hXX (by rw [hv]; exact hrow3) ?_⟩
      refine hin.inner' (RExt.refl _ _) hC (fun b hb e => ?_) (hr2.chg hC3 fun b hb e => ?_) (fun b hb => hX2 b (hb2 ▸ hb))
      · rcases hXX b e with e | e <;> (rw [hb] at e; cases e)
      · have e : b = g := e
        rw [hb2] at hb
        exact hneg (e ▸ hb)
  · have h0 := of_decide_eq_false h0
    have el : leaveM m q = m := by
      unfold leaveM
      rw [hn]
      show (if n.parent < 0 then m else _) = _
      rw [if_pos (by omega)]
    refine k _ (Ext.to hE1) (by rw [el]; exact ⟨nv, ev, ph, h.chg (RExt.refl _ _) hE1 (fun _ _ => id) (fun _ _ => id)⟩)

/-! ### A node is put behind others -/
def putM (m : AM) (p q : Nat) : AM := modN (modN (leaveM m q) q fun x => { x with parent := (p : Int) }) p fun x => { x with inner := x.inner ++ [q] }
theorem putM_len (m : AM) (p q : Nat) : (putM m p q).nodes.length = m.nodes.length := by unfold putM; rw [modN_len, modN_len, leaveM_len]
theorem leaveM_elems (m : AM) (q : Nat) : (leaveM m q).elems = m.elems := by
  unfold leaveM
  split
  · rfl
  · split
    · rfl
    · exact modN_elems _ _ _
theorem putM_elems (m : AM) (p q : Nat) : (putM m p q).elems = m.elems := by unfold putM; rw [modN_elems, modN_elems, leaveM_elems]
theorem AOk.put {c : Nat} {m : AM} (h : AOk c m) {p q : Nat} (hp : p < m.nodes.length) (hq : q < m.nodes.length) : AOk (c + 1) (putM m p q) := by
  unfold putM
  have h1 := h.leave q
  have h2 : AOk c (modN (leaveM m q) q fun x => { x with parent := (p : Int) }) := h1.mod (f := fun x => { x with parent := (p : Int) }) (fun x hx => by rw [leaveM_len]; show (p : Int) < _; omega) (Nat.le_refl _) (fun x hx => have t := h1.inn _ _ hx; t) (fun x hx => have t := h1.inb _ _ hx; t) (fun x hx => have t := h1.att _ _ hx; t)
  refine h2.mod (f := fun x => { x with inner := x.inner ++ [q] }) (fun x hx => have t := h2.par _ _ hx; t) (by omega) (fun x hx => ?_) (fun x hx y hy => ?_) (fun x hx => have t := h2.att _ _ hx; t)
  · have := h2.inn _ _ hx; show (x.inner ++ [q]).length ≤ _; simp; omega
  · rcases List.mem_append.1 hy with hy | hy
    · exact h2.inb _ _ hx y hy
    · have : y = q := by simpa using hy
      rw [this, modN_len, leaveM_len]; exact hq

theorem AInv.cut {ρ : Roles} {j : Nat} {w : World} {A : Nat} {m : AM} (h : AInv ρ j w A m) : AInv (cutR ρ w) j w A m := h.chg (cutR_ext ρ w) (Chg.refl (fun _ => False) _) (fun _ _ => id) (fun _ _ => id)
theorem RGrow.uncut {ρ ρ' : Roles} {j : Nat} {w : World} (h : RGrow j (cutR ρ w) ρ' w) : RGrow j ρ ρ' w := ⟨fun b hb => (h.1 b hb).trans (cutR_ext ρ w b hb), h.2⟩
theorem Chg.uncut {ρ : Roles} {j : Nat} {w w' : World} (h : Chg (PtB j (cutR ρ w)) w w') : Chg (PtB j ρ) w w' := h.mono fun b hb ⟨r, e, i⟩ => ⟨r, (cutR_ext ρ w b hb).symm.trans e, i⟩
theorem c_put {ρ : Roles} {j : Nat} {w : World} {A : Nat} {m : AM} (h : AInv ρ j w A m) {c : Nat} (hok : AOk c m) (hc : c ≤ 1000000) {p q : Nat} (hp : p < m.nodes.length) (hq : q < m.nodes.length) {K : Value → World → Prop}
    (k : ∀ ρ' w', RGrow j ρ ρ' w → Chg (PtB j ρ) w w' → AInv ρ' j w' A (putM m p q) → K (.tuple #[]) w') : Cf Tryd.prog n_arena_Arena_put #[.pointer (some ⟨A, 0, none⟩), .int .i64 p, .int .i64 q] w K := by
  refine L_arena_Arena_put _ _ _ _ _ ?_
  unfold S_arena_Arena_put
  have h := h.cut
  have k : ∀ ρ' w', RGrow j (cutR ρ w) ρ' w → Chg (PtB j (cutR ρ w)) w w' → AInv ρ' j w' A (putM m p q) → K (.tuple #[]) w' := fun ρ' w' hr hc h => k ρ' w' hr.uncut (Chg.uncut hc) h
  have hcut : ∀ b, w.heap.size ≤ b → cutR ρ w b = none := fun b hb => by unfold cutR; rw [if_neg (by omega)]
  generalize cutR ρ w = ρ at h k hcut
  refine c_leave h hok hc hq fun w1 hC1 hA1 => ?_
  have hok1 := hok.leave q
  rw [← leaveM_len m q] at hp hq
  unfold putM at k
  generalize leaveM m q = m1 at hA1 hok1 hp hq k
  obtain ⟨nv, ev, ph, h1⟩ := hA1
  obtain ⟨g, cap, hv, hgr, hgb⟩ := h1.nv_some (by omega)
  have hm := hok1.many
  have hcl := nodesCells_length _ _ h1.len
  obtain ⟨n, hn⟩ : ∃ n, m1.nodes[q]? = some n := ⟨_, List.getElem?_eq_getElem hq⟩
  obtain ⟨pq, hpq⟩ : ∃ n, ph[q]? = some n := ⟨_, List.getElem?_eq_getElem (by rw [h1.len]; exact hq)⟩
  refine ⟨trivial, Vl.fa (Vl.ld h1.cl rfl ?_)⟩
  rw [hv]
  refine Vl.ix 5 (by omega) (by omega) (Vl.fa ?_)
  have eq : ((q : Int)).toNat = q := by omega
  rw [eq, Nat.zero_add]
  have hrow1 := h1.nodes
  rw [hv] at hrow1
  refine Ef.row hrow1 (by rw [hcl]; omega) trivial fun w2 hC2 hrow2 => ?_
  rw [← hv] at hrow2
  have hq1 := h1.node q n pq hn hpq
  have hX2 : ∀ b, b = g → ρ b = some (j, .nodes) ∨ ρ b = some (j, .inner q) := fun b e => .inl (e ▸ hgr)
  have hno2 : ∀ b, ρ b = none → ¬ b = g := fun b hb e => by rw [e, hgr] at hb; cases hb
  have h2 : ArenaPh ρ j w2 A { m1 with nodes := m1.nodes.set q { n with parent := (p : Int) } } nv ev (ph.set q pq) := h1.set (i := 3) (v := .int .i64 (p : Int)) hn hpq (by omega) rfl (RExt.refl _ _) hC2 hX2 hrow2
    ⟨hq1.attrs.chg hC2 fun b hb => hno2 b (hq1.attrsRo b hb), hq1.attrsRo, hq1.inner.chg hC2 fun b hb e => (by
      have e : b = g := e
      have := hq1.innerRole b hb
      rw [e, hgr] at this; cases this), hq1.innerRole⟩
  have hok2 : AOk c (modN m1 q fun x => { x with parent := (p : Int) }) := hok1.mod (f := fun x => { x with parent := (p : Int) }) (fun x hx => by show (p : Int) < _; omega) (Nat.le_refl _) (fun x hx => have t := hok1.inn _ _ hx; t) (fun x hx => have t := hok1.inb _ _ hx; t) (fun x hx => have t := hok1.att _ _ hx; t)
  rw [← modN_some (f := fun x => { x with parent := (p : Int) }) hn] at h2
  rw [← modN_len m1 q fun x => { x with parent := (p : Int) }] at hp
  generalize modN m1 q (fun x => { x with parent := (p : Int) }) = m2 at h2 hok2 hp k
  generalize ph.set q pq = ph2 at h2
  -- the one in which it is put
  have hm2 := hok2.many
  obtain ⟨g2, cap2, hv2, hgr2, hgb2⟩ := h2.nv_some (by omega)
  obtain ⟨x, hx⟩ : ∃ n, m2.nodes[p]? = some n := ⟨_, List.getElem?_eq_getElem hp⟩
  obtain ⟨pp, hpp⟩ : ∃ n, ph2[p]? = some n := ⟨_, List.getElem?_eq_getElem (by rw [h2.len]; exact hp)⟩
  have hin := h2.node p x pp hx hpp
  have hinl := hok2.inn p x hx
  have ep : ((p : Int)).toNat = p := by omega
  have hcell := h2.nodeCell hv2 hx hpp (i := 4) (by omega) (v := pp.2) rfl
  have hA2 := h2.cl
  have hAlt := hA2.lt
  refine ⟨fun z => Cl z A T_arena_Arena [nv, ev, .int .i64 m2.copies] ∧ z.cell? ⟨g2, p * 5 + 4, none⟩ = some pp.2, ⟨hA2.dr, cell_same (dr_ext w2) hcell id⟩, trivial, Pv.fa (VQ.ld (fun z hz => hz.1.cell rfl) ⟨trivial, Pv.fa (VQ.ld (fun z hz => hz.1.cell rfl) ?_)⟩)⟩
  rw [hv2]
  refine Pv.ix 5 (by omega) (by omega) (Pv.fa ?_)
  rw [ep, Nat.zero_add]
  refine VQ.ld (fun z hz => hz.2) ?_
  refine Vl.bs1 (E := T_int) (sz := 1) rfl fun w3 h3 => ?_
  have hE3 : Ext w2 w3 := (dr_ext w2).then h3.ext
  refine ⟨_, fun _ hz => hz, ⟨hv2 ▸ hA2.ext hE3, cell_same hE3 hcell id⟩, ?_⟩
  refine Vl.app (m := 1) (hin.inner.ext hE3) h3.cl rfl (by intro u hu; simp at hu; subst hu; rfl) (by omega) fun v' w4 hr4 hC4 hb4 => ?_
  have hX4 : ∀ b, blk pp.2 = some b → ρ b = some (j, .inner p) := hin.innerRole
  have hne : ∀ b, blk pp.2 = some b → b ≠ g2 ∧ b ≠ A := fun b hb => by
    have r := hX4 b hb
    refine ⟨fun e => ?_, fun e => ?_⟩
    · rw [e, hgr2] at r; cases r
    · rw [e, h2.role] at r; cases r
  have hone : One v' := by obtain ⟨a, c, rfl, _⟩ := hr4.val; trivial
  have hE24 : Chg (fun b => blk pp.2 = some b) w2 w4 := (Ext.to hE3).then hC4
  refine ⟨_, fun _ hz => hz, ⟨hv2 ▸ hA2.chg hE24 fun e => (hne A e).2 rfl, cell_same hE24 hcell fun e => (hne g2 e).1 rfl⟩, ?_⟩
  refine Pv.ix 5 (by omega) (by omega) (Pv.fa ?_)
  rw [ep, Nat.zero_add]
  have hrow4 : Row w4 T_arena_node 5 nv m2.nodes.length (nodesCells m2.nodes ph2) := h2.nodes.chg hE24 fun b hb e => by
    rw [hgb2] at hb; cases hb; exact (hne g2 e).1 rfl
  rw [hv2] at hrow4
  have hcl2 := nodesCells_length _ _ h2.len
  refine Ef.row hrow4 (by rw [hcl2]; omega) hone fun w5 hC5 hrow5 => ⟨fun _ => True, trivial, ?_⟩
  have hC : Chg (fun b => blk pp.2 = some b ∨ b = g2) w2 w5 := hE24.trans hC5
  have hXX : ∀ b, (blk pp.2 = some b ∨ b = g2) → ρ b = some (j, .nodes) ∨ ρ b = some (j, .inner p) := fun b e => e.elim (fun e => .inr (hX4 b e)) fun e => .inl (e ▸ hgr2)
  have s12 := hC1.size
  have s2 := hC2.size
  have s3 : w3.heap.size = w2.heap.size + 1 := h3.size
  have hR : RGrow j ρ (grow ρ w2 v' (j, .inner p)) w2 := grow_grow _ _ _ _ _
  have hb4' : ∀ b, blk v' = some b → blk pp.2 = some b ∨ w2.heap.size ≤ b := fun b hb => (hb4 b hb).imp id fun h => by omega
  have hRw : RGrow j ρ (grow ρ w2 v' (j, .inner p)) w := by
    refine ⟨fun b hb => hR.1 b (by omega), fun b hb i r e => ?_⟩
    by_cases hl : b < w2.heap.size
    · rw [hR.1 b hl, hcut b hb] at e; cases e
    · exact hR.2 b (by omega) i r e
  refine k _ w5 hRw ?_ ?_
  · refine ((hC1.then (hC2.mono fun b _ e => ⟨_, (e ▸ hgr : ρ b = _), rfl⟩)).trans hC).mono fun b _ e => ?_
    rcases e with e | e
    · exact e
    · rcases hXX b e with e | e <;> exact ⟨_, e, rfl⟩
  · rw [modN_some hx]
    refine ⟨nv, ev, _, h2.set (i := 4) (v := v') (p' := (pp.1, v')) hx hpp (by omega) rfl hR.1 hC hXX (by rw [hv2]; exact hrow5) ?_⟩
    have el : (x.inner ++ [q]).length = x.inner.length + 1 := by simp
    have en : nats (x.inner ++ [q]) = nats x.inner ++ [.int .i64 (q : Nat)] := by unfold nats; simp
    refine hin.inner' hR.1 hC (fun b hb e => ?_) ((by rw [el, en]; exact hr4 : Row w4 T_int 1 v' (x.inner ++ [q]).length (nats (x.inner ++ [q]))).chg hC5 fun b hb e => ?_) (fun b hb => grow_role hb fun hl => ?_)
    · rcases hXX b e with e | e <;> (rw [hb] at e; cases e)
    · have e : b = g2 := e
      rcases hb4' b hb with h6 | h6
      · exact (hne b h6).1 e
      · have := h2.nodes.lt g2 hgb2; omega
    · rcases hb4' b hb with h6 | h6
      · exact hX4 b h6
      · omega
end Go.Proofs
namespace Go.Proofs
open Go Go.Eng

def elAt (m : AM) (i : Nat) : Nat := m.elems.getD i 0
theorem elAt_some {m : AM} {i : Nat} (h : i < m.elems.length) : m.elems[i]? = some (elAt m i) := by unfold elAt; simp [List.getD, h]
theorem elAt_lt {c : Nat} {m : AM} (hok : AOk c m) {i : Nat} (h : i < m.elems.length) : elAt m i < m.nodes.length := hok.el i _ (elAt_some h)
def appendM (m : AM) (p i : Nat) : AM := putM m (elAt m p) (elAt m i)
theorem cut_none (ρ : Roles) (w : World) : ∀ b, w.heap.size ≤ b → cutR ρ w b = none := fun b hb => by unfold cutR; rw [if_neg (by omega)]
theorem RGrow.from {ρ ρ' : Roles} {j : Nat} {w w1 : World} (hcut : ∀ b, w.heap.size ≤ b → ρ b = none) (h : RGrow j ρ ρ' w1) (hs : w.heap.size ≤ w1.heap.size) : RGrow j ρ ρ' w := by
  refine ⟨fun b hb => h.1 b (by omega), fun b hb i r e => ?_⟩
  by_cases hl : b < w1.heap.size
  · rw [h.1 b hl, hcut b hb] at e; cases e
  · exact h.2 b (by omega) i r e
theorem Chg.uncutA {ρ : Roles} {j : Nat} {w w' : World} (h : Chg (ArB j (cutR ρ w)) w w') : Chg (ArB j ρ) w w' := h.mono fun b hb ⟨r, e, i⟩ => ⟨r, (cutR_ext ρ w b hb).symm.trans e, i⟩
/-- The elements' slice, kept aside. -/
theorem ArenaPh.elRd {ρ : Roles} {j : Nat} {w w' : World} {A : Nat} {m : AM} {nv : Value} {ge ec : Nat} {ph : List (Value × Value)} (h : ArenaPh ρ j w A m nv (.slice (some ⟨ge, 0, none⟩) m.elems.length ec) ph) (hC : Chg (PtB j ρ) w w') {i : Nat} (hi : i < m.elems.length) :
    w'.cell? ⟨A, 1, none⟩ = some (.slice (some ⟨ge, 0, none⟩) m.elems.length ec) ∧ w'.cell? ⟨ge, i, none⟩ = some (.int .i64 (elAt m i : Nat)) := by
  have hle := h.elems.le
  refine ⟨cell_same hC (h.cl.cell rfl) fun ⟨r, e, hr⟩ => ?_, cell_same hC (h.elems.cell (by unfold nats; simp [elAt_some hi])) fun ⟨r, e, hr⟩ => ?_⟩
  · rw [h.role] at e; cases e; cases hr
  · have := h.elemsRole ge (blk_some (by omega))
    rw [this] at e; cases e; cases hr
theorem c_Append {ρ : Roles} {j : Nat} {w : World} {A : Nat} {m : AM} (h : AInv ρ j w A m) {c : Nat} (hok : AOk c m) (hc : c ≤ 1000000) {p i : Nat} (hp : p < m.elems.length) (hi : i < m.elems.length) {K : Value → World → Prop}
    (k : ∀ ρ' w', RGrow j ρ ρ' w → Chg (PtB j ρ) w w' → AInv ρ' j w' A (appendM m p i) → K (.tuple #[]) w') : Cf Tryd.prog n_arena_Arena_Append #[.pointer (some ⟨A, 0, none⟩), .int .i64 p, .int .i64 i] w K := by
  refine L_arena_Arena_Append _ _ _ _ _ ?_
  unfold S_arena_Arena_Append
  have hA := h
  obtain ⟨nv, ev, ph, h⟩ := h
  obtain ⟨ea, ec, rfl, hea⟩ := h.elems.val
  obtain ⟨ge, rfl⟩ := hea (by omega)
  have ep : ((p : Int)).toNat = p := by omega
  have ei : ((i : Int)).toNat = i := by omega
  have hd := dr_ext w
  refine ⟨fun x => Chg (PtB j ρ) w x, Ext.to hd, trivial, Pv.fa (VQ.ld (fun x hx => (h.elRd hx hp).1) (Pv.ix 1 (by omega) (by omega) ?_))⟩
  rw [ep, Nat.mul_one, Nat.zero_add]
  refine VQ.ld (fun x hx => (h.elRd hx hp).2) ⟨trivial, Pv.fa (VQ.ld (fun x hx => (h.elRd hx hp).1) (Pv.ix 1 (by omega) (by omega) ?_))⟩
  rw [ei, Nat.mul_one, Nat.zero_add]
  refine VQ.ld (fun x hx => (h.elRd hx hi).2) ?_
  refine c_put (hA.ext hd) hok hc (elAt_lt hok hp) (elAt_lt hok hi) fun ρ' w' hR hC hA' => ⟨_, fun _ h => h, (Ext.to hd).then hC, k ρ' w' hR ((Ext.to hd).then hC) hA'⟩

theorem c_Attrs {ρ : Roles} {j : Nat} {w : World} {A : Nat} {m : AM} (h : AInv ρ j w A m) {i q : Nat} {n : NodeM} (hi : m.elems[i]? = some q) (hq : m.nodes[q]? = some n) (hl : n.attrs.length ≤ 1000000) {K : Value → World → Prop}
    (k : ∀ v' w', Row w' T_api_Attr 2 v' n.attrs.length (attrCells n.attrs) → Ext w w' → (∀ b, blk v' = some b → w.heap.size ≤ b) → K v' w') : Cf Tryd.prog n_arena_Arena_Attrs #[.pointer (some ⟨A, 0, none⟩), .int .i64 i] w K := by
  obtain ⟨nv, ev, ph, h⟩ := h
  refine L_arena_Arena_Attrs _ _ _ _ ?_
  unfold S_arena_Arena_Attrs
  have hql : q < m.nodes.length := (List.getElem?_eq_some_iff.1 hq).1
  have hp : ph[q]? = some (ph[q]'(by rw [h.len]; exact hql)) := List.getElem?_eq_getElem (by rw [h.len]; exact hql)
  refine c_at h hi hql fun g cap w' hw hE hv => ⟨trivial, Vl.fa (Vl.lda (v := (ph[q]'(by rw [h.len]; exact hql)).1) ?_ ?_)⟩
  · have := h.nodeCell hv hq hp (i := 1) (by omega) rfl
    exact cell_same hE this id
  · refine c_Clone_attrs ((h.node q n _ hq hp).attrs.ext hE) hl fun v' w2 hr hE2 hnew => k v' w2 hr (hE.then hE2) fun b hb => ?_
    have := hnew b hb; have := hE.size; omega

theorem c_Copies {ρ : Roles} {j : Nat} {w : World} {A : Nat} {m : AM} (h : AInv ρ j w A m) {K : Value → World → Prop} (k : K (.int .i64 m.copies) w) : Cf Tryd.prog n_arena_Arena_Copies #[.pointer (some ⟨A, 0, none⟩)] w K := by
  obtain ⟨nv, ev, ph, h⟩ := h
  refine L_arena_Arena_Copies _ _ _ ?_
  unfold S_arena_Arena_Copies
  exact ⟨trivial, Vl.fa (Vl.ld h.cl rfl k)⟩

def attrsAt (m : AM) (i : Nat) : List (ByteArray × ByteArray) := ((m.nodes[elAt m i]?).map NodeM.attrs).getD []
def copyM (m : AM) (i : Nat) : AM := addEl { m with copies := m.copies + 1 } ⟨nameAt m i, attrsAt m i, ⟨#[]⟩, -1, []⟩
theorem c_Copy {ρ : Roles} {j : Nat} {w : World} {A : Nat} {m : AM} (h : AInv ρ j w A m) {c : Nat} (hok : AOk c m) (hc : c ≤ 1000000) {i : Nat} (hi : i < m.elems.length) {K : Value → World → Prop}
    (k : ∀ ρ' w', RGrow j ρ ρ' w → Chg (ArB j ρ) w w' → AInv ρ' j w' A (copyM m i) → K (.int .i64 m.elems.length) w') : Cf Tryd.prog n_arena_Arena_Copy #[.pointer (some ⟨A, 0, none⟩), .int .i64 i] w K := by
  have h := h.cut
  have k : ∀ ρ' w', RGrow j (cutR ρ w) ρ' w → Chg (ArB j (cutR ρ w)) w w' → AInv ρ' j w' A (copyM m i) → K (.int .i64 m.elems.length) w' := fun ρ' w' hr hc h => k ρ' w' hr.uncut (Chg.uncutA hc) h
  have hcut := cut_none ρ w
  generalize cutR ρ w = ρ at h k hcut
  obtain ⟨nv, ev, ph, h⟩ := h
  refine L_arena_Arena_Copy _ _ _ _ ?_
  unfold S_arena_Arena_Copy
  have hel := elAt_some hi
  have hlt := elAt_lt hok hi
  obtain ⟨n, hn⟩ : ∃ n, m.nodes[elAt m i]? = some n := ⟨_, List.getElem?_eq_getElem hlt⟩
  have hcp := hok.cps.2
  refine ⟨trivial, Vl.fa (Vl.ld h.cl rfl (Vl.add ⟨trivial, Vl.fa (Ef.set h.cl (by simp) fun w1 h1 => ?_)⟩))⟩
  have hC1 : Chg (· = A) w w1 := h1.chg
  have hnA : ∀ b r, ρ b = some r → r ≠ (j, .arena) → ¬ b = A := fun b r hb hr e => by
    rw [e, h.role] at hb; injection hb with hb; exact hr hb.symm
  have e1 : (m.copies : Int) + 1 = ((m.copies + 1 : Nat) : Int) := by omega
  have h1' : AInv ρ j w1 A { m with copies := m.copies + 1 } := by
    refine ⟨nv, ev, ph, h.len, ?_, h.role, h.nodes.chg hC1 fun b hb => hnA b _ (h.nodesRole b hb) (by simp), h.nodesRole, h.elems.chg hC1 fun b hb => hnA b _ (h.elemsRole b hb) (by simp), h.elemsRole, fun q x p hx hp => ?_⟩
    · have := h1.cl
      have e : [nv, ev, Value.int .i64 m.copies].set 2 (.int .i64 ((m.copies : Int) + 1)) = [nv, ev, .int .i64 ((m.copies + 1 : Nat) : Int)] := by rw [← e1]; rfl
      exact e ▸ this
    · exact (h.node q x p hx hp).chg (RExt.refl _ _) hC1 (fun b hb e => by rw [show b = A from e, h.role] at hb; cases hb) fun b hb => hnA b _ hb (by simp)
  have en : nameAt m i = n.name := nameAt_of hel hn
  have ea : attrsAt m i = n.attrs := by unfold attrsAt; rw [hn]; rfl
  unfold copyM at k
  rw [en, ea] at k
  refine c_Name h1' hel hn fun w2 _ hE2 => c_Attrs (h1'.ext hE2) hel hn (hok.att _ _ hn) fun v3 w3 hr3 hE3 _ => ?_
  have hE13 := hE2.then hE3
  have hm := hok.many
  have he := hok.elm
  refine c_Element ((h1'.ext hE2).ext hE3) hr3 (hok.att _ _ hn) (by show m.nodes.length ≤ _; omega) (by show m.elems.length ≤ _; omega) fun ρ' w4 hR4 hC4 hA4 => ?_
  have hs1 := hC1.size
  have hs3 := hE13.size
  have hCA : Chg (ArB j ρ) w w3 := (hC1.mono fun b _ e => (⟨_, (e ▸ h.role : ρ b = _), rfl⟩ : ArB j ρ b)).then (Ext.to hE13)
  refine k ρ' w4 (hR4.from hcut (by omega)) ((hCA.trans hC4).mono fun b _ e => e.elim id id) ?_
  exact hA4
end Go.Proofs
namespace Go.Proofs
open Go Go.Eng

def nodeAt (m : AM) (q : Nat) : NodeM := m.nodes.getD q rootN
theorem nodeAt_some {m : AM} {q : Nat} (h : q < m.nodes.length) : m.nodes[q]? = some (nodeAt m q) := by unfold nodeAt; simp [List.getD, h]
def isTextM (m : AM) (q : Nat) : Bool := decide (0 < q) && (decide ((nodeAt m q).name = ⟨#[]⟩) && !decide ((nodeAt m q).text = ⟨#[]⟩))
theorem c_isText {ρ : Roles} {j : Nat} {w : World} {A : Nat} {m : AM} (h : AInv ρ j w A m) (hm : m.nodes.length ≤ 1000000) {q : Nat} (hq : q < m.nodes.length) {K : Value → World → Prop} (k : K (.bool (isTextM m q)) w) :
    Cf Tryd.prog n_arena_Arena_isText #[.pointer (some ⟨A, 0, none⟩), .int .i64 q] w K := by
  obtain ⟨nv, ev, ph, h⟩ := h
  refine L_arena_Arena_isText _ _ _ _ ?_
  unfold S_arena_Arena_isText
  unfold isTextM at k
  obtain ⟨g, cap, hv, hgr, hgb⟩ := h.nv_some (by omega)
  have hn := nodeAt_some hq
  have hp : ph[q]? = some (ph[q]'(by rw [h.len]; exact hq)) := List.getElem?_eq_getElem (by rw [h.len]; exact hq)
  have eq : ((q : Int)).toNat = q := by omega
  refine Vl.gtr (Cond_bool (fun h0 => ?_) (fun h0 => ?_))
  · have e0 : decide (0 < q) = true := by have := of_decide_eq_true h0; rw [decide_eq_true_iff]; omega
    rw [e0, Bool.true_and] at k
    refine ⟨trivial, Vl.fa (Vl.ld h.cl rfl ?_)⟩
    rw [hv]
    refine Vl.ix 5 (by omega) (by omega) (Vl.fa ?_)
    rw [eq, Nat.zero_add]
    refine Vl.lda (h.nodeCell hv hn hp (i := 0) (by omega) rfl) (Vl.seql (Cond_bool (fun h1 => ?_) (fun h1 => ?_)))
    · rw [h1, Bool.true_and] at k
      rw [hv] at h
      refine ⟨trivial, Vl.fa (Vl.ld h.cl rfl (Vl.ix 5 (by omega) (by omega) (Vl.fa ?_)))⟩
      rw [eq, Nat.zero_add]
      refine Vl.lda (h.nodeCell rfl hn hp (i := 2) (by omega) rfl) (Vl.sneq k)
    · rw [h1, Bool.false_and] at k
      exact k
  · have e0 : decide (0 < q) = false := by have := of_decide_eq_false h0; rw [decide_eq_false_iff_not]; omega
    rw [e0, Bool.false_and] at k
    exact k

def innerAt (m : AM) (i : Nat) : List Nat := (nodeAt m (elAt m i)).inner
def newText (m : AM) (s : ByteArray) : AM := { m with nodes := m.nodes ++ [⟨⟨#[]⟩, [], s, -1, []⟩] }
def lastText (m : AM) (p : Nat) : Bool := decide (0 < (innerAt m p).length) && isTextM m ((innerAt m p).getD ((innerAt m p).length - 1) 0)
def textM (m : AM) (p : Nat) (s : ByteArray) : AM :=
  if s = ⟨#[]⟩ then m else
  if lastText m p = true then modN m ((innerAt m p).getD ((innerAt m p).length - 1) 0) fun x => { x with text := x.text ++ s }
  else putM (newText m s) (elAt m p) m.nodes.length
theorem AOk.more {c : Nat} {m : AM} (h : AOk c m) (s : ByteArray) : AOk (c + 1) (newText m s) := by
  have hl : (newText m s).nodes.length = m.nodes.length + 1 := by unfold newText; simp
  have at_ : ∀ (q : Nat) (n : NodeM), (newText m s).nodes[q]? = some n → m.nodes[q]? = some n ∨ n = ⟨⟨#[]⟩, [], s, -1, []⟩ := fun q n hn => by
    have hn : (m.nodes ++ [(⟨⟨#[]⟩, [], s, -1, []⟩ : NodeM)])[q]? = some n := hn
    by_cases hq : q < m.nodes.length
    · rw [List.getElem?_append_left hq] at hn; exact .inl hn
    · rw [List.getElem?_append_right (by omega)] at hn
      have := (List.getElem?_eq_some_iff.1 hn).1
      have : q - m.nodes.length = 0 := by simp at this; omega
      rw [this] at hn
      right; simpa using hn.symm
  refine ⟨fun q n hn => ?_, fun q n hn => ?_, fun q n hn y hy => ?_, by rw [hl]; have := h.many; omega, fun i q hq => by rw [hl]; have := h.el i q hq; omega, Nat.le_succ_of_le h.elm, fun q n hn => ?_, ⟨Nat.zero_le _, Nat.le_succ_of_le h.cps.2⟩⟩
  · rw [hl]
    rcases at_ q n hn with e | rfl
    · have := h.par q n e; omega
    · show (-1 : Int) < _; omega
  · rcases at_ q n hn with e | rfl
    · have := h.inn q n e; omega
    · exact Nat.zero_le _
  · rw [hl]
    rcases at_ q n hn with e | rfl
    · have := h.inb q n e y hy; omega
    · cases hy
  · rcases at_ q n hn with e | rfl
    · exact h.att q n e
    · exact Nat.zero_le _
theorem AOk.text {c : Nat} {m : AM} (h : AOk c m) {p : Nat} (hp : p < m.elems.length) (s : ByteArray) : AOk (c + 2) (textM m p s) := by
  have wide : ∀ {d : Nat} {m' : AM}, AOk d m' → ∀ e, d ≤ e → AOk e m' := fun h e he => ⟨h.par, fun q n hn => Nat.le_trans (h.inn q n hn) he, h.inb, Nat.le_trans h.many he, h.el, Nat.le_trans h.elm he, h.att, h.cps.1, Nat.le_trans h.cps.2 he⟩
  unfold textM
  split
  · exact wide h _ (by omega)
  · split
    · exact wide (h.mod (f := fun x => { x with text := x.text ++ s }) (fun x hx => have t := h.par _ _ hx; t) (Nat.le_refl _) (fun x hx => have t := h.inn _ _ hx; t) (fun x hx => have t := h.inb _ _ hx; t) (fun x hx => have t := h.att _ _ hx; t)) _ (by omega)
    · have hl : (newText m s).nodes.length = m.nodes.length + 1 := by unfold newText; simp
      exact (h.more s).put (by rw [hl]; have := elAt_lt h hp; omega) (by rw [hl]; omega)
theorem AOk.wide {c d : Nat} {m : AM} (h : AOk c m) (he : c ≤ d) : AOk d m := ⟨h.par, fun q n hn => Nat.le_trans (h.inn q n hn) he, h.inb, Nat.le_trans h.many he, h.el, Nat.le_trans h.elm he, h.att, h.cps.1, Nat.le_trans h.cps.2 he⟩

theorem c_Text {ρ : Roles} {j : Nat} {w : World} {A : Nat} {m : AM} (h : AInv ρ j w A m) {c : Nat} (hok : AOk c m) (hc : c + 1 ≤ 1000000) {p : Nat} (hp : p < m.elems.length) {s : ByteArray} (hs : ∀ (q : Nat) (n : NodeM), m.nodes[q]? = some n → n.text.size + s.size ≤ 9223372036854775807) {K : Value → World → Prop}
    (k : ∀ ρ' w', RGrow j ρ ρ' w → Chg (ArB j ρ) w w' → AInv ρ' j w' A (textM m p s) → K (.tuple #[]) w') : Cf Tryd.prog n_arena_Arena_Text #[.pointer (some ⟨A, 0, none⟩), .int .i64 p, .string s] w K := by
  have h := h.cut
  have k : ∀ ρ' w', RGrow j (cutR ρ w) ρ' w → Chg (ArB j (cutR ρ w)) w w' → AInv ρ' j w' A (textM m p s) → K (.tuple #[]) w' := fun ρ' w' hr hc h => k ρ' w' hr.uncut (Chg.uncutA hc) h
  have hcut := cut_none ρ w
  generalize cutR ρ w = ρ at h k hcut
  have hA := h
  obtain ⟨nv, ev, ph, h⟩ := h
  refine L_arena_Arena_Text _ _ _ _ _ ?_
  unfold S_arena_Arena_Text
  have hm := hok.many
  have hel := elAt_some hp
  have hlt := elAt_lt hok hp
  have hn := nodeAt_some hlt
  have hpp : ph[elAt m p]? = some (ph[elAt m p]'(by rw [h.len]; exact hlt)) := List.getElem?_eq_getElem (by rw [h.len]; exact hlt)
  refine Vl.seql (Cond_bool (fun h0 => ?_) (fun h0 => ?_))
  · have h0 := of_decide_eq_true h0
    refine k ρ w (RGrow.refl ρ j hcut) (Chg.refl _ _) ?_
    unfold textM
    rw [if_pos h0]; exact hA
  have h0 := of_decide_eq_false h0
  unfold textM at k
  rw [if_neg h0] at k
  refine c_at h hel hlt fun g cap w1 hw1 hE1 hv => ⟨trivial, Vl.fa (Vl.lda (v := (ph[elAt m p]'(by rw [h.len]; exact hlt)).2) (cell_same hE1 (h.nodeCell hv hn hpp (i := 4) (by omega) rfl) id) ?_)⟩
  have h1 := h.chg (RExt.refl _ _) hE1 (fun _ _ => id) (fun _ _ => id)
  have hA1 : AInv ρ j w1 A m := ⟨nv, ev, ph, h1⟩
  have hin := h1.node _ _ _ hn hpp
  have hrow := hin.inner
  generalize (ph[elAt m p]'(by rw [h.len]; exact hlt)).2 = iv at hrow
  have hinl := hok.inn _ _ hn
  -- a text of its own
  have own : lastText m p = false → ∀ w2, Ext w w2 → (∃ S : World → Prop, S (dr w2) ∧
      NN (.pointer (some ⟨A, 0, none⟩)) ∧
      Pv Tryd.prog (Instr.fieldAt 97 (.pointer (some ⟨A, 0, none⟩)) 1) fun v48 =>
      ValQ Tryd.prog S (Instr.loadAt 31 v48) fun v49 =>
      Pv Tryd.prog (Instr.indexAt 31 v49 (.int .i64 (p : Nat))) fun v51 =>
      ValQ Tryd.prog S (Instr.loadAt 3 v51) fun v52 =>
      Pv Tryd.prog (Instr.build 100 #[(2, .string s), (3, (Value.int IntKind.i64 (-1)))]) fun v55 =>
      Cf Tryd.prog n_arena_Arena_add #[.pointer (some ⟨A, 0, none⟩), v55] (dr w2) fun v56 wm =>
      ∃ Sc : World → Prop, (∀ x, Sc x → S x) ∧ Sc wm ∧
      Cf Tryd.prog n_arena_Arena_put #[.pointer (some ⟨A, 0, none⟩), v52, v56] wm fun v57 wn =>
      ∃ Sd : World → Prop, (∀ x, Sd x → Sc x) ∧ Sd wn ∧
      Lv [] wn fun wo => K (Value.tuple #[]) wo) := fun hlast w2 hE2 => by
    have hEd : Ext w (dr w2) := hE2.then (dr_ext w2)
    have h2 := h.chg (RExt.refl _ _) hEd (fun _ _ => id) (fun _ _ => id)
    obtain ⟨ea, ec, rfl, hea⟩ := h2.elems.val
    obtain ⟨ge, rfl⟩ := hea (by omega)
    have ep : ((p : Int)).toNat = p := by omega
    have r0 := h2.elRd (Chg.refl _ _) hp
    refine ⟨fun x => x.cell? ⟨A, 1, none⟩ = some (.slice (some ⟨ge, 0, none⟩) m.elems.length ec) ∧ x.cell? ⟨ge, p, none⟩ = some (.int .i64 (elAt m p : Nat)), r0, trivial, Pv.fa (VQ.ld (fun x hx => hx.1) (Pv.ix 1 (by omega) (by omega) ?_))⟩
    rw [ep, Nat.mul_one, Nat.zero_add]
    refine VQ.ld (fun x hx => hx.2) (Pv.i (v := .agg (nodeCells ⟨⟨#[]⟩, [], s, -1, []⟩ (.slice none 0 0, .slice none 0 0)).toArray) (by intro w; kernel_rfl) ?_)
    refine c_add (n := ⟨⟨#[]⟩, [], s, -1, []⟩) h2 (Row.nil _ _ _) (fun b hb => by cases hb) rfl (by omega) fun ρ3 w3 nv3 hR3 hC3 h3 => ?_
    have hp3 : p < (newText m s).elems.length := hp
    have r3 := h3.elRd (Chg.refl _ _) hp3
    refine ⟨_, fun _ hx => hx, r3, ?_⟩
    have hl : (newText m s).nodes.length = m.nodes.length + 1 := by unfold newText; simp
    refine c_put (m := newText m s) ⟨_, _, _, h3⟩ (hok.more s) (by omega) (by rw [hl]; omega) (by rw [hl]; omega) fun ρ4 w4 hR4 hC4 h4 => ?_
    refine ⟨_, fun _ hx => hx, h3.elRd hC4 hp3, Lv.nil ?_⟩
    have s2 := hEd.size
    have s3 := hC3.size
    have hRw : RGrow j ρ ρ4 w := (hR3.from hcut s2).trans hR4 (by omega)
    have hlast' : ¬ lastText m p = true := by rw [hlast]; decide
    rw [if_neg hlast'] at k
    refine k ρ4 w4 hRw ?_ h4
    refine (((Ext.to hEd).then hC3).trans (Chg.ar hC4)).mono fun b hb e => e.elim id fun ⟨r, e, hr⟩ => ⟨r, ?_, hr⟩
    rw [← e]; exact (hR3.1 b (by omega)).symm
  refine ⟨fun g ds w' => g = [] ∧ ds = [] ∧ Ext w w' ∧ lastText m p = false, ?_, ?_⟩
  · refine lenRow hrow (Vl.gtr (Cond_bool (fun hl => ?_) (fun hl => ?_)))
    · have hl := of_decide_eq_true hl
      have hl : 0 < (innerAt m p).length := by show 0 < (nodeAt m (elAt m p)).inner.length; omega
      obtain ⟨last, hlast⟩ : ∃ q, q = (innerAt m p).getD ((innerAt m p).length - 1) 0 := ⟨_, rfl⟩
      have hq : (innerAt m p)[(innerAt m p).length - 1]'(by omega) = last := by
        rw [hlast]
        have h2 : (innerAt m p).length - 1 < (innerAt m p).length := by omega
        simp [List.getD, h2]
      have el : ((innerAt m p).length : Int) - 1 = (((innerAt m p).length - 1 : Nat) : Int) := by omega
      have hb := hok.inb _ _ hn last (by rw [← hq]; exact List.getElem_mem _)
      have hrow' : Row w1 T_int 1 iv (innerAt m p).length (nats (innerAt m p)) := hrow
      refine Vl.sub ?_
      show Vl Tryd.prog (Instr.indexAt 31 iv (.int .i64 (((innerAt m p).length : Int) - 1))) _ _
      rw [el]
      refine rdRow hrow' (by omega) ?_
      rw [hq]
      refine c_isText hA1 (by omega) hb (Cond_bool (fun ht => ?_) (fun ht => ?_))
      · have hlt' : lastText m p = true := by unfold lastText; rw [← hlast, ht]; simp; exact hl
        rw [if_pos hlt', ← hlast] at k
        obtain ⟨ia, ic, rfl, hia⟩ := hrow'.val
        obtain ⟨gi, rfl⟩ := hia hl
        have hEd : Ext w (dr w1) := hE1.then (dr_ext w1)
        have hd := h1.chg (RExt.refl _ _) (dr_ext w1) (fun _ _ => id) (fun _ _ => id)
        have hn2 := nodeAt_some hb
        have hp2 : ph[last]? = some (ph[last]'(by rw [h.len]; exact hb)) := List.getElem?_eq_getElem (by rw [h.len]; exact hb)
        have elast : ((last : Int)).toNat = last := by omega
        have ei : ((((innerAt m p).length - 1 : Nat) : Int)).toNat = (innerAt m p).length - 1 := by omega
        refine ⟨fun x => Ext (dr w1) x, Chg.refl _ _, trivial, Pv.fa (VQ.ld (fun x hx => (hd.cl.ext hx).cell rfl) (Pv.sub ?_))⟩
        show Pv Tryd.prog (Instr.indexAt 31 (.slice (some ⟨gi, 0, none⟩) (innerAt m p).length ic) (.int .i64 (((innerAt m p).length : Int) - 1))) _
        rw [el]
        refine Pv.ix 1 (by omega) (by omega) ?_
        rw [ei, Nat.mul_one, Nat.zero_add]
        refine VQ.ld (v := .int .i64 (last : Nat)) (fun x hx => cell_same hx (cell_same (dr_ext w1) (hrow'.cell (by unfold nats; rw [List.getElem?_map, List.getElem?_eq_getElem (by omega), hq]; rfl)) id) id) ?_
        rw [hv]
        refine Pv.ix 5 (by omega) (by omega) (Pv.fa ?_)
        rw [elast, Nat.zero_add]
        refine VQ.ld (fun x hx => cell_same hx (hd.nodeCell hv hn2 hp2 (i := 2) (by omega) rfl) id) (Pv.i (fun w => bs_add (hs _ _ hn2)) (Pv.ix 5 (by omega) (by omega) (Pv.fa ?_)))
        rw [elast, Nat.zero_add]
        have hrowN := hd.nodes
        have hcl := nodesCells_length _ _ h.len
        rw [hv] at hrowN
        refine Ef.row hrowN (by rw [hcl]; omega) trivial fun w3 hC3 hrow3 => ⟨fun _ => True, trivial, ?_⟩
        have hgr := h.nodesRole g (by rw [hv]; exact blk_some (by have := hrowN.le; omega))
        have hph := hd.node _ _ _ hn2 hp2
        refine k ρ w3 (RGrow.refl ρ j hcut) ((Ext.to hEd).then (hC3.mono fun b _ e => ⟨_, (e ▸ hgr : ρ b = _), rfl⟩)) ?_
        rw [modN_some hn2]
        refine ⟨nv, ev, _, hd.set (i := 2) (v := .string ((nodeAt m last).text ++ s)) (p' := ph[last]'(by rw [h.len]; exact hb)) hn2 hp2 (by omega) rfl (RExt.refl _ _) hC3 (fun b e => .inl (e ▸ hgr)) (by rw [hv]; exact hrow3) ?_⟩
        exact ⟨hph.attrs.chg hC3 fun b hb e => (by rw [show b = g from e] at hb; have := hph.attrsRo g hb; rw [hgr] at this; cases this), hph.attrsRo, hph.inner.chg hC3 fun b hb e => (by rw [show b = g from e] at hb; have := hph.innerRole g hb; rw [hgr] at this; cases this), hph.innerRole⟩
      · exact ⟨rfl, rfl, hE1, by unfold lastText; rw [← hlast, ht]; simp⟩
    · have hl := of_decide_eq_false hl
      have hl : ¬ 0 < (innerAt m p).length := by show ¬ 0 < (nodeAt m (elAt m p)).inner.length; omega
      exact ⟨rfl, rfl, hE1, by unfold lastText; simp [hl]⟩
  · rintro ga ds wa ⟨_, rfl, hE, hlast⟩
    exact own hlast wa hE
end Go.Proofs
namespace Go.Proofs
open Go Go.Eng
theorem elAt_put (m : AM) (p q i : Nat) : elAt (putM m p q) i = elAt m i := by unfold elAt; rw [putM_elems]
def moveL (m : AM) (t : Nat) (l : List Nat) : AM := l.foldl (fun m q => putM m (elAt m t) q) m
def moveM (m : AM) (f t : Nat) : AM := moveL m t (innerAt m f)
theorem moveL_snoc (m : AM) (t : Nat) (l : List Nat) (q : Nat) : moveL m t (l ++ [q]) = putM (moveL m t l) (elAt (moveL m t l) t) q := by unfold moveL; rw [List.foldl_append]; rfl
theorem moveL_len (m : AM) (t : Nat) : ∀ l, (moveL m t l).nodes.length = m.nodes.length ∧ (moveL m t l).elems = m.elems := by
  intro l
  induction l generalizing m with
  | nil => exact ⟨rfl, rfl⟩
  | cons q l ih =>
    have := ih (putM m (elAt m t) q)
    rw [putM_len, putM_elems] at this
    exact this
theorem AOk.moveL {t : Nat} : ∀ (l : List Nat) (c : Nat) (m : AM), AOk c m → t < m.elems.length → (∀ q ∈ l, q < m.nodes.length) → AOk (c + l.length) (Go.Proofs.moveL m t l)
  | [], c, m, h, _, _ => h
  | q :: l, c, m, h, ht, hl => by
    have h1 := h.put (p := elAt m t) (q := q) (elAt_lt h ht) (hl q (by simp))
    have := AOk.moveL l (c + 1) (putM m (elAt m t) q) h1 (by rw [putM_elems]; exact ht) (fun y hy => by rw [putM_len]; exact hl y (by simp [hy]))
    have e : c + (q :: l).length = c + 1 + l.length := by simp; omega
    rw [e]; exact this
theorem c_Move {ρ : Roles} {j : Nat} {w : World} {A : Nat} {m : AM} (h : AInv ρ j w A m) {c : Nat} (hok : AOk c m) {f t : Nat} (hf : f < m.elems.length) (ht : t < m.elems.length) (hc : c + (innerAt m f).length ≤ 1000000) {K : Value → World → Prop}
    (k : ∀ ρ' w', RGrow j ρ ρ' w → Chg (ArB j ρ) w w' → AInv ρ' j w' A (moveM m f t) → K (.tuple #[]) w') : Cf Tryd.prog n_arena_Arena_Move #[.pointer (some ⟨A, 0, none⟩), .int .i64 f, .int .i64 t] w K := by
  have h := h.cut
  have k : ∀ ρ' w', RGrow j (cutR ρ w) ρ' w → Chg (ArB j (cutR ρ w)) w w' → AInv ρ' j w' A (moveM m f t) → K (.tuple #[]) w' := fun ρ' w' hr hc h => k ρ' w' hr.uncut (Chg.uncutA hc) h
  have hcut := cut_none ρ w
  generalize cutR ρ w = ρ at h k hcut
  have hA := h
  obtain ⟨nv, ev, ph, h⟩ := h
  refine L_arena_Arena_Move _ _ _ _ _ ?_
  unfold S_arena_Arena_Move
  have hm := hok.many
  have hlt := elAt_lt hok hf
  have hn := nodeAt_some hlt
  have hpp : ph[elAt m f]? = some (ph[elAt m f]'(by rw [h.len]; exact hlt)) := List.getElem?_eq_getElem (by rw [h.len]; exact hlt)
  refine c_at h (elAt_some hf) hlt fun g cap w1 hw1 hE1 hv => ⟨trivial, Vl.fa (Vl.lda (v := (ph[elAt m f]'(by rw [h.len]; exact hlt)).2) (cell_same hE1 (h.nodeCell hv hn hpp (i := 4) (by omega) rfl) id) ?_)⟩
  have hrow : Row w1 T_int 1 (ph[elAt m f]'(by rw [h.len]; exact hlt)).2 (innerAt m f).length (nats (innerAt m f)) := (h.node _ _ _ hn hpp).inner.ext hE1
  have hinl : (innerAt m f).length ≤ c := hok.inn _ _ hn
  have hinb : ∀ q ∈ innerAt m f, q < m.nodes.length := hok.inb _ _ hn
  refine c_Clone_ints hrow (one_nats _) (by omega) fun v2 w2 hr2 hE2 hnew => ?_
  have hE02 := hE1.then hE2
  have s1 := hE1.size
  have hno : ∀ b, blk v2 = some b → ρ b = none := fun b hb => hcut b (by have := hnew b hb; omega)
  unfold moveM at k
  generalize innerAt m f = l at hr2 hinl hinb k hc
  refine lenRow hr2 ⟨fun g ds w' => ∃ (i : Nat) (ρ' : Roles), g = [.int .i64 i] ∧ ds = [] ∧ i ≤ l.length ∧ RGrow j ρ ρ' w ∧ Chg (ArB j ρ) w w' ∧ AInv ρ' j w' A (moveL m t (l.take i)) ∧ Row w' T_int 1 v2 l.length (nats l) ∧ (∀ b, blk v2 = some b → ρ' b = none),
    fun g _ => (l.length - intAt g 0).toNat, ⟨0, ρ, rfl, rfl, by omega, RGrow.refl ρ j hcut, Ext.to hE02, hA.ext hE02, hr2, hno⟩, ?_⟩
  rintro g ds wa ⟨i, ρa, hg, rfl, hi, hRa, hCa, hAa, hra, hnoa⟩
  have e16 : g 16 = .int .i64 i := by injection hg
  rw [e16]
  refine Vl.lss (Cond_bool (fun hl => ?_) (fun hl => ?_))
  · have hl : i < l.length := by have := of_decide_eq_true hl; omega
    refine rdRow hra hl ?_
    have hoki : AOk (c + (l.take i).length) (moveL m t (l.take i)) := AOk.moveL _ _ _ hok ht fun q hq => hinb q (List.mem_of_mem_take hq)
    have hlen := moveL_len m t (l.take i)
    have eti : (l.take i).length = i := by simp; omega
    have hAa' := hAa
    obtain ⟨nv', ev', ph', ha⟩ := hAa'
    have hel : (moveL m t (l.take i)).elems.length = m.elems.length := by rw [hlen.2]
    obtain ⟨ea, ec, rfl, hea⟩ := ha.elems.val
    obtain ⟨ge, rfl⟩ := hea (by omega)
    have et : ((t : Int)).toNat = t := by omega
    have htl : t < (moveL m t (l.take i)).elems.length := by omega
    refine ⟨trivial, Vl.fa (Vl.ld ha.cl rfl (Vl.ix 1 (by omega) (by omega) ?_))⟩
    rw [et, Nat.mul_one, Nat.zero_add]
    refine Vl.lda (ha.elRd (Chg.refl _ _) htl).2 ?_
    refine c_put hAa hoki (by rw [eti]; omega) (elAt_lt hoki htl) (by rw [hlen.1]; exact hinb _ (List.getElem_mem hl)) fun ρb wb hRb hCb hAb => ?_
    have sa := hCa.size
    refine Vl.add ⟨⟨i + 1, ρb, rfl, rfl, by omega, hRa.trans hRb sa, ?_, ?_, hra.chg hCb fun b hb ⟨r, e, _⟩ => (by rw [hnoa b hb] at e; cases e), fun b hb => (hRb.1 b (hra.lt b hb)).trans (hnoa b hb)⟩, ?_⟩
    · refine (hCa.trans (Chg.ar hCb)).mono fun b hb e => e.elim id fun ⟨r, e, hr⟩ => ⟨r, (hRa.1 b hb).symm.trans e, hr⟩
    · rw [List.take_succ_eq_append_getElem hl, moveL_snoc]; exact hAb
    · show ((l.length : Int) - ((i : Int) + 1)).toNat < ((l.length : Int) - (i : Int)).toNat; omega
  · have : i = l.length := by have := of_decide_eq_false hl; omega
    subst this
    rw [List.take_length] at hAa
    exact Lv.nil (k ρa wa hRa hCa hAa)
end Go.Proofs
namespace Go.Proofs
open Go Go.Eng

/-! ### Trees of nodes, as they are handed out -/
inductive TN where
  | mk (name : ByteArray) (attrs : List (ByteArray × ByteArray)) (text : ByteArray) (inner : List TN)
def TN.name : TN → ByteArray | .mk n _ _ _ => n
def TN.attrs : TN → List (ByteArray × ByteArray) | .mk _ a _ _ => a
def TN.text : TN → ByteArray | .mk _ _ t _ => t
def TN.inner : TN → List TN | .mk _ _ _ i => i
def tnCell (t : TN) (p : Value × Value) : List Value := [.string t.name, p.1, .string t.text, p.2]
def tnCells : List TN → List (Value × Value) → List Value
  | t :: ts, p :: ps => tnCell t p ++ tnCells ts ps
  | _, _ => []
theorem tnCells_len : ∀ (ts : List TN) (ps : List (Value × Value)), ps.length = ts.length → (tnCells ts ps).length = ts.length * 4
  | [], [], _ => rfl
  | t :: ts, p :: ps, h => by
    have := tnCells_len ts ps (by simpa using h)
    simp only [tnCells, List.length_append, this, List.length_cons]; simp [tnCell]; omega
theorem tnCells_get : ∀ (ts : List TN) (ps : List (Value × Value)) (k i : Nat) (t : TN) (p : Value × Value), ts[k]? = some t → ps[k]? = some p → i < 4 → (tnCells ts ps)[k * 4 + i]? = (tnCell t p)[i]?
  | [], _, k, i, t, p, h, _, _ => by simp at h
  | _ :: _, [], k, i, t, p, _, h, _ => by simp at h
  | a :: ts, b :: ps, 0, i, t, p, h1, h2, hi => by
    simp at h1 h2; subst h1; subst h2
    simp only [tnCells, Nat.zero_mul, Nat.zero_add]
    rw [List.getElem?_append_left (by simp [tnCell]; omega)]
  | a :: ts, b :: ps, k + 1, i, t, p, h1, h2, hi => by
    simp only [tnCells]
    rw [List.getElem?_append_right (by simp [tnCell]; omega)]
    have e : (k + 1) * 4 + i - (tnCell a b).length = k * 4 + i := by simp [tnCell]; omega
    rw [e]
    exact tnCells_get ts ps k i t p (by simpa using h1) (by simpa using h2) hi
theorem tnCells_snoc : ∀ (ts : List TN) (ps : List (Value × Value)) (t : TN) (p : Value × Value), ps.length = ts.length → tnCells (ts ++ [t]) (ps ++ [p]) = tnCells ts ps ++ tnCell t p
  | [], [], t, p, _ => by simp [tnCells]
  | a :: ts, b :: ps, t, p, h => by
    simp only [List.cons_append, tnCells, List.append_assoc]
    rw [tnCells_snoc ts ps t p (by simpa using h)]
/-- v is a slice of nodes of type T (a struct of a name, attributes of type E, a text and nodes), and has l; all blocks of it are of Q. -/
def TV (T E : Nat) (Q : Nat → Prop) : Nat → World → Value → List TN → Prop
  | 0, _, _, _ => False
  | n + 1, w, v, l => ∃ ph : List (Value × Value), ph.length = l.length ∧ Row w T 4 v l.length (tnCells l ph) ∧ (∀ b, blk v = some b → Q b) ∧
      ∀ (k : Nat) (t : TN) (p : Value × Value), l[k]? = some t → ph[k]? = some p → Row w E 2 p.1 t.attrs.length (attrCells t.attrs) ∧ (∀ b, blk p.1 = some b → Q b) ∧ TV T E Q n w p.2 t.inner
theorem TV.chg {T E : Nat} {Q Q' X : Nat → Prop} : ∀ (n : Nat) {w w' : World} {v : Value} {l : List TN}, TV T E Q n w v l → Chg X w w' → (∀ b, Q b → b < w.heap.size → ¬ X b) → (∀ b, Q b → b < w.heap.size → Q' b) → TV T E Q' n w' v l
  | 0, _, _, _, _, h, _, _, _ => h.elim
  | n + 1, w, w', v, l, ⟨ph, h1, h2, h3, h4⟩, hC, hX, hQ => by
    refine ⟨ph, h1, h2.chg hC fun b hb => hX b (h3 b hb) (h2.lt b hb), fun b hb => hQ b (h3 b hb) (h2.lt b hb), fun k t p ht hp => ?_⟩
    obtain ⟨a1, a2, a3⟩ := h4 k t p ht hp
    exact ⟨a1.chg hC fun b hb => hX b (a2 b hb) (a1.lt b hb), fun b hb => hQ b (a2 b hb) (a1.lt b hb), TV.chg n a3 hC hX hQ⟩
theorem TV.val {T E : Nat} {Q : Nat → Prop} {n : Nat} {w : World} {v : Value} {l : List TN} (h : TV T E Q n w v l) : ∃ a c, v = .slice a l.length c := by
  cases n with
  | zero => exact h.elim
  | succ n =>
    obtain ⟨ph, _, h2, _⟩ := h
    obtain ⟨a, c, e, _⟩ := h2.val
    exact ⟨a, c, e⟩

def exportM (m : AM) : Nat → Nat → List TN
  | 0, _ => []
  | d + 1, q => (nodeAt m q).inner.map fun k => .mk (nodeAt m k).name (nodeAt m k).attrs (nodeAt m k).text (exportM m d k)
/-- Whatever stands in a node lies deeper. -/
def Ranked (m : AM) (r : Nat → Nat) : Prop := ∀ (q : Nat) (n : NodeM), m.nodes[q]? = some n → ∀ y ∈ n.inner, r y < r q
abbrev AV := TV T_api_Node T_api_Attr
theorem c_export {ρ : Roles} {j : Nat} {A : Nat} {m : AM} {c : Nat} (hok : AOk c m) (hc : c ≤ 1000000) {r : Nat → Nat} (hr : Ranked m r) : ∀ (d : Nat) {w : World} (_ : AInv ρ j w A m) {q : Nat} (_ : q < m.nodes.length) (_ : r q < d) {K : Value → World → Prop}
    (_ : ∀ v' w', AV (fun b => w.heap.size ≤ b) d w' v' (exportM m d q) → Ext w w' → K v' w'), Cf Tryd.prog n_arena_Arena_export #[.pointer (some ⟨A, 0, none⟩), .int .i64 q] w K := by
  intro d
  induction d with
  | zero => intro w _ q _ h; omega
  | succ d ih =>
  intro w hA q hq hrq K k
  have hA0 := hA
  obtain ⟨nv, ev, ph, h⟩ := hA
  refine L_arena_Arena_export _ _ _ _ ?_
  unfold S_arena_Arena_export
  have hm := hok.many
  obtain ⟨g, cap, hv, hgr, hgb⟩ := h.nv_some (by omega)
  have hn := nodeAt_some hq
  have hpp : ph[q]? = some (ph[q]'(by rw [h.len]; exact hq)) := List.getElem?_eq_getElem (by rw [h.len]; exact hq)
  have eq : ((q : Int)).toNat = q := by omega
  refine ⟨trivial, Vl.fa (Vl.ld h.cl rfl ?_)⟩
  rw [hv]
  refine Vl.ix 5 (by omega) (by omega) (Vl.fa ?_)
  rw [eq, Nat.zero_add]
  refine Vl.lda (h.nodeCell hv hn hpp (i := 4) (by omega) rfl) ?_
  have hrow := (h.node _ _ _ hn hpp).inner
  have hinl := hok.inn _ _ hn
  have hinb := hok.inb _ _ hn
  have hrank := hr _ _ hn
  have eM : exportM m (d + 1) q = (nodeAt m q).inner.map fun k => .mk (nodeAt m k).name (nodeAt m k).attrs (nodeAt m k).text (exportM m d k) := rfl
  rw [eM] at k
  generalize (ph[q]'(by rw [h.len]; exact hq)).2 = iv at hrow
  generalize (nodeAt m q).inner = l at hrow hinl hinb hrank k
  obtain ⟨F, hF⟩ : ∃ F : Nat → TN, F = fun k => .mk (nodeAt m k).name (nodeAt m k).attrs (nodeAt m k).text (exportM m d k) := ⟨_, rfl⟩
  rw [← hF] at k
  refine lenRow hrow ⟨fun gg ds w' => ∃ (i : Nat) (out : Value) (ps : List (Value × Value)), gg = [out, .int .i64 i] ∧ ds = [] ∧ i ≤ l.length ∧ Ext w w' ∧ ps.length = i ∧ Row w' T_api_Node 4 out i (tnCells ((l.take i).map F) ps) ∧ (∀ b, blk out = some b → w.heap.size ≤ b) ∧
      ∀ (k : Nat) (t : TN) (p : Value × Value), ((l.take i).map F)[k]? = some t → ps[k]? = some p → Row w' T_api_Attr 2 p.1 t.attrs.length (attrCells t.attrs) ∧ (∀ b, blk p.1 = some b → w.heap.size ≤ b ∧ blk out ≠ some b) ∧ AV (fun b => w.heap.size ≤ b ∧ blk out ≠ some b) d w' p.2 t.inner,
    fun gg _ => (l.length - intAt gg 1).toNat, ⟨0, _, [], rfl, rfl, by omega, Chg.refl _ _, rfl, Row.nil _ _ _, fun b hb => (by cases hb), fun k t p hk => by simp at hk⟩, ?_⟩
  rintro gg ds wa ⟨i, out, ps, hgg, rfl, hi, hE, hps, hro, hbo, hel⟩
  have e5 : gg 5 = out := by injection hgg
  have e18 : gg 18 = .int .i64 i := by injection hgg with _ e; injection e
  rw [e5, e18]
  refine Vl.lss (Cond_bool (fun hl => ?_) (fun hl => ?_))
  · have hl : i < l.length := by have := of_decide_eq_true hl; omega
    refine rdRow (hrow.ext hE) hl ?_
    obtain ⟨y, hy⟩ : ∃ y, y = l[i] := ⟨_, rfl⟩
    rw [← hy]
    have hym : y ∈ l := hy ▸ List.getElem_mem hl
    have hyb := hinb y hym
    have hyr := hrank y hym
    have hny := nodeAt_some hyb
    have ha := h.chg (RExt.refl _ _) hE (fun _ _ => id) (fun _ _ => id)
    have hpy : ph[y]? = some (ph[y]'(by rw [h.len]; exact hyb)) := List.getElem?_eq_getElem (by rw [h.len]; exact hyb)
    have ey : ((y : Int)).toNat = y := by omega
    refine ⟨trivial, Vl.fa (Vl.ld ha.cl rfl ?_)⟩
    rw [hv]
    refine Vl.ix 5 (by omega) (by omega) ?_
    rw [ey, Nat.zero_add]
    have hpO := ha.node _ _ _ hny hpy
    generalize ph[y]'(by rw [h.len]; exact hyb) = py at hpy hpO
    refine Vl.ldC (nodeCells (nodeAt m y) py) (fun jj v hj => ha.nodeCell hv hny hpy (by have := (List.getElem?_eq_some_iff.1 hj).1; simpa [nodeCells] using this) hj) ?_
    refine Vl.alloc (z := .agg (nodeCells ⟨⟨#[]⟩, [], ⟨#[]⟩, 0, []⟩ (.slice none 0 0, .slice none 0 0)).toArray) (by intro w; kernel_rfl) fun wb hNb => ?_
    obtain ⟨b8, hb8⟩ : ∃ b, b = wa.heap.size := ⟨_, rfl⟩
    rw [← hb8]
    have c8 : Cl wb b8 T_arena_node (nodeCells ⟨⟨#[]⟩, [], ⟨#[]⟩, 0, []⟩ (.slice none 0 0, .slice none 0 0)) := by rw [hb8]; exact hNb.new
    have o1 : One py.1 := by obtain ⟨a, c, e, _⟩ := hpO.attrs.val; rw [e]; trivial
    have o2 : One py.2 := by obtain ⟨a, c, e, _⟩ := hpO.inner.val; rw [e]; trivial
    refine Ef.setA (n := 5) c8 rfl (by simp [nodeCells]) (by intro v hv; simp [nodeCells] at hv; rcases hv with rfl | rfl | rfl | rfl | rfl <;> first | trivial | exact o1 | exact o2) fun wc huc => ?_
    have c8c : Cl wc b8 T_arena_node (nodeCells (nodeAt m y) py) := huc.cl
    have sb : wb.heap.size = wa.heap.size + 1 := hNb.size
    have sc := huc.size
    have hEc : Ext wa wc := hNb.ext.newer (S' := (· = b8)) huc.chg (fun x hx e => by omega)
    have hEd := hEc.then (dr_ext wc)
    have hsd : (dr wc).heap.size = wc.heap.size := rfl
    refine ⟨fun x => Cl x b8 T_arena_node (nodeCells (nodeAt m y) py), c8c.dr, Pv.fa (VQ.ld (fun x hx => hx.cell rfl) (Pv.fa (VQ.ld (fun x hx => hx.cell rfl) (Pv.fa (VQ.ld (fun x hx => hx.cell rfl) ?_)))))⟩
    refine c_Clone_attrs (hpO.attrs.ext hEd) (hok.att _ _ hny) fun v34 we hr34 hEe hn34 => ⟨_, fun _ h => h, c8c.dr.ext hEe, ?_⟩
    have hEae := hEd.then hEe
    have hEwe := hE.then hEae
    refine ih (hA0.ext hEwe) hyb (by omega) fun v39 wf h39 hEf => ⟨_, fun _ h => h, (c8c.dr.ext hEe).ext hEf, ?_⟩
    have hEaf := hEae.then hEf
    obtain ⟨a39, q39, e39⟩ := h39.val
    obtain ⟨a34, q34, e34, _⟩ := hr34.val
    refine Pv.i (v := .agg (tnCell (F y) (v34, v39)).toArray) (fun w => ?_) ?_
    · rw [hF, e34, e39]; kernel_rfl
    refine Vl.bs1 (E := T_api_Node) (sz := 4) (by simp [Value.cells, tnCell]) fun wg hg => ⟨_, fun _ h => h, ((c8c.dr.ext hEe).ext hEf).nw hg, ?_⟩
    have hcg : Cl wg wf.heap.size T_api_Node (tnCell (F y) (v34, v39)) := hg.new
    have hEag := hEaf.then hg.ext
    have hsa := hE.size
    have sag := hEag.size
    have hob : ∀ b, blk out = some b → b < wa.heap.size := hro.lt
    refine Vl.app (hro.ext hEag) hcg (by simp [tnCell]) ?_ (by omega) fun out' wh hrh hCh hbh => ?_
    · intro u hu
      simp [tnCell] at hu
      rcases hu with rfl | rfl | rfl | rfl
      · rfl
      · rw [e34]; rfl
      · rfl
      · rw [e39]; rfl
    have s34 : ∀ b, blk v34 = some b → wc.heap.size ≤ b ∧ b < we.heap.size := fun b hb => ⟨hn34 b hb, hr34.lt b hb⟩
    have see := hEe.size
    have sef := hEf.size
    have sfg : wg.heap.size = wf.heap.size + 1 := hg.size
    have c8g : Cl wg b8 T_arena_node (nodeCells (nodeAt m y) py) := ((c8c.dr.ext hEe).ext hEf).nw hg
    refine ⟨_, fun _ h => h, c8g.chg hCh fun e => by have := hob _ e; omega, ?_⟩
    have hEh : Ext w wh := (hE.then hEag).newer hCh fun x hx e => by have := hbo x e; omega
    have hbh' : ∀ b, blk out' = some b → blk out = some b ∨ wg.heap.size ≤ b := fun b hb => (hbh b hb).imp id fun h => h.1
    have etk : ((l.take (i + 1)).map F) = (l.take i).map F ++ [F y] := by rw [List.take_succ_eq_append_getElem hl, List.map_append, ← hy]; rfl
    have hlen : ((l.take i).map F).length = i := by simp; omega
    refine Vl.add ⟨⟨i + 1, out', ps ++ [(v34, v39)], rfl, rfl, by omega, hEh, by simp [hps], ?_, fun b hb => ?_, fun kk t p hk hp => ?_⟩, ?_⟩
    · rw [etk, tnCells_snoc _ _ _ _ (by rw [hps, hlen])]; exact hrh
    · rcases hbh' b hb with e | e
      · exact hbo b e
      · omega
    · rw [etk] at hk
      by_cases hki : kk < i
      · rw [List.getElem?_append_left (by omega)] at hk
        rw [List.getElem?_append_left (by omega)] at hp
        obtain ⟨h1, h2, h3⟩ := hel kk t p hk hp
        have hlt1 := h1.lt
        have Eag : Chg (fun b => blk out = some b) wa wh := (Ext.to hEag).then hCh
        refine ⟨h1.chg Eag fun b hb e => (h2 b hb).2 e, fun b hb => ⟨(h2 b hb).1, fun e => ?_⟩, h3.chg d Eag (fun b hb _ e => hb.2 e) fun b hb hlt => ⟨hb.1, fun e => ?_⟩⟩
        · rcases hbh' b e with e | e
          · exact (h2 b hb).2 e
          · have := hlt1 b hb; omega
        · rcases hbh' b e with e | e
          · exact hb.2 e
          · omega
      · have hkl := (List.getElem?_eq_some_iff.1 hk).1
        have : kk = i := by simp at hkl; omega
        subst this
        rw [List.getElem?_append_right (by omega), hlen, Nat.sub_self] at hk
        rw [List.getElem?_append_right (by omega), hps, Nat.sub_self] at hp
        cases hk; cases hp
        have Efh : Chg (fun b => blk out = some b) wf wh := (Ext.to hg.ext).then hCh
        have Eeh : Chg (fun b => blk out = some b) we wh := (Ext.to hEf).then Efh
        have ea : (F y).attrs = (nodeAt m y).attrs := by rw [hF]; rfl
        have ein : (F y).inner = exportM m d y := by rw [hF]; rfl
        rw [ea, ein]
        refine ⟨hr34.chg Eeh fun b hb e => ?_, fun b hb => ⟨?_, fun e => ?_⟩, h39.chg d Efh (fun b hb _ e => ?_) fun b hb hlt => ⟨?_, fun e => ?_⟩⟩
        · have := hob b e; have := (s34 b hb).1; omega
        · have := (s34 b hb).1; omega
        · rcases hbh' b e with e | e
          · have := hob b e; have := (s34 b hb).1; omega
          · have := (s34 b hb).2; omega
        · have hb : we.heap.size ≤ b := hb
          have := hob b e; omega
        · have hb : we.heap.size ≤ b := hb
          omega
        · have hb : we.heap.size ≤ b := hb
          rcases hbh' b e with e | e
          · have := hob b e; omega
          · omega
    · show ((l.length : Int) - ((i : Int) + 1)).toNat < ((l.length : Int) - (i : Int)).toNat; omega
  · have : i = l.length := by have := of_decide_eq_false hl; omega
    subst this
    rw [List.take_length] at hro hel
    have hlen : (l.map F).length = l.length := by simp
    refine Lv.nil (k out wa ⟨ps, by rw [hlen]; exact hps, by rw [hlen]; exact hro, hbo, fun kk t p hk hp => ?_⟩ hE)
    obtain ⟨h1, h2, h3⟩ := hel kk t p hk hp
    exact ⟨h1, fun b hb => (h2 b hb).1, h3.chg d (Chg.refl (fun _ => False) _) (fun _ _ _ => id) fun b hb _ => hb.1⟩
end Go.Proofs
namespace Go.Eng
open Go
/-- A slice of n elements of sz cells, looked at, wherever it stands. -/
def ViewN (sz : Nat) (w : World) (u : Value) (n : Nat) (cs : List Value) : Prop :=
  ∃ a c, u = .slice a n c ∧ cs.length = n * sz ∧ ∀ j x, cs[j]? = some x → ∃ b o, a = some ⟨b, o, none⟩ ∧ w.cell? ⟨b, o + j, none⟩ = some x
theorem ViewN.ext {sz n : Nat} {w w' : World} {u : Value} {cs : List Value} (h : ViewN sz w u n cs) (c : Ext w w') : ViewN sz w' u n cs := by
  obtain ⟨a, cp, e, h0, h⟩ := h
  exact ⟨a, cp, e, h0, fun j x hx => by obtain ⟨b, o, ha, hc⟩ := h j x hx; exact ⟨b, o, ha, cell_same c hc id⟩⟩
theorem Row.viewN {E sz n : Nat} {w : World} {v : Value} {cs : List Value} (h : Row w E sz v n cs) : ViewN sz w v n cs := by
  obtain ⟨a, c, rfl, ha⟩ := h.val
  refine ⟨a, c, rfl, h.1, fun j x hx => ?_⟩
  have hj := (List.getElem?_eq_some_iff.1 hx).1
  have h1 := h.1
  have hn : 0 < n := by
    cases n with
    | zero => rw [Nat.zero_mul] at h1; omega
    | succ n => omega
  obtain ⟨g, rfl⟩ := ha hn
  exact ⟨g, 0, rfl, by rw [Nat.zero_add]; exact h.cell hx⟩
theorem ViewN.at_ {sz n : Nat} {w : World} {a : Option Addr} {c : Nat} {cs : List Value} (h : ViewN sz w (.slice a n c) n cs) (hs : 0 < sz) {i : Nat} (hi : i < n) :
    ∃ b o, a = some ⟨b, o, none⟩ ∧ ∀ j x, j < sz → cs[i * sz + j]? = some x → w.cell? ⟨b, o + i * sz + j, none⟩ = some x := by
  obtain ⟨a', c', e, hl, h⟩ := h
  cases e
  have hlt : i * sz < cs.length := by rw [hl]; exact Nat.mul_lt_mul_of_pos_right hi hs
  obtain ⟨b, o, ha, _⟩ := h (i * sz) _ (List.getElem?_eq_getElem hlt)
  refine ⟨b, o, ha, fun j x hj hx => ?_⟩
  obtain ⟨b', o', ha', hc⟩ := h _ x hx
  rw [ha] at ha'; cases ha'
  rw [Nat.add_assoc]; exact hc
end Go.Eng
namespace Go.Proofs
open Go Go.Eng
abbrev AtV (w : World) (v : Value) (l : List (ByteArray × ByteArray)) : Prop := ViewN 2 w v l.length (attrCells l)
theorem attrCells_len (l : List (ByteArray × ByteArray)) : (attrCells l).length = l.length * 2 := by
  induction l with
  | nil => rfl
  | cons x l ih => unfold attrCells at *; simp only [List.flatMap_cons, List.length_append, ih, List.length_cons, List.length_nil]; omega
theorem attrCells_snoc (l : List (ByteArray × ByteArray)) (x : ByteArray × ByteArray) : attrCells (l ++ [x]) = attrCells l ++ [.string x.1, .string x.2] := by unfold attrCells; simp
theorem attrCells_get : ∀ (l : List (ByteArray × ByteArray)) (i j : Nat) (x : ByteArray × ByteArray), l[i]? = some x → j < 2 → (attrCells l)[i * 2 + j]? = [Value.string x.1, .string x.2][j]?
  | [], i, j, x, h, _ => by simp at h
  | y :: l, 0, j, x, h, hj => by
    simp at h; subst h
    show ([Value.string y.1, .string y.2] ++ attrCells l)[0 * 2 + j]? = _
    rw [Nat.zero_mul, Nat.zero_add, List.getElem?_append_left (by simpa using hj)]
  | y :: l, i + 1, j, x, h, hj => by
    show ([Value.string y.1, .string y.2] ++ attrCells l)[(i + 1) * 2 + j]? = _
    rw [List.getElem?_append_right (by simp; omega)]
    have e : (i + 1) * 2 + j - [Value.string y.1, .string y.2].length = i * 2 + j := by simp; omega
    rw [e]
    exact attrCells_get l i j x (by simpa using h) hj

/-- One by one, from a slice of attributes to a new one. -/
theorem conv_vc {T1 E1 T2 E2 U : Nat} {w : World} {v : Value} {l : List (ByteArray × ByteArray)} {K : Value → World → Prop} (h : AtV w v l) (hb : l.length ≤ 1000000)
    (s1 : slT Tryd.prog T1 = true) (s2 : ixB Tryd.prog T1 2 = true) (s3 : aggB Tryd.prog E1 2 = true) (s4 : ∀ w, (zeroValue E1).run Tryd.prog w = .ok (.agg #[.string ⟨#[]⟩, .string ⟨#[]⟩]) w) (s5 : szT Tryd.prog E1 2 = true) (s6 : slB Tryd.prog T2 E2 2 = true)
    (k : ∀ v' w', Row w' E2 2 v' l.length (attrCells l) → Ext w w' → (∀ b, blk v' = some b → w.heap.size ≤ b) → K v' w') :
    Vl Tryd.prog (Builtin.len_ #[T1] U #[v]) w fun v7 wa =>
    ∃ (I : List Value → List Deferred → World → Prop) (μ : List Value → World → Nat), I [(Value.slice none 0 0), (Value.int IntKind.i64 0)] [] wa ∧
    ∀ (g : Nat → Value) (ds : List Deferred) (wb : World), I [g 3, g 8] ds wb →
    (Vl Tryd.prog (binop BinOp.lss 3 (Operand.tmp 8) (Operand.tmp 7) (g 8) v7) wb fun v9 wc =>
    Cond v9
    (Vl Tryd.prog (Instr.indexAt T1 v (g 8)) wc fun v10 wd =>
    Vl Tryd.prog (Instr.loadAt E1 v10) wd fun v11 we =>
    Vl Tryd.prog (Instr.alloc E1 true (.tuple #[])) we fun v5 wf =>
    Ef Tryd.prog (Instr.storeAt E1 v5 v11) wf fun wg =>
    Vl Tryd.prog (Instr.loadAt E1 v5) wg fun v13 wh =>
    Vl Tryd.prog (Instr.buildSlice T2 1 #[(0, v13)]) wh fun v14 wi =>
    Vl Tryd.prog (Builtin.append_ #[T2, T2] T2 #[(g 3), v14]) wi fun v15 wj =>
    Vl Tryd.prog (binop BinOp.add 3 (Operand.tmp 8) (Operand.const ((Value.int IntKind.i64 1))) (g 8) (Value.int IntKind.i64 1)) wj fun v16 wk =>
    I [v15, v16] ds wk ∧ μ [v15, v16] wk < μ [g 3, g 8] wb)
    (Lv ds wc fun wl => K (g 3) wl)) := by
  have h' := h
  obtain ⟨a, c, rfl, _⟩ := h'
  have e0 : attrCells (l.take 0) = [] := by rw [List.take_zero]; rfl
  refine Vl.len ⟨fun gg ds w' => ∃ (i : Nat) (out : Value), gg = [out, .int .i64 i] ∧ ds = [] ∧ i ≤ l.length ∧ Ext w w' ∧ Row w' E2 2 out i (attrCells (l.take i)) ∧ (∀ b, blk out = some b → w.heap.size ≤ b),
    fun gg _ => ((l.length : Int) - intAt gg 1).toNat, ⟨0, .slice none 0 0, rfl, rfl, Nat.zero_le _, Chg.refl _ _, by rw [e0]; exact Row.nil _ _ _, fun b hb => (by cases hb)⟩, ?_⟩ s1
  rintro gg ds wa ⟨i, out, hgg, rfl, hi, hE, hro, hbo⟩
  have e3 : gg 3 = out := by injection hgg
  have e8 : gg 8 = .int .i64 i := (List.cons.inj (List.cons.inj hgg).2).1
  rw [e3, e8]
  refine Vl.lss (Cond_bool (fun hl => ?_) (fun hl => ?_))
  · have hl : i < l.length := by have := of_decide_eq_true hl; omega
    obtain ⟨b, o, rfl, hc⟩ := (ViewN.ext h hE).at_ (by omega) hl
    refine Vl.ix 2 (by omega) (by omega) ?_ s2
    have ei : ((i : Int)).toNat = i := by omega
    rw [ei]
    obtain ⟨x, hx⟩ : ∃ x, l[i]? = some x := ⟨_, List.getElem?_eq_getElem hl⟩
    refine Vl.ldC [.string x.1, .string x.2] (fun j u hj => hc j u (by have := (List.getElem?_eq_some_iff.1 hj).1; simpa using this) (by rw [attrCells_get l i j x hx (by have := (List.getElem?_eq_some_iff.1 hj).1; simpa using this)]; exact hj)) ?_ s3
    refine Vl.alloc (z := .agg #[.string ⟨#[]⟩, .string ⟨#[]⟩]) s4 fun wb hNb => ?_
    have c5 : Cl wb wa.heap.size E1 [.string ⟨#[]⟩, .string ⟨#[]⟩] := hNb.new
    refine Ef.setA (n := 2) c5 rfl (by simp) (by intro v hv; simp at hv; rcases hv with rfl | rfl <;> trivial) (fun wc huc => ?_) s5
    have c5c : Cl wc wa.heap.size E1 [.string x.1, .string x.2] := huc.cl
    have sb : wb.heap.size = wa.heap.size + 1 := hNb.size
    have hEc : Ext wa wc := hNb.ext.newer (S' := (· = wa.heap.size)) huc.chg (fun x hx e => by omega)
    refine Vl.ldA 2 c5c (by simp) ?_ s3
    refine Vl.bs1 (E := E2) (sz := 2) (by rfl) (fun wd hNd => ?_) (by omega) s6
    have cd : Cl wd wc.heap.size E2 [.string x.1, .string x.2] := hNd.new
    have hEd := hEc.then hNd.ext
    refine Vl.app (m := 1) (hro.ext hEd) cd rfl (by intro u hu; simp at hu; rcases hu with rfl | rfl <;> rfl) (by omega) (fun out' we hre hCe hbe => ?_) s6
    have sE := hE.size
    have sd := hEd.size
    have hEe : Ext w we := (hE.then hEd).newer hCe fun x hx e => by have := hbo x e; omega
    refine Vl.add ⟨⟨i + 1, out', rfl, rfl, by omega, hEe, ?_, fun b hb => ?_⟩, ?_⟩
    · have etk : l.take (i + 1) = l.take i ++ [x] := by rw [List.take_succ_eq_append_getElem hl, ← (List.getElem?_eq_some_iff.1 hx).2]
      rw [etk, attrCells_snoc]; exact hre
    · rcases hbe b hb with e | e
      · exact hbo b e
      · omega
    · show ((l.length : Int) - ((i : Int) + 1)).toNat < ((l.length : Int) - (i : Int)).toNat; omega
  · have : i = l.length := by have := of_decide_eq_false hl; omega
    subst this
    rw [List.take_length] at hro
    exact Lv.nil (k out wa hro hE hbo)
theorem c_AttrTo {w : World} {v : Value} {l : List (ByteArray × ByteArray)} (h : AtV w v l) (hb : l.length ≤ 1000000) {K : Value → World → Prop}
    (k : ∀ v' w', Row w' T_decanterref06_Attr 2 v' l.length (attrCells l) → Ext w w' → (∀ b, blk v' = some b → w.heap.size ≤ b) → K v' w') : Cf Tryd.prog n_decanterlaw06_To #[v] w K := by
  refine L_decanterlaw06_To _ _ _ ?_
  unfold S_decanterlaw06_To
  exact conv_vc h hb (by kernel_rfl) (by kernel_rfl) (by kernel_rfl) (by intro w; kernel_rfl) (by kernel_rfl) (by kernel_rfl) k
theorem c_AttrOf {w : World} {v : Value} {l : List (ByteArray × ByteArray)} (h : AtV w v l) (hb : l.length ≤ 1000000) {K : Value → World → Prop}
    (k : ∀ v' w', Row w' T_api_Attr 2 v' l.length (attrCells l) → Ext w w' → (∀ b, blk v' = some b → w.heap.size ≤ b) → K v' w') : Cf Tryd.prog n_decanterlaw06_Of #[v] w K := by
  refine L_decanterlaw06_Of _ _ _ ?_
  unfold S_decanterlaw06_Of
  exact conv_vc h hb (by kernel_rfl) (by kernel_rfl) (by kernel_rfl) (by intro w; kernel_rfl) (by kernel_rfl) (by kernel_rfl) k
end Go.Proofs
namespace Go.Proofs
open Go Go.Eng
abbrev RV := TV T_decanterref12_Node T_decanterref06_Attr
/-- Trees of which each node has few attributes and few nodes in it. -/
def TB : Nat → List TN → Prop
  | 0, _ => True
  | n + 1, l => l.length ≤ 1000000 ∧ ∀ t ∈ l, t.attrs.length ≤ 1000000 ∧ TB n t.inner
theorem TV.cellRow {T : Nat} {w : World} {a : Option Addr} {c : Nat} {l : List TN} {ph : List (Value × Value)} (hr : Row w T 4 (.slice a l.length c) l.length (tnCells l ph)) {i : Nat} {t : TN} {p : Value × Value} (ht : l[i]? = some t) (hp : ph[i]? = some p) :
    ∃ g, a = some ⟨g, 0, none⟩ ∧ ∀ j v, (tnCell t p)[j]? = some v → w.cell? ⟨g, 0 + i * 4 + j, none⟩ = some v := by
  obtain ⟨a', c', e, ha⟩ := hr.val
  cases e
  have hi := (List.getElem?_eq_some_iff.1 ht).1
  obtain ⟨g, rfl⟩ := ha (by omega)
  refine ⟨g, rfl, fun j v hj => ?_⟩
  have hj4 : j < 4 := by have := (List.getElem?_eq_some_iff.1 hj).1; simpa [tnCell] using this
  rw [Nat.zero_add]
  exact hr.cell (by rw [tnCells_get l ph i j t p ht hp hj4]; exact hj)
theorem c_To12 : ∀ (d : Nat) {Q : Nat → Prop} {w : World} {v : Value} {l : List TN} (_ : AV Q d w v l) (_ : TB d l) {K : Value → World → Prop}
    (_ : ∀ v' w', RV (fun b => w.heap.size ≤ b) d w' v' l → Ext w w' → K v' w'), Cf Tryd.prog n_decanterlaw12_To #[v] w K := by
  intro d
  induction d with
  | zero => intro Q w v l h; exact h.elim
  | succ d ih =>
  intro Q w v l h hB K k
  obtain ⟨a, c, rfl⟩ := h.val
  obtain ⟨ph, hph, hrow, _, hnode⟩ := h
  refine L_decanterlaw12_To _ _ _ ?_
  unfold S_decanterlaw12_To
  have hB1 := hB.1
  have e0 : tnCells (l.take 0) [] = [] := by rw [List.take_zero]; rfl
  refine Vl.len ⟨fun gg ds w' => ∃ (i : Nat) (out : Value) (ps : List (Value × Value)), gg = [out, .int .i64 i] ∧ ds = [] ∧ i ≤ l.length ∧ Ext w w' ∧ ps.length = i ∧ Row w' T_decanterref12_Node 4 out i (tnCells (l.take i) ps) ∧ (∀ b, blk out = some b → w.heap.size ≤ b) ∧
      ∀ (k : Nat) (t : TN) (p : Value × Value), (l.take i)[k]? = some t → ps[k]? = some p → Row w' T_decanterref06_Attr 2 p.1 t.attrs.length (attrCells t.attrs) ∧ (∀ b, blk p.1 = some b → w.heap.size ≤ b ∧ blk out ≠ some b) ∧ RV (fun b => w.heap.size ≤ b ∧ blk out ≠ some b) d w' p.2 t.inner,
    fun gg _ => (l.length - intAt gg 1).toNat, ⟨0, .slice none 0 0, [], rfl, rfl, Nat.zero_le _, Chg.refl _ _, rfl, by rw [e0]; exact Row.nil _ _ _, fun b hb => (by cases hb), fun k t p hk => by simp at hk⟩, ?_⟩
  rintro gg ds wa ⟨i, out, ps, hgg, rfl, hi, hE, hps, hro, hbo, hel⟩
  have e3 : gg 3 = out := (List.cons.inj hgg).1
  have e8 : gg 8 = .int .i64 i := (List.cons.inj (List.cons.inj hgg).2).1
  rw [e3, e8]
  refine Vl.lss (Cond_bool (fun hl => ?_) (fun hl => ?_))
  · have hl : i < l.length := by have := of_decide_eq_true hl; omega
    obtain ⟨t, ht⟩ : ∃ t, l[i]? = some t := ⟨_, List.getElem?_eq_getElem hl⟩
    obtain ⟨p, hp⟩ : ∃ p, ph[i]? = some p := ⟨_, List.getElem?_eq_getElem (by omega)⟩
    obtain ⟨g, rfl, hcell⟩ := TV.cellRow hrow ht hp
    obtain ⟨hra, hqa, hin⟩ := hnode i t p ht hp
    have hBt := hB.2 t (List.mem_of_getElem? ht)
    refine Vl.ix 4 (by omega) (by omega) ?_
    have ei : ((i : Int)).toNat = i := by omega
    rw [ei]
    refine Vl.ldC (tnCell t p) (fun jj v hj => cell_same hE (hcell jj v hj) id) ?_
    refine Vl.alloc (z := .agg (tnCell (.mk ⟨#[]⟩ [] ⟨#[]⟩ []) (.slice none 0 0, .slice none 0 0)).toArray) (by intro w; kernel_rfl) fun wb hNb => ?_
    have c8 : Cl wb wa.heap.size T_api_Node (tnCell (.mk ⟨#[]⟩ [] ⟨#[]⟩ []) (.slice none 0 0, .slice none 0 0)) := hNb.new
    obtain ⟨b8, hb8⟩ : ∃ b, b = wa.heap.size := ⟨_, rfl⟩
    rw [← hb8] at c8 ⊢
    obtain ⟨a1, c1, eq1, _⟩ := hra.val
    obtain ⟨a2, c2, eq2⟩ := hin.val
    have o1 : One p.1 := by rw [eq1]; trivial
    have o2 : One p.2 := by rw [eq2]; trivial
    refine Ef.setA (n := 4) c8 rfl (by simp [tnCell]) (by intro v hv; simp [tnCell] at hv; rcases hv with rfl | rfl | rfl | rfl <;> first | trivial | exact o1 | exact o2) fun wc huc => ?_
    have c8c : Cl wc b8 T_api_Node (tnCell t p) := huc.cl
    have sb : wb.heap.size = wa.heap.size + 1 := hNb.size
    have sc := huc.size
    have hEc : Ext wa wc := hNb.ext.newer (S' := (· = b8)) huc.chg (fun x hx e => by omega)
    have hEd := hEc.then (dr_ext wc)
    have hsd : (dr wc).heap.size = wc.heap.size := rfl
    have hEwd := hE.then hEd
    refine ⟨fun x => Cl x b8 T_api_Node (tnCell t p), c8c.dr, Pv.fa (VQ.ld (fun x hx => hx.cell rfl) (Pv.fa (VQ.ld (fun x hx => hx.cell rfl) (Pv.fa (VQ.ld (fun x hx => hx.cell rfl) (Pv.fa (VQ.ld (fun x hx => hx.cell rfl) ?_)))))))⟩
    refine c_AttrTo (Row.viewN (hra.ext hEwd)) hBt.1 fun v34 we hr34 hEe hn34 => ⟨_, fun _ h => h, c8c.dr.ext hEe, ?_⟩
    have hEae := hEd.then hEe
    have hEwe := hE.then hEae
    refine ih (hin.chg d hEwe (fun _ _ _ => id) fun b hb _ => hb) hBt.2 fun v39 wf h39 hEf => ⟨_, fun _ h => h, (c8c.dr.ext hEe).ext hEf, ?_⟩
    have hEaf := hEae.then hEf
    obtain ⟨a39, q39, e39⟩ := h39.val
    obtain ⟨a34, q34, e34, _⟩ := hr34.val
    refine Pv.i (v := .agg (tnCell t (v34, v39)).toArray) (fun w => ?_) ?_
    · rw [e34, e39]; kernel_rfl
    refine Vl.bs1 (E := T_decanterref12_Node) (sz := 4) (by simp [Value.cells, tnCell]) fun wg hg => ⟨_, fun _ h => h, ((c8c.dr.ext hEe).ext hEf).nw hg, ?_⟩
    have hcg : Cl wg wf.heap.size T_decanterref12_Node (tnCell t (v34, v39)) := hg.new
    have hEag := hEaf.then hg.ext
    have hsa := hE.size
    have sag := hEag.size
    have hob : ∀ b, blk out = some b → b < wa.heap.size := hro.lt
    refine Vl.app (hro.ext hEag) hcg (by simp [tnCell]) ?_ (by omega) fun out' wh hrh hCh hbh => ?_
    · intro u hu
      simp [tnCell] at hu
      rcases hu with rfl | rfl | rfl | rfl
      · rfl
      · rw [e34]; rfl
      · rfl
      · rw [e39]; rfl
    have s34 : ∀ b, blk v34 = some b → wc.heap.size ≤ b ∧ b < we.heap.size := fun b hb => ⟨hn34 b hb, hr34.lt b hb⟩
    have see := hEe.size
    have sef := hEf.size
    have sfg : wg.heap.size = wf.heap.size + 1 := hg.size
    have c8g : Cl wg b8 T_api_Node (tnCell t p) := ((c8c.dr.ext hEe).ext hEf).nw hg
    refine ⟨_, fun _ h => h, c8g.chg hCh fun e => by have := hob _ e; omega, ?_⟩
    have hEh : Ext w wh := (hE.then hEag).newer hCh fun x hx e => by have := hbo x e; omega
    have hbh' : ∀ b, blk out' = some b → blk out = some b ∨ wg.heap.size ≤ b := fun b hb => (hbh b hb).imp id fun h => h.1
    have etk : l.take (i + 1) = l.take i ++ [t] := by rw [List.take_succ_eq_append_getElem hl, ← (List.getElem?_eq_some_iff.1 ht).2]
    have hlen : (l.take i).length = i := by simp; omega
    refine Vl.add ⟨⟨i + 1, out', ps ++ [(v34, v39)], rfl, rfl, by omega, hEh, by simp [hps], ?_, fun b hb => ?_, fun kk t' p' hk hp' => ?_⟩, ?_⟩
    · rw [etk, tnCells_snoc _ _ _ _ (by rw [hps, hlen])]; exact hrh
    · rcases hbh' b hb with e | e
      · exact hbo b e
      · omega
    · rw [etk] at hk
      by_cases hki : kk < i
      · rw [List.getElem?_append_left (by omega)] at hk
        rw [List.getElem?_append_left (by omega)] at hp'
        obtain ⟨h1, h2, h3⟩ := hel kk t' p' hk hp'
        have hlt1 := h1.lt
        have Eag : Chg (fun b => blk out = some b) wa wh := (Ext.to hEag).then hCh
        refine ⟨h1.chg Eag fun b hb e => (h2 b hb).2 e, fun b hb => ⟨(h2 b hb).1, fun e => ?_⟩, h3.chg d Eag (fun b hb _ e => hb.2 e) fun b hb hlt => ⟨hb.1, fun e => ?_⟩⟩
        · rcases hbh' b e with e | e
          · exact (h2 b hb).2 e
          · have := hlt1 b hb; omega
        · rcases hbh' b e with e | e
          · exact hb.2 e
          · omega
      · have hkl := (List.getElem?_eq_some_iff.1 hk).1
        have : kk = i := by simp at hkl; omega
        subst this
        rw [List.getElem?_append_right (by omega), hlen, Nat.sub_self] at hk
        rw [List.getElem?_append_right (by omega), hps, Nat.sub_self] at hp'
        cases hk; cases hp'
        have Efh : Chg (fun b => blk out = some b) wf wh := (Ext.to hg.ext).then hCh
        have Eeh : Chg (fun b => blk out = some b) we wh := (Ext.to hEf).then Efh
        refine ⟨hr34.chg Eeh fun b hb e => ?_, fun b hb => ⟨?_, fun e => ?_⟩, h39.chg d Efh (fun b hb _ e => ?_) fun b hb hlt => ⟨?_, fun e => ?_⟩⟩
        · have := hob b e; have := (s34 b hb).1; omega
        · have := (s34 b hb).1; omega
        · rcases hbh' b e with e | e
          · have := hob b e; have := (s34 b hb).1; omega
          · have := (s34 b hb).2; omega
        · have hb : we.heap.size ≤ b := hb
          have := hob b e; omega
        · have hb : we.heap.size ≤ b := hb
          omega
        · have hb : we.heap.size ≤ b := hb
          rcases hbh' b e with e | e
          · have := hob b e; omega
          · omega
    · show ((l.length : Int) - ((i : Int) + 1)).toNat < ((l.length : Int) - (i : Int)).toNat; omega
  · have : i = l.length := by have := of_decide_eq_false hl; omega
    subst this
    rw [List.take_length] at hro hel
    refine Lv.nil (k out wa ⟨ps, hps, hro, hbo, fun kk t p hk hp => ?_⟩ hE)
    obtain ⟨h1, h2, h3⟩ := hel kk t p hk hp
    exact ⟨h1, fun b hb => (h2 b hb).1, h3.chg d (Chg.refl (fun _ => False) _) (fun _ _ _ => id) fun b hb _ => hb.1⟩
end Go.Proofs
