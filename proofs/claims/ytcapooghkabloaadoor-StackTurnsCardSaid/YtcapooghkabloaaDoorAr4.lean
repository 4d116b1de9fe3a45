/- Part of the proof of a law of this seat: facts that it uses, each proved here. No conditions. -/
import Derived.Test.YtcapooghkabloaaDoorAr3
import Derived.Test.YtcapooghkabloaaDoorSl3
namespace Go.Proofs
open Go Go.Eng

def strs (l : List ByteArray) : List Value := l.map Value.string
/-- A slice of strings. -/
def Strs (w : World) (v : Value) (l : List ByteArray) : Prop :=
  ∃ a c, v = .slice a l.length c ∧ l.length ≤ c ∧ ∀ i (h : i < l.length), ∃ b o, a = some ⟨b, o, none⟩ ∧ w.cell? ⟨b, o + i, none⟩ = some (.string l[i])
theorem Strs.val {w : World} {v : Value} {l : List ByteArray} (h : Strs w v l) : ∃ a c, v = .slice a l.length c := by
  obtain ⟨a, c, h, _⟩ := h; exact ⟨a, c, h⟩
theorem Strs.at_ {w : World} {a : Option Addr} {c : Nat} {l : List ByteArray} (h : Strs w (.slice a l.length c) l) {i : Nat} (hi : i < l.length) : ∃ b o, a = some ⟨b, o, none⟩ ∧ w.cell? ⟨b, o + i, none⟩ = some (.string l[i]) := by
  obtain ⟨a', c', e, _, h⟩ := h
  cases e
  exact h i hi
theorem Strs.chg {w w' : World} {S : Nat → Prop} {v : Value} {l : List ByteArray} (h : Strs w v l) (c : Chg S w w') (hn : ∀ k, blk v = some k → ¬ S k) : Strs w' v l := by
  obtain ⟨a, cc, rfl, hle, h⟩ := h
  refine ⟨a, cc, rfl, hle, fun i hi => ?_⟩
  obtain ⟨b, o, rfl, hc⟩ := h i hi
  refine ⟨b, o, rfl, ?_⟩
  have hb : ¬ S b := hn b (blk_some (by omega))
  have hlt : b < w.heap.size := by
    cases hx : w.heap[b]? with
    | none => unfold World.cell? at hc; simp only [hx] at hc; cases hc
    | some ob => exact (Array.getElem?_eq_some_iff.1 hx).1
  have := c.same b hlt hb
  unfold World.cell? at hc ⊢
  simp only [this]; exact hc
theorem Strs.ext {w w' : World} {v : Value} {l : List ByteArray} (h : Strs w v l) (c : Ext w w') : Strs w' v l := h.chg c fun _ _ => id
theorem Strs.of_row {w : World} {v : Value} {l : List ByteArray} (h : Row w T_string 1 v l.length (strs l)) : Strs w v l := by
  obtain ⟨a, c, rfl, ha⟩ := h.val
  refine ⟨a, c, rfl, h.le, fun i hi => ?_⟩
  obtain ⟨g, rfl⟩ := ha (by omega)
  exact ⟨g, 0, rfl, by rw [Nat.zero_add]; exact h.cell (by unfold strs; simp [hi])⟩

/-- slices.Index of strings -/
def idx {α : Type} [DecidableEq α] (a : α) : List α → Nat → Int
  | [], _ => -1
  | x :: l, k => if a = x then k else idx a l (k + 1)
theorem idx_drop {α : Type} [DecidableEq α] (a : α) (l : List α) (k : Nat) (h : k < l.length) (b : Nat) : idx a (l.drop k) b = if a = l[k] then (b : Int) else idx a (l.drop (k + 1)) (b + 1) := by
  rw [List.drop_eq_getElem_cons h]; rfl
theorem c_Index_strs {w : World} {v : Value} {l : List ByteArray} (h : Strs w v l) (hb : l.length ≤ 1000000) {a : ByteArray} {K : Value → World → Prop} (k : K (.int .i64 (idx a l 0)) w) :
    Cf Tryd.prog n_slices_Index_strs #[v, .string a] w K := by
  refine L_slices_Index_strs _ _ _ _ ?_
  unfold S_slices_Index_strs
  obtain ⟨b, c, rfl⟩ := h.val
  refine Vl.len ⟨fun g ds w' => ∃ i : Nat, g = [.int .i64 i] ∧ ds = [] ∧ w' = w ∧ i ≤ l.length ∧ idx a l 0 = idx a (l.drop i) i, fun g _ => (l.length - intAt g 0).toNat, ⟨0, rfl, rfl, rfl, by omega, by simp⟩, ?_⟩
  rintro g ds _ ⟨i, hg, rfl, rfl, hi, hx⟩
  have e8 : g 8 = .int .i64 i := by injection hg
  rw [e8]
  refine Vl.lss (Cond_bool (fun h0 => ?_) (fun h0 => ?_))
  · have hlt : i < l.length := by have := of_decide_eq_true h0; omega
    obtain ⟨gb, go, rfl, hcell⟩ := h.at_ hlt
    refine Vl.ix 1 (by omega) (by omega) (Vl.lda (v := .string l[i]) (by simpa using hcell) (Vl.seql (Cond_bool (fun h1 => ?_) (fun h1 => ?_))))
    · have h1 := of_decide_eq_true h1
      rw [idx_drop a l i hlt, if_pos h1] at hx
      rw [hx] at k
      exact Lv.nil k
    · have h1 := of_decide_eq_false h1
      rw [idx_drop a l i hlt, if_neg h1] at hx
      refine Vl.add ⟨⟨i + 1, rfl, rfl, rfl, by omega, hx⟩, ?_⟩
      show ((l.length : Int) - ((i : Int) + 1)).toNat < ((l.length : Int) - (i : Int)).toNat; omega
  · have : i = l.length := by have := of_decide_eq_false h0; omega
    subst this
    rw [List.drop_length] at hx
    rw [hx] at k
    exact Lv.nil k
theorem idx_mem {α : Type} [DecidableEq α] (a : α) : ∀ (l : List α) (k : Nat), (0 : Int) ≤ idx a l k ↔ a ∈ l
  | [], k => by simp [idx]
  | x :: l, k => by
    unfold idx
    split
    · rename_i h; simp [h]
    · rename_i h
      rw [idx_mem a l (k + 1)]; simp [h]
def among (l : List ByteArray) (a : ByteArray) : Bool := l.any fun x => decide (a = x)
theorem among_iff (l : List ByteArray) (a : ByteArray) : among l a = true ↔ a ∈ l := by
  unfold among; simp
theorem idx_among (l : List ByteArray) (a : ByteArray) (k : Nat) : decide ((0 : Int) ≤ idx a l k) = among l a := by
  rw [Bool.eq_iff_iff, among_iff, decide_eq_true_iff]; exact idx_mem a l k
theorem c_Contains_strs {w : World} {v : Value} {l : List ByteArray} (h : Strs w v l) (hb : l.length ≤ 1000000) {a : ByteArray} {K : Value → World → Prop} (k : K (.bool (among l a)) w) :
    Cf Tryd.prog n_slices_Contains_strs #[v, .string a] w K := by
  refine L_slices_Contains_strs _ _ _ _ ?_
  unfold S_slices_Contains_strs
  refine c_Index_strs h hb (Vl.geq ?_)
  rwa [idx_among l a 0]
theorem c_Index_ints {w : World} {v : Value} {l : List Nat} (h : Row w T_int 1 v l.length (nats l)) (hb : l.length ≤ 1000000) {a : Nat} {K : Value → World → Prop} (k : K (.int .i64 (idx a l 0)) w) :
    Cf Tryd.prog n_slices_Index_ints #[v, .int .i64 a] w K := by
  refine L_slices_Index_ints _ _ _ _ ?_
  unfold S_slices_Index_ints
  obtain ⟨b, c, rfl, hbs⟩ := h.val
  refine Vl.len ⟨fun g ds w' => ∃ i : Nat, g = [.int .i64 i] ∧ ds = [] ∧ w' = w ∧ i ≤ l.length ∧ idx a l 0 = idx a (l.drop i) i, fun g _ => (l.length - intAt g 0).toNat, ⟨0, rfl, rfl, rfl, by omega, by simp⟩, ?_⟩
  rintro g ds _ ⟨i, hg, rfl, rfl, hi, hx⟩
  have e8 : g 8 = .int .i64 i := by injection hg
  rw [e8]
  refine Vl.lss (Cond_bool (fun h0 => ?_) (fun h0 => ?_))
  · have hlt : i < l.length := by have := of_decide_eq_true h0; omega
    obtain ⟨gb, rfl⟩ := hbs (by omega)
    refine Vl.ix 1 (by omega) (by omega) (Vl.lda (v := .int .i64 (l[i] : Nat)) ?_ (Vl.eql (Cond_bool (fun h1 => ?_) (fun h1 => ?_))))
    · refine h.cell ?_
      unfold nats; simp [hlt]
    · have h1 : a = l[i] := by have := of_decide_eq_true h1; omega
      rw [idx_drop a l i hlt, if_pos h1] at hx
      rw [hx] at k
      exact Lv.nil k
    · have h1 : ¬ a = l[i] := by have := of_decide_eq_false h1; omega
      rw [idx_drop a l i hlt, if_neg h1] at hx
      refine Vl.add ⟨⟨i + 1, rfl, rfl, rfl, by omega, hx⟩, ?_⟩
      show ((l.length : Int) - ((i : Int) + 1)).toNat < ((l.length : Int) - (i : Int)).toNat; omega
  · have : i = l.length := by have := of_decide_eq_false h0; omega
    subst this
    rw [List.drop_length] at hx
    rw [hx] at k
    exact Lv.nil k

/-- slices.Backward -/
def backs (l : List Nat) : List (Array Value) := (List.range l.length).map fun k => #[.int .i64 ((l.length - 1 - k : Nat) : Int), .int .i64 (l.getD (l.length - 1 - k) 0 : Nat)]
theorem backs_len (l : List Nat) : (backs l).length = l.length := by unfold backs; simp
theorem backs_get (l : List Nat) (k : Nat) (h : k < (backs l).length) : (backs l)[k] = #[.int .i64 ((l.length - 1 - k : Nat) : Int), .int .i64 (l.getD (l.length - 1 - k) 0 : Nat)] := by unfold backs; simp
theorem iter_Backward {bx : Nat} {ov : Value} {l : List Nat} (hb : l.length ≤ 1000000) :
    Iter Tryd.prog n_slices_Backward_ints_1 #[.pointer (some ⟨bx, 0, none⟩)] (backs l) (fun w => Cl w bx T_sl_int [ov] ∧ Row w T_int 1 ov l.length (nats l)) := by
  intro lp J Jx w h0 hpre hY
  refine CallF.enter (by intro a w; kernel_rfl) (L_slices_Backward_ints_1 _ _ _ _ ?_)
  unfold S_slices_Backward_ints_1
  obtain ⟨hc0, hr0⟩ := hpre _ _ h0
  obtain ⟨b, c, rfl, hbs⟩ := hr0.val
  refine Vl.ld hc0 rfl (Vl.len (Vl.sub ⟨fun a ds w => ∃ k : Nat, a = [.int .i64 ((l.length : Int) - 1 - k)] ∧ ds = [] ∧ k ≤ l.length ∧ J k w, fun a _ => (intAt a 0 + 1).toNat, ⟨0, by simp, rfl, by omega, h0⟩, ?_⟩))
  rintro g ds wa ⟨k, hg, rfl, hk, hJ⟩
  have e3 : g 3 = .int .i64 ((l.length : Int) - 1 - k) := by injection hg
  rw [e3]
  refine Vl.geq (Cond_bool (fun h => ?_) (fun h => ?_))
  · have hlt : k < l.length := by have := of_decide_eq_true h; omega
    obtain ⟨hc, hr⟩ := hpre _ _ hJ
    obtain ⟨gb, rfl⟩ := hbs (by omega)
    have en : ((l.length : Int) - 1 - k).toNat = l.length - 1 - k := by omega
    refine Vl.ld hc rfl (Vl.ix 1 (by omega) (by omega) ?_)
    rw [en]
    have hv : (nats l)[l.length - 1 - k]? = some (.int .i64 (l.getD (l.length - 1 - k) 0 : Nat)) := by
      unfold nats
      have : l.length - 1 - k < l.length := by omega
      simp [this]
    refine Vl.lda (v := .int .i64 (l.getD (l.length - 1 - k) 0 : Nat)) (by simpa using hr.cell hv) ?_
    refine Cv.yield ?_
    have hy := hY k (by rw [backs_len]; exact hlt) wa hJ
    rw [backs_get] at hy
    have en2 : ((l.length - 1 - k : Nat) : Int) = (l.length : Int) - 1 - k := by omega
    rw [en2] at hy
    refine YieldC.mono hy ?_
    rintro v w' (⟨rfl, hJ'⟩ | ⟨rfl, hx⟩)
    · refine Vl.not (Cond_bool (fun h => by cases h) fun _ => ?_)
      refine Vl.sub ⟨⟨k + 1, by congr 2; omega, rfl, by omega, hJ'⟩, ?_⟩
      show ((l.length : Int) - 1 - k - 1 + 1).toNat < ((l.length : Int) - 1 - k + 1).toNat; omega
    · exact Vl.not (Cond_bool (fun _ => Lv.nil (.inr hx)) fun h => by cases h)
  · have : k = l.length := by have := of_decide_eq_false h; omega
    subst this
    refine Lv.nil (.inl ?_)
    rw [backs_len]; exact hJ
theorem c_Backward {w : World} {v : Value} (h1 : One v) {K : Value → World → Prop} (k : ∀ w', Nw w w' (.cells [v].toArray T_sl_int) → K (.func (.func n_slices_Backward_ints_1) #[] #[.pointer (some ⟨w.heap.size, 0, none⟩)]) w') :
    Cf Tryd.prog n_slices_Backward_ints #[v] w K := by
  refine L_slices_Backward_ints _ _ _ ?_
  unfold S_slices_Backward_ints
  refine Vl.box1 h1 fun w1 hw => ?_
  refine Vl.i (w' := w1) (by kernel_rfl) (k w1 hw)
end Go.Proofs
