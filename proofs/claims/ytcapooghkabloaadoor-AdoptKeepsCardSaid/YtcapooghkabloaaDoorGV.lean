/- Part of the proof of a law of this seat: facts that it uses, each proved here. No conditions. -/
import Derived.Test.YtcapooghkabloaaDoorGL
import Derived.Test.YtcapooghkabloaaDoorGD
namespace Go.Eng
open Go

theorem cell_same {S : Nat → Prop} {w w' : World} (c : Chg S w w') {b i : Nat} {v : Value} (h : w.cell? ⟨b, i, none⟩ = some v) (hn : ¬ S b) : w'.cell? ⟨b, i, none⟩ = some v := by
  have hb : b < w.heap.size := by
    unfold World.cell? at h
    cases hx : w.heap[(⟨b, i, none⟩ : Addr).block]? with
    | none => simp only [hx] at h; cases h
    | some o => exact (Array.getElem?_eq_some_iff.1 hx).1
  unfold World.cell? at h ⊢
  rw [show w'.heap[(⟨b, i, none⟩ : Addr).block]? = w.heap[(⟨b, i, none⟩ : Addr).block]? from c.same b hb hn]
  exact h

/-- A slice that is looked at: its cells, wherever they stand. -/
def View (w : World) (u : Value) (news : List Value) : Prop :=
  ∃ a c, u = .slice a news.length c ∧ (a = none → c = 0) ∧ ∀ j x, news[j]? = some x → ∃ b o, a = some ⟨b, o, none⟩ ∧ w.cell? ⟨b, o + j, none⟩ = some x
theorem View.ext {w w' : World} {u : Value} {news : List Value} (h : View w u news) (c : Ext w w') : View w' u news := by
  obtain ⟨a, cp, e, h0, h⟩ := h
  exact ⟨a, cp, e, h0, fun j x hx => by obtain ⟨b, o, ha, hc⟩ := h j x hx; exact ⟨b, o, ha, cell_same c hc id⟩⟩

section
variable {P : Program} {w : World} {K : Value → World → Prop} {T E : Nat}
theorem Vl.appView {ty n : Nat} {v u : Value} {cs news : List Value} (hT : slB P T E 1 = true) (h : Row w E 1 v n cs) (hn : View w u news) (h1 : ∀ x ∈ news, x.oneCell' = true) (hb : n + news.length ≤ 100000000)
    (k : ∀ v' w', Row w' E 1 v' (n + news.length) (cs ++ news) → Chg (fun k => blk v = some k) w w' → (∀ k, blk v' = some k → blk v = some k ∨ (w.heap.size ≤ k ∧ k < w'.heap.size)) → K v' w') :
    Vl P (Builtin.append_ #[T, T] ty #[v, u]) w K := by
  obtain ⟨a, c, rfl, h0, hc⟩ := hn
  obtain ⟨by_, i, z, hs, hb1, hb2⟩ := SlT.of hT
  cases a with
  | none =>
    have hz : news = [] := by
      cases news with
      | nil => rfl
      | cons x l => obtain ⟨b, o, e, _⟩ := hc 0 x rfl; cases e
    subst hz
    rw [h0 rfl]
    exact Vl.i (run_append_none h hT) (k v w (by simpa using h) (Chg.refl _ _) (fun x hx => .inl hx))
  | some ad =>
    refine Vl.append hs h (by simp) (fun j x hx => ?_) h1 ?_ hb2 fun v' w' a b c _ => k v' w' a b c
    · obtain ⟨b, o, e, hcell⟩ := hc j x hx
      cases e
      rw [add_off]; exact hcell
    · calc (n + news.length) * by_ ≤ 100000000 * 1000 := Nat.mul_le_mul hb hb1
        _ ≤ 140737488355328 := by omega

theorem Row.viewTake {v : Value} {a : Option Addr} {c n at_ : Nat} {cs : List Value} (h : Row w E 1 v n cs) (hv : v = .slice a n c) (hat : at_ ≤ n) : View w (.slice a at_ c) (cs.take at_) := by
  have hl := h.1
  rcases h.2 with ⟨a', e, rfl⟩ | ⟨g, cap, full, e, hcl, h1, h2, h3, h4, h5⟩
  · rw [e] at hv; cases hv
    have : at_ = 0 := by omega
    subst this
    exact ⟨a, 0, by simp, fun _ => rfl, fun j x hx => by simp at hx⟩
  · rw [hv] at e; cases e
    have el : (cs.take at_).length = at_ := by simp; omega
    refine ⟨_, _, by rw [el], fun e => (by cases e), fun j x hx => ⟨g, 0, rfl, ?_⟩⟩
    rw [Nat.zero_add]
    rw [List.getElem?_take] at hx
    split at hx
    · exact (hv ▸ h).cell hx
    · cases hx
theorem Row.viewDrop {v : Value} {a : Option Addr} {c n at_ : Nat} {cs : List Value} (h : Row w E 1 v n cs) (hv : v = .slice a n c) (hat : at_ ≤ n) : View w (.slice (if c = at_ then a else a.map (·.add (at_ * 1))) (n - at_) (c - at_)) (cs.drop at_) := by
  have hl := h.1
  rcases h.2 with ⟨a', e, rfl⟩ | ⟨g, cap, full, e, hcl, h1, h2, h3, h4, h5⟩
  · rw [e] at hv; cases hv
    have : at_ = 0 := by omega
    subst this
    have : cs = [] := List.eq_nil_of_length_eq_zero (by simpa using hl)
    subst this
    exact ⟨_, 0, rfl, fun _ => rfl, fun j x hx => by simp at hx⟩
  · rw [hv] at e; cases e
    refine ⟨_, _, by rw [List.length_drop]; congr 1; omega, fun e => ?_, fun j x hx => ⟨g, at_, ?_, ?_⟩⟩
    · split at e
      · cases e
      · cases e
    · have hj := (List.getElem?_eq_some_iff.1 hx).1
      rw [List.length_drop] at hj
      rw [if_neg (by omega)]
      show some ((⟨g, 0, none⟩ : Addr).add (at_ * 1)) = _
      rw [add_off]; congr 2; omega
    · rw [List.getElem?_drop] at hx
      exact (hv ▸ h).cell hx
end
end Go.Eng
namespace Go.Proofs
open Go Go.Eng

/-- A variable that holds a slice of its own. -/
structure VPh (ρ : Roles) (q : Nat) (w : World) (b T E : Nat) (cs : List Value) (v : Value) : Prop where
  cl : Cl w b T [v]
  role : ρ b = some (q, .stk)
  row : Row w E 1 v cs.length cs
  rowRole : ∀ k, blk v = some k → ρ k = some (q, .opn)
def VInv (ρ : Roles) (q : Nat) (w : World) (b T E : Nat) (cs : List Value) : Prop := ∃ v, VPh ρ q w b T E cs v
theorem VPh.chg {ρ ρ' : Roles} {q : Nat} {w w' : World} {b T E : Nat} {cs : List Value} {v : Value} {X : Nat → Prop} (h : VPh ρ q w b T E cs v) (hr : RExt ρ ρ' w) (c : Chg X w w') (h2 : ∀ b, StB q ρ b → ¬ X b) : VPh ρ' q w' b T E cs v :=
  ⟨h.cl.chg c (h2 b (.inl h.role)), (hr b h.cl.lt).trans h.role, h.row.chg c fun k hk => h2 k (.inr (h.rowRole k hk)), fun k hk => (hr k (h.row.lt k hk)).trans (h.rowRole k hk)⟩
theorem VInv.chg {ρ ρ' : Roles} {q : Nat} {w w' : World} {b T E : Nat} {cs : List Value} {X : Nat → Prop} (h : VInv ρ q w b T E cs) (hr : RExt ρ ρ' w) (c : Chg X w w') (h2 : ∀ b, StB q ρ b → ¬ X b) : VInv ρ' q w' b T E cs := by
  obtain ⟨v, h⟩ := h
  exact ⟨v, h.chg hr c h2⟩
theorem VInv.ext {ρ : Roles} {q : Nat} {w w' : World} {b T E : Nat} {cs : List Value} (h : VInv ρ q w b T E cs) (c : Ext w w') : VInv ρ q w' b T E cs := h.chg (RExt.refl _ _) c fun _ _ => id
/-- Another slice is put into the variable. -/
theorem VInv.put {ρ : Roles} {q : Nat} {w w1 w' : World} {b T E : Nat} {cs' : List Value} {v' : Value} (hb : ρ b = some (q, .stk)) (hlt : b < w.heap.size) (hr : Row w1 E 1 v' cs'.length cs')
    (hbk : ∀ k, blk v' = some k → ρ k = some (q, .opn) ∨ w.heap.size ≤ k) (hu : Upd w1 w' b T [v']) : VInv (grow ρ w v' (q, .opn)) q w' b T E cs' := by
  refine ⟨v', hu.cl, (grow_ext _ _ _ _ b hlt).trans hb, hr.chg hu.chg fun k hk e => ?_, fun k hk => grow_role hk fun hl => ?_⟩
  · have e : k = b := e
    rcases hbk k hk with h | h
    · rw [e, hb] at h; cases h
    · omega
  · rcases hbk k hk with h | h
    · exact h
    · omega
theorem VInv.take {ρ : Roles} {q : Nat} {w1 w' : World} {b T E : Nat} {cs : List Value} {a : Option Addr} {c n : Nat} (h : VPh ρ q w1 b T E cs (.slice a cs.length c)) (hn : n ≤ cs.length) (hu : Upd w1 w' b T [.slice a n c]) : VInv ρ q w' b T E (cs.take n) := by
  have hbk : blk (.slice a n c) = blk (.slice a cs.length c) := blk_take
  refine ⟨_, hu.cl, h.role, ?_, fun k hk => h.rowRole k (hbk ▸ hk)⟩
  have e3 : (cs.take n).length = n := by simp; omega
  have := (h.row.take hn rfl).chg hu.chg fun k hk e => by
    have e : k = b := e
    have := h.rowRole k (hbk ▸ hk)
    rw [e, h.role] at this; cases this
  rw [Nat.mul_one] at this
  rw [e3]; exact this
end Go.Proofs
namespace Go.Proofs
open Go Go.Eng
abbrev OV (ρ : Roles) (w : World) (b : Nat) (xs : List Nat) : Prop := VInv ρ 1 w b T_sl_int T_int (nats xs)
abbrev NV (ρ : Roles) (w : World) (b : Nat) (l : List ByteArray) : Prop := VInv ρ 2 w b T_sl_string T_string (strs l)
theorem nats_len (xs : List Nat) : (nats xs).length = xs.length := by unfold nats; simp
theorem strs_len (l : List ByteArray) : (strs l).length = l.length := by unfold strs; simp
theorem nats_take (xs : List Nat) (n : Nat) : nats (xs.take n) = (nats xs).take n := by unfold nats; simp
theorem strs_take (l : List ByteArray) (n : Nat) : strs (l.take n) = (strs l).take n := by unfold strs; simp

theorem c_cut {ρ : Roles} {w : World} {b5 b6 n : Nat} {xs : List Nat} {l : List ByteArray} (h5 : OV ρ w b5 xs) (h6 : NV ρ w b6 l) (hl : l.length = xs.length) (hn : n ≤ xs.length) {K : Value → World → Prop}
    (k : ∀ w', Chg (fun b => b = b5 ∨ b = b6) w w' → OV ρ w' b5 (xs.take n) → NV ρ w' b6 (l.take n) → K (.tuple #[]) w') :
    Cf Tryd.prog n_decanterlaw13_StackActs_1 #[.int .i64 n, .pointer (some ⟨b5, 0, none⟩), .pointer (some ⟨b6, 0, none⟩)] w K := by
  refine L_decanterlaw13_StackActs_1 _ _ _ _ _ ?_
  unfold S_decanterlaw13_StackActs_1
  obtain ⟨v5, h5⟩ := h5
  obtain ⟨v6, h6⟩ := h6
  have e5 := nats_len xs
  have e6 := strs_len l
  obtain ⟨a5, c5, rfl, _⟩ := h5.row.val
  obtain ⟨a6, c6, rfl, _⟩ := h6.row.val
  have hne : b5 ≠ b6 := fun e => by
    have := h5.role
    rw [e, h6.role] at this; cases this
  have n56 : ∀ b, StB 2 ρ b → b ≠ b5 := fun b hb e => by
    rw [e] at hb
    rcases hb with h | h <;> · rw [h5.role] at h; cases h
  have n65 : ∀ b, StB 1 ρ b → b ≠ b6 := fun b hb e => by
    rw [e] at hb
    rcases hb with h | h <;> · rw [h6.role] at h; cases h
  have fin : ∀ {w1 w2 : World}, Ext w (dr w) → Upd (dr w) w1 b5 T_sl_int [.slice a5 n c5] → Upd w1 w2 b6 T_sl_string [.slice a6 n c6] → K (.tuple #[]) w2 := fun {w1 w2} hE u1 u2 => by
    refine k w2 ((hE.to.then (u1.chg.mono fun b _ e => .inl e)).then (u2.chg.mono fun b _ e => .inr e)) ?_ ?_
    · have := VInv.take (h5.chg (RExt.refl _ _) hE fun _ _ => id) (n := n) (by rw [e5]; exact hn) (by rw [e5] at *; exact u1)
      rw [← nats_take] at this
      exact this.chg (RExt.refl _ _) u2.chg fun b hb e => n65 b hb e
    · have := VInv.take ((h6.chg (RExt.refl _ _) hE fun _ _ => id).chg (RExt.refl _ _) u1.chg fun b hb e => n56 b hb e) (n := n) (by rw [e6, hl]; exact hn) u2
      rw [← strs_take] at this
      exact this
  have h5d := h5.chg (RExt.refl _ _) (dr_ext w) fun _ _ => id
  have h6d := h6.chg (RExt.refl _ _) (dr_ext w) fun _ _ => id
  refine ⟨fun _ => True, trivial, ?_, ?_, trivial⟩
  · refine Vl.ld h5d.cl rfl ⟨fun _ => True, fun _ _ => trivial, trivial, Pv.take h5.row (by rw [e5]; exact hn) ⟨?_, ?_, trivial⟩⟩
    · refine Vl.ld h6d.cl rfl ⟨fun _ => True, fun _ _ => trivial, trivial, Pv.take h6.row (by rw [e6, hl]; exact hn) ?_⟩
      refine Ef.set h5d.cl (by simp) fun w1 u1 => ⟨fun _ => True, fun _ _ => trivial, trivial, ?_⟩
      refine Ef.set (h6d.cl.upd u1 hne.symm) (by simp) fun w2 u2 => ⟨fun _ => True, trivial, fin (dr_ext w) u1 u2⟩
    · refine Ef.set h5d.cl (by simp) fun w1 u1 => ⟨fun _ => True, trivial, ?_⟩
      refine Vl.ld (h6d.cl.upd u1 hne.symm) rfl ⟨fun _ => True, fun _ _ => trivial, trivial, Pv.take h6.row (by rw [e6, hl]; exact hn) ?_⟩
      refine Ef.set (h6d.cl.upd u1 hne.symm) (by simp) fun w2 u2 => ⟨fun _ => True, trivial, fin (dr_ext w) u1 u2⟩
  · refine Vl.ld h6d.cl rfl ⟨fun _ => True, fun _ _ => trivial, trivial, Pv.take h6.row (by rw [e6, hl]; exact hn) ?_⟩
    refine Vl.ld h5d.cl rfl ⟨fun _ => True, fun _ _ => trivial, trivial, Pv.take h5.row (by rw [e5]; exact hn) ?_⟩
    refine Ef.set h5d.cl (by simp) fun w1 u1 => ⟨fun _ => True, fun _ _ => trivial, trivial, ?_⟩
    refine Ef.set (h6d.cl.upd u1 hne.symm) (by simp) fun w2 u2 => ⟨fun _ => True, trivial, fin (dr_ext w) u1 u2⟩
end Go.Proofs
namespace Go.Eng
open Go
/-- append(append(append([]T{}, v[:at]...), x), v[at:]...), put back into v: each order that is open. -/
theorem ins_vc {P : Program} {w : World} {K : World → Prop} {T E b at_ n : Nat} {v x : Value} {cs : List Value} (hT : slB P T E 1 = true) (hA : aggT P T = true) (hZ : szT P T 1 = true) (hcl : Cl w b T [v]) (hr : Row w E 1 v n cs) (h1 : ∀ u ∈ cs, u.oneCell' = true) (hx : One x) (hx1 : x.oneCell' = true) (hat : at_ ≤ n) (hb : n ≤ 1000000)
    (k : ∀ v' w1 w', Row w1 E 1 v' (n + 1) (cs.take at_ ++ [x] ++ cs.drop at_) → (∀ k, blk v' = some k → w.heap.size ≤ k) → Ext w w1 → Upd w1 w' b T [v'] → K w') :
    ∃ Sz28 : World → Prop, Sz28 (dr w) ∧
  ValQ P Sz28 (Instr.loadAt T (.pointer (some ⟨b, 0, none⟩))) fun v176 =>
  Pv P (Instr.sliceAt T v176 none (some (.int .i64 (at_ : Nat))) none) fun v178 =>
  ValQ P Sz28 (Instr.loadAt T (.pointer (some ⟨b, 0, none⟩))) fun v183 =>
  Pv P (Instr.sliceAt T v183 (some (.int .i64 (at_ : Nat))) none none) fun v185 =>
  (Vl P (Instr.buildSlice T 0 #[]) (dr w) fun v175 wz117 =>
  ∃ Sz29 : World → Prop, (∀ x, Sz29 x → Sz28 x) ∧ Sz29 wz117 ∧
  (Vl P (Builtin.append_ #[T, T] T #[v175, v178]) wz117 fun v179 wz118 =>
  ∃ Sz30 : World → Prop, (∀ x, Sz30 x → Sz29 x) ∧ Sz30 wz118 ∧
  Vl P (Instr.buildSlice T 1 #[(0, x)]) wz118 fun v181 wz119 =>
  ∃ Sz31 : World → Prop, (∀ x, Sz31 x → Sz30 x) ∧ Sz31 wz119 ∧
  Vl P (Builtin.append_ #[T, T] T #[v179, v181]) wz119 fun v182 wz120 =>
  ∃ Sz32 : World → Prop, (∀ x, Sz32 x → Sz31 x) ∧ Sz32 wz120 ∧
  Vl P (Builtin.append_ #[T, T] T #[v182, v185]) wz120 fun v186 wz121 =>
  ∃ Sz33 : World → Prop, (∀ x, Sz33 x → Sz32 x) ∧ Sz33 wz121 ∧
  Ef P (Instr.storeAt T (.pointer (some ⟨b, 0, none⟩)) v186) wz121 fun wz122 =>
  ∃ Sz34 : World → Prop, Sz34 wz122 ∧
  K wz122) ∧ (Vl P (Instr.buildSlice T 1 #[(0, x)]) wz117 fun v181a wz140 =>
  ∃ Sz53 : World → Prop, (∀ x, Sz53 x → Sz29 x) ∧ Sz53 wz140 ∧
  Vl P (Builtin.append_ #[T, T] T #[v175, v178]) wz140 fun v179a wz141 =>
  ∃ Sz54 : World → Prop, (∀ x, Sz54 x → Sz53 x) ∧ Sz54 wz141 ∧
  Vl P (Builtin.append_ #[T, T] T #[v179a, v181a]) wz141 fun v182a wz142 =>
  ∃ Sz55 : World → Prop, (∀ x, Sz55 x → Sz54 x) ∧ Sz55 wz142 ∧
  Vl P (Builtin.append_ #[T, T] T #[v182a, v185]) wz142 fun v186a wz143 =>
  ∃ Sz56 : World → Prop, (∀ x, Sz56 x → Sz55 x) ∧ Sz56 wz143 ∧
  Ef P (Instr.storeAt T (.pointer (some ⟨b, 0, none⟩)) v186a) wz143 fun wz144 =>
  ∃ Sz57 : World → Prop, Sz57 wz144 ∧
  K wz144) ∧ True) ∧ (Vl P (Instr.buildSlice T 1 #[(0, x)]) (dr w) fun v181b wz162 =>
  ∃ Sz76 : World → Prop, (∀ x, Sz76 x → Sz28 x) ∧ Sz76 wz162 ∧
  Vl P (Instr.buildSlice T 0 #[]) wz162 fun v175a wz163 =>
  ∃ Sz77 : World → Prop, (∀ x, Sz77 x → Sz76 x) ∧ Sz77 wz163 ∧
  Vl P (Builtin.append_ #[T, T] T #[v175a, v178]) wz163 fun v179b wz164 =>
  ∃ Sz78 : World → Prop, (∀ x, Sz78 x → Sz77 x) ∧ Sz78 wz164 ∧
  Vl P (Builtin.append_ #[T, T] T #[v179b, v181b]) wz164 fun v182b wz165 =>
  ∃ Sz79 : World → Prop, (∀ x, Sz79 x → Sz78 x) ∧ Sz79 wz165 ∧
  Vl P (Builtin.append_ #[T, T] T #[v182b, v185]) wz165 fun v186b wz166 =>
  ∃ Sz80 : World → Prop, (∀ x, Sz80 x → Sz79 x) ∧ Sz80 wz166 ∧
  Ef P (Instr.storeAt T (.pointer (some ⟨b, 0, none⟩)) v186b) wz166 fun wz167 =>
  ∃ Sz81 : World → Prop, Sz81 wz167 ∧
  K wz167) ∧ True
    := by
  have hlen : cs.length = n := by have := hr.1; omega
  obtain ⟨a, c, rfl, _⟩ := hr.val
  have hnc := hr.le
  have vt := (hr.viewTake rfl hat).ext (dr_ext w)
  have vd := (hr.viewDrop rfl hat).ext (dr_ext w)
  have lt : (cs.take at_).length = at_ := by simp; omega
  have ld' : (cs.drop at_).length = n - at_ := by simp [hlen]
  have h1t : ∀ u ∈ cs.take at_, u.oneCell' = true := fun u hu => h1 u (List.mem_of_mem_take hu)
  have h1d : ∀ u ∈ cs.drop at_, u.oneCell' = true := fun u hu => h1 u (List.mem_of_mem_drop hu)
  have hd := dr_ext w
  have hds : (dr w).heap.size = w.heap.size := rfl
  have hS : ∀ {wx : World}, Ext w wx → Cl wx b T [.slice a n c] := fun h => hcl.ext h
  have fin : ∀ {v' : Value} {w1 : World}, Row w1 E 1 v' (at_ + 1 + (cs.drop at_).length) ((cs.take at_ ++ [x]) ++ cs.drop at_) → (∀ k, blk v' = some k → w.heap.size ≤ k) → Ext w w1 → (∀ w', K w' → ∃ S : World → Prop, S w' ∧ K w') → Ef P (Instr.storeAt T (.pointer (some ⟨b, 0, none⟩)) v') w1 fun w' => ∃ S : World → Prop, S w' ∧ K w' := fun {v' w1} h hn hE hk => by
    have hone : One v' := by obtain ⟨a, c, rfl, _⟩ := h.val; trivial
    refine Ef.set (hS hE) (by simp) (fun w' hu => hk w' (k v' w1 w' ?_ hn hE hu)) hone hZ
    rw [ld'] at h
    have e : at_ + 1 + (n - at_) = n + 1 := by omega
    rw [e] at h; exact h
  have any : ∀ w', K w' → ∃ S : World → Prop, S w' ∧ K w' := fun w' h => ⟨fun _ => True, trivial, h⟩
  -- the last append and the store
  have last : ∀ {v2 : Value} {w2 : World} {S : World → Prop}, (∀ x, Ext w x → S x) → Row w2 E 1 v2 (at_ + 1) (cs.take at_ ++ [x]) → (∀ k, blk v2 = some k → w.heap.size ≤ k) → Ext w w2 → View w2 (.slice (if c = at_ then a else a.map (·.add (at_ * 1))) (n - at_) (c - at_)) (cs.drop at_) →
      Vl P (Builtin.append_ #[T, T] T #[v2, .slice (if c = at_ then a else a.map (·.add (at_ * 1))) (n - at_) (c - at_)]) w2 fun v' w' => ∃ S' : World → Prop, (∀ x, S' x → S x) ∧ S' w' ∧ Ef P (Instr.storeAt T (.pointer (some ⟨b, 0, none⟩)) v') w' fun w' => ∃ S : World → Prop, S w' ∧ K w' := fun {v2 w2 S} hS0 h hn hE hv => by
    refine Vl.appView hT h hv h1d (by rw [ld']; omega) fun v' w' hr' hC hbk => ?_
    have hE' : Ext w w' := hE.newer hC fun k hk e => by have := hn k e; omega
    refine ⟨fun x => Ext w x, hS0, hE', fin hr' (fun k hk => ?_) hE' any⟩
    rcases hbk k hk with e | e
    · exact hn k e
    · have := hE.size; omega
  have vdE : ∀ {wx : World}, Ext w wx → View wx (.slice (if c = at_ then a else a.map (·.add (at_ * 1))) (n - at_) (c - at_)) (cs.drop at_) := fun h => (hr.viewDrop rfl hat).ext h
  have vtE : ∀ {wx : World}, Ext w wx → View wx (.slice a at_ c) (cs.take at_) := fun h => (hr.viewTake rfl hat).ext h
  -- the first append
  have first : ∀ {w1 : World} {g : Nat} {K' : Value → World → Prop}, Ext w w1 → Row w1 E 1 (.slice (some ⟨g, 0, none⟩) 0 0) 0 [] → (∀ v1 w2, Row w2 E 1 v1 at_ (cs.take at_) → Ext w w2 → Ext w1 w2 → (∀ k, blk v1 = some k → w1.heap.size ≤ k) → K' v1 w2) →
      Vl P (Builtin.append_ #[T, T] T #[.slice (some ⟨g, 0, none⟩) 0 0, .slice a at_ c]) w1 K' := fun {w1 g K'} hE h hk => by
    refine Vl.appView hT h (vtE hE) h1t (by rw [lt]; omega) fun v' w' hr' hC hbk => ?_
    rw [lt, Nat.zero_add, List.nil_append] at hr'
    have hE1 : Ext w1 w' := hC.mono fun k _ e => by cases e
    refine hk v' w' hr' (hE.then hE1) hE1 fun k hk => ?_
    rcases hbk k hk with e | e
    · cases e
    · exact e.1
  -- the element's append
  have mid : ∀ {w2 : World} {v1 : Value} {cb : Nat} {K' : Value → World → Prop}, Ext w w2 → Row w2 E 1 v1 at_ (cs.take at_) → (∀ k, blk v1 = some k → w.heap.size ≤ k) → Cl w2 cb E [x] → (∀ v2 w3, Row w3 E 1 v2 (at_ + 1) (cs.take at_ ++ [x]) → (∀ k, blk v2 = some k → w.heap.size ≤ k) → Ext w w3 → K' v2 w3) →
      Vl P (Builtin.append_ #[T, T] T #[v1, .slice (some ⟨cb, 0, none⟩) 1 1]) w2 K' := fun {w2 v1 cb K'} hE h hn hc hk => by
    refine Vl.app (m := 1) h hc rfl (by intro u hu; simp at hu; subst hu; exact hx1) (by omega) (fun v' w' hr' hC hbk => ?_) hT
    have hE' : Ext w w' := hE.newer hC fun k hk e => by have := hn k e; omega
    refine hk v' w' hr' (fun k hk => ?_) hE'
    rcases hbk k hk with e | e
    · exact hn k e
    · have := hE.size; omega
  have row0 : ∀ (wx : World) (g : Nat), Row wx E 1 (.slice (some ⟨g, 0, none⟩) 0 0) 0 [] := fun wx g => ⟨by simp, .inl ⟨_, rfl, rfl⟩⟩
  have idS : ∀ x : World, Ext w x → Ext w x := fun _ h => h
  have one1 : x.cells.size = 1 := by rw [hx.cells]; rfl
  have xc : ∀ {wx wy : World}, Nw wx wy (.cells x.cells E) → Cl wy wx.heap.size E [x] := fun h => by rw [hx.cells] at h; exact h.new
  refine ⟨fun x => Ext w x, hd, VQ.ld (fun _ hw => (hS hw).cell rfl) (Pv.take hr hat (VQ.ld (fun _ hw => (hS hw).cell rfl) (Pv.i (run_slc hT (.inr rfl) (.inl ⟨rfl, rfl⟩) hat hnc) ⟨?_, ?_, trivial⟩) hA) hT) hA⟩
  · refine Vl.bs0 (E := E) (sz := 1) (fun w1 h1' => ?_) hT
    have hE1 := hd.then h1'.ext
    refine ⟨fun x => Ext w x, idS, hE1, ?_, ?_, trivial⟩
    · refine first hE1 (row0 _ _) fun v1 w2 hr2 hE2 _ hn2 => ⟨fun x => Ext w x, idS, hE2, ?_⟩
      refine Vl.bs1 (E := E) (sz := 1) one1 (fun w3 h3 => ?_) (by omega) hT
      have hE3 := hE2.then h3.ext
      refine ⟨fun x => Ext w x, idS, hE3, mid hE3 (hr2.ext h3.ext) (fun k hk => ?_) (xc h3) fun v2 w4 hr4 hn4 hE4 => ⟨fun x => Ext w x, idS, hE4, last idS hr4 hn4 hE4 (vdE hE4)⟩⟩
      have := hn2 k hk; have := hE1.size; omega
    · refine Vl.bs1 (E := E) (sz := 1) one1 (fun w3 h3 => ?_) (by omega) hT
      have hE3 := hE1.then h3.ext
      refine ⟨fun x => Ext w x, idS, hE3, first hE3 (row0 _ _) fun v1 w2 hr2 hE2 hE32 hn2 => ⟨fun x => Ext w x, idS, hE2, ?_⟩⟩
      refine mid hE2 hr2 (fun k hk => ?_) ((xc h3).ext hE32) fun v2 w4 hr4 hn4 hE4 => ⟨fun x => Ext w x, idS, hE4, last idS hr4 hn4 hE4 (vdE hE4)⟩
      have := hn2 k hk; have := hE3.size; omega
  · refine Vl.bs1 (E := E) (sz := 1) one1 (fun w3 h3 => ?_) (by omega) hT
    have hE3 := hd.then h3.ext
    refine ⟨fun x => Ext w x, idS, hE3, ?_⟩
    refine Vl.bs0 (E := E) (sz := 1) (fun w1 h1' => ?_) hT
    have hE1 := hE3.then h1'.ext
    refine ⟨fun x => Ext w x, idS, hE1, first hE1 (row0 _ _) fun v1 w2 hr2 hE2 hE32 hn2 => ⟨fun x => Ext w x, idS, hE2, ?_⟩⟩
    refine mid hE2 hr2 (fun k hk => ?_) (((xc h3).ext h1'.ext).ext hE32) fun v2 w4 hr4 hn4 hE4 => ⟨fun x => Ext w x, idS, hE4, last idS hr4 hn4 hE4 (vdE hE4)⟩
    have := hn2 k hk; have := hE1.size; omega
end Go.Eng
namespace Go.Eng
open Go
/-- append(append([]T{}, v[:at]...), v[at+1:]...), put back into v. -/
theorem del_vc {P : Program} {w : World} {K : World → Prop} {T E U b at_ n tt : Nat} {v : Value} {cs : List Value} (hT : slB P T E 1 = true) (hA : aggT P T = true) (hZ : szT P T 1 = true) (hcl : Cl w b T [v]) (hr : Row w E 1 v n cs) (h1 : ∀ u ∈ cs, u.oneCell' = true) (hat : at_ < n) (hb : n ≤ 1000000)
    (k : ∀ v' w1 w', Row w1 E 1 v' (n - 1) (cs.take at_ ++ cs.drop (at_ + 1)) → (∀ k, blk v' = some k → w.heap.size ≤ k) → Ext w w1 → Upd w1 w' b T [v'] → K w') :
    ∃ Sr : World → Prop, Sr (dr w) ∧
  ValQ P Sr (Instr.loadAt T (.pointer (some ⟨b, 0, none⟩))) fun v147 =>
  Pv P (Instr.sliceAt T v147 none (some (.int .i64 (at_ : Nat))) none) fun v149 =>
  ValQ P Sr (Instr.loadAt T (.pointer (some ⟨b, 0, none⟩))) fun v151 =>
  Pv P (binop BinOp.add U (Operand.tmp tt) (Operand.const ((Value.int IntKind.i64 1))) (.int .i64 (at_ : Nat)) (Value.int IntKind.i64 1)) fun v153 =>
  Pv P (Instr.sliceAt T v151 (some v153) none none) fun v154 =>
  Vl P (Instr.buildSlice T 0 #[]) (dr w) fun v146 wz106 =>
  ∃ Ss : World → Prop, (∀ x, Ss x → Sr x) ∧ Ss wz106 ∧
  Vl P (Builtin.append_ #[T, T] T #[v146, v149]) wz106 fun v150 wz107 =>
  ∃ St : World → Prop, (∀ x, St x → Ss x) ∧ St wz107 ∧
  Vl P (Builtin.append_ #[T, T] T #[v150, v154]) wz107 fun v155 wz108 =>
  ∃ Su : World → Prop, (∀ x, Su x → St x) ∧ Su wz108 ∧
  Ef P (Instr.storeAt T (.pointer (some ⟨b, 0, none⟩)) v155) wz108 fun wz109 =>
  ∃ Sv : World → Prop, Sv wz109 ∧
  K wz109
    := by
  have hlen : cs.length = n := by have := hr.1; omega
  obtain ⟨a, c, rfl, _⟩ := hr.val
  have hnc := hr.le
  have lt : (cs.take at_).length = at_ := by simp; omega
  have ld' : (cs.drop (at_ + 1)).length = n - (at_ + 1) := by simp [hlen]
  have h1t : ∀ u ∈ cs.take at_, u.oneCell' = true := fun u hu => h1 u (List.mem_of_mem_take hu)
  have h1d : ∀ u ∈ cs.drop (at_ + 1), u.oneCell' = true := fun u hu => h1 u (List.mem_of_mem_drop hu)
  have hd := dr_ext w
  have hS : ∀ {wx : World}, Ext w wx → Cl wx b T [.slice a n c] := fun h => hcl.ext h
  have idS : ∀ x : World, Ext w x → Ext w x := fun _ h => h
  refine ⟨fun x => Ext w x, hd, VQ.ld (fun _ hw => (hS hw).cell rfl) (Pv.take hr (by omega) (VQ.ld (fun _ hw => (hS hw).cell rfl) (Pv.add ?_) hA) hT) hA⟩
  have e1 : (at_ : Int) + 1 = ((at_ + 1 : Nat) : Int) := by omega
  rw [e1]
  refine Pv.i (run_slc hT (.inr rfl) (.inl ⟨rfl, rfl⟩) (by omega) hnc) ?_
  refine Vl.bs0 (E := E) (sz := 1) (fun w1 h1' => ?_) hT
  have hE1 := hd.then h1'.ext
  refine ⟨fun x => Ext w x, idS, hE1, ?_⟩
  refine Vl.appView (n := 0) (cs := []) hT ⟨by simp, .inl ⟨_, rfl, rfl⟩⟩ ((hr.viewTake rfl (by omega)).ext hE1) h1t (by rw [lt]; omega) fun v2 w2 hr2 hC2 hbk2 => ?_
  rw [lt, Nat.zero_add, List.nil_append] at hr2
  have hE12 : Ext w1 w2 := hC2.mono fun k _ e => by cases e
  have hE2 := hE1.then hE12
  have hn2 : ∀ k, blk v2 = some k → w.heap.size ≤ k := fun k hk => by
    rcases hbk2 k hk with e | e
    · cases e
    · have := hE1.size; omega
  refine ⟨fun x => Ext w x, idS, hE2, ?_⟩
  refine Vl.appView hT hr2 ((hr.viewDrop rfl (by omega)).ext hE2) h1d (by rw [ld']; omega) fun v3 w3 hr3 hC3 hbk3 => ?_
  have hE3 : Ext w w3 := hE2.newer hC3 fun k hk e => by have := hn2 k e; omega
  refine ⟨fun x => Ext w x, idS, hE3, ?_⟩
  have hone : One v3 := by obtain ⟨a, c, rfl, _⟩ := hr3.val; trivial
  refine Ef.set (hS hE3) (by simp) (fun w' hu => ⟨fun _ => True, trivial, k v3 w3 w' ?_ (fun k hk => ?_) hE3 hu⟩) hone hZ
  · rw [ld'] at hr3
    have e : at_ + (n - (at_ + 1)) = n - 1 := by omega
    rw [e] at hr3; exact hr3
  · rcases hbk3 k hk with e | e
    · exact hn2 k e
    · have := hE2.size; omega
end Go.Eng
namespace Go.Proofs
open Go Go.Eng
theorem push2_vc {ρ : Roles} {w : World} {K : World → Prop} {b5 b6 i : Nat} {name : ByteArray} {xs : List Nat} {l : List ByteArray} (h5 : OV ρ w b5 xs) (h6 : NV ρ w b6 l) (hx : xs.length ≤ 1000000) (hl : l.length ≤ 1000000)
    (k : ∀ ρ' w', RExt ρ ρ' w → Chg (fun b => StB 1 ρ b ∨ StB 2 ρ b) w w' → OV ρ' w' b5 (xs ++ [i]) → NV ρ' w' b6 (l ++ [name]) → K w') :
    ∃ S : World → Prop, S (dr w) ∧
  ValQ Tryd.prog S (Instr.loadAt 31 (.pointer (some ⟨b5, 0, none⟩))) fun v87 =>
  ValQ Tryd.prog S (Instr.loadAt 22 (.pointer (some ⟨b6, 0, none⟩))) fun v91 =>
  (Vl Tryd.prog (Instr.buildSlice 31 1 #[(0, (.int .i64 (i : Nat)))]) (dr w) fun v89 wz52 =>
  ∃ Sa : World → Prop, (∀ x, Sa x → S x) ∧ Sa wz52 ∧
  (Vl Tryd.prog (Builtin.append_ #[31, 31] 31 #[v87, v89]) wz52 fun v90 wz53 =>
  ∃ Sb : World → Prop, (∀ x, Sb x → Sa x) ∧ Sb wz53 ∧
  Vl Tryd.prog (Instr.buildSlice 22 1 #[(0, (.string name))]) wz53 fun v93 wz54 =>
  ∃ Sc : World → Prop, (∀ x, Sc x → Sb x) ∧ Sc wz54 ∧
  Vl Tryd.prog (Builtin.append_ #[22, 22] 22 #[v91, v93]) wz54 fun v94 wz55 =>
  ∃ Sd : World → Prop, Sd wz55 ∧
  Ef Tryd.prog (Instr.storeAt 31 (.pointer (some ⟨b5, 0, none⟩)) v90) wz55 fun wz56 =>
  ∃ Se : World → Prop, Se wz56 ∧
  Ef Tryd.prog (Instr.storeAt 22 (.pointer (some ⟨b6, 0, none⟩)) v94) wz56 fun wz57 =>
  ∃ Sf : World → Prop, Sf wz57 ∧
  K wz57) ∧ (Vl Tryd.prog (Instr.buildSlice 22 1 #[(0, (.string name))]) wz52 fun v93a wz58 =>
  ∃ Sg : World → Prop, (∀ x, Sg x → Sa x) ∧ Sg wz58 ∧
  Vl Tryd.prog (Builtin.append_ #[31, 31] 31 #[v87, v89]) wz58 fun v90a wz59 =>
  ∃ Sh : World → Prop, (∀ x, Sh x → Sg x) ∧ Sh wz59 ∧
  Vl Tryd.prog (Builtin.append_ #[22, 22] 22 #[v91, v93a]) wz59 fun v94a wz60 =>
  ∃ Si : World → Prop, Si wz60 ∧
  Ef Tryd.prog (Instr.storeAt 31 (.pointer (some ⟨b5, 0, none⟩)) v90a) wz60 fun wz61 =>
  ∃ Sj : World → Prop, Sj wz61 ∧
  Ef Tryd.prog (Instr.storeAt 22 (.pointer (some ⟨b6, 0, none⟩)) v94a) wz61 fun wz62 =>
  ∃ Sk : World → Prop, Sk wz62 ∧
  K wz62) ∧ True) ∧ (Vl Tryd.prog (Instr.buildSlice 22 1 #[(0, (.string name))]) (dr w) fun v93b wz63 =>
  ∃ Sl : World → Prop, (∀ x, Sl x → S x) ∧ Sl wz63 ∧
  Vl Tryd.prog (Instr.buildSlice 31 1 #[(0, (.int .i64 (i : Nat)))]) wz63 fun v89a wz64 =>
  ∃ Sm : World → Prop, (∀ x, Sm x → Sl x) ∧ Sm wz64 ∧
  Vl Tryd.prog (Builtin.append_ #[31, 31] 31 #[v87, v89a]) wz64 fun v90b wz65 =>
  ∃ Sn : World → Prop, (∀ x, Sn x → Sm x) ∧ Sn wz65 ∧
  Vl Tryd.prog (Builtin.append_ #[22, 22] 22 #[v91, v93b]) wz65 fun v94b wz66 =>
  ∃ So : World → Prop, So wz66 ∧
  Ef Tryd.prog (Instr.storeAt 31 (.pointer (some ⟨b5, 0, none⟩)) v90b) wz66 fun wz67 =>
  ∃ Sp : World → Prop, Sp wz67 ∧
  Ef Tryd.prog (Instr.storeAt 22 (.pointer (some ⟨b6, 0, none⟩)) v94b) wz67 fun wz68 =>
  ∃ Sq : World → Prop, Sq wz68 ∧
  K wz68) ∧ True
    := by
  obtain ⟨v5, h5⟩ := h5
  obtain ⟨v6, h6⟩ := h6
  have e5 := nats_len xs
  have e6 := strs_len l
  have l5 := h5.cl.lt
  have l6 := h6.cl.lt
  have hd := dr_ext w
  have n5 : ∀ k, blk v5 = some k → k < w.heap.size ∧ k ≠ b5 ∧ k ≠ b6 ∧ blk v6 ≠ some k := fun k hk => by
    have r := h5.rowRole k hk
    refine ⟨h5.row.lt k hk, fun e => ?_, fun e => ?_, fun e => ?_⟩
    · rw [e, h5.role] at r; cases r
    · rw [e, h6.role] at r; cases r
    · rw [h6.rowRole k e] at r; cases r
  have n6 : ∀ k, blk v6 = some k → k < w.heap.size ∧ k ≠ b5 ∧ k ≠ b6 ∧ blk v5 ≠ some k := fun k hk => by
    have r := h6.rowRole k hk
    refine ⟨h6.row.lt k hk, fun e => ?_, fun e => ?_, fun e => ?_⟩
    · rw [e, h5.role] at r; cases r
    · rw [e, h6.role] at r; cases r
    · rw [h5.rowRole k e] at r; cases r
  have c5 : ∀ {wx : World}, Chg (fun b => blk v5 = some b ∨ blk v6 = some b) w wx → Cl wx b5 T_sl_int [v5] := fun h => h5.cl.chg h fun e => e.elim (fun e => (n5 b5 e).2.1 rfl) fun e => (n6 b5 e).2.1 rfl
  have c6 : ∀ {wx : World}, Chg (fun b => blk v5 = some b ∨ blk v6 = some b) w wx → Cl wx b6 T_sl_string [v6] := fun h => h6.cl.chg h fun e => e.elim (fun e => (n5 b6 e).2.2.1 rfl) fun e => (n6 b6 e).2.2.1 rfl
  have hne : b5 ≠ b6 := fun e => by
    have := h5.role
    rw [e, h6.role] at this; cases this
  -- from the second append on
  have tail : ∀ {wx : World} {v5' : Value} {g : Nat}, Chg (fun b => blk v5 = some b) w wx → Row wx T_int 1 v5' (xs.length + 1) (nats xs ++ [.int .i64 i]) → (∀ k, blk v5' = some k → blk v5 = some k ∨ w.heap.size ≤ k) → Cl wx g T_string [.string name] → 
      Vl Tryd.prog (Builtin.append_ #[22, 22] 22 #[v6, .slice (some ⟨g, 0, none⟩) 1 1]) wx fun v94 wz55 =>
        ∃ Sd : World → Prop, Sd wz55 ∧
        Ef Tryd.prog (Instr.storeAt 31 (.pointer (some ⟨b5, 0, none⟩)) v5') wz55 fun wz56 =>
        ∃ Se : World → Prop, Se wz56 ∧
        Ef Tryd.prog (Instr.storeAt 22 (.pointer (some ⟨b6, 0, none⟩)) v94) wz56 fun wz57 =>
        ∃ Sf : World → Prop, Sf wz57 ∧
        K wz57 := fun {wx v5' g} hC hr5 hb5 hg => by
    have hr6 : Row wx T_string 1 v6 l.length (strs l) := by
      have := h6.row.chg hC fun k hk e => (n6 k hk).2.2.2 e
      rw [e6] at this; exact this
    refine Vl.app (m := 1) hr6 hg rfl (by intro u hu; simp at hu; subst hu; rfl) (by omega) fun v6' wy hr6' hC6 hb6 => ?_
    have hY : Chg (fun b => blk v5 = some b ∨ blk v6 = some b) w wy := (hC.trans hC6).mono fun _ _ e => e
    have o5 : One v5' := by obtain ⟨a, c, rfl, _⟩ := hr5.val; trivial
    have o6 : One v6' := by obtain ⟨a, c, rfl, _⟩ := hr6'.val; trivial
    have sz := hC.size
    have hr5' : Row wy T_int 1 v5' (xs.length + 1) (nats xs ++ [.int .i64 i]) := hr5.chg hC6 fun k hk e => by
      rcases hb5 k hk with h | h
      · exact (n5 k h).2.2.2 e
      · have := (n6 k e).1; omega
    refine ⟨fun _ => True, trivial, Ef.set (c5 hY) (by simp) (fun w1 u1 => ⟨fun _ => True, trivial, Ef.set ((c6 hY).upd u1 hne.symm) (by simp) (fun w2 u2 => ⟨fun _ => True, trivial, ?_⟩) o6⟩) o5⟩
    -- the roles
    have en : nats (xs ++ [i]) = nats xs ++ [.int .i64 i] := by unfold nats; simp
    have es : strs (l ++ [name]) = strs l ++ [.string name] := by unfold strs; simp
    have hl5 : (nats (xs ++ [i])).length = xs.length + 1 := by rw [nats_len]; simp
    have hl6 : (strs (l ++ [name])).length = l.length + 1 := by rw [strs_len]; simp
    have b5lt : ∀ k, blk v5' = some k → k < wx.heap.size := hr5.lt
    have A5 : OV (grow ρ w v5' (1, .opn)) w1 b5 (xs ++ [i]) := VInv.put (w1 := wy) h5.role l5 (by rw [hl5, en]; exact hr5') (fun k hk => (hb5 k hk).imp (h5.rowRole k) id) u1
    have R5 : RExt ρ (grow ρ w v5' (1, .opn)) w := grow_ext _ _ _ _
    have r6 : grow ρ w v5' (1, .opn) b6 = some (2, .stk) := (R5 b6 l6).trans h6.role
    have s1 := u1.size
    have sy := hC6.size
    have r1w : w1.heap.size = wy.heap.size := u1.size
    have A6 : NV (grow (grow ρ w v5' (1, .opn)) wx v6' (2, .opn)) w2 b6 (l ++ [name]) := by
      refine VInv.put (w := wx) (w1 := w1) r6 (by omega) ?_ (fun k hk => ?_) u2
      · rw [hl6, es]
        refine hr6'.chg u1.chg fun k hk e => ?_
        have e : k = b5 := e
        rcases hb6 k hk with h | h
        · exact (n6 k h).2.1 e
        · omega
      · rcases hb6 k hk with h | h
        · exact .inl ((R5 k (n6 k h).1).trans (h6.rowRole k h))
        · exact .inr h.1
    have R56 : RExt (grow ρ w v5' (1, .opn)) (grow (grow ρ w v5' (1, .opn)) wx v6' (2, .opn)) wx := grow_ext _ _ _ _
    refine k _ w2 (R5.trans R56 sz) ?_ ?_ A6
    · refine ((hY.trans u1.chg).trans u2.chg).mono fun b _ e => ?_
      rcases e with (e | e) | e
      · rcases e with e | e
        · exact .inl (.inr (h5.rowRole b e))
        · exact .inr (.inr (h6.rowRole b e))
      · have e : b = b5 := e
        exact .inl (.inl (e ▸ h5.role))
      · have e : b = b6 := e
        exact .inr (.inl (e ▸ h6.role))
    · -- the first variable's blocks lie below wx
      obtain ⟨v, h⟩ := A5
      refine ⟨v, h.cl.chg u2.chg fun e => hne e, (R56 b5 (by omega)).trans h.role, h.row.chg u2.chg fun k hk e => ?_, fun k hk => ?_⟩
      · have e : k = b6 := e
        have := h.rowRole k hk
        rw [e, r6] at this; cases this
      · have hv : v = v5' := by
          have h1 := h.cl.uniq u1.cl
          simpa using h1
        rw [hv] at hk
        exact (R56 k (b5lt k hk)).trans (h.rowRole k (hv ▸ hk))
  -- the first append
  have first : ∀ {wx : World} {g : Nat} {K' : Value → World → Prop}, Ext w wx → Cl wx g T_int [.int .i64 i] → (∀ v5' wy, Chg (fun b => blk v5 = some b) w wy → Row wy T_int 1 v5' (xs.length + 1) (nats xs ++ [.int .i64 i]) → (∀ k, blk v5' = some k → blk v5 = some k ∨ w.heap.size ≤ k) → Chg (fun b => blk v5 = some b) wx wy → K' v5' wy) →
      Vl Tryd.prog (Builtin.append_ #[31, 31] 31 #[v5, .slice (some ⟨g, 0, none⟩) 1 1]) wx K' := fun {wx g K'} hE hg hk => by
    have hr5 : Row wx T_int 1 v5 xs.length (nats xs) := by
      have := h5.row.ext hE
      rw [e5] at this; exact this
    refine Vl.app (m := 1) hr5 hg rfl (by intro u hu; simp at hu; subst hu; rfl) (by omega) fun v5' wy hr hC hb => hk v5' wy ((Ext.to hE).then hC) hr (fun k hk => (hb k hk).imp id fun h => ?_) hC
    have := hE.size; omega
  have hs : ∀ {wx : World}, Chg (fun b => blk v5 = some b) w wx → Cl wx b5 T_sl_int [v5] ∧ Cl wx b6 T_sl_string [v6] := fun h => ⟨c5 (h.mono fun _ _ => .inl), c6 (h.mono fun _ _ => .inl)⟩
  have hsE : ∀ {wx : World}, Ext w wx → Cl wx b5 T_sl_int [v5] ∧ Cl wx b6 T_sl_string [v6] := fun h => hs (Ext.to h)
  refine ⟨fun x => Cl x b5 T_sl_int [v5] ∧ Cl x b6 T_sl_string [v6], hsE hd, VQ.ld (fun _ hw => hw.1.cell rfl) (VQ.ld (fun _ hw => hw.2.cell rfl) ⟨?_, ?_, trivial⟩)⟩
  · refine Vl.bs1 (E := T_int) (sz := 1) rfl fun w1 h1 => ?_
    have hE1 := hd.then h1.ext
    refine ⟨_, fun _ h => h, hsE hE1, ?_, ?_, trivial⟩
    · refine first hE1 h1.cl fun v5' w2 hC2 hr2 hb2 hC12 => ⟨_, fun _ h => h, hs hC2, ?_⟩
      refine Vl.bs1 (E := T_string) (sz := 1) rfl fun w3 h3 => ⟨_, fun _ h => h, hs (hC2.ext h3.ext), ?_⟩
      exact tail (hC2.ext h3.ext) (hr2.ext h3.ext) hb2 h3.cl
    · refine Vl.bs1 (E := T_string) (sz := 1) rfl fun w3 h3 => ?_
      have hE3 := hE1.then h3.ext
      refine ⟨_, fun _ h => h, hsE hE3, first hE3 (Cl.ext h1.cl h3.ext) fun v5' w2 hC2 hr2 hb2 hC32 => ⟨_, fun _ h => h, hs hC2, ?_⟩⟩
      exact tail hC2 hr2 hb2 (Cl.chg h3.cl hC32 fun e => by have := (n5 _ e).1; have := hE1.size; omega)
  · refine Vl.bs1 (E := T_string) (sz := 1) rfl fun w3 h3 => ?_
    have hE3 := hd.then h3.ext
    refine ⟨_, fun _ h => h, hsE hE3, ?_⟩
    refine Vl.bs1 (E := T_int) (sz := 1) rfl fun w1 h1 => ?_
    have hE1 := hE3.then h1.ext
    refine ⟨_, fun _ h => h, hsE hE1, first hE1 h1.cl fun v5' w2 hC2 hr2 hb2 hC12 => ⟨_, fun _ h => h, hs hC2, ?_⟩⟩
    exact tail hC2 hr2 hb2 (Cl.chg (Cl.ext h3.cl h1.ext) hC12 fun e => by have := (n5 _ e).1; have := hd.size; omega)
end Go.Proofs
namespace Go.Eng
open Go
theorem run_max2 {P : Program} {t0 t1 t : Nat} (w : World) (a b : Int) : (Builtin.max_ #[t0, t1] t #[.int .i64 a, .int .i64 b]).run P w = .ok (.int .i64 (if b > a then b else a)) w := by
  unfold Builtin.max_
  simp only [List.foldlM_cons, List.foldlM_nil]
  rfl
theorem run_negW {P : Program} (w : World) (a : Int) : (Op.unary UnOp.neg (.int .i64 a)).run P w = .ok (.int .i64 (IntKind.i64.wrap (0 - a))) w := rfl
theorem run_addW {P : Program} {T : Nat} {x y : Operand} (w : World) (a b : Int) : (binop .add T x y (.int .i64 a) (.int .i64 b)).run P w = .ok (.int .i64 (IntKind.i64.wrap (a + b))) w := rfl
theorem act_max {n : Int} (h0 : -9223372036854775808 ≤ n) (h1 : n ≤ 9223372036854775807) :
    ∃ m : Nat, m ≤ 9223372036854775807 ∧ (if IntKind.i64.wrap (0 - IntKind.i64.wrap (n + 1)) > n then IntKind.i64.wrap (0 - IntKind.i64.wrap (n + 1)) else n) = (m : Int) := by
  rw [IntKind.wrap_i64, IntKind.wrap_i64]
  generalize hg : (if (0 - ((n + 1 + 9223372036854775808) % 18446744073709551616 - 9223372036854775808) + 9223372036854775808) % 18446744073709551616 - 9223372036854775808 > n then (0 - ((n + 1 + 9223372036854775808) % 18446744073709551616 - 9223372036854775808) + 9223372036854775808) % 18446744073709551616 - 9223372036854775808 else n) = r
  refine ⟨r.toNat, ?_, ?_⟩ <;> · split at hg <;> omega
/-- A struct's load, from its cells. -/
theorem run_loadFrom {P : Program} {w : World} {b o : Nat} : ∀ (vs : List Value) (i : Nat) (acc : Array Value), (∀ j v, vs[j]? = some v → w.cell? ⟨b, o + (i + j), none⟩ = some v) →
    (loadCellsFrom ⟨b, o, none⟩ i vs.length acc).run P w = .ok (acc ++ vs.toArray) w
  | [], i, acc, _ => by simp [loadCellsFrom]
  | v :: vs, i, acc, h => by
    have hc := h 0 v rfl
    have hl : (load (⟨b, o + i, none⟩ : Addr)).run P w = .ok v w := by
      unfold load; simp only [Sem.run]
      have hc : w.cell? ⟨b, o + i, none⟩ = some v := hc
      simp only [hc]
    show (loadCellsFrom ⟨b, o, none⟩ i (vs.length + 1) acc).run P w = _
    unfold loadCellsFrom
    rw [add_off, Sem.run_bind, hl]
    simp only [Result.andThen]
    rw [run_loadFrom vs (i + 1) _ (fun j u hu => by
      have := h (j + 1) u (by simpa using hu)
      have e : i + (j + 1) = i + 1 + j := by omega
      rw [e] at this; exact this)]
    congr 1
    apply Array.ext'; simp
theorem Vl.ldC {P : Program} {w : World} {K : Value → World → Prop} {T b o : Nat} (vs : List Value) (h : ∀ j v, vs[j]? = some v → w.cell? ⟨b, o + j, none⟩ = some v) (k : K (.agg vs.toArray) w) (hT : aggB P T vs.length = true := by kernel_rfl) :
    Vl P (Instr.loadAt T (.pointer (some ⟨b, o, none⟩))) w K := by
  refine Vl.i (w' := w) ?_ k
  have hs : szT P T vs.length = true := by unfold aggB at hT; simp only [Bool.and_eq_true] at hT; exact hT.2
  unfold Instr.loadAt Instr.sureAddr loadVar loadCells
  simp only [Sem.run_bind, Sem.run_pure, Result.andThen, run_isAggT hT]
  simp only [if_true, Sem.run_bind, run_sizeOf hs, Result.andThen]
  rw [run_loadFrom vs 0 #[] (by simpa using h)]
  simp
end Go.Eng
namespace Go.Proofs
open Go Go.Eng

/-! ### What an act is -/
structure ActM where
  do_ : Int
  n : Int
  nv : Value
  names : List ByteArray
def ActOk (a : ActM) : Prop := (-9223372036854775808 ≤ a.n ∧ a.n ≤ 9223372036854775807) ∧ a.names.length ≤ 9223372036854775807 ∧ okSizes a.names
/-- A slice of acts, looked at. -/
def ActsV (w : World) (v : Value) (l : List ActM) : Prop :=
  ∃ a c, v = .slice a l.length c ∧ ∀ i (h : i < l.length), ∃ b o, a = some ⟨b, o, none⟩ ∧ w.cell? ⟨b, o + i * 3, none⟩ = some (.int .i64 l[i].do_) ∧ w.cell? ⟨b, o + i * 3 + 1, none⟩ = some (.int .i64 l[i].n) ∧ w.cell? ⟨b, o + i * 3 + 2, none⟩ = some l[i].nv ∧ Strs w l[i].nv l[i].names ∧ ActOk l[i]
theorem ActsV.ext {w w' : World} {v : Value} {l : List ActM} (h : ActsV w v l) (c : Ext w w') : ActsV w' v l := by
  obtain ⟨a, cp, e, h⟩ := h
  refine ⟨a, cp, e, fun i hi => ?_⟩
  obtain ⟨b, o, ha, h0, h1, h2, h3, h4⟩ := h i hi
  exact ⟨b, o, ha, cell_same c h0 id, cell_same c h1 id, cell_same c h2 id, h3.ext c, h4⟩

/-! ### The names in the arena -/
theorem nameAt_of {m : AM} {i q : Nat} {n : NodeM} (h1 : m.elems[i]? = some q) (h2 : m.nodes[q]? = some n) : nameAt m i = n.name := by
  unfold nameAt; rw [h1]; show ((m.nodes[q]?).map NodeM.name).getD _ = _; rw [h2]; rfl
def addEl (m : AM) (n : NodeM) : AM := { m with nodes := m.nodes ++ [n], elems := m.elems ++ [m.nodes.length] }
theorem Live.add {m : AM} {i : Nat} (n : NodeM) (h : Live m i) : Live (addEl m n) i ∧ nameAt (addEl m n) i = nameAt m i := by
  obtain ⟨q, k, h1, h2⟩ := h
  have l1 := (List.getElem?_eq_some_iff.1 h1).1
  have l2 := (List.getElem?_eq_some_iff.1 h2).1
  have e1 : (addEl m n).elems[i]? = some q := by show (m.elems ++ _)[i]? = _; rw [List.getElem?_append_left l1]; exact h1
  have e2 : (addEl m n).nodes[q]? = some k := by show (m.nodes ++ _)[q]? = _; rw [List.getElem?_append_left l2]; exact h2
  exact ⟨⟨q, k, e1, e2⟩, by rw [nameAt_of e1 e2, nameAt_of h1 h2]⟩
theorem Live.new (m : AM) (n : NodeM) : Live (addEl m n) m.elems.length ∧ nameAt (addEl m n) m.elems.length = n.name := by
  have e1 : (addEl m n).elems[m.elems.length]? = some m.nodes.length := by show (m.elems ++ _)[_]? = _; simp
  have e2 : (addEl m n).nodes[m.nodes.length]? = some n := by show (m.nodes ++ _)[_]? = _; simp
  exact ⟨⟨_, _, e1, e2⟩, nameAt_of e1 e2⟩
theorem Live.lt {m : AM} {i : Nat} (h : Live m i) : i < m.elems.length := by
  obtain ⟨q, k, h1, h2⟩ := h
  exact (List.getElem?_eq_some_iff.1 h1).1

/-! ### The state between two acts -/
structure St (w0 : World) (ρ : Roles) (w : World) (A S b5 b6 : Nat) (m : AM) (xs : List Nat) (c : Nat) : Prop where
  ext : Ext w0 w
  r0 : ∀ k, k < w0.heap.size → ρ k = none
  hA : AInv ρ 0 w A m
  hS : SInv ρ 0 w S A xs
  h5 : OV ρ w b5 xs
  h6 : NV ρ w b6 (xs.map (nameAt m))
  live : ∀ i ∈ xs, Live m i
  nod : xs.Nodup
  ln : m.nodes.length ≤ c + 1
  le : m.elems.length ≤ c + 1
  lx : xs.length ≤ c
  oks : okSizes (xs.map (nameAt m))
  spos : S ≠ 0
variable {w0 : World} {ρ ρ' : Roles} {w w' : World} {A S b5 b6 : Nat} {m : AM} {xs : List Nat} {c : Nat}
theorem St.go {X : Nat → Prop} (h : St w0 ρ w A S b5 b6 m xs c) (hC : Chg X w w') (hX : ∀ b, X b → ∃ r, ρ b = some r) : Ext w0 w' :=
  Chg.newer h.ext hC fun x hx e => by
    obtain ⟨r, e⟩ := hX x e
    rw [h.r0 x hx] at e; cases e
theorem St.re (h : St w0 ρ w A S b5 b6 m xs c) (hr : RExt ρ ρ' w) : ∀ k, k < w0.heap.size → ρ' k = none := fun k hk => (hr k (by have := h.ext.size; omega)).trans (h.r0 k hk)
theorem St.e (h : St w0 ρ w A S b5 b6 m xs c) (hE : Ext w w') : St w0 ρ w' A S b5 b6 m xs c :=
  ⟨h.ext.then hE, h.r0, h.hA.chg (RExt.refl _ _) hE (fun _ _ => id) (fun _ _ => id), h.hS.ext hE, h.h5.ext hE, h.h6.ext hE, h.live, h.nod, h.ln, h.le, h.lx, h.oks, h.spos⟩
theorem St.role (h : St w0 ρ w A S b5 b6 m xs c) (hr : RExt ρ ρ' w) : St w0 ρ' w A S b5 b6 m xs c :=
  ⟨h.ext, h.re hr, h.hA.chg hr (Chg.refl _ _) (fun _ _ => id) (fun _ _ => id), h.hS.chg hr (Chg.refl (fun _ => False) _) (fun _ _ => id), h.h5.chg hr (Chg.refl (fun _ => False) _) (fun _ _ => id), h.h6.chg hr (Chg.refl (fun _ => False) _) (fun _ _ => id), h.live, h.nod, h.ln, h.le, h.lx, h.oks, h.spos⟩
theorem ix_ne {i j : Nat} {b : Nat} (hij : i ≠ j) (h : StB i ρ b) : ¬ StB j ρ b := by
  rintro (e | e) <;> rcases h with h | h <;> (rw [h] at e; injection e with e; injection e with e1 _; exact hij e1)
theorem ix_ne' {i j : Nat} {b : Nat} (hij : i ≠ j) (h : StB i ρ b) : ¬ ArB j ρ b := by
  rintro ⟨r, e, _⟩
  rcases h with h | h <;> (rw [h] at e; cases e; exact hij rfl)
theorem StB.some {i b : Nat} (h : StB i ρ b) : ∃ r, ρ b = some r := by obtain ⟨r, h⟩ := h.role; exact ⟨_, h⟩
theorem ArB.some {i b : Nat} (h : ArB i ρ b) : ∃ r, ρ b = some r := by obtain ⟨r, h⟩ := h.role; exact ⟨_, h⟩
theorem map_nm (m : AM) (xs : List Nat) : ∀ k, k < xs.length → nmOf m xs k = nmL (xs.map (nameAt m)) k := fun k hk => by
  unfold nmOf nmL
  simp [List.getD, hk]
end Go.Proofs
namespace Go.Proofs
open Go Go.Eng
variable {w0 : World} {ρ ρ' : Roles} {w w' : World} {A S b5 b6 : Nat} {m : AM} {xs : List Nat} {c : Nat}
/-- From one world to another: what has a role has kept it, and only what has one has changed. -/
structure RC (ρ : Roles) (w : World) (ρ' : Roles) (w' : World) : Prop where
  r : RExt ρ ρ' w
  c : Chg (fun b => ∃ r, ρ b = some r) w w'
theorem RC.refl (ρ : Roles) (w : World) : RC ρ w ρ w := ⟨RExt.refl _ _, Chg.refl _ _⟩
theorem RC.then {ρ1 ρ2 : Roles} {w1 w2 : World} (h : RC ρ w ρ1 w1) (k : RC ρ1 w1 ρ2 w2) : RC ρ w ρ2 w2 :=
  ⟨h.r.trans k.r h.c.size, (h.c.trans k.c).mono fun b hb e => e.elim id fun ⟨r, e⟩ => ⟨r, (h.r b hb).symm.trans e⟩⟩
theorem RC.of {X : Nat → Prop} (hr : RExt ρ ρ' w) (hC : Chg X w w') (hX : ∀ b, X b → ∃ r, ρ b = some r) : RC ρ w ρ' w' := ⟨hr, hC.mono fun b _ e => hX b e⟩
theorem RC.ext (h : Ext w w') : RC ρ w ρ w' := ⟨RExt.refl _ _, Ext.to h⟩
theorem RC.a (hr : RExt ρ ρ' w) (hC : Chg (ArB 0 ρ) w w') : RC ρ w ρ' w' := .of hr hC fun _ => ArB.some
theorem RC.s {i : Nat} (hr : RExt ρ ρ' w) (hC : Chg (StB i ρ) w w') : RC ρ w ρ' w' := .of hr hC fun _ => StB.some
theorem RC.cell (h : RC ρ w ρ' w') {b E : Nat} {cs : List Value} (hb : ρ b = none) (hc : Cl w b E cs) : Cl w' b E cs := hc.chg h.c fun ⟨r, e⟩ => by rw [hb] at e; cases e
theorem RC.none (h : RC ρ w ρ' w') {b : Nat} (hb : ρ b = none) (hlt : b < w.heap.size) : ρ' b = none := (h.r b hlt).trans hb
theorem St.goRC (h : St w0 ρ w A S b5 b6 m xs c) (k : RC ρ w ρ' w') : Ext w0 w' := h.go k.c fun _ e => e

theorem map_grown {n : NodeM} (h : ∀ i ∈ xs, Live m i) : xs.map (nameAt (addEl m n)) = xs.map (nameAt m) := List.map_congr_left fun i hi => (Live.add n (h i hi)).2
theorem St.elem (h : St w0 ρ w A S b5 b6 m xs c) (hr : RExt ρ ρ' w) (hC : Chg (ArB 0 ρ) w w') {n : NodeM} (hA : AInv ρ' 0 w' A (addEl m n)) : St w0 ρ' w' A S b5 b6 (addEl m n) xs (c + 1) where
  ext := h.goRC (.a hr hC)
  r0 := h.re hr
  hA := hA
  hS := h.hS.chgA hr hC
  h5 := h.h5.chg hr hC fun b hb => ix_ne' (by decide) hb
  h6 := by
    rw [map_grown h.live]
    exact h.h6.chg hr hC fun b hb => ix_ne' (by decide) hb
  live := fun i hi => (Live.add n (h.live i hi)).1
  nod := h.nod
  ln := by show (m.nodes ++ [n]).length ≤ _; have := h.ln; simp; omega
  le := by show (m.elems ++ [_]).length ≤ _; have := h.le; simp; omega
  lx := by have := h.lx; omega
  oks := by rw [map_grown h.live]; exact h.oks
  spos := h.spos
/-- The same elements, some left out. -/
theorem St.sub {ys : List Nat} (h : St w0 ρ w A S b5 b6 m xs c) (k : RC ρ w ρ' w') (hA : AInv ρ' 0 w' A m) (hs : ys.Sublist xs) (hS : SInv ρ' 0 w' S A ys) (h5 : OV ρ' w' b5 ys) (h6 : NV ρ' w' b6 (ys.map (nameAt m))) : St w0 ρ' w' A S b5 b6 m ys c where
  ext := h.goRC k
  r0 := h.re k.r
  hA := hA
  hS := hS
  h5 := h5
  h6 := h6
  live := fun i hi => h.live i (hs.subset hi)
  nod := h.nod.sublist hs
  ln := h.ln
  le := h.le
  lx := Nat.le_trans hs.length_le h.lx
  oks := fun s hi => h.oks s ((hs.map _).subset hi)
  spos := h.spos
def insAt (p i : Nat) (xs : List Nat) : List Nat := xs.take p ++ [i] ++ xs.drop p
theorem mem_insAt {p i x : Nat} : x ∈ insAt p i xs ↔ x = i ∨ x ∈ xs := by
  unfold insAt
  have : x ∈ xs ↔ x ∈ xs.take p ∨ x ∈ xs.drop p := by rw [← List.mem_append, List.take_append_drop]
  rw [this]
  simp only [List.mem_append, List.mem_singleton]
  constructor
  · rintro ((h | h) | h)
    · exact .inr (.inl h)
    · exact .inl h
    · exact .inr (.inr h)
  · rintro (h | h | h)
    · exact .inl (.inr h)
    · exact .inl (.inl h)
    · exact .inr h
theorem insAt_perm (p i : Nat) (xs : List Nat) : (insAt p i xs).Perm (i :: xs) := by
  unfold insAt
  have h1 : (xs.take p ++ [i] ++ xs.drop p).Perm (i :: (xs.take p ++ xs.drop p)) := by
    rw [List.append_assoc]
    exact List.perm_middle
  rw [List.take_append_drop] at h1
  exact h1
/-- One element more. -/
theorem St.ins {n : NodeM} {p : Nat} (h : St w0 ρ w A S b5 b6 (addEl m n) xs c) (hm : ∀ i ∈ xs, i < m.elems.length) (hz : n.name.size ≤ 140737488351232) (hlc : xs.length + 1 ≤ c) (k : RC ρ w ρ' w') (hA : AInv ρ' 0 w' A (addEl m n)) (hS : SInv ρ' 0 w' S A (insAt p m.elems.length xs)) (h5 : OV ρ' w' b5 (insAt p m.elems.length xs))
    (h6 : NV ρ' w' b6 ((insAt p m.elems.length xs).map (nameAt (addEl m n)))) : St w0 ρ' w' A S b5 b6 (addEl m n) (insAt p m.elems.length xs) c where
  ext := h.goRC k
  r0 := h.re k.r
  hA := hA
  hS := hS
  h5 := h5
  h6 := h6
  live := fun i hi => by
    rcases mem_insAt.1 hi with rfl | hi
    · exact (Live.new m n).1
    · exact h.live i hi
  nod := by
    rw [(insAt_perm _ _ _).nodup_iff, List.nodup_cons]
    exact ⟨fun hi => by have := hm _ hi; omega, h.nod⟩
  ln := h.ln
  le := h.le
  lx := by rw [(insAt_perm _ _ _).length_eq]; simpa using hlc
  oks := fun s hs => by
    obtain ⟨i, hi, rfl⟩ := List.mem_map.1 hs
    rcases mem_insAt.1 hi with rfl | hi
    · rw [(Live.new m n).2]; exact hz
    · exact h.oks _ (List.mem_map.2 ⟨i, hi, rfl⟩)
  spos := h.spos
theorem idx_at {α : Type} [DecidableEq α] : ∀ (l : List α) (k i : Nat) (h : i < l.length), l.Nodup → idx l[i] l k = (k + i : Nat)
  | x :: l, k, 0, _, _ => by
    unfold idx
    show (if x = x then _ else _) = _
    rw [if_pos rfl]; rfl
  | x :: l, k, i + 1, h, hn => by
    obtain ⟨h1, h2⟩ := List.nodup_cons.1 hn
    have hl : i < l.length := by simpa using h
    show idx l[i] (x :: l) k = _
    unfold idx
    rw [if_neg (show ¬ l[i] = x from fun e => h1 (e ▸ List.getElem_mem hl)), idx_at l (k + 1) i hl h2]
    congr 1; omega

theorem keepS {ys : List Nat} {l : List ByteArray} (hA : AInv ρ 0 w A m) (h5 : OV ρ w b5 ys) (h6 : NV ρ w b6 l) (hr : RExt ρ ρ' w) (hC : Chg (StB 0 ρ) w w') : AInv ρ' 0 w' A m ∧ OV ρ' w' b5 ys ∧ NV ρ' w' b6 l :=
  ⟨hA.chgS hr hC, h5.chg hr hC fun b hb => ix_ne (by decide) hb, h6.chg hr hC fun b hb => ix_ne (by decide) hb⟩
theorem keep12 {ys : List Nat} (hA : AInv ρ 0 w A m) (hS : SInv ρ 0 w S A ys) (hr : RExt ρ ρ' w) (hC : Chg (fun b => StB 1 ρ b ∨ StB 2 ρ b) w w') : AInv ρ' 0 w' A m ∧ SInv ρ' 0 w' S A ys :=
  ⟨hA.chg hr hC (fun b hb e => by
      rcases e with e | e <;> rcases e with e | e <;> (rw [hb] at e; cases e)) fun b hb e => e.elim (fun e => ix_ne' (by decide) e hb) fun e => ix_ne' (by decide) e hb,
   hS.chg hr hC fun b hb e => e.elim (fun e => ix_ne (by decide) e hb) fun e => ix_ne (by decide) e hb⟩
theorem SInv.only {ys : List Nat} (h : SInv ρ 0 w S A ys) (hC : Chg (· = S) w w') : Chg (StB 0 ρ) w w' := hC.mono fun b _ e => by
  obtain ⟨ov, h⟩ := h
  have e : b = S := e
  exact .inl (e ▸ h.role)
theorem cutChg {ys : List Nat} {l : List ByteArray} (h5 : OV ρ w b5 ys) (h6 : NV ρ w b6 l) (hC : Chg (fun b => b = b5 ∨ b = b6) w w') : Chg (fun b => StB 1 ρ b ∨ StB 2 ρ b) w w' := hC.mono fun b _ e => by
  obtain ⟨v5, h5⟩ := h5
  obtain ⟨v6, h6⟩ := h6
  rcases e with rfl | rfl
  · exact .inl (.inl h5.role)
  · exact .inr (.inl h6.role)
theorem RC.s12 (hr : RExt ρ ρ' w) (hC : Chg (fun b => StB 1 ρ b ∨ StB 2 ρ b) w w') : RC ρ w ρ' w' := .of hr hC fun _ e => e.elim StB.some StB.some
end Go.Proofs
namespace Go.Proofs
open Go Go.Eng

theorem rdRow {w : World} {v : Value} {xs : List Nat} {K : Value → World → Prop} (h : Row w T_int 1 v xs.length (nats xs)) {i : Nat} (hi : i < xs.length) (k : K (.int .i64 (xs[i] : Nat)) w) :
    Vl Tryd.prog (Instr.indexAt T_sl_int v (.int .i64 (i : Nat))) w fun p w' => Vl Tryd.prog (Instr.loadAt T_int p) w' K := by
  obtain ⟨a, c, rfl, ha⟩ := h.val
  obtain ⟨g, rfl⟩ := ha (by omega)
  refine Vl.ix 1 (by omega) (by omega) (Vl.lda (v := .int .i64 (xs[i] : Nat)) ?_ k)
  have e : ((i : Int)).toNat = i := by omega
  rw [e, Nat.mul_one, Nat.zero_add]
  refine h.cell ?_
  unfold nats; simp [hi]
theorem lenRow {w : World} {T E U n : Nat} {v : Value} {cs : List Value} {K : Value → World → Prop} (h : Row w E 1 v n cs) (k : K (.int .i64 n) w) (hT : slT Tryd.prog T = true := by kernel_rfl) : Vl Tryd.prog (Builtin.len_ #[T] U #[v]) w K := by
  obtain ⟨a, c, rfl, _⟩ := h.val
  exact Vl.len k hT
theorem topOf_get {xs : List Nat} (h : 0 < xs.length) : topOf xs = xs[xs.length - 1]'(by omega) := by
  unfold topOf
  have h2 : xs.length - 1 < xs.length := by omega
  simp [List.getD, h2]

theorem St.mono {w0 w : World} {ρ : Roles} {A S b5 b6 c d : Nat} {m : AM} {xs : List Nat} (h : St w0 ρ w A S b5 b6 m xs c) (hd : c ≤ d) : St w0 ρ w A S b5 b6 m xs d :=
  ⟨h.ext, h.r0, h.hA, h.hS, h.h5, h.h6, h.live, h.nod, by have := h.ln; omega, by have := h.le; omega, by have := h.lx; omega, h.oks, h.spos⟩
theorem insAt_end (i : Nat) (xs : List Nat) : insAt xs.length i xs = xs ++ [i] := by unfold insAt; simp
theorem nats_ins (p i : Nat) (xs : List Nat) : nats (insAt p i xs) = (nats xs).take p ++ [.int .i64 i] ++ (nats xs).drop p := by unfold nats insAt; simp
theorem strs_ins (f : Nat → ByteArray) (p i : Nat) (xs : List Nat) : strs ((insAt p i xs).map f) = (strs (xs.map f)).take p ++ [.string (f i)] ++ (strs (xs.map f)).drop p := by unfold strs insAt; simp
theorem insAt_len {p i : Nat} {xs : List Nat} : (insAt p i xs).length = xs.length + 1 := by rw [(insAt_perm _ _ _).length_eq]; rfl

set_option maxHeartbeats 2000000 in
theorem c_StackActs {w : World} (hG : Glob w) {v0 : Value} {acts : List ActM} (h0 : ActsV w v0 acts) (hl0 : acts.length ≤ 9223372036854775807)
    {K : Value → World → Prop} (k : ∀ w', Ext w w' → K (.bool true) w') : Cf Tryd.prog n_decanterlaw13_StackActs #[v0] w K := by
  refine L_decanterlaw13_StackActs _ _ _ ?_
  unfold S_decanterlaw13_StackActs
  refine c_speaks hG fun w1 hE1 => Vl.not (Cond_bool (fun h => by cases h) fun _ => ?_)
  have sp : ∀ {wx : World}, Ext w wx → Cf Tryd.prog n_decanterlaw13_speaks #[] wx K := fun hx => c_speaks (hG.ext hx) fun w2 hE2 => k w2 (hx.then hE2)
  obtain ⟨a0, c0, rfl, hacts⟩ := h0
  refine Vl.len (Vl.gtr (Cond_bool (fun _ => sp hE1) fun hn => ?_))
  have hn : acts.length ≤ 40 := by have := of_decide_eq_false hn; omega
  have hG1 := hG.ext hE1
  refine c_arena_New (fresh0 0 w1) fun ρ2 w2 A hR2 hE2 hA2 => ?_
  refine Vl.i (w' := w2) (v := .bool false) (by kernel_rfl) (Cond_bool (fun h => by cases h) fun _ => ?_)
  refine c_stack_New (ρ := ρ2) (j := 0) fun ρ3 w3 S hR3 hE3 hS3 => ?_
  refine Vl.i (w' := w3) (v := .bool false) (by kernel_rfl) (Cond_bool (fun h => by cases h) fun _ => ?_)
  have hA3 := hA2.chg hR3.1 hE3 (fun _ _ => id) (fun _ _ => id)
  have hR03 : RExt ρ0 ρ3 w1 := hR2.1.trans hR3.1 hE2.size
  have hE13 := hE2.then hE3
  have hSn : S ≠ 0 := by
    have := SInv.new (fresh0 0 w1) hR03 hS3
    have := hG1.pos
    omega
  -- the two variables
  refine Vl.alloc (z := .slice none 0 0) (by intro w; kernel_rfl) fun w4 hN4 => ?_
  refine Vl.alloc (z := .slice none 0 0) (by intro w; kernel_rfl) fun w5 hN5 => ?_
  obtain ⟨b5, hb5⟩ : ∃ b, b = w3.heap.size := ⟨_, rfl⟩
  obtain ⟨b6, hb6⟩ : ∃ b, b = w4.heap.size := ⟨_, rfl⟩
  have s4 : w4.heap.size = w3.heap.size + 1 := hN4.size
  have s5 : w5.heap.size = w4.heap.size + 1 := hN5.size
  have c5 : Cl w5 b5 T_sl_int [.slice none 0 0] := by rw [hb5]; exact Cl.ext hN4.new hN5.ext
  have c6 : Cl w5 b6 T_sl_string [.slice none 0 0] := by rw [hb6]; exact hN5.new
  rw [← hb5, ← hb6]
  refine Vl.i (v := .func (.func 29) #[] #[.pointer (some ⟨b5, 0, none⟩), .pointer (some ⟨b6, 0, none⟩)]) (w' := w5) (by kernel_rfl) ?_
  have hE35 : Ext w3 w5 := hN4.ext.then hN5.ext
  obtain ⟨ρ5, hρ5⟩ : ∃ ρ5 : Roles, ρ5 = fun k => if k < w3.heap.size then ρ3 k else if k = b5 then some (1, .stk) else if k = b6 then some (2, .stk) else none := ⟨_, rfl⟩
  have r5 : ρ5 b5 = some (1, .stk) := by rw [hρ5]; show (if _ then _ else _) = _; rw [if_neg (by omega), if_pos rfl]
  have r6 : ρ5 b6 = some (2, .stk) := by rw [hρ5]; show (if _ then _ else _) = _; rw [if_neg (by omega), if_neg (by omega), if_pos rfl]
  have hR35 : RExt ρ3 ρ5 w3 := fun k hk => by rw [hρ5]; show (if _ then _ else _) = _; rw [if_pos hk]
  have hR05 : RExt ρ0 ρ5 w1 := hR03.trans hR35 hE13.size
  have hSt : St w1 ρ5 w5 A S b5 b6 ⟨[rootN], [0], 0⟩ [] 0 := by
    refine ⟨hE13.then hE35, fun k hk => hR05 k hk, hA3.chg hR35 hE35 (fun _ _ => id) (fun _ _ => id), hS3.chg hR35 hE35 (fun _ _ => id), ⟨_, c5, r5, Row.nil _ _ _, fun k hk => (by cases hk)⟩, ⟨_, c6, r6, Row.nil _ _ _, fun k hk => (by cases hk)⟩, fun i hi => (by cases hi), List.nodup_nil, Nat.le_refl _, Nat.le_refl _, Nat.le_refl _, fun s hs => (by cases hs), hSn⟩
  clear hA2 hA3 hS3 hR2 hR3 hN4 hN5 c5 c6 r5 r6 hR35 hR05
  have hwE : ∀ {wx : World}, Ext w1 wx → Ext w wx := fun h => hE1.then h
  refine Vl.len ⟨fun g ds w' => ∃ (i : Nat) (ρ : Roles) (m : AM) (xs : List Nat), g = [.int .i64 i] ∧ ds = [] ∧ i ≤ acts.length ∧ St w1 ρ w' A S b5 b6 m xs i, fun g _ => (acts.length - intAt g 0).toNat,
    ⟨0, ρ5, _, [], rfl, rfl, by omega, hSt⟩, ?_⟩
  clear hSt hρ5
  rintro g ds wo ⟨i, ρo, m, xs, hg, rfl, hi, hSt⟩
  have e40 : g 40 = .int .i64 i := by injection hg
  rw [e40]
  refine Vl.lss (Cond_bool (fun h => ?_) (fun _ => Lv.nil (k wo (hwE hSt.ext))))
  have hlt : i < acts.length := by have := of_decide_eq_true h; omega
  obtain ⟨gb, go, rfl, hc0, hc1, hc2, hns0, hok⟩ := hacts i hlt
  obtain ⟨act, hact⟩ : ∃ a, a = acts[i] := ⟨_, rfl⟩
  rw [← hact] at hc0 hc1 hc2 hns0 hok
  have hEo := hwE hSt.ext
  refine Vl.ix 3 (by omega) (by omega) ?_
  have ei : ((i : Int)).toNat = i := by omega
  rw [ei]
  refine Vl.ldC [.int .i64 act.do_, .int .i64 act.n, act.nv] (fun j v hj => ?_) ?_
  · match j, hj with
    | 0, hj => cases hj; exact cell_same hEo hc0 id
    | 1, hj => cases hj; exact cell_same hEo hc1 id
    | 2, hj => cases hj; exact cell_same hEo hc2 id
  refine Vl.alloc (z := .agg #[.int .i64 0, .int .i64 0, .slice none 0 0]) (by intro w; kernel_rfl) fun ws hNs => ?_
  obtain ⟨b9, hb9⟩ : ∃ b, b = wo.heap.size := ⟨_, rfl⟩
  rw [← hb9]
  have cs9 : Cl ws b9 T_decanterlaw13_Act [.int .i64 0, .int .i64 0, .slice none 0 0] := by rw [hb9]; exact hNs.new
  have onv : One act.nv := by obtain ⟨a, c, e, _⟩ := hns0; rw [e]; trivial
  refine Ef.setA (n := 3) cs9 rfl (by decide) (by intro v hv; simp at hv; rcases hv with rfl | rfl | rfl <;> first | trivial | exact onv) fun wt hut => ?_
  have c9 : Cl wt b9 T_decanterlaw13_Act [.int .i64 act.do_, .int .i64 act.n, act.nv] := hut.cl
  have hEt : Ext wo wt := hNs.ext.newer (S' := (· = b9)) hut.chg (fun x hx e => by omega)
  have st := hut.size
  have ss : ws.heap.size = wo.heap.size + 1 := hNs.size
  have hSt9 := (hSt.role (cutR_ext ρo wo)).e hEt
  have r9 : cutR ρo wo b9 = none := by unfold cutR; rw [if_neg (by omega)]
  generalize cutR ρo wo = ρ9 at hSt9 r9
  have hb9t : b9 < wt.heap.size := by omega
  have hEwt := hwE hSt9.ext
  clear hSt hNs cs9 hut
  have hns : Strs wt act.nv act.names := hns0.ext hEwt
  refine Vl.fa (Vl.ld c9 rfl ?_)
  refine c_right hns hok.2.1 (Vl.not (Cond_bool (fun _ => Lv.nil (k wt hEwt)) fun hr => ?_))
  have hnl : act.names.length ≤ 40 := by
    have h : rightF act.names = true := by simpa using hr
    unfold rightF at h; simp at h; exact h.2
  refine Vl.fa (Vl.ld c9 rfl ?_)
  obtain ⟨an, cn, env, hnle, hnat⟩ := hns
  have hns : Strs wt act.nv act.names := hns0.ext hEwt
  have c9' := c9
  rw [env] at c9 ⊢
  refine Vl.len (Vl.eql (Cond_bool (fun _ => Lv.nil (k wt hEwt)) fun hn0 => ?_))
  have hn1 : 0 < act.names.length := by have := of_decide_eq_false hn0; omega
  refine Vl.fa (Vl.ld c9 rfl ?_)
  have h0n : ((0 : Nat) : Int) = 0 := rfl
  refine Vl.strAt (i := 0) (env ▸ hns) hn1 ?_
  obtain ⟨name, hname⟩ : ∃ n, n = nmL act.names 0 := ⟨_, rfl⟩
  rw [← hname]
  have hnz : name.size ≤ 140737488351232 := by
    rw [hname, nmL_get act.names hn1]
    exact hok.2.2 _ (List.getElem_mem _)
  refine Vl.fa (Vl.ld c9 rfl (Vl.fa (Vl.ld c9 rfl ?_)))
  refine Vl.i (run_addW _ _ _) (Vl.i (run_negW _ _) (Vl.i (run_max2 _ _ _) ?_))
  obtain ⟨mx, hmx, emx⟩ := act_max hok.1.1 hok.1.2
  rw [emx]
  have hxl := hSt9.lx
  obtain ⟨v5, h5⟩ := hSt9.h5
  have h5row : Row wt T_int 1 v5 xs.length (nats xs) := by have := h5.row; rw [nats_len] at this; exact this
  refine Vl.ld h5.cl rfl (lenRow h5row (Vl.add ?_))
  have e1 : (xs.length : Int) + 1 = ((xs.length + 1 : Nat) : Int) := by omega
  rw [e1]
  refine Vl.rem (by omega) ?_
  have hat : mx % (xs.length + 1) < xs.length + 1 := Nat.mod_lt _ (by omega)
  generalize mx % (xs.length + 1) = at_ at hat
  refine ⟨fun g ds w' => g = [] ∧ ds = [] ∧ ∃ ρ' m' xs', RC ρ9 wt ρ' w' ∧ St w1 ρ' w' A S b5 b6 m' xs' (i + 1), ?_, ?_⟩
  · have hne : m.elems.length ≤ 1000000 := by have := hSt9.le; omega
    have hnn : m.nodes.length ≤ 1000000 := by have := hSt9.ln; omega
    have hmlt : ∀ j ∈ xs, j < m.elems.length := fun j hj => (hSt9.live j hj).lt
    refine Vl.fa (Vl.ld c9 rfl (Vl.eql (Cond_bool (fun _ => ?_) (fun _ => ?_))))
    · -- one more, the innermost
      refine c_Element hSt9.hA (l := []) (Row.nil _ _ _) (by simp) hnn hne fun ρa wa hRa hCa hAa => ?_
      have hSa := hSt9.elem (n := ⟨name, [], ⟨#[]⟩, -1, []⟩) hRa.1 hCa hAa
      have rca : RC ρ9 wt ρa wa := .a hRa.1 hCa
      refine c_Push hSa.hS (by omega) fun ρb wb hRb hCb hSb => ?_
      have rcb := rca.then (.s hRb.1 hCb)
      obtain ⟨hAb, h5b, h6b⟩ := keepS hSa.hA hSa.h5 hSa.h6 hRb.1 hCb
      refine push2_vc (name := name) h5b h6b (by omega) (by rw [List.length_map]; omega) fun ρc wc hRc hCc h5c h6c => ⟨rfl, rfl, ρc, addEl m ⟨name, [], ⟨#[]⟩, -1, []⟩, xs ++ [m.elems.length], rcb.then (.s12 hRc hCc), ?_⟩
      obtain ⟨hAc, hSc⟩ := keep12 hAb hSb hRc hCc
      rw [← insAt_end m.elems.length xs] at h5c hSc ⊢
      refine hSa.ins hmlt hnz (by omega) ((RC.s hRb.1 hCb).then (.s12 hRc hCc)) hAc hSc h5c ?_
      have e : (insAt xs.length m.elems.length xs).map (nameAt (addEl m ⟨name, [], ⟨#[]⟩, -1, []⟩)) = xs.map (nameAt (addEl m ⟨name, [], ⟨#[]⟩, -1, []⟩)) ++ [name] := by
        rw [insAt_end, List.map_append]
        show _ ++ [nameAt (addEl m ⟨name, [], ⟨#[]⟩, -1, []⟩) m.elems.length] = _
        rw [(Live.new m _).2]
      rw [e]; exact h6c
    refine Vl.eql (Cond_bool (fun _ => ?_) (fun _ => ?_))
    · -- the innermost one is closed
      refine c_Pop hSt9.hS (by omega) (fun hx => ?_) fun hx wa hCa hSa => ?_
      · subst hx
        refine Vl.extr (v := .int .i64 0) (Vl.extr (v := .bool false) ⟨fun g ds w' => g = [] ∧ ds = [] ∧ w' = wt, ?_, ?_⟩)
        · refine Vl.ld h5.cl rfl (lenRow h5row (Vl.gtr ?_))
          refine Vl.bneqSame (a := false) (Cond_bool (fun h => by cases h) fun _ => Cond_bool (fun h => by cases h) fun _ => ?_)
          refine Vl.not (Cond_bool (fun _ => ?_) fun h => by cases h)
          exact Vl.neq (Cond_bool (fun h => by simp at h) fun _ => ⟨rfl, rfl, rfl⟩)
        · rintro gb dsb wb ⟨_, rfl, rfl⟩
          exact Cond_bool (fun h => by cases h) fun _ => ⟨rfl, rfl, ρ9, m, [], .refl _ _, hSt9.mono (by omega)⟩
      · have hCs := hSt9.hS.only hCa
        obtain ⟨hAa, h5a, h6a⟩ := keepS hSt9.hA hSt9.h5 hSt9.h6 (RExt.refl _ _) hCs
        obtain ⟨u5, p5⟩ := h5a
        have r5a : Row wa T_int 1 u5 xs.length (nats xs) := by have := p5.row; rw [nats_len] at this; exact this
        have hrc : RC ρ9 wt ρ9 wa := .s (RExt.refl _ _) hCs
        have el : (xs.length : Int) - 1 = ((xs.length - 1 : Nat) : Int) := by omega
        refine Vl.extr (v := .int .i64 (topOf xs)) (Vl.extr (v := .bool true) ⟨fun g ds w' => g = [] ∧ ds = [] ∧ w' = wa, ?_, ?_⟩)
        · refine Vl.ld p5.cl rfl (lenRow r5a (Vl.gtr ?_))
          have ed : decide ((0 : Int) < (xs.length : Nat)) = true := by rw [decide_eq_true_iff]; omega
          rw [ed]
          refine Vl.bneqSame (a := true) (Cond_bool (fun h => by cases h) fun _ => Cond_bool (fun _ => ?_) (fun h => by cases h))
          refine Vl.ld p5.cl rfl (Vl.ld p5.cl rfl (lenRow r5a (Vl.sub ?_)))
          rw [el]
          refine rdRow r5a (by omega) ?_
          rw [topOf_get hx]
          refine Vl.neq (Cond_bool (fun h => by simp at h) fun _ => ?_)
          exact Vl.not (Cond_bool (fun h => by cases h) fun _ => ⟨rfl, rfl, rfl⟩)
        · rintro gb dsb wb ⟨_, rfl, rfl⟩
          refine Cond_bool (fun _ => ?_) (fun h => by cases h)
          refine Vl.ld p5.cl rfl (lenRow r5a (Vl.sub ?_))
          rw [el]
          refine Cv.fn (c_cut ⟨u5, p5⟩ h6a (by rw [List.length_map]) (by omega) fun wc hCc h5c h6c => ?_)
          have hC2 := cutChg ⟨u5, p5⟩ h6a hCc
          obtain ⟨hAc, hSc⟩ := keep12 hAa hSa (RExt.refl _ _) hC2
          have hrc2 := hrc.then (.s12 (RExt.refl _ _) hC2)
          refine ⟨rfl, rfl, ρ9, m, xs.take (xs.length - 1), hrc2, (hSt9.sub hrc2 hAc (List.take_sublist _ _) hSc h5c ?_).mono (by omega)⟩
          rw [List.map_take]; exact h6c
    refine Vl.eql (Cond_bool (fun _ => ?_) (fun _ => ?_))
    · -- one is taken out
      refine Vl.ld h5.cl rfl (lenRow h5row (Vl.eql (Cond_bool (fun _ => ?_) (fun hlt2 => ?_))))
      · refine Vl.add ⟨⟨i + 1, ρ9, m, xs, rfl, rfl, by omega, hSt9.mono (by omega)⟩, ?_⟩
        show ((acts.length : Int) - ((i : Int) + 1)).toNat < ((acts.length : Int) - (i : Int)).toNat; omega
      have hlt2 : at_ < xs.length := by have := of_decide_eq_false hlt2; omega
      refine Vl.ld h5.cl rfl (rdRow h5row hlt2 ?_)
      refine c_Remove hSt9.hS (by omega) fun wa hCa hSa => ?_
      have ex : remF xs[at_] xs = xs.take at_ ++ xs.drop (at_ + 1) := by
        unfold remF
        rw [idx_at xs 0 at_ hlt2 hSt9.nod, if_pos (by omega), List.eraseIdx_eq_take_drop_succ]
        congr 2 <;> omega
      rw [ex] at hSa
      obtain ⟨hAa, h5a, h6a⟩ := keepS hSt9.hA hSt9.h5 hSt9.h6 (RExt.refl _ _) hCa
      have hrc : RC ρ9 wt ρ9 wa := .s (RExt.refl _ _) hCa
      obtain ⟨u5, p5⟩ := h5a
      have r5a : Row wa T_int 1 u5 xs.length (nats xs) := by have := p5.row; rw [nats_len] at this; exact this
      refine del_vc (n := xs.length) (by kernel_rfl) (by kernel_rfl) (by kernel_rfl) p5.cl r5a (by intro u hu; unfold nats at hu; obtain ⟨x, _, rfl⟩ := List.mem_map.1 hu; rfl) hlt2 (by omega) fun v5' w1' wb hr5 hb5n hE1 hu5 => ?_
      have l5a := p5.cl.lt
      have h5b : OV (grow ρ9 wa v5' (1, .opn)) wb b5 (xs.take at_ ++ xs.drop (at_ + 1)) := by
        have en : nats (xs.take at_ ++ xs.drop (at_ + 1)) = (nats xs).take at_ ++ (nats xs).drop (at_ + 1) := by unfold nats; simp
        refine VInv.put (w := wa) (w1 := w1') p5.role l5a ?_ (fun k hk => .inr (hb5n k hk)) hu5
        have e : (nats (xs.take at_ ++ xs.drop (at_ + 1))).length = xs.length - 1 := by rw [nats_len, List.length_append, List.length_take, List.length_drop]; omega
        rw [e, en]; exact hr5
      have hC5 : Chg (fun b => StB 1 ρ9 b ∨ StB 2 ρ9 b) wa wb := ((Ext.to (S := (· = b5)) hE1).then hu5.chg).mono fun b _ e => by
        have e : b = b5 := e
        exact .inl (.inl (e ▸ p5.role))
      have hR5 : RExt ρ9 (grow ρ9 wa v5' (1, .opn)) wa := grow_ext _ _ _ _
      obtain ⟨hAb, hSb⟩ := keep12 hAa hSa hR5 hC5
      have h6b : NV (grow ρ9 wa v5' (1, .opn)) wb b6 (xs.map (nameAt m)) := h6a.chg hR5 ((Ext.to (S := (· = b5)) hE1).then hu5.chg) fun b hb e => by
        have e : b = b5 := e
        rw [e] at hb
        rcases hb with h | h <;> (rw [p5.role] at h; cases h)
      have hrcb := hrc.then (.s12 hR5 hC5)
      generalize grow ρ9 wa v5' (1, .opn) = ρb at h5b hR5 hAb hSb h6b hrcb
      obtain ⟨u6, p6⟩ := h6b
      have hml : (xs.map (nameAt m)).length = xs.length := by simp
      have r6b : Row wb T_string 1 u6 xs.length (strs (xs.map (nameAt m))) := by have := p6.row; rw [strs_len, hml] at this; exact this
      refine del_vc (n := xs.length) (by kernel_rfl) (by kernel_rfl) (by kernel_rfl) p6.cl r6b (by intro u hu; unfold strs at hu; obtain ⟨x, _, rfl⟩ := List.mem_map.1 hu; rfl) hlt2 (by omega) fun v6' w2' wc hr6 hb6n hE2 hu6 => ?_
      have l6b := p6.cl.lt
      have h6c : NV (grow ρb wb v6' (2, .opn)) wc b6 ((xs.take at_ ++ xs.drop (at_ + 1)).map (nameAt m)) := by
        have en : strs ((xs.take at_ ++ xs.drop (at_ + 1)).map (nameAt m)) = (strs (xs.map (nameAt m))).take at_ ++ (strs (xs.map (nameAt m))).drop (at_ + 1) := by unfold strs; simp
        refine VInv.put (w := wb) (w1 := w2') p6.role l6b ?_ (fun k hk => .inr (hb6n k hk)) hu6
        have e : (strs ((xs.take at_ ++ xs.drop (at_ + 1)).map (nameAt m))).length = xs.length - 1 := by rw [strs_len, List.length_map, List.length_append, List.length_take, List.length_drop]; omega
        rw [e, en]; exact hr6
      have hC6 : Chg (fun b => StB 1 ρb b ∨ StB 2 ρb b) wb wc := ((Ext.to (S := (· = b6)) hE2).then hu6.chg).mono fun b _ e => by
        have e : b = b6 := e
        exact .inr (.inl (e ▸ p6.role))
      have hR6 : RExt ρb (grow ρb wb v6' (2, .opn)) wb := grow_ext _ _ _ _
      obtain ⟨hAc, hSc⟩ := keep12 hAb hSb hR6 hC6
      have h5c : OV (grow ρb wb v6' (2, .opn)) wc b5 (xs.take at_ ++ xs.drop (at_ + 1)) := h5b.chg hR6 ((Ext.to (S := (· = b6)) hE2).then hu6.chg) fun b hb e => by
        have e : b = b6 := e
        rw [e] at hb
        rcases hb with h | h <;> (rw [p6.role] at h; cases h)
      have hrcc := hrcb.then (.s12 hR6 hC6)
      have hsub : (xs.take at_ ++ xs.drop (at_ + 1)).Sublist xs := by
        have := List.eraseIdx_sublist xs at_
        rw [List.eraseIdx_eq_take_drop_succ] at this; exact this
      exact ⟨rfl, rfl, _, m, _, hrcc, (hSt9.sub hrcc hAc hsub hSc h5c h6c).mono (by omega)⟩
    refine Vl.eql (Cond_bool (fun _ => ?_) (fun _ => ?_))
    · -- one is put at a place
      refine c_Element hSt9.hA (l := []) (Row.nil _ _ _) (by simp) hnn hne fun ρa wa hRa hCa hAa => ?_
      obtain ⟨nd, hnd⟩ : ∃ nd : NodeM, nd = ⟨name, [], ⟨#[]⟩, -1, []⟩ := ⟨_, rfl⟩
      have hSa := hSt9.elem (n := nd) hRa.1 hCa (by rw [hnd]; exact hAa)
      have hndn : nd.name = name := by rw [hnd]
      clear hAa
      have rca : RC ρ9 wt ρa wa := .a hRa.1 hCa
      have hle1 : at_ ≤ xs.length := by omega
      refine c_Insert (p := at_) hSa.hS hle1 (by omega) fun ρb wb hRb hCb hSb => ?_
      have rcb := rca.then (.s hRb.1 hCb)
      obtain ⟨hAb, h5b, h6b⟩ := keepS hSa.hA hSa.h5 hSa.h6 hRb.1 hCb
      obtain ⟨u5, p5⟩ := h5b
      have r5b : Row wb T_int 1 u5 xs.length (nats xs) := by have := p5.row; rw [nats_len] at this; exact this
      refine ins_vc (n := xs.length) (by kernel_rfl) (by kernel_rfl) (by kernel_rfl) p5.cl r5b (by intro u hu; unfold nats at hu; obtain ⟨x, _, rfl⟩ := List.mem_map.1 hu; rfl) trivial rfl hle1 (by omega) fun v5' w1' wc hr5 hb5n hE1 hu5 => ?_
      have l5b := p5.cl.lt
      have h5c : OV (grow ρb wb v5' (1, .opn)) wc b5 (insAt at_ m.elems.length xs) := by
        refine VInv.put (w := wb) (w1 := w1') p5.role l5b ?_ (fun k hk => .inr (hb5n k hk)) hu5
        rw [nats_len, insAt_len, nats_ins]; exact hr5
      have hC5 : Chg (fun b => StB 1 ρb b ∨ StB 2 ρb b) wb wc := ((Ext.to (S := (· = b5)) hE1).then hu5.chg).mono fun b _ e => by
        have e : b = b5 := e
        exact .inl (.inl (e ▸ p5.role))
      have hR5 : RExt ρb (grow ρb wb v5' (1, .opn)) wb := grow_ext _ _ _ _
      obtain ⟨hAc, hSc⟩ := keep12 hAb hSb hR5 hC5
      have h6c : NV (grow ρb wb v5' (1, .opn)) wc b6 (xs.map (nameAt (addEl m nd))) := h6b.chg hR5 ((Ext.to (S := (· = b5)) hE1).then hu5.chg) fun b hb e => by
        have e : b = b5 := e
        rw [e] at hb
        rcases hb with h | h <;> (rw [p5.role] at h; cases h)
      have hrcc := (RC.s hRb.1 hCb).then (.s12 hR5 hC5)
      generalize grow ρb wb v5' (1, .opn) = ρc at h5c hR5 hAc hSc h6c hrcc
      obtain ⟨u6, p6⟩ := h6c
      have hml : (xs.map (nameAt (addEl m nd))).length = xs.length := by simp
      have r6c : Row wc T_string 1 u6 xs.length (strs (xs.map (nameAt (addEl m nd)))) := by have := p6.row; rw [strs_len, hml] at this; exact this
      refine ins_vc (n := xs.length) (by kernel_rfl) (by kernel_rfl) (by kernel_rfl) p6.cl r6c (by intro u hu; unfold strs at hu; obtain ⟨x, _, rfl⟩ := List.mem_map.1 hu; rfl) trivial rfl hle1 (by omega) fun v6' w2' wd hr6 hb6n hE2 hu6 => ?_
      have l6c := p6.cl.lt
      have h6d : NV (grow ρc wc v6' (2, .opn)) wd b6 ((insAt at_ m.elems.length xs).map (nameAt (addEl m nd))) := by
        refine VInv.put (w := wc) (w1 := w2') p6.role l6c ?_ (fun k hk => .inr (hb6n k hk)) hu6
        rw [strs_len, List.length_map, insAt_len, strs_ins, (Live.new m nd).2, hndn]; exact hr6
      have hC6 : Chg (fun b => StB 1 ρc b ∨ StB 2 ρc b) wc wd := ((Ext.to (S := (· = b6)) hE2).then hu6.chg).mono fun b _ e => by
        have e : b = b6 := e
        exact .inr (.inl (e ▸ p6.role))
      have hR6 : RExt ρc (grow ρc wc v6' (2, .opn)) wc := grow_ext _ _ _ _
      obtain ⟨hAd, hSd⟩ := keep12 hAc hSc hR6 hC6
      have h5d : OV (grow ρc wc v6' (2, .opn)) wd b5 (insAt at_ m.elems.length xs) := h5c.chg hR6 ((Ext.to (S := (· = b6)) hE2).then hu6.chg) fun b hb e => by
        have e : b = b6 := e
        rw [e] at hb
        rcases hb with h | h <;> (rw [p6.role] at h; cases h)
      have hrcd := hrcc.then (.s12 hR6 hC6)
      exact ⟨rfl, rfl, _, addEl m nd, insAt at_ m.elems.length xs, rca.then hrcd, hSa.ins hmlt (by rw [hndn]; exact hnz) (by omega) hrcd hAd hSd h5d h6d⟩
    refine Vl.eql (Cond_bool (fun _ => ?_) (fun _ => ?_))
    · -- all is closed up to one
      obtain ⟨u6, p6⟩ := hSt9.h6
      have hml : (xs.map (nameAt m)).length = xs.length := by simp
      have s6 : Strs wt u6 (xs.map (nameAt m)) := Strs.of_row (by have := p6.row; rw [strs_len] at this; exact this)
      refine Vl.ld p6.cl rfl (Vl.fa (Vl.ld c9 rfl ?_))
      refine c_ref_To s6 (env ▸ hns) (by omega) (by omega) ?_
      refine Vl.fa (Vl.ld c9 rfl ?_)
      have et : toF act.names (nmL (xs.map (nameAt m))) (xs.map (nameAt m)).length = toF act.names (nmOf m xs) xs.length := by rw [hml]; exact (toF_congr _ (map_nm m xs)).symm
      rw [et]
      refine c_PopTo hSt9.hA hSt9.hS hSt9.live (by omega) (env ▸ hns) (by omega) fun wa hCa hSa => ?_
      have hlt := toF_lt act.names (nmOf m xs) xs.length
      generalize toF act.names (nmOf m xs) xs.length = r at hlt hSa
      have hCs := hSt9.hS.only hCa
      obtain ⟨hAa, h5a, h6a⟩ := keepS hSt9.hA hSt9.h5 hSt9.h6 (RExt.refl _ _) hCs
      have hrc : RC ρ9 wt ρ9 wa := .s (RExt.refl _ _) hCs
      refine Vl.geq (Vl.bneqSame (Cond_bool (fun h => by cases h) fun _ => Vl.geq (Cond_bool (fun hr0 => ?_) (fun hr0 => ?_))))
      · have hr0 := of_decide_eq_true hr0
        obtain ⟨n, rfl⟩ : ∃ n : Nat, r = n := ⟨r.toNat, by omega⟩
        have ep : popTo (n : Int) xs = xs.take n := by unfold popTo; rw [if_pos (by omega)]; congr 1
        rw [ep] at hSa
        refine Cv.fn (c_cut h5a h6a (by rw [List.length_map]) (by omega) fun wc hCc h5c h6c => ?_)
        have hC2 := cutChg h5a h6a hCc
        obtain ⟨hAc, hSc⟩ := keep12 hAa hSa (RExt.refl _ _) hC2
        have hrc2 := hrc.then (.s12 (RExt.refl _ _) hC2)
        refine ⟨rfl, rfl, ρ9, m, xs.take n, hrc2, (hSt9.sub hrc2 hAc (List.take_sublist _ _) hSc h5c ?_).mono (by omega)⟩
        rw [List.map_take]; exact h6c
      · have hr0 := of_decide_eq_false hr0
        have ep : popTo r xs = xs := by unfold popTo; rw [if_neg hr0]
        rw [ep] at hSa
        exact ⟨rfl, rfl, ρ9, m, xs, hrc, (hSt9.sub hrc hAa (List.Sublist.refl _) hSa h5a h6a).mono (by omega)⟩
    · -- those whose ends are implied
      refine c_Implied hSt9.hA hSt9.hS hSt9.live (by omega) (hG.ext hEwt) hSt9.spos fun wa hCa hSa => ?_
      have hCs := hSt9.hS.only hCa
      obtain ⟨hAa, h5a, h6a⟩ := keepS hSt9.hA hSt9.h5 hSt9.h6 (RExt.refl _ _) hCs
      have hrc : RC ρ9 wt ρ9 wa := .s (RExt.refl _ _) hCs
      have hml : (xs.map (nameAt m)).length = xs.length := by simp
      have h6a' := h6a
      obtain ⟨u6, p6⟩ := h6a'
      have s6 : Strs wa u6 (xs.map (nameAt m)) := Strs.of_row (by have := p6.row; rw [strs_len] at this; exact this)
      refine Vl.ld p6.cl rfl ?_
      refine c_ref_Implied s6 (by omega) hSt9.oks fun wb hEb => ?_
      have et : impF name (nmL (xs.map (nameAt m))) (xs.map (nameAt m)).length = impF name (nmOf m xs) xs.length := by rw [hml]; exact (impF_congr _ (map_nm m xs)).symm
      rw [et]
      have hle := impF_le name (nmOf m xs) xs.length
      generalize impF name (nmOf m xs) xs.length = n at hle hSa
      refine Cv.fn (c_cut (h5a.ext hEb) (h6a.ext hEb) (by rw [List.length_map]) hle fun wc hCc h5c h6c => ?_)
      have hC2 := cutChg (h5a.ext hEb) (h6a.ext hEb) hCc
      obtain ⟨hAc, hSc⟩ := keep12 (hAa.chg (RExt.refl _ _) hEb (fun _ _ => id) (fun _ _ => id)) (hSa.ext hEb) (RExt.refl _ _) hC2
      have hrc2 := (hrc.then (.ext hEb)).then (.s12 (RExt.refl _ _) hC2)
      refine ⟨rfl, rfl, ρ9, m, xs.take n, hrc2, (hSt9.sub hrc2 hAc (List.take_sublist _ _) hSc h5c ?_).mono (by omega)⟩
      rw [List.map_take]; exact h6c
  · clear hSt9
    rintro ga dsa wa ⟨_, rfl, ρa, ma, ys, hrc, hSt⟩
    have hyl := hSt.lx
    obtain ⟨v5, p5⟩ := hSt.h5
    have r5 : Row wa T_int 1 v5 ys.length (nats ys) := by have := p5.row; rw [nats_len] at this; exact this
    refine ⟨fun g ds w' => g = [.int .i64 (topOf ys)] ∧ ds = [] ∧ w' = wa, ?_, ?_⟩
    · refine Vl.ld p5.cl rfl (lenRow r5 (Vl.gtr (Cond_bool (fun h => ?_) (fun h => ?_))))
      · have h := of_decide_eq_true h
        refine Vl.ld p5.cl rfl (Vl.ld p5.cl rfl (lenRow r5 (Vl.sub ?_)))
        have el : (ys.length : Int) - 1 = ((ys.length - 1 : Nat) : Int) := by omega
        rw [el]
        refine rdRow r5 (by omega) ?_
        rw [topOf_get (by omega)]
        exact ⟨rfl, rfl, rfl⟩
      · have h := of_decide_eq_false h
        have : ys = [] := List.eq_nil_of_length_eq_zero (by omega)
        subst this
        exact ⟨rfl, rfl, rfl⟩
    · rintro gc dsc _ ⟨hgc, rfl, rfl⟩
      have e17 : gc 17 = .int .i64 (topOf ys) := by injection hgc
      rw [e17]
      refine c_All hSt.hS (by omega) fun vall wb hrow hEb _ => ?_
      have hStb := hSt.e hEb
      refine c_Top hStb.hS (by omega) fun wc _ hEc => Vl.neq (Cond_bool (fun h => by simp at h) fun _ => ?_)
      have hStc := hStb.e hEc
      have hEac := hEb.then hEc
      have hrowc := hrow.ext hEc
      have r5c := r5.ext hEac
      have p5c := p5.chg (RExt.refl _ _) hEac fun _ _ => id
      refine lenRow hrowc (Vl.ld p5c.cl rfl (lenRow r5c (Vl.neq (Cond_bool (fun h => by simp at h) fun _ => ?_))))
      refine c_Find (i := 1048576) hStc.hS (by omega) ?_
      rw [idx_none (fun hm => by have := (hStc.live _ hm).lt; have := hStc.le; omega)]
      refine Vl.neq (Cond_bool (fun h => by simp at h) fun _ => ?_)
      refine Vl.ld p5c.cl rfl (lenRow r5c ⟨fun g ds w' => ∃ j : Nat, g = [.int .i64 j] ∧ ds = [] ∧ w' = wc ∧ j ≤ ys.length, fun g _ => (ys.length - intAt g 0).toNat, ⟨0, rfl, rfl, rfl, by omega⟩, ?_⟩)
      rintro gd dsd wc ⟨j, hgd, rfl, rfl, hj⟩
      have e246 : gd 246 = .int .i64 j := by injection hgd
      rw [e246]
      refine Vl.lss (Cond_bool (fun hl => ?_) (fun _ => ?_))
      · have hl : j < ys.length := by have := of_decide_eq_true hl; omega
        refine rdRow r5c hl (rdRow hrowc hl (Vl.neq (Cond_bool (fun h => by simp at h) fun _ => ?_)))
        refine c_Find hStc.hS (by omega) ?_
        rw [idx_at ys 0 j hl hStc.nod, Nat.zero_add]
        refine Vl.neq (Cond_bool (fun h => by simp at h) fun _ => Vl.add ⟨⟨j + 1, rfl, rfl, rfl, by omega⟩, ?_⟩)
        show ((ys.length : Int) - ((j : Int) + 1)).toNat < ((ys.length : Int) - (j : Int)).toNat; omega
      · refine ⟨fun g ds w' => ∃ far : Nat, g = [.int .i64 far] ∧ ds = [] ∧ Ext wc w' ∧ far ≤ 3, fun g _ => (3 - intAt g 0).toNat, ⟨0, rfl, rfl, Chg.refl _ _, by omega⟩, ?_⟩
        rintro ge dse wd ⟨far, hge, rfl, hEd, hfar⟩
        have e21 : ge 21 = .int .i64 far := by injection hge
        rw [e21]
        have hStd := hStc.e hEd
        refine Vl.lss (Cond_bool (fun hl => ?_) (fun _ => ?_))
        · have hl : far < 3 := by have := of_decide_eq_true hl; omega
          have hf : (far : Int) = 0 ∨ (far : Int) = 1 ∨ (far : Int) = 2 := by omega
          have c9d : Cl wd b9 T_decanterlaw13_Act [.int .i64 act.do_, .int .i64 act.n, act.nv] := ((hrc.cell r9 c9').ext hEac).ext hEd
          obtain ⟨u6, p6⟩ := hStd.h6
          have s6 : Strs wd u6 (ys.map (nameAt ma)) := Strs.of_row (by have := p6.row; rw [strs_len] at this; exact this)
          have hml : (ys.map (nameAt ma)).length = ys.length := by simp
          have hEwd : Ext w wd := hwE hStd.ext
          have hnd : Strs wd act.nv act.names := hns0.ext hEwd
          refine ⟨fun x => Ext wd x, dr_ext wd, Pv.fa (VQ.ld (fun x hx => (c9d.ext hx).cell rfl) (VQ.ld (fun x hx => (p6.cl.ext hx).cell rfl) (Pv.fa (VQ.ld (fun x hx => (c9d.ext hx).cell rfl) ?_))))⟩
          have hStx := hStd.e (dr_ext wd)
          refine c_In hStx.hA hStx.hS hStx.live (by omega) (hG.ext (hwE hStx.ext)) (hnd.ext (dr_ext wd)) (by omega) fun we hEe => ⟨fun x => Ext wd x, fun _ h => h, (dr_ext wd).then hEe, ?_⟩
          have hEde := (dr_ext wd).then hEe
          refine c_ref_In (s6.ext hEde) (hnd.ext hEde) (by omega) (by omega) hStx.oks hf fun wf hEf => ⟨fun x => Ext wd x, fun _ h => h, hEde.then hEf, ?_⟩
          have et : seesF far act.names (nmL (ys.map (nameAt ma))) (ys.map (nameAt ma)).length = seesF far act.names (nmOf ma ys) ys.length := by rw [hml]; exact (seesF_congr _ (map_nm ma ys)).symm
          rw [et]
          refine Pv.i (v := .bool false) (fun w => bneq_same _) (Cond_bool (fun h => by cases h) fun _ => ?_)
          refine Vl.add ⟨⟨far + 1, rfl, rfl, (hEd.then hEde).then hEf, by omega⟩, ?_⟩
          show ((3 : Int) - ((far : Int) + 1)).toNat < ((3 : Int) - (far : Int)).toNat; omega
        · refine Vl.add ⟨⟨i + 1, ρa, ma, ys, rfl, rfl, by omega, hStd⟩, ?_⟩
          show ((acts.length : Int) - ((i : Int) + 1)).toNat < ((acts.length : Int) - (i : Int)).toNat; omega
end Go.Proofs
