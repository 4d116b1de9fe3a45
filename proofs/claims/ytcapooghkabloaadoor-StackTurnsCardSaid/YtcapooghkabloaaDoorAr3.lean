/- Part of the proof of a law of this seat: facts that it uses, each proved here. No conditions. -/
import Derived.Test.YtcapooghkabloaaDoorAr2
namespace Go.Proofs
open Go Go.Eng

def attrsOf (v : Value) (w : World) (l : List (ByteArray × ByteArray)) : Prop := Row w T_api_Attr 2 v l.length (attrCells l)

theorem c_Element {ρ : Roles} {j : Nat} {w : World} {A : Nat} {m : AM} (h : AInv ρ j w A m) {name : ByteArray} {v : Value} {l : List (ByteArray × ByteArray)} (ha : Row w T_api_Attr 2 v l.length (attrCells l))
    (hl : l.length ≤ 1000000) (hb : m.nodes.length ≤ 1000000) (hbe : m.elems.length ≤ 1000000) {K : Value → World → Prop}
    (k : ∀ ρ' w', RGrow j ρ ρ' w → Chg (ArB j ρ) w w' → AInv ρ' j w' A { m with nodes := m.nodes ++ [⟨name, l, ⟨#[]⟩, -1, []⟩], elems := m.elems ++ [m.nodes.length] } → K (.int .i64 m.elems.length) w') :
    Cf Tryd.prog n_arena_Arena_Element #[.pointer (some ⟨A, 0, none⟩), .string name, v] w K := by
  refine L_arena_Arena_Element _ _ _ _ _ ?_
  unfold S_arena_Arena_Element
  refine c_Clone_attrs ha hl fun v' w1 hr hE hnew => ?_
  obtain ⟨a, c, rfl, _⟩ := hr.val
  refine Vl.i (w' := w1) (v := .agg (nodeCells ⟨name, l, ⟨#[]⟩, -1, []⟩ (.slice a l.length c, .slice none 0 0)).toArray) (by kernel_rfl) ?_
  refine c_number (ρ := grow ρ w (.slice none 0 0) (j, .nodes)) (n := ⟨name, l, ⟨#[]⟩, -1, []⟩) (h.chg (grow_ext _ _ _ _) hE (fun _ _ => id) fun _ _ => id) hr (fun b hb => ?_) rfl hb hbe fun ρ' w2 hR hC h2 => ?_
  · have := hnew b hb
    unfold grow; rw [if_neg (by omega), if_neg (by intro e; cases e)]
  · have hs := hE.size
    refine k ρ' w2 ((grow_grow ρ w _ j .nodes).trans hR hs) ((hE.to (S := ArB j ρ)).trans hC |>.mono fun x hx e => ?_) h2
    rcases e with e | ⟨r, h1, h2⟩
    · exact e
    · rw [grow_ext _ _ _ _ x hx] at h1; exact ⟨r, h1, h2⟩

/-- One new block gets a role. -/
def putR (ρ : Roles) (w : World) (b : Nat) (r : Nat × RK) : Roles := fun k => if k < w.heap.size then ρ k else if k = b then some r else none
theorem putR_ext (ρ : Roles) (w : World) (b : Nat) (r : Nat × RK) : RExt ρ (putR ρ w b r) w := fun k hk => by unfold putR; rw [if_pos hk]
theorem putR_at (ρ : Roles) (w : World) (b : Nat) (r : Nat × RK) (h : w.heap.size ≤ b) : putR ρ w b r b = some r := by unfold putR; rw [if_neg (by omega), if_pos rfl]

def rootN : NodeM := ⟨⟨#[]⟩, [], ⟨#[]⟩, -1, []⟩
theorem putR_grow (ρ : Roles) (w : World) (b j : Nat) (r : RK) : RGrow j ρ (putR ρ w b (j, r)) w := ⟨putR_ext _ _ _ _, fun k hk i r' e => by
  unfold putR at e
  rw [if_neg (by omega)] at e
  by_cases hb : k = b
  · rw [if_pos hb] at e; cases e; rfl
  · rw [if_neg hb] at e; cases e⟩

theorem c_arena_New {ρ : Roles} {j : Nat} {w : World} (hj : Fresh ρ j w) {K : Value → World → Prop}
    (k : ∀ ρ' w' A, RGrow j ρ ρ' w → Ext w w' → AInv ρ' j w' A ⟨[rootN], [0], 0⟩ → K (.pointer (some ⟨A, 0, none⟩)) w') : Cf Tryd.prog n_arena_New #[] w K := by
  refine L_arena_New _ _ ?_
  unfold S_arena_New
  refine Vl.i (w' := w) (v := .agg #[.slice none 0 0, .slice none 0 0, .int .i64 0]) (by kernel_rfl) ?_
  refine Vl.box fun w1 h1 => ?_
  have hc : Cl w1 w.heap.size T_arena_Arena [.slice none 0 0, .slice none 0 0, .int .i64 (0 : Nat)] := h1.new
  refine Vl.i (w' := w1) (v := .agg (nodeCells rootN (.slice none 0 0, .slice none 0 0)).toArray) (by kernel_rfl) ?_
  have hinv : AInv (putR ρ w w.heap.size (j, .arena)) j w1 w.heap.size ⟨[], [], 0⟩ :=
    ⟨_, _, [], rfl, hc, putR_at _ _ _ _ (Nat.le_refl _), Row.nil _ _ _, (fun b hb => by cases hb), Row.nil _ _ _, (fun b hb => by cases hb), (fun q n p hn => by simp at hn)⟩
  refine c_number hinv (n := rootN) (av := .slice none 0 0) (Row.nil _ _ _) (fun b hb => by cases hb) rfl (by simp) (by simp) fun ρ' w2 hR hC h2 => ?_
  have hs : w1.heap.size = w.heap.size + 1 := h1.size
  refine k ρ' w2 _ ((putR_grow ρ w _ j .arena).trans hR (by omega)) (Chg.newer h1.ext hC fun x hx e => ?_) h2
  obtain ⟨r, e, _⟩ := e
  rw [putR_ext ρ w _ _ x hx] at e
  exact hj x r hx e

/-- Block S is a stack over the arena at A. -/
structure SPh (ρ : Roles) (j : Nat) (w : World) (S A : Nat) (xs : List Nat) (ov : Value) : Prop where
  cl : Cl w S T_stack_Stack [.pointer (some ⟨A, 0, none⟩), ov]
  role : ρ S = some (j, .stk)
  row : Row w T_int 1 ov xs.length (nats xs)
  rowRole : ∀ b, blk ov = some b → ρ b = some (j, .opn)
def SInv (ρ : Roles) (j : Nat) (w : World) (S A : Nat) (xs : List Nat) : Prop := ∃ ov, SPh ρ j w S A xs ov
theorem SPh.chg {ρ ρ' : Roles} {j : Nat} {w w' : World} {S A : Nat} {xs : List Nat} {ov : Value} {X : Nat → Prop} (h : SPh ρ j w S A xs ov) (hr : RExt ρ ρ' w) (c : Chg X w w') (h2 : ∀ b, StB j ρ b → ¬ X b) : SPh ρ' j w' S A xs ov :=
  ⟨h.cl.chg c (h2 S (.inl h.role)), (hr S h.cl.lt).trans h.role, h.row.chg c fun b hb => h2 b (.inr (h.rowRole b hb)), fun b hb => (hr b (h.row.lt b hb)).trans (h.rowRole b hb)⟩
theorem SInv.chg {ρ ρ' : Roles} {j : Nat} {w w' : World} {S A : Nat} {xs : List Nat} {X : Nat → Prop} (h : SInv ρ j w S A xs) (hr : RExt ρ ρ' w) (c : Chg X w w') (h2 : ∀ b, StB j ρ b → ¬ X b) : SInv ρ' j w' S A xs := by
  obtain ⟨ov, h⟩ := h
  exact ⟨ov, h.chg hr c h2⟩
theorem SInv.ext {ρ : Roles} {j : Nat} {w w' : World} {S A : Nat} {xs : List Nat} (h : SInv ρ j w S A xs) (c : Ext w w') : SInv ρ j w' S A xs := h.chg (RExt.refl _ _) c fun _ _ => id
theorem not_StB_ArB {ρ : Roles} {i j : Nat} {b : Nat} (h : ArB i ρ b) : ¬ StB j ρ b := by
  obtain ⟨r, h, hr⟩ := h
  rintro (e | e) <;> (rw [h] at e; cases e; cases hr)

theorem c_stack_New {ρ : Roles} {j : Nat} {w : World} {A : Nat} {K : Value → World → Prop}
    (k : ∀ ρ' w' S, RGrow j ρ ρ' w → Ext w w' → SInv ρ' j w' S A [] → K (.pointer (some ⟨S, 0, none⟩)) w') : Cf Tryd.prog n_stack_New #[.pointer (some ⟨A, 0, none⟩)] w K := by
  refine L_stack_New _ _ _ ?_
  unfold S_stack_New
  refine Vl.i (w' := w) (v := .agg #[.pointer (some ⟨A, 0, none⟩), .slice none 0 0]) (by kernel_rfl) ?_
  refine Vl.box fun w1 h1 => k _ w1 _ (putR_grow ρ w w.heap.size j .stk) h1.ext ⟨.slice none 0 0, h1.new, putR_at _ _ _ _ (Nat.le_refl _), Row.nil _ _ _, fun b hb => by cases hb⟩

theorem c_Push {ρ : Roles} {j : Nat} {w : World} {S A : Nat} {xs : List Nat} (h : SInv ρ j w S A xs) {i : Nat} (hb : xs.length ≤ 1000000) {K : Value → World → Prop}
    (k : ∀ ρ' w', RGrow j ρ ρ' w → Chg (StB j ρ) w w' → SInv ρ' j w' S A (xs ++ [i]) → K (.tuple #[]) w') : Cf Tryd.prog n_stack_Stack_Push #[.pointer (some ⟨S, 0, none⟩), .int .i64 i] w K := by
  obtain ⟨ov, h⟩ := h
  refine L_stack_Stack_Push _ _ _ _ ?_
  unfold S_stack_Stack_Push
  refine ⟨trivial, Vl.fa (Vl.ld h.cl rfl (Vl.bs1 (E := T_int) (sz := 1) rfl fun w1 h1 => ?_))⟩
  refine Vl.app (h.row.ext h1.ext) h1.cl (by simp) (by intro u hu; simp at hu; subst hu; rfl) (by omega) fun v' w2 hr hc hbk => ?_
  have hne : ∀ b, blk ov = some b → b ≠ S := fun b hb e => by have := h.rowRole b hb; rw [e, h.role] at this; cases this
  have hS := h.cl
  have hSlt := hS.lt
  have hs1 : w1.heap.size = w.heap.size + 1 := h1.size
  have hS2 : Cl w2 S T_stack_Stack [.pointer (some ⟨A, 0, none⟩), ov] := (hS.nw h1).chg hc fun e => hne S e rfl
  refine ⟨trivial, Vl.fa ?_⟩
  have hone : One v' := by obtain ⟨a, c, rfl, _⟩ := hr.val; trivial
  refine Ef.set hS2 (by simp) (fun w3 h3 => ?_) hone
  have hC : Chg (fun b => blk ov = some b ∨ b = S) w w3 := (h1.ext.to.then hc).trans h3.chg |>.mono fun x _ e => e
  refine k (grow ρ w v' (j, .opn)) w3 (grow_grow _ _ _ _ _) (hC.mono fun x _ e => e.elim (fun e => .inr (h.rowRole x e)) fun e => .inl (e ▸ h.role)) ⟨v', h3.cl, (grow_ext _ _ _ _ S hSlt).trans h.role, ?_, fun b hb => grow_role hb fun hlt => ?_⟩
  · have := hr.chg h3.chg fun b hb => fun e => by
      subst e
      rcases hbk b hb with h6 | h6
      · exact hne b h6 rfl
      · omega
    simpa [nats] using this
  · rcases hbk b hb with h6 | h6
    · exact h.rowRole b h6
    · omega
end Go.Proofs
