/- Part of the proof of a law of this seat: facts that it uses, each proved here. No conditions. -/
import Derived.Test.YtcapooghkabloaaDoorK3
namespace Go.Proofs
open Go Go.Eng

/-! ### What a memory of arenas, stacks and lists holds -/
inductive RK where
  | arena | nodes | elems | inner (k : Nat) | stk | opn | lst | ents
  deriving DecidableEq
abbrev Roles := Nat → Option (Nat × RK)
def RExt (ρ ρ' : Roles) (w : World) : Prop := ∀ k, k < w.heap.size → ρ' k = ρ k
theorem RExt.refl (ρ : Roles) (w : World) : RExt ρ ρ w := fun _ _ => rfl
theorem RExt.trans {ρ ρ' ρ'' : Roles} {w w' : World} (h : RExt ρ ρ' w) (k : RExt ρ' ρ'' w') (hs : w.heap.size ≤ w'.heap.size) : RExt ρ ρ'' w := fun x hx => (k x (by omega)).trans (h x hx)
/-- Roles of new blocks are of the j-th kind. -/
def RNew (j : Nat) (ρ' : Roles) (w : World) : Prop := ∀ k, w.heap.size ≤ k → ∀ i r, ρ' k = some (i, r) → i = j
def RGrow (j : Nat) (ρ ρ' : Roles) (w : World) : Prop := RExt ρ ρ' w ∧ RNew j ρ' w
theorem RGrow.trans {j : Nat} {ρ ρ' ρ'' : Roles} {w w' : World} (h : RGrow j ρ ρ' w) (k : RGrow j ρ' ρ'' w') (hs : w.heap.size ≤ w'.heap.size) : RGrow j ρ ρ'' w :=
  ⟨h.1.trans k.1 hs, fun x hx i r e => by
    by_cases hlt : x < w'.heap.size
    · rw [k.1 x hlt] at e; exact h.2 x hx i r e
    · exact k.2 x (by omega) i r e⟩
/-- No block bears the instance j yet. -/
def Fresh (ρ : Roles) (j : Nat) (w : World) : Prop := ∀ b r, b < w.heap.size → ρ b ≠ some (j, r)
theorem Fresh.grow {ρ ρ' : Roles} {i j : Nat} {w w' : World} (h : Fresh ρ j w) (k : RGrow i ρ ρ' w) (hne : j ≠ i) : Fresh ρ' j w' := fun b r _ e => by
  by_cases hlt : b < w.heap.size
  · rw [k.1 b hlt] at e; exact h b r hlt e
  · exact hne (k.2 b (by omega) j r e)
def isAr : RK → Bool
  | .arena | .nodes | .elems | .inner _ => true
  | _ => false
/-- The blocks of the j-th arena. -/
def ArB (j : Nat) (ρ : Roles) (k : Nat) : Prop := ∃ r, ρ k = some (j, r) ∧ isAr r = true
def StB (j : Nat) (ρ : Roles) (k : Nat) : Prop := ρ k = some (j, .stk) ∨ ρ k = some (j, .opn)
def LsB (j : Nat) (ρ : Roles) (k : Nat) : Prop := ρ k = some (j, .lst) ∨ ρ k = some (j, .ents)

def ints (l : List Int) : List Value := l.map (Value.int .i64)
def nats (l : List Nat) : List Value := l.map fun (n : Nat) => Value.int .i64 (n : Int)
def attrCells (l : List (ByteArray × ByteArray)) : List Value := l.flatMap fun a => [.string a.1, .string a.2]

structure NodeM where
  name : ByteArray
  attrs : List (ByteArray × ByteArray)
  text : ByteArray
  parent : Int
  inner : List Nat
structure AM where
  nodes : List NodeM
  elems : List Nat
  copies : Nat
def nodeCells (n : NodeM) (ph : Value × Value) : List Value := [.string n.name, ph.1, .string n.text, .int .i64 n.parent, ph.2]
def nodesCells : List NodeM → List (Value × Value) → List Value
  | n :: ns, p :: ps => nodeCells n p ++ nodesCells ns ps
  | _, _ => []

/-- The slices of a node. -/
structure PhOk (ρ : Roles) (j : Nat) (w : World) (k : Nat) (n : NodeM) (p : Value × Value) : Prop where
  attrs : Row w T_api_Attr 2 p.1 n.attrs.length (attrCells n.attrs)
  attrsRo : ∀ b, blk p.1 = some b → ρ b = none
  inner : Row w T_int 1 p.2 n.inner.length (nats n.inner)
  innerRole : ∀ b, blk p.2 = some b → ρ b = some (j, .inner k)

structure ArenaPh (ρ : Roles) (j : Nat) (w : World) (A : Nat) (m : AM) (nv ev : Value) (ph : List (Value × Value)) : Prop where
  len : ph.length = m.nodes.length
  cl : Cl w A T_arena_Arena [nv, ev, .int .i64 m.copies]
  role : ρ A = some (j, .arena)
  nodes : Row w T_arena_node 5 nv m.nodes.length (nodesCells m.nodes ph)
  nodesRole : ∀ b, blk nv = some b → ρ b = some (j, .nodes)
  elems : Row w T_int 1 ev m.elems.length (nats m.elems)
  elemsRole : ∀ b, blk ev = some b → ρ b = some (j, .elems)
  node : ∀ k n p, m.nodes[k]? = some n → ph[k]? = some p → PhOk ρ j w k n p
/-- Block A is an arena that has m. -/
def AInv (ρ : Roles) (j : Nat) (w : World) (A : Nat) (m : AM) : Prop := ∃ nv ev ph, ArenaPh ρ j w A m nv ev ph

theorem PhOk.chg {ρ ρ' : Roles} {j : Nat} {w w' : World} {k : Nat} {n : NodeM} {p : Value × Value} {S : Nat → Prop} (h : PhOk ρ j w k n p) (hr : RExt ρ ρ' w) (c : Chg S w w')
    (h1 : ∀ b, ρ b = none → ¬ S b) (h2 : ∀ b, ρ b = some (j, .inner k) → ¬ S b) : PhOk ρ' j w' k n p :=
  ⟨h.attrs.chg c fun b hb => h1 b (h.attrsRo b hb), fun b hb => (hr b (h.attrs.lt b hb)).trans (h.attrsRo b hb),
   h.inner.chg c fun b hb => h2 b (h.innerRole b hb), fun b hb => (hr b (h.inner.lt b hb)).trans (h.innerRole b hb)⟩
theorem ArenaPh.chg {ρ ρ' : Roles} {j : Nat} {w w' : World} {A : Nat} {m : AM} {nv ev : Value} {ph : List (Value × Value)} {S : Nat → Prop} (h : ArenaPh ρ j w A m nv ev ph) (hr : RExt ρ ρ' w) (c : Chg S w w')
    (h1 : ∀ b, ρ b = none → ¬ S b) (h2 : ∀ b, ArB j ρ b → ¬ S b) : ArenaPh ρ' j w' A m nv ev ph :=
  ⟨h.len, h.cl.chg c (h2 A ⟨_, h.role, rfl⟩), (hr A h.cl.lt).trans h.role, h.nodes.chg c fun b hb => h2 b ⟨_, h.nodesRole b hb, rfl⟩, fun b hb => (hr b (h.nodes.lt b hb)).trans (h.nodesRole b hb),
   h.elems.chg c fun b hb => h2 b ⟨_, h.elemsRole b hb, rfl⟩, fun b hb => (hr b (h.elems.lt b hb)).trans (h.elemsRole b hb), fun k n p hn hp => (h.node k n p hn hp).chg hr c h1 fun b hb => h2 b ⟨_, hb, rfl⟩⟩
theorem AInv.chg {ρ ρ' : Roles} {j : Nat} {w w' : World} {A : Nat} {m : AM} {S : Nat → Prop} (h : AInv ρ j w A m) (hr : RExt ρ ρ' w) (c : Chg S w w')
    (h1 : ∀ b, ρ b = none → ¬ S b) (h2 : ∀ b, ArB j ρ b → ¬ S b) : AInv ρ' j w' A m := by
  obtain ⟨nv, ev, ph, h⟩ := h
  exact ⟨nv, ev, ph, h.chg hr c h1 h2⟩
theorem AInv.ext {ρ : Roles} {j : Nat} {w w' : World} {A : Nat} {m : AM} (h : AInv ρ j w A m) (c : Ext w w') : AInv ρ j w' A m := h.chg (RExt.refl _ _) c (fun _ _ => id) fun _ _ => id

theorem nodesCells_length : ∀ (ns : List NodeM) (ps : List (Value × Value)), ps.length = ns.length → (nodesCells ns ps).length = ns.length * 5
  | [], [], _ => rfl
  | n :: ns, p :: ps, h => by
    have := nodesCells_length ns ps (by simpa using h)
    simp only [nodesCells, List.length_append, this, List.length_cons]; simp [nodeCells]; omega
theorem nodesCells_get : ∀ (ns : List NodeM) (ps : List (Value × Value)) (k i : Nat) (n : NodeM) (p : Value × Value), ns[k]? = some n → ps[k]? = some p → i < 5 → (nodesCells ns ps)[k * 5 + i]? = (nodeCells n p)[i]?
  | [], _, k, i, n, p, h, _, _ => by simp at h
  | n' :: ns, [], k, i, n, p, _, h, _ => by simp at h
  | n' :: ns, p' :: ps, 0, i, n, p, h1, h2, hi => by
    simp at h1 h2; subst h1; subst h2
    simp only [nodesCells, Nat.zero_mul, Nat.zero_add]
    rw [List.getElem?_append_left (by simp [nodeCells]; omega)]
  | n' :: ns, p' :: ps, k + 1, i, n, p, h1, h2, hi => by
    simp only [nodesCells]
    rw [List.getElem?_append_right (by simp [nodeCells]; omega)]
    have e : (k + 1) * 5 + i - (nodeCells n' p').length = k * 5 + i := by simp [nodeCells]; omega
    rw [e]
    exact nodesCells_get ns ps k i n p (by simpa using h1) (by simpa using h2) hi
theorem nodesCells_snoc : ∀ (ns : List NodeM) (ps : List (Value × Value)) (n : NodeM) (p : Value × Value), ps.length = ns.length → nodesCells (ns ++ [n]) (ps ++ [p]) = nodesCells ns ps ++ nodeCells n p
  | [], [], n, p, _ => by simp [nodesCells]
  | n' :: ns, p' :: ps, n, p, h => by
    simp only [List.cons_append, nodesCells, List.append_assoc]
    rw [nodesCells_snoc ns ps n p (by simpa using h)]

/-- A cell of a node, in memory. -/
theorem ArenaPh.nodeCell {ρ : Roles} {j : Nat} {w : World} {A : Nat} {m : AM} {nv ev : Value} {ph : List (Value × Value)} (h : ArenaPh ρ j w A m nv ev ph) {g cap n0 : Nat} (hv : nv = .slice (some ⟨g, 0, none⟩) n0 cap) {k i : Nat} {n : NodeM} {p : Value × Value}
    (hn : m.nodes[k]? = some n) (hp : ph[k]? = some p) (hi : i < 5) {v : Value} (hc : (nodeCells n p)[i]? = some v) : w.cell? ⟨g, k * 5 + i, none⟩ = some v := by
  have hr := h.nodes
  obtain ⟨a, c, e, _⟩ := hr.val
  rw [hv] at e hr
  injection e with e1 e2 e3
  subst e2
  exact hr.cell (by rw [nodesCells_get _ _ _ _ _ _ hn hp hi]; exact hc)

/-- Arena.at: the address of an element's node. -/
theorem c_at {ρ : Roles} {j : Nat} {w : World} {A : Nat} {m : AM} {nv ev : Value} {ph : List (Value × Value)} (h : ArenaPh ρ j w A m nv ev ph) {i q : Nat} (hi : m.elems[i]? = some q) (hq : q < m.nodes.length) {K : Value → World → Prop}
    (k : ∀ g cap w', w'.heap = w.heap → Ext w w' → nv = .slice (some ⟨g, 0, none⟩) m.nodes.length cap → K (.pointer (some ⟨g, q * 5, none⟩)) w') :
    Cf Tryd.prog n_arena_Arena_at #[.pointer (some ⟨A, 0, none⟩), .int .i64 i] w K := by
  refine L_arena_Arena_at _ _ _ _ ?_
  unfold S_arena_Arena_at
  obtain ⟨na, ncap, rfl, hna⟩ := h.nodes.val
  obtain ⟨g, rfl⟩ := hna (by omega)
  have hil : i < m.elems.length := (List.getElem?_eq_some_iff.1 hi).1
  obtain ⟨ea, ecap, rfl, hea⟩ := h.elems.val
  obtain ⟨ge, rfl⟩ := hea (by omega)
  have hcl := h.cl
  have hel : w.cell? ⟨ge, i, none⟩ = some (.int .i64 q) := h.elems.cell (by unfold nats; simp [hi])
  refine ⟨fun x => x.heap = w.heap, rfl, trivial, ?_⟩
  have sc : ∀ x : World, x.heap = w.heap → ∀ a v, w.cell? a = some v → x.cell? a = some v := fun x hx a v hv => by unfold World.cell? at *; rw [hx]; exact hv
  refine Pv.fa (VQ.ld (fun x hx => sc x hx _ _ (hcl.cell rfl)) ⟨trivial, Pv.fa (VQ.ld (fun x hx => sc x hx _ _ (hcl.cell rfl)) ?_)⟩)
  refine Pv.ix 1 (by omega) (by omega) ?_
  refine VQ.ld (v := .int .i64 q) (fun x hx => sc x hx _ _ (by simpa using hel)) ?_
  refine Pv.ix 5 (by omega) (by omega) ?_
  have := k g ncap (dr w) rfl (dr_ext w) rfl
  simpa using this

/-- Arena.Name -/
theorem c_Name {ρ : Roles} {j : Nat} {w : World} {A : Nat} {m : AM} (h : AInv ρ j w A m) {i q : Nat} {n : NodeM} (hi : m.elems[i]? = some q) (hq : m.nodes[q]? = some n) {K : Value → World → Prop}
    (k : ∀ w', w'.heap = w.heap → Ext w w' → K (.string n.name) w') : Cf Tryd.prog n_arena_Arena_Name #[.pointer (some ⟨A, 0, none⟩), .int .i64 i] w K := by
  obtain ⟨nv, ev, ph, h⟩ := h
  refine L_arena_Arena_Name _ _ _ _ ?_
  unfold S_arena_Arena_Name
  have hql : q < m.nodes.length := (List.getElem?_eq_some_iff.1 hq).1
  refine c_at h hi hql fun g cap w' hw hE hv => ⟨trivial, Vl.fa (Vl.lda (v := .string n.name) ?_ (k w' hw hE))⟩
  have hpl : q < ph.length := by rw [h.len]; exact hql
  have hp : ph[q]? = some ph[q] := List.getElem?_eq_getElem hpl
  have := h.nodeCell hv hq hp (i := 0) (by omega) (v := .string n.name) rfl
  unfold World.cell? at *; rw [hw]; exact this
end Go.Proofs
