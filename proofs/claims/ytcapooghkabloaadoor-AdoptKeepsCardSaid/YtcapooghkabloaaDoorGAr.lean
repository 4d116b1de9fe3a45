/- Part of the proof of a law of this seat: facts that it uses, each proved here. No conditions. -/
import Derived.Test.YtcapooghkabloaaDoorGMem
import Derived.Test.YtcapooghkabloaaDoorGK
namespace Go.Proofs
open Go Go.Eng

/-! ### What a memory of arenas, stacks and lists holds -/
inductive RK where
  | arena | nodes | elems | inner (k : Nat) | stk | opn | lst | ents | agt
  deriving DecidableEq
abbrev Roles := Nat → Option (Nat × RK)
def RExt (ρ ρ' : Roles) (w : World) : Prop := ∀ k, k < w.heap.size → ρ' k = ρ k
theorem RExt.refl (ρ : Roles) (w : World) : RExt ρ ρ w := fun _ _ => rfl
theorem RExt.trans {ρ ρ' ρ'' : Roles} {w w' : World} (h : RExt ρ ρ' w) (k : RExt ρ' ρ'' w') (hs : w.heap.size ≤ w'.heap.size) : RExt ρ ρ'' w := fun x hx => (k x (by omega)).trans (h x hx)
/-- Roles of new blocks are of the j-th kind. -/
def RNew (j : Nat) (ρ' : Roles) (w : World) : Prop := ∀ k, w.heap.size ≤ k → ∀ i r, ρ' k = some (i, r) → i = j
def RGrow (j : Nat) (ρ ρ' : Roles) (w : World) : Prop := RExt ρ ρ' w ∧ RNew j ρ' w
theorem RGrow.trans {j : Nat} {ρ ρ' ρ'' : Roles} {w w' : World} (h : RGrow j ρ ρ' w) (k : RGrow j ρ' ρ'' w') (hs : w.heap.size ≤ w'.heap.size) : RGrow j ρ ρ'' w :=
  ⟨h.1.trans k.1 hs, fun x hx i r e => by
    by_cases hlt : x < w'.heap.size
    · rw [k.1 x hlt] at e; exact h.2 x hx i r e
    · exact k.2 x (by omega) i r e⟩
/-- No block bears the instance j yet. -/
def Fresh (ρ : Roles) (j : Nat) (w : World) : Prop := ∀ b r, b < w.heap.size → ρ b ≠ some (j, r)
theorem Fresh.grow {ρ ρ' : Roles} {i j : Nat} {w w' : World} (h : Fresh ρ j w) (k : RGrow i ρ ρ' w) (hne : j ≠ i) : Fresh ρ' j w' := fun b r _ e => by
  by_cases hlt : b < w.heap.size
  · rw [k.1 b hlt] at e; exact h b r hlt e
  · exact hne (k.2 b (by omega) j r e)
def isAr : RK → Bool
  | .arena | .nodes | .elems | .inner _ => true
  | _ => false
/-- The blocks of the j-th arena. -/
def ArB (j : Nat) (ρ : Roles) (k : Nat) : Prop := ∃ r, ρ k = some (j, r) ∧ isAr r = true
def StB (j : Nat) (ρ : Roles) (k : Nat) : Prop := ρ k = some (j, .stk) ∨ ρ k = some (j, .opn)
def LsB (j : Nat) (ρ : Roles) (k : Nat) : Prop := ρ k = some (j, .lst) ∨ ρ k = some (j, .ents)

def ints (l : List Int) : List Value := l.map (Value.int .i64)
def nats (l : List Nat) : List Value := l.map fun (n : Nat) => Value.int .i64 (n : Int)
def attrCells (l : List (ByteArray × ByteArray)) : List Value := l.flatMap fun a => [.string a.1, .string a.2]

structure NodeM where
  name : ByteArray
  attrs : List (ByteArray × ByteArray)
  text : ByteArray
  parent : Int
  inner : List Nat
structure AM where
  nodes : List NodeM
  elems : List Nat
  copies : Nat
def nodeCells (n : NodeM) (ph : Value × Value) : List Value := [.string n.name, ph.1, .string n.text, .int .i64 n.parent, ph.2]
def nodesCells : List NodeM → List (Value × Value) → List Value
  | n :: ns, p :: ps => nodeCells n p ++ nodesCells ns ps
  | _, _ => []

/-- The slices of a node. -/
structure PhOk (ρ : Roles) (j : Nat) (w : World) (k : Nat) (n : NodeM) (p : Value × Value) : Prop where
  attrs : Row w T_api_Attr 2 p.1 n.attrs.length (attrCells n.attrs)
  attrsRo : ∀ b, blk p.1 = some b → ρ b = none
  inner : Row w T_int 1 p.2 n.inner.length (nats n.inner)
  innerRole : ∀ b, blk p.2 = some b → ρ b = some (j, .inner k)

structure ArenaPh (ρ : Roles) (j : Nat) (w : World) (A : Nat) (m : AM) (nv ev : Value) (ph : List (Value × Value)) : Prop where
  len : ph.length = m.nodes.length
  cl : Cl w A T_arena_Arena [nv, ev, .int .i64 m.copies]
  role : ρ A = some (j, .arena)
  nodes : Row w T_arena_node 5 nv m.nodes.length (nodesCells m.nodes ph)
  nodesRole : ∀ b, blk nv = some b → ρ b = some (j, .nodes)
  elems : Row w T_int 1 ev m.elems.length (nats m.elems)
  elemsRole : ∀ b, blk ev = some b → ρ b = some (j, .elems)
  node : ∀ k n p, m.nodes[k]? = some n → ph[k]? = some p → PhOk ρ j w k n p
/-- Block A is an arena that has m. -/
def AInv (ρ : Roles) (j : Nat) (w : World) (A : Nat) (m : AM) : Prop := ∃ nv ev ph, ArenaPh ρ j w A m nv ev ph

theorem PhOk.chg {ρ ρ' : Roles} {j : Nat} {w w' : World} {k : Nat} {n : NodeM} {p : Value × Value} {S : Nat → Prop} (h : PhOk ρ j w k n p) (hr : RExt ρ ρ' w) (c : Chg S w w')
    (h1 : ∀ b, ρ b = none → ¬ S b) (h2 : ∀ b, ρ b = some (j, .inner k) → ¬ S b) : PhOk ρ' j w' k n p :=
  ⟨h.attrs.chg c fun b hb => h1 b (h.attrsRo b hb), fun b hb => (hr b (h.attrs.lt b hb)).trans (h.attrsRo b hb),
   h.inner.chg c fun b hb => h2 b (h.innerRole b hb), fun b hb => (hr b (h.inner.lt b hb)).trans (h.innerRole b hb)⟩
theorem ArenaPh.chg {ρ ρ' : Roles} {j : Nat} {w w' : World} {A : Nat} {m : AM} {nv ev : Value} {ph : List (Value × Value)} {S : Nat → Prop} (h : ArenaPh ρ j w A m nv ev ph) (hr : RExt ρ ρ' w) (c : Chg S w w')
    (h1 : ∀ b, ρ b = none → ¬ S b) (h2 : ∀ b, ArB j ρ b → ¬ S b) : ArenaPh ρ' j w' A m nv ev ph :=
  ⟨h.len, h.cl.chg c (h2 A ⟨_, h.role, rfl⟩), (hr A h.cl.lt).trans h.role, h.nodes.chg c fun b hb => h2 b ⟨_, h.nodesRole b hb, rfl⟩, fun b hb => (hr b (h.nodes.lt b hb)).trans (h.nodesRole b hb),
   h.elems.chg c fun b hb => h2 b ⟨_, h.elemsRole b hb, rfl⟩, fun b hb => (hr b (h.elems.lt b hb)).trans (h.elemsRole b hb), fun k n p hn hp => (h.node k n p hn hp).chg hr c h1 fun b hb => h2 b ⟨_, hb, rfl⟩⟩
theorem AInv.chg {ρ ρ' : Roles} {j : Nat} {w w' : World} {A : Nat} {m : AM} {S : Nat → Prop} (h : AInv ρ j w A m) (hr : RExt ρ ρ' w) (c : Chg S w w')
    (h1 : ∀ b, ρ b = none → ¬ S b) (h2 : ∀ b, ArB j ρ b → ¬ S b) : AInv ρ' j w' A m := by
  obtain ⟨nv, ev, ph, h⟩ := h
  exact ⟨nv, ev, ph, h.chg hr c h1 h2⟩
theorem AInv.ext {ρ : Roles} {j : Nat} {w w' : World} {A : Nat} {m : AM} (h : AInv ρ j w A m) (c : Ext w w') : AInv ρ j w' A m := h.chg (RExt.refl _ _) c (fun _ _ => id) fun _ _ => id

theorem nodesCells_length : ∀ (ns : List NodeM) (ps : List (Value × Value)), ps.length = ns.length → (nodesCells ns ps).length = ns.length * 5
  | [], [], _ => rfl
  | n :: ns, p :: ps, h => by
    have := nodesCells_length ns ps (by simpa using h)
    simp only [nodesCells, List.length_append, this, List.length_cons]; simp [nodeCells]; omega
theorem nodesCells_get : ∀ (ns : List NodeM) (ps : List (Value × Value)) (k i : Nat) (n : NodeM) (p : Value × Value), ns[k]? = some n → ps[k]? = some p → i < 5 → (nodesCells ns ps)[k * 5 + i]? = (nodeCells n p)[i]?
  | [], _, k, i, n, p, h, _, _ => by simp at h
  | n' :: ns, [], k, i, n, p, _, h, _ => by simp at h
  | n' :: ns, p' :: ps, 0, i, n, p, h1, h2, hi => by
    simp at h1 h2; subst h1; subst h2
    simp only [nodesCells, Nat.zero_mul, Nat.zero_add]
    rw [List.getElem?_append_left (by simp [nodeCells]; omega)]
  | n' :: ns, p' :: ps, k + 1, i, n, p, h1, h2, hi => by
    simp only [nodesCells]
    rw [List.getElem?_append_right (by simp [nodeCells]; omega)]
    have e : (k + 1) * 5 + i - (nodeCells n' p').length = k * 5 + i := by simp [nodeCells]; omega
    rw [e]
    exact nodesCells_get ns ps k i n p (by simpa using h1) (by simpa using h2) hi
theorem nodesCells_snoc : ∀ (ns : List NodeM) (ps : List (Value × Value)) (n : NodeM) (p : Value × Value), ps.length = ns.length → nodesCells (ns ++ [n]) (ps ++ [p]) = nodesCells ns ps ++ nodeCells n p
  | [], [], n, p, _ => by simp [nodesCells]
  | n' :: ns, p' :: ps, n, p, h => by
    simp only [List.cons_append, nodesCells, List.append_assoc]
    rw [nodesCells_snoc ns ps n p (by simpa using h)]

/-- A cell of a node, in memory. -/
theorem ArenaPh.nodeCell {ρ : Roles} {j : Nat} {w : World} {A : Nat} {m : AM} {nv ev : Value} {ph : List (Value × Value)} (h : ArenaPh ρ j w A m nv ev ph) {g cap n0 : Nat} (hv : nv = .slice (some ⟨g, 0, none⟩) n0 cap) {k i : Nat} {n : NodeM} {p : Value × Value}
    (hn : m.nodes[k]? = some n) (hp : ph[k]? = some p) (hi : i < 5) {v : Value} (hc : (nodeCells n p)[i]? = some v) : w.cell? ⟨g, k * 5 + i, none⟩ = some v := by
  have hr := h.nodes
  obtain ⟨a, c, e, _⟩ := hr.val
  rw [hv] at e hr
  injection e with e1 e2 e3
  subst e2
  exact hr.cell (by rw [nodesCells_get _ _ _ _ _ _ hn hp hi]; exact hc)

/-- Arena.at: the address of an element's node. -/
theorem c_at {ρ : Roles} {j : Nat} {w : World} {A : Nat} {m : AM} {nv ev : Value} {ph : List (Value × Value)} (h : ArenaPh ρ j w A m nv ev ph) {i q : Nat} (hi : m.elems[i]? = some q) (hq : q < m.nodes.length) {K : Value → World → Prop}
    (k : ∀ g cap w', w'.heap = w.heap → Ext w w' → nv = .slice (some ⟨g, 0, none⟩) m.nodes.length cap → K (.pointer (some ⟨g, q * 5, none⟩)) w') :
    Cf Tryd.prog n_arena_Arena_at #[.pointer (some ⟨A, 0, none⟩), .int .i64 i] w K := by
  refine L_arena_Arena_at _ _ _ _ ?_
  unfold S_arena_Arena_at
  obtain ⟨na, ncap, rfl, hna⟩ := h.nodes.val
  obtain ⟨g, rfl⟩ := hna (by omega)
  have hil : i < m.elems.length := (List.getElem?_eq_some_iff.1 hi).1
  obtain ⟨ea, ecap, rfl, hea⟩ := h.elems.val
  obtain ⟨ge, rfl⟩ := hea (by omega)
  have hcl := h.cl
  have hel : w.cell? ⟨ge, i, none⟩ = some (.int .i64 q) := h.elems.cell (by unfold nats; simp [hi])
  refine ⟨fun x => x.heap = w.heap, rfl, trivial, ?_⟩
  have sc : ∀ x : World, x.heap = w.heap → ∀ a v, w.cell? a = some v → x.cell? a = some v := fun x hx a v hv => by unfold World.cell? at *; rw [hx]; exact hv
  refine Pv.fa (VQ.ld (fun x hx => sc x hx _ _ (hcl.cell rfl)) ⟨trivial, Pv.fa (VQ.ld (fun x hx => sc x hx _ _ (hcl.cell rfl)) ?_)⟩)
  refine Pv.ix 1 (by omega) (by omega) ?_
  refine VQ.ld (v := .int .i64 q) (fun x hx => sc x hx _ _ (by simpa using hel)) ?_
  refine Pv.ix 5 (by omega) (by omega) ?_
  have := k g ncap (dr w) rfl (dr_ext w) rfl
  simpa using this

/-- Arena.Name -/
theorem c_Name {ρ : Roles} {j : Nat} {w : World} {A : Nat} {m : AM} (h : AInv ρ j w A m) {i q : Nat} {n : NodeM} (hi : m.elems[i]? = some q) (hq : m.nodes[q]? = some n) {K : Value → World → Prop}
    (k : ∀ w', w'.heap = w.heap → Ext w w' → K (.string n.name) w') : Cf Tryd.prog n_arena_Arena_Name #[.pointer (some ⟨A, 0, none⟩), .int .i64 i] w K := by
  obtain ⟨nv, ev, ph, h⟩ := h
  refine L_arena_Arena_Name _ _ _ _ ?_
  unfold S_arena_Arena_Name
  have hql : q < m.nodes.length := (List.getElem?_eq_some_iff.1 hq).1
  refine c_at h hi hql fun g cap w' hw hE hv => ⟨trivial, Vl.fa (Vl.lda (v := .string n.name) ?_ (k w' hw hE))⟩
  have hpl : q < ph.length := by rw [h.len]; exact hql
  have hp : ph[q]? = some ph[q] := List.getElem?_eq_getElem hpl
  have := h.nodeCell hv hq hp (i := 0) (by omega) (v := .string n.name) rfl
  unfold World.cell? at *; rw [hw]; exact this
end Go.Proofs
namespace Go.Proofs
open Go Go.Eng

theorem one_ints (l : List Int) : ∀ u ∈ ints l, u.oneCell' = true := by
  intro u hu; obtain ⟨x, _, rfl⟩ := List.mem_map.1 hu; rfl
theorem one_nats (l : List Nat) : ∀ u ∈ nats l, u.oneCell' = true := by
  intro u hu; obtain ⟨x, _, rfl⟩ := List.mem_map.1 hu; rfl
theorem one_attrs (l : List (ByteArray × ByteArray)) : ∀ u ∈ attrCells l, u.oneCell' = true := by
  intro u hu
  obtain ⟨x, _, h⟩ := List.mem_flatMap.1 hu
  simp at h
  rcases h with rfl | rfl <;> rfl

theorem c_Clone_attrs {w : World} {v : Value} {l : List (ByteArray × ByteArray)} {K : Value → World → Prop} (h : Row w T_api_Attr 2 v l.length (attrCells l)) (hb : l.length ≤ 1000000)
    (k : ∀ v' w', Row w' T_api_Attr 2 v' l.length (attrCells l) → Ext w w' → (∀ k, blk v' = some k → w.heap.size ≤ k) → K v' w') : Cf Tryd.prog n_slices_Clone_attrs #[v] w K := by
  refine L_slices_Clone_attrs _ _ _ ?_
  unfold S_slices_Clone_attrs
  exact clone_vc h (one_attrs l) (by omega) k
theorem c_Clone_ints {w : World} {v : Value} {n : Nat} {l : List Value} {K : Value → World → Prop} (h : Row w T_int 1 v n l) (h1 : ∀ u ∈ l, u.oneCell' = true) (hb : n ≤ 1000000)
    (k : ∀ v' w', Row w' T_int 1 v' n l → Ext w w' → (∀ k, blk v' = some k → w.heap.size ≤ k) → K v' w') : Cf Tryd.prog n_slices_Clone_ints #[v] w K := by
  refine L_slices_Clone_ints _ _ _ ?_
  unfold S_slices_Clone_ints
  exact clone_vc h h1 (by omega) k

/-- Roles for what a call has laid. -/
def grow (ρ : Roles) (w : World) (v : Value) (r : Nat × RK) : Roles := fun k => if k < w.heap.size then ρ k else if blk v = some k then some r else none
theorem grow_ext (ρ : Roles) (w : World) (v : Value) (r : Nat × RK) : RExt ρ (grow ρ w v r) w := fun k hk => by unfold grow; rw [if_pos hk]

theorem grow_grow (ρ : Roles) (w : World) (v : Value) (j : Nat) (r : RK) : RGrow j ρ (grow ρ w v (j, r)) w := ⟨grow_ext _ _ _ _, fun k hk i r' e => by
  unfold grow at e
  rw [if_neg (by omega)] at e
  by_cases hb : blk v = some k
  · rw [if_pos hb] at e; cases e; rfl
  · rw [if_neg hb] at e; cases e⟩
theorem grow_role {ρ : Roles} {w : World} {v : Value} {r : Nat × RK} {b : Nat} (hb : blk v = some b) (h : b < w.heap.size → ρ b = some r) : grow ρ w v r b = some r := by
  unfold grow
  by_cases hlt : b < w.heap.size
  · rw [if_pos hlt]; exact h hlt
  · rw [if_neg hlt, if_pos hb]

theorem c_add {ρ : Roles} {j : Nat} {w : World} {A : Nat} {m : AM} {nv ev : Value} {ph : List (Value × Value)} (h : ArenaPh ρ j w A m nv ev ph) {n : NodeM} {av : Value}
    (ha : Row w T_api_Attr 2 av n.attrs.length (attrCells n.attrs)) (har : ∀ b, blk av = some b → ρ b = none) (hin : n.inner = []) (hb : m.nodes.length ≤ 1000000) {K : Value → World → Prop}
    (k : ∀ ρ' w' nv', RGrow j ρ ρ' w → Chg (ArB j ρ) w w' → ArenaPh ρ' j w' A { m with nodes := m.nodes ++ [n] } nv' ev (ph ++ [(av, .slice none 0 0)]) → K (.int .i64 m.nodes.length) w') :
    Cf Tryd.prog n_arena_Arena_add #[.pointer (some ⟨A, 0, none⟩), .agg (nodeCells n (av, .slice none 0 0)).toArray] w K := by
  refine L_arena_Arena_add _ _ _ _ ?_
  unfold S_arena_Arena_add
  refine Vl.box fun w1 h1 => ?_
  have hbx : Cl w1 w.heap.size T_arena_node (nodeCells n (av, .slice none 0 0)) := h1.new
  have hA := h.cl
  have hAlt := hA.lt
  refine ⟨fun x => Cl x A T_arena_Arena [nv, ev, .int .i64 m.copies] ∧ Cl x w.heap.size T_arena_node (nodeCells n (av, .slice none 0 0)), ⟨(hA.nw h1).dr, hbx.dr⟩, trivial, ?_⟩
  refine Pv.fa (VQ.ld (fun x hx => hx.1.cell rfl) ?_)
  refine VQ.i (v := .agg (nodeCells n (av, .slice none 0 0)).toArray) (fun x hx => run_loadAgg (n := 5) hx.2 (by simp [nodeCells]) (by kernel_rfl)) ?_
  refine Vl.bs1 (E := T_arena_node) (sz := 5) (by simp [Value.cells, nodeCells]) fun w2 h2 => ?_
  have h12 : Ext w (dr w1) := h1.ext.then (dr_ext w1)
  have hE2 : Ext w w2 := h12.then h2.ext
  refine ⟨_, fun x hx => hx, ⟨hA.ext hE2, hbx.dr.nw h2⟩, ?_⟩
  have hnd : Row w2 T_arena_node 5 nv m.nodes.length (nodesCells m.nodes ph) := h.nodes.ext hE2
  have hcl2 : Cl w2 (dr w1).heap.size T_arena_node (nodeCells n (av, .slice none 0 0)) := h2.new
  refine Vl.app hnd hcl2 (by simp [nodeCells]) ?_ (by omega) fun nv' w3 hr3 hc3 hb3 => ?_
  · intro u hu
    obtain ⟨a, c, rfl, _⟩ := ha.val
    simp [nodeCells] at hu
    rcases hu with rfl | rfl | rfl | rfl | rfl <;> rfl
  have hne : ∀ b, blk nv = some b → b ≠ A := fun b hb e => by
    have := h.nodesRole b hb; rw [e, h.role] at this; cases this
  have hsz1 : w1.heap.size = w.heap.size + 1 := h1.size
  have hsz2 : w2.heap.size = w.heap.size + 2 := by rw [h2.size]; show w1.heap.size + 1 = _; omega
  have hA3 : Cl w3 A T_arena_Arena [nv, ev, .int .i64 m.copies] := (hA.ext hE2).chg hc3 fun e => hne A e rfl
  have hb3' : Cl w3 w.heap.size T_arena_node (nodeCells n (av, .slice none 0 0)) := (hbx.dr.nw h2).chg hc3 fun e => by
    have := h.nodes.lt _ e; omega
  refine ⟨_, fun x hx => hx, ⟨hA3, hb3'⟩, trivial, Pv.fa ?_⟩
  have hone : One nv' := by obtain ⟨a, c, rfl, _⟩ := hr3.val; trivial
  refine Ef.set hA3 (by simp) (fun w4 h4 => ?_) hone
  refine ⟨fun _ => True, trivial, trivial, ?_⟩
  have hA4 : Cl w4 A T_arena_Arena [nv', ev, .int .i64 m.copies] := h4.cl
  obtain ⟨na, nc, hnv, _⟩ := hr3.val
  refine Vl.fa (Vl.ld hA4 rfl ?_)
  have hC : Chg (fun b => blk nv = some b ∨ b = A) w w4 := (hE2.to.then hc3).trans h4.chg |>.mono fun x _ e => e
  have hC' : Chg (ArB j ρ) w w4 := hC.mono fun x _ e => e.elim (fun e => ⟨_, h.nodesRole x e, rfl⟩) fun e => ⟨_, e ▸ h.role, rfl⟩
  -- the new roles
  have hrole : ∀ b, blk nv' = some b → grow ρ w nv' (j, .nodes) b = some (j, .nodes) := fun b hb => by
    refine grow_role hb fun hlt => ?_
    rcases hb3 b hb with h5 | h5
    · exact h.nodesRole b h5
    · omega
  have hno : ∀ b, ρ b = none → ¬ (blk nv = some b ∨ b = A) := fun b hb e => by
    rcases e with e | e
    · rw [h.nodesRole b e] at hb; cases hb
    · subst e; rw [h.role] at hb; cases hb
  have hbne : ∀ b, blk nv' = some b → b ≠ A := fun b hb e => by
    subst e
    rcases hb3 b hb with h5 | h5
    · exact hne b h5 rfl
    · omega
  have fin : ArenaPh (grow ρ w nv' (j, .nodes)) j w4 A { m with nodes := m.nodes ++ [n] } nv' ev (ph ++ [(av, .slice none 0 0)]) := by
    refine ⟨by simp [h.len], hA4, (grow_ext _ _ _ _ A hAlt).trans h.role, ?_, hrole, ?_, ?_, ?_⟩
    · have := hr3.chg h4.chg fun b hb => hbne b hb
      rw [← nodesCells_snoc _ _ _ _ h.len] at this
      simpa using this
    · exact h.elems.chg hC fun b hb e => by
        have he := h.elemsRole b hb
        rcases e with e | e
        · rw [h.nodesRole b e] at he; cases he
        · subst e; rw [h.role] at he; cases he
    · exact fun b hb => (grow_ext _ _ _ _ b (h.elems.lt b hb)).trans (h.elemsRole b hb)
    · intro q n' p' hn hp
      by_cases hq : q < m.nodes.length
      · rw [List.getElem?_append_left hq] at hn
        rw [List.getElem?_append_left (by rw [h.len]; exact hq)] at hp
        refine (h.node q n' p' hn hp).chg (grow_ext _ _ _ _) hC hno fun b hb e => ?_
        rcases e with e | e
        · rw [h.nodesRole b e] at hb; cases hb
        · subst e; rw [h.role] at hb; cases hb
      · have hq' : q = m.nodes.length := by
          have := (List.getElem?_eq_some_iff.1 hn).1; simp at this; omega
        subst hq'
        rw [List.getElem?_append_right (Nat.le_refl _)] at hn
        rw [List.getElem?_append_right (by rw [h.len]; exact Nat.le_refl _)] at hp
        simp [h.len] at hn hp
        subst hn; subst hp
        refine ⟨ha.chg hC fun b hb => hno b (har b hb), fun b hb => (grow_ext _ _ _ _ b (ha.lt b hb)).trans (har b hb), ?_, fun b hb => by cases hb⟩
        rw [hin]; exact Row.nil _ _ _
  rw [hnv] at fin ⊢
  refine Vl.len (Vl.sub ?_)
  have hk := k _ w4 _ (grow_grow ρ w _ j .nodes) hC' fin
  have e : ((m.nodes.length + 1 : Nat) : Int) - 1 = (m.nodes.length : Int) := by omega
  rw [e]; exact hk
theorem c_number {ρ : Roles} {j : Nat} {w : World} {A : Nat} {m : AM} (h : AInv ρ j w A m) {n : NodeM} {av : Value}
    (ha : Row w T_api_Attr 2 av n.attrs.length (attrCells n.attrs)) (har : ∀ b, blk av = some b → ρ b = none) (hin : n.inner = []) (hb : m.nodes.length ≤ 1000000) (hbe : m.elems.length ≤ 1000000) {K : Value → World → Prop}
    (k : ∀ ρ' w', RGrow j ρ ρ' w → Chg (ArB j ρ) w w' → AInv ρ' j w' A { m with nodes := m.nodes ++ [n], elems := m.elems ++ [m.nodes.length] } → K (.int .i64 m.elems.length) w') :
    Cf Tryd.prog n_arena_Arena_number #[.pointer (some ⟨A, 0, none⟩), .agg (nodeCells n (av, .slice none 0 0)).toArray] w K := by
  obtain ⟨nv, ev, ph, h⟩ := h
  refine L_arena_Arena_number _ _ _ _ ?_
  unfold S_arena_Arena_number
  refine Vl.box fun w1 h1 => ?_
  have hbx : Cl w1 w.heap.size T_arena_node (nodeCells n (av, .slice none 0 0)) := h1.new
  have hA := h.cl
  have hAlt := hA.lt
  have hE1 : Ext w (dr w1) := h1.ext.then (dr_ext w1)
  have hdr : (dr w1).heap.size = w.heap.size + 1 := h1.size
  -- what stays while the node is added: the elements' slice
  refine ⟨fun x => x.cell? ⟨A, 1, none⟩ = some ev ∧ x.cell? ⟨w.heap.size, 0, none⟩ = some (.string n.name) ∧ Cl x w.heap.size T_arena_node (nodeCells n (av, .slice none 0 0)),
    ⟨(hA.ext hE1).cell rfl, hbx.dr.cell rfl, hbx.dr⟩, trivial, ?_⟩
  refine Pv.fa (VQ.ld (fun x hx => hx.1) ?_)
  refine VQ.i (v := .agg (nodeCells n (av, .slice none 0 0)).toArray) (fun x hx => run_loadAgg (n := 5) hx.2.2 (by simp [nodeCells]) (by kernel_rfl)) ?_
  -- the block of the box is nobody's
  refine c_add (ρ := grow ρ w (.slice none 0 0) (j, .nodes)) (j := j) (h.chg (grow_ext _ _ _ _) hE1 (fun _ _ => id) fun _ _ => id) (ha.ext hE1) (fun b hb => (grow_ext _ _ _ _ b (ha.lt b hb)).trans (har b hb)) hin hb fun ρ1 w2 nv' hr1 hc1 h2 => ?_
  have hbx0 : grow ρ w (.slice none 0 0) (j, .nodes) w.heap.size = none := by unfold grow; rw [if_neg (by omega), if_neg (by intro e; cases e)]
  have hbx2 : Cl w2 w.heap.size T_arena_node (nodeCells n (av, .slice none 0 0)) := hbx.dr.chg hc1 fun ⟨r, e, _⟩ => by rw [hbx0] at e; cases e
  have hA2 := h2.cl
  refine ⟨_, fun x hx => hx, ⟨hA2.cell rfl, hbx2.cell rfl, hbx2⟩, ?_⟩
  refine Vl.bs1 (E := T_int) (sz := 1) rfl fun w3 h3 => ?_
  have hn3 : Cl w3 w2.heap.size T_int [.int .i64 m.nodes.length] := h3.new
  refine ⟨_, fun x hx => hx, ⟨(hA2.nw h3).cell rfl, (hbx2.nw h3).cell rfl, hbx2.nw h3⟩, ?_⟩
  refine Vl.app (h2.elems.ext h3.ext) hn3 (by simp) (by intro u hu; simp at hu; subst hu; rfl) (by show m.elems.length + 1 ≤ _; omega) fun ev' w4 hr4 hc4 hb4 => ?_
  have hs1 := hc1.size
  have hs3 : w3.heap.size = w2.heap.size + 1 := h3.size
  have hneA : ∀ b, blk ev = some b → b ≠ A := fun b hb e => by
    have := h.elemsRole b hb; rw [e, h.role] at this; cases this
  have hA4 : Cl w4 A T_arena_Arena [nv', ev, .int .i64 m.copies] := (hA2.nw h3).chg hc4 fun e => hneA A e rfl
  have hbx4 : Cl w4 w.heap.size T_arena_node (nodeCells n (av, .slice none 0 0)) := (hbx2.nw h3).chg hc4 fun e => by have := h.elems.lt _ e; omega
  refine ⟨_, fun x hx => hx, ⟨hA4.cell rfl, hbx4.cell rfl, hbx4⟩, trivial, Pv.fa ?_⟩
  have hone : One ev' := by obtain ⟨a, c, rfl, _⟩ := hr4.val; trivial
  refine Ef.set hA4 (by simp) (fun w5 h5 => ?_) hone
  refine ⟨fun _ => True, trivial, trivial, ?_⟩
  have hA5 : Cl w5 A T_arena_Arena [nv', ev', .int .i64 m.copies] := h5.cl
  obtain ⟨ea, ec, hev, _⟩ := hr4.val
  refine Vl.fa (Vl.ld hA5 rfl ?_)
  -- roles: all that is old as it was; a new row of elements
  have hC2 : Chg (fun b => blk ev = some b ∨ b = A) w2 w5 := (h3.ext.to.then hc4).trans h5.chg |>.mono fun x _ e => e
  have hr2 : RExt ρ1 (grow ρ1 w2 ev' (j, .elems)) w2 := grow_ext _ _ _ _
  have hevr : ∀ b, blk ev = some b → ρ1 b = some (j, .elems) := h2.elemsRole
  have hAr : ρ1 A = some (j, .arena) := h2.role
  have hno : ∀ b, ρ1 b = none → ¬ (blk ev = some b ∨ b = A) := fun b hb e => by
    rcases e with e | e
    · rw [hevr b e] at hb; cases hb
    · subst e; rw [hAr] at hb; cases hb
  have hnoR : ∀ r : RK, r ≠ .elems → r ≠ .arena → ∀ b, ρ1 b = some (j, r) → ¬ (blk ev = some b ∨ b = A) := fun r q1 q2 b hb e => by
    rcases e with e | e
    · rw [hevr b e] at hb; injection hb with hb; injection hb with _ hb; exact q1 hb.symm
    · subst e; rw [hAr] at hb; injection hb with hb; injection hb with _ hb; exact q2 hb.symm
  have hbne : ∀ b, blk ev' = some b → b ≠ A := fun b hb e => by
    subst e
    rcases hb4 b hb with h6 | h6
    · exact hneA b h6 rfl
    · have := hA2.lt; omega
  have fin : ArenaPh (grow ρ1 w2 ev' (j, .elems)) j w5 A { m with nodes := m.nodes ++ [n], elems := m.elems ++ [m.nodes.length] } nv' ev' (ph ++ [(av, .slice none 0 0)]) := by
    refine ⟨h2.len, hA5, (hr2 A hA2.lt).trans hAr, h2.nodes.chg hC2 fun b hb => hnoR .nodes (by simp) (by simp) b (h2.nodesRole b hb), fun b hb => (hr2 b (h2.nodes.lt b hb)).trans (h2.nodesRole b hb), ?_, fun b hb => grow_role hb fun hlt => ?_, ?_⟩
    · have := hr4.chg h5.chg fun b hb => hbne b hb
      simpa [nats] using this
    · rcases hb4 b hb with h6 | h6
      · exact hevr b h6
      · omega
    · intro q n' p' hn hp
      exact (h2.node q n' p' hn hp).chg hr2 hC2 hno fun b hb => hnoR (.inner q) (by simp) (by simp) b hb
  have hCw : Chg (ArB j ρ) w w5 := by
    refine ((hE1.to (S := ArB j ρ)).trans (hc1.trans hC2)).mono fun x hx e => ?_
    rcases e with e | e | e
    · exact e
    · obtain ⟨r, h1, h2⟩ := e
      rw [grow_ext _ _ _ _ x hx] at h1; exact ⟨r, h1, h2⟩
    · have hx1 : x < (dr w1).heap.size := by omega
      have : ρ1 x = ρ x := (hr1.1 x hx1).trans (grow_ext _ _ _ _ x hx)
      rcases e with e | e
      · exact ⟨.elems, by rw [← this]; exact hevr x e, rfl⟩
      · subst e; exact ⟨_, h.role, rfl⟩
  have hRw : RGrow j ρ (grow ρ1 w2 ev' (j, .elems)) w := ((grow_grow ρ w _ j .nodes).trans hr1 (by omega)).trans (grow_grow ρ1 w2 ev' j .elems) (by omega)
  have hk := k _ w5 hRw hCw ⟨_, _, _, fin⟩
  rw [hev]
  refine Vl.len (Vl.sub ?_ (by show -9223372036854775808 ≤ ((m.elems.length + 1 : Nat) : Int) - 1; omega) (by show ((m.elems.length + 1 : Nat) : Int) - 1 ≤ 9223372036854775807; omega))
  have e : ((m.elems.length + 1 : Nat) : Int) - 1 = (m.elems.length : Int) := by omega
  show K (.int .i64 (((m.elems.length + 1 : Nat) : Int) - 1)) w5
  rw [e]; exact hk
end Go.Proofs
namespace Go.Proofs
open Go Go.Eng

def attrsOf (v : Value) (w : World) (l : List (ByteArray × ByteArray)) : Prop := Row w T_api_Attr 2 v l.length (attrCells l)

theorem c_Element {ρ : Roles} {j : Nat} {w : World} {A : Nat} {m : AM} (h : AInv ρ j w A m) {name : ByteArray} {v : Value} {l : List (ByteArray × ByteArray)} (ha : Row w T_api_Attr 2 v l.length (attrCells l))
    (hl : l.length ≤ 1000000) (hb : m.nodes.length ≤ 1000000) (hbe : m.elems.length ≤ 1000000) {K : Value → World → Prop}
    (k : ∀ ρ' w', RGrow j ρ ρ' w → Chg (ArB j ρ) w w' → AInv ρ' j w' A { m with nodes := m.nodes ++ [⟨name, l, ⟨#[]⟩, -1, []⟩], elems := m.elems ++ [m.nodes.length] } → K (.int .i64 m.elems.length) w') :
    Cf Tryd.prog n_arena_Arena_Element #[.pointer (some ⟨A, 0, none⟩), .string name, v] w K := by
  refine L_arena_Arena_Element _ _ _ _ _ ?_
  unfold S_arena_Arena_Element
  refine c_Clone_attrs ha hl fun v' w1 hr hE hnew => ?_
  obtain ⟨a, c, rfl, _⟩ := hr.val
  refine Vl.i (w' := w1) (v := .agg (nodeCells ⟨name, l, ⟨#[]⟩, -1, []⟩ (.slice a l.length c, .slice none 0 0)).toArray) (by kernel_rfl) ?_
  refine c_number (ρ := grow ρ w (.slice none 0 0) (j, .nodes)) (n := ⟨name, l, ⟨#[]⟩, -1, []⟩) (h.chg (grow_ext _ _ _ _) hE (fun _ _ => id) fun _ _ => id) hr (fun b hb => ?_) rfl hb hbe fun ρ' w2 hR hC h2 => ?_
  · have := hnew b hb
    unfold grow; rw [if_neg (by omega), if_neg (by intro e; cases e)]
  · have hs := hE.size
    refine k ρ' w2 ((grow_grow ρ w _ j .nodes).trans hR hs) ((hE.to (S := ArB j ρ)).trans hC |>.mono fun x hx e => ?_) h2
    rcases e with e | ⟨r, h1, h2⟩
    · exact e
    · rw [grow_ext _ _ _ _ x hx] at h1; exact ⟨r, h1, h2⟩

/-- One new block gets a role. -/
def putR (ρ : Roles) (w : World) (b : Nat) (r : Nat × RK) : Roles := fun k => if k < w.heap.size then ρ k else if k = b then some r else none
theorem putR_ext (ρ : Roles) (w : World) (b : Nat) (r : Nat × RK) : RExt ρ (putR ρ w b r) w := fun k hk => by unfold putR; rw [if_pos hk]
theorem putR_at (ρ : Roles) (w : World) (b : Nat) (r : Nat × RK) (h : w.heap.size ≤ b) : putR ρ w b r b = some r := by unfold putR; rw [if_neg (by omega), if_pos rfl]

def rootN : NodeM := ⟨⟨#[]⟩, [], ⟨#[]⟩, -1, []⟩
theorem putR_grow (ρ : Roles) (w : World) (b j : Nat) (r : RK) : RGrow j ρ (putR ρ w b (j, r)) w := ⟨putR_ext _ _ _ _, fun k hk i r' e => by
  unfold putR at e
  rw [if_neg (by omega)] at e
  by_cases hb : k = b
  · rw [if_pos hb] at e; cases e; rfl
  · rw [if_neg hb] at e; cases e⟩

theorem c_arena_New {ρ : Roles} {j : Nat} {w : World} (hj : Fresh ρ j w) {K : Value → World → Prop}
    (k : ∀ ρ' w' A, RGrow j ρ ρ' w → Ext w w' → AInv ρ' j w' A ⟨[rootN], [0], 0⟩ → K (.pointer (some ⟨A, 0, none⟩)) w') : Cf Tryd.prog n_arena_New #[] w K := by
  refine L_arena_New _ _ ?_
  unfold S_arena_New
  refine Vl.i (w' := w) (v := .agg #[.slice none 0 0, .slice none 0 0, .int .i64 0]) (by kernel_rfl) ?_
  refine Vl.box fun w1 h1 => ?_
  have hc : Cl w1 w.heap.size T_arena_Arena [.slice none 0 0, .slice none 0 0, .int .i64 (0 : Nat)] := h1.new
  refine Vl.i (w' := w1) (v := .agg (nodeCells rootN (.slice none 0 0, .slice none 0 0)).toArray) (by kernel_rfl) ?_
  have hinv : AInv (putR ρ w w.heap.size (j, .arena)) j w1 w.heap.size ⟨[], [], 0⟩ :=
    ⟨_, _, [], rfl, hc, putR_at _ _ _ _ (Nat.le_refl _), Row.nil _ _ _, (fun b hb => by cases hb), Row.nil _ _ _, (fun b hb => by cases hb), (fun q n p hn => by simp at hn)⟩
  refine c_number hinv (n := rootN) (av := .slice none 0 0) (Row.nil _ _ _) (fun b hb => by cases hb) rfl (by simp) (by simp) fun ρ' w2 hR hC h2 => ?_
  have hs : w1.heap.size = w.heap.size + 1 := h1.size
  refine k ρ' w2 _ ((putR_grow ρ w _ j .arena).trans hR (by omega)) (Chg.newer h1.ext hC fun x hx e => ?_) h2
  obtain ⟨r, e, _⟩ := e
  rw [putR_ext ρ w _ _ x hx] at e
  exact hj x r hx e

/-- Block S is a stack over the arena at A. -/
structure SPh (ρ : Roles) (j : Nat) (w : World) (S A : Nat) (xs : List Nat) (ov : Value) : Prop where
  cl : Cl w S T_stack_Stack [.pointer (some ⟨A, 0, none⟩), ov]
  role : ρ S = some (j, .stk)
  row : Row w T_int 1 ov xs.length (nats xs)
  rowRole : ∀ b, blk ov = some b → ρ b = some (j, .opn)
def SInv (ρ : Roles) (j : Nat) (w : World) (S A : Nat) (xs : List Nat) : Prop := ∃ ov, SPh ρ j w S A xs ov
theorem SPh.chg {ρ ρ' : Roles} {j : Nat} {w w' : World} {S A : Nat} {xs : List Nat} {ov : Value} {X : Nat → Prop} (h : SPh ρ j w S A xs ov) (hr : RExt ρ ρ' w) (c : Chg X w w') (h2 : ∀ b, StB j ρ b → ¬ X b) : SPh ρ' j w' S A xs ov :=
  ⟨h.cl.chg c (h2 S (.inl h.role)), (hr S h.cl.lt).trans h.role, h.row.chg c fun b hb => h2 b (.inr (h.rowRole b hb)), fun b hb => (hr b (h.row.lt b hb)).trans (h.rowRole b hb)⟩
theorem SInv.chg {ρ ρ' : Roles} {j : Nat} {w w' : World} {S A : Nat} {xs : List Nat} {X : Nat → Prop} (h : SInv ρ j w S A xs) (hr : RExt ρ ρ' w) (c : Chg X w w') (h2 : ∀ b, StB j ρ b → ¬ X b) : SInv ρ' j w' S A xs := by
  obtain ⟨ov, h⟩ := h
  exact ⟨ov, h.chg hr c h2⟩
theorem SInv.ext {ρ : Roles} {j : Nat} {w w' : World} {S A : Nat} {xs : List Nat} (h : SInv ρ j w S A xs) (c : Ext w w') : SInv ρ j w' S A xs := h.chg (RExt.refl _ _) c fun _ _ => id
theorem not_StB_ArB {ρ : Roles} {i j : Nat} {b : Nat} (h : ArB i ρ b) : ¬ StB j ρ b := by
  obtain ⟨r, h, hr⟩ := h
  rintro (e | e) <;> (rw [h] at e; cases e; cases hr)

theorem c_stack_New {ρ : Roles} {j : Nat} {w : World} {A : Nat} {K : Value → World → Prop}
    (k : ∀ ρ' w' S, RGrow j ρ ρ' w → Ext w w' → SInv ρ' j w' S A [] → K (.pointer (some ⟨S, 0, none⟩)) w') : Cf Tryd.prog n_stack_New #[.pointer (some ⟨A, 0, none⟩)] w K := by
  refine L_stack_New _ _ _ ?_
  unfold S_stack_New
  refine Vl.i (w' := w) (v := .agg #[.pointer (some ⟨A, 0, none⟩), .slice none 0 0]) (by kernel_rfl) ?_
  refine Vl.box fun w1 h1 => k _ w1 _ (putR_grow ρ w w.heap.size j .stk) h1.ext ⟨.slice none 0 0, h1.new, putR_at _ _ _ _ (Nat.le_refl _), Row.nil _ _ _, fun b hb => by cases hb⟩

theorem c_Push {ρ : Roles} {j : Nat} {w : World} {S A : Nat} {xs : List Nat} (h : SInv ρ j w S A xs) {i : Nat} (hb : xs.length ≤ 1000000) {K : Value → World → Prop}
    (k : ∀ ρ' w', RGrow j ρ ρ' w → Chg (StB j ρ) w w' → SInv ρ' j w' S A (xs ++ [i]) → K (.tuple #[]) w') : Cf Tryd.prog n_stack_Stack_Push #[.pointer (some ⟨S, 0, none⟩), .int .i64 i] w K := by
  obtain ⟨ov, h⟩ := h
  refine L_stack_Stack_Push _ _ _ _ ?_
  unfold S_stack_Stack_Push
  refine ⟨trivial, Vl.fa (Vl.ld h.cl rfl (Vl.bs1 (E := T_int) (sz := 1) rfl fun w1 h1 => ?_))⟩
  refine Vl.app (h.row.ext h1.ext) h1.cl (by simp) (by intro u hu; simp at hu; subst hu; rfl) (by omega) fun v' w2 hr hc hbk => ?_
  have hne : ∀ b, blk ov = some b → b ≠ S := fun b hb e => by have := h.rowRole b hb; rw [e, h.role] at this; cases this
  have hS := h.cl
  have hSlt := hS.lt
  have hs1 : w1.heap.size = w.heap.size + 1 := h1.size
  have hS2 : Cl w2 S T_stack_Stack [.pointer (some ⟨A, 0, none⟩), ov] := (hS.nw h1).chg hc fun e => hne S e rfl
  refine ⟨trivial, Vl.fa ?_⟩
  have hone : One v' := by obtain ⟨a, c, rfl, _⟩ := hr.val; trivial
  refine Ef.set hS2 (by simp) (fun w3 h3 => ?_) hone
  have hC : Chg (fun b => blk ov = some b ∨ b = S) w w3 := (h1.ext.to.then hc).trans h3.chg |>.mono fun x _ e => e
  refine k (grow ρ w v' (j, .opn)) w3 (grow_grow _ _ _ _ _) (hC.mono fun x _ e => e.elim (fun e => .inr (h.rowRole x e)) fun e => .inl (e ▸ h.role)) ⟨v', h3.cl, (grow_ext _ _ _ _ S hSlt).trans h.role, ?_, fun b hb => grow_role hb fun hlt => ?_⟩
  · have := hr.chg h3.chg fun b hb => fun e => by
      subst e
      rcases hbk b hb with h6 | h6
      · exact hne b h6 rfl
      · omega
    simpa [nats] using this
  · rcases hbk b hb with h6 | h6
    · exact h.rowRole b h6
    · omega
end Go.Proofs
namespace Go.Proofs
open Go Go.Eng

def strs (l : List ByteArray) : List Value := l.map Value.string
/-- A slice of strings. -/
def Strs (w : World) (v : Value) (l : List ByteArray) : Prop :=
  ∃ a c, v = .slice a l.length c ∧ l.length ≤ c ∧ ∀ i (h : i < l.length), ∃ b o, a = some ⟨b, o, none⟩ ∧ w.cell? ⟨b, o + i, none⟩ = some (.string l[i])
theorem Strs.val {w : World} {v : Value} {l : List ByteArray} (h : Strs w v l) : ∃ a c, v = .slice a l.length c := by
  obtain ⟨a, c, h, _⟩ := h; exact ⟨a, c, h⟩
theorem Strs.at_ {w : World} {a : Option Addr} {c : Nat} {l : List ByteArray} (h : Strs w (.slice a l.length c) l) {i : Nat} (hi : i < l.length) : ∃ b o, a = some ⟨b, o, none⟩ ∧ w.cell? ⟨b, o + i, none⟩ = some (.string l[i]) := by
  obtain ⟨a', c', e, _, h⟩ := h
  cases e
  exact h i hi
theorem Strs.chg {w w' : World} {S : Nat → Prop} {v : Value} {l : List ByteArray} (h : Strs w v l) (c : Chg S w w') (hn : ∀ k, blk v = some k → ¬ S k) : Strs w' v l := by
  obtain ⟨a, cc, rfl, hle, h⟩ := h
  refine ⟨a, cc, rfl, hle, fun i hi => ?_⟩
  obtain ⟨b, o, rfl, hc⟩ := h i hi
  refine ⟨b, o, rfl, ?_⟩
  have hb : ¬ S b := hn b (blk_some (by omega))
  have hlt : b < w.heap.size := by
    cases hx : w.heap[b]? with
    | none => unfold World.cell? at hc; simp only [hx] at hc; cases hc
    | some ob => exact (Array.getElem?_eq_some_iff.1 hx).1
  have := c.same b hlt hb
  unfold World.cell? at hc ⊢
  simp only [this]; exact hc
theorem Strs.ext {w w' : World} {v : Value} {l : List ByteArray} (h : Strs w v l) (c : Ext w w') : Strs w' v l := h.chg c fun _ _ => id
theorem Strs.of_row {w : World} {v : Value} {l : List ByteArray} (h : Row w T_string 1 v l.length (strs l)) : Strs w v l := by
  obtain ⟨a, c, rfl, ha⟩ := h.val
  refine ⟨a, c, rfl, h.le, fun i hi => ?_⟩
  obtain ⟨g, rfl⟩ := ha (by omega)
  exact ⟨g, 0, rfl, by rw [Nat.zero_add]; exact h.cell (by unfold strs; simp [hi])⟩

/-- slices.Index of strings -/
def idx {α : Type} [DecidableEq α] (a : α) : List α → Nat → Int
  | [], _ => -1
  | x :: l, k => if a = x then k else idx a l (k + 1)
theorem idx_drop {α : Type} [DecidableEq α] (a : α) (l : List α) (k : Nat) (h : k < l.length) (b : Nat) : idx a (l.drop k) b = if a = l[k] then (b : Int) else idx a (l.drop (k + 1)) (b + 1) := by
  rw [List.drop_eq_getElem_cons h]; rfl
theorem c_Index_strs {w : World} {v : Value} {l : List ByteArray} (h : Strs w v l) (hb : l.length ≤ 1000000) {a : ByteArray} {K : Value → World → Prop} (k : K (.int .i64 (idx a l 0)) w) :
    Cf Tryd.prog n_slices_Index_strs #[v, .string a] w K := by
  refine L_slices_Index_strs _ _ _ _ ?_
  unfold S_slices_Index_strs
  obtain ⟨b, c, rfl⟩ := h.val
  refine Vl.len ⟨fun g ds w' => ∃ i : Nat, g = [.int .i64 i] ∧ ds = [] ∧ w' = w ∧ i ≤ l.length ∧ idx a l 0 = idx a (l.drop i) i, fun g _ => (l.length - intAt g 0).toNat, ⟨0, rfl, rfl, rfl, by omega, by simp⟩, ?_⟩
  rintro g ds _ ⟨i, hg, rfl, rfl, hi, hx⟩
  have e8 : g 8 = .int .i64 i := by injection hg
  rw [e8]
  refine Vl.lss (Cond_bool (fun h0 => ?_) (fun h0 => ?_))
  · have hlt : i < l.length := by have := of_decide_eq_true h0; omega
    obtain ⟨gb, go, rfl, hcell⟩ := h.at_ hlt
    refine Vl.ix 1 (by omega) (by omega) (Vl.lda (v := .string l[i]) (by simpa using hcell) (Vl.seql (Cond_bool (fun h1 => ?_) (fun h1 => ?_))))
    · have h1 := of_decide_eq_true h1
      rw [idx_drop a l i hlt, if_pos h1] at hx
      rw [hx] at k
      exact Lv.nil k
    · have h1 := of_decide_eq_false h1
      rw [idx_drop a l i hlt, if_neg h1] at hx
      refine Vl.add ⟨⟨i + 1, rfl, rfl, rfl, by omega, hx⟩, ?_⟩
      show ((l.length : Int) - ((i : Int) + 1)).toNat < ((l.length : Int) - (i : Int)).toNat; omega
  · have : i = l.length := by have := of_decide_eq_false h0; omega
    subst this
    rw [List.drop_length] at hx
    rw [hx] at k
    exact Lv.nil k
theorem idx_mem {α : Type} [DecidableEq α] (a : α) : ∀ (l : List α) (k : Nat), (0 : Int) ≤ idx a l k ↔ a ∈ l
  | [], k => by simp [idx]
  | x :: l, k => by
    unfold idx
    split
    · rename_i h; simp [h]
    · rename_i h
      rw [idx_mem a l (k + 1)]; simp [h]
def among (l : List ByteArray) (a : ByteArray) : Bool := l.any fun x => decide (a = x)
theorem among_iff (l : List ByteArray) (a : ByteArray) : among l a = true ↔ a ∈ l := by
  unfold among; simp
theorem idx_among (l : List ByteArray) (a : ByteArray) (k : Nat) : decide ((0 : Int) ≤ idx a l k) = among l a := by
  rw [Bool.eq_iff_iff, among_iff, decide_eq_true_iff]; exact idx_mem a l k
theorem c_Contains_strs {w : World} {v : Value} {l : List ByteArray} (h : Strs w v l) (hb : l.length ≤ 1000000) {a : ByteArray} {K : Value → World → Prop} (k : K (.bool (among l a)) w) :
    Cf Tryd.prog n_slices_Contains_strs #[v, .string a] w K := by
  refine L_slices_Contains_strs _ _ _ _ ?_
  unfold S_slices_Contains_strs
  refine c_Index_strs h hb (Vl.geq ?_)
  rwa [idx_among l a 0]
theorem c_Index_ints {w : World} {v : Value} {l : List Nat} (h : Row w T_int 1 v l.length (nats l)) (hb : l.length ≤ 1000000) {a : Nat} {K : Value → World → Prop} (k : K (.int .i64 (idx a l 0)) w) :
    Cf Tryd.prog n_slices_Index_ints #[v, .int .i64 a] w K := by
  refine L_slices_Index_ints _ _ _ _ ?_
  unfold S_slices_Index_ints
  obtain ⟨b, c, rfl, hbs⟩ := h.val
  refine Vl.len ⟨fun g ds w' => ∃ i : Nat, g = [.int .i64 i] ∧ ds = [] ∧ w' = w ∧ i ≤ l.length ∧ idx a l 0 = idx a (l.drop i) i, fun g _ => (l.length - intAt g 0).toNat, ⟨0, rfl, rfl, rfl, by omega, by simp⟩, ?_⟩
  rintro g ds _ ⟨i, hg, rfl, rfl, hi, hx⟩
  have e8 : g 8 = .int .i64 i := by injection hg
  rw [e8]
  refine Vl.lss (Cond_bool (fun h0 => ?_) (fun h0 => ?_))
  · have hlt : i < l.length := by have := of_decide_eq_true h0; omega
    obtain ⟨gb, rfl⟩ := hbs (by omega)
    refine Vl.ix 1 (by omega) (by omega) (Vl.lda (v := .int .i64 (l[i] : Nat)) ?_ (Vl.eql (Cond_bool (fun h1 => ?_) (fun h1 => ?_))))
    · refine h.cell ?_
      unfold nats; simp [hlt]
    · have h1 : a = l[i] := by have := of_decide_eq_true h1; omega
      rw [idx_drop a l i hlt, if_pos h1] at hx
      rw [hx] at k
      exact Lv.nil k
    · have h1 : ¬ a = l[i] := by have := of_decide_eq_false h1; omega
      rw [idx_drop a l i hlt, if_neg h1] at hx
      refine Vl.add ⟨⟨i + 1, rfl, rfl, rfl, by omega, hx⟩, ?_⟩
      show ((l.length : Int) - ((i : Int) + 1)).toNat < ((l.length : Int) - (i : Int)).toNat; omega
  · have : i = l.length := by have := of_decide_eq_false h0; omega
    subst this
    rw [List.drop_length] at hx
    rw [hx] at k
    exact Lv.nil k

/-- slices.Backward -/
def backs (l : List Nat) : List (Array Value) := (List.range l.length).map fun k => #[.int .i64 ((l.length - 1 - k : Nat) : Int), .int .i64 (l.getD (l.length - 1 - k) 0 : Nat)]
theorem backs_len (l : List Nat) : (backs l).length = l.length := by unfold backs; simp
theorem backs_get (l : List Nat) (k : Nat) (h : k < (backs l).length) : (backs l)[k] = #[.int .i64 ((l.length - 1 - k : Nat) : Int), .int .i64 (l.getD (l.length - 1 - k) 0 : Nat)] := by unfold backs; simp
theorem iter_Backward {bx : Nat} {ov : Value} {l : List Nat} (hb : l.length ≤ 1000000) :
    Iter Tryd.prog n_slices_Backward_ints_1 #[.pointer (some ⟨bx, 0, none⟩)] (backs l) (fun w => Cl w bx T_sl_int [ov] ∧ Row w T_int 1 ov l.length (nats l)) := by
  intro lp J Jx w h0 hpre hY
  refine CallF.enter (by intro a w; kernel_rfl) (L_slices_Backward_ints_1 _ _ _ _ ?_)
  unfold S_slices_Backward_ints_1
  obtain ⟨hc0, hr0⟩ := hpre _ _ h0
  obtain ⟨b, c, rfl, hbs⟩ := hr0.val
  refine Vl.ld hc0 rfl (Vl.len (Vl.sub ⟨fun a ds w => ∃ k : Nat, a = [.int .i64 ((l.length : Int) - 1 - k)] ∧ ds = [] ∧ k ≤ l.length ∧ J k w, fun a _ => (intAt a 0 + 1).toNat, ⟨0, by simp, rfl, by omega, h0⟩, ?_⟩))
  rintro g ds wa ⟨k, hg, rfl, hk, hJ⟩
  have e3 : g 3 = .int .i64 ((l.length : Int) - 1 - k) := by injection hg
  rw [e3]
  refine Vl.geq (Cond_bool (fun h => ?_) (fun h => ?_))
  · have hlt : k < l.length := by have := of_decide_eq_true h; omega
    obtain ⟨hc, hr⟩ := hpre _ _ hJ
    obtain ⟨gb, rfl⟩ := hbs (by omega)
    have en : ((l.length : Int) - 1 - k).toNat = l.length - 1 - k := by omega
    refine Vl.ld hc rfl (Vl.ix 1 (by omega) (by omega) ?_)
    rw [en]
    have hv : (nats l)[l.length - 1 - k]? = some (.int .i64 (l.getD (l.length - 1 - k) 0 : Nat)) := by
      unfold nats
      have : l.length - 1 - k < l.length := by omega
      simp [this]
    refine Vl.lda (v := .int .i64 (l.getD (l.length - 1 - k) 0 : Nat)) (by simpa using hr.cell hv) ?_
    refine Cv.yield ?_
    have hy := hY k (by rw [backs_len]; exact hlt) wa hJ
    rw [backs_get] at hy
    have en2 : ((l.length - 1 - k : Nat) : Int) = (l.length : Int) - 1 - k := by omega
    rw [en2] at hy
    refine YieldC.mono hy ?_
    rintro v w' (⟨rfl, hJ'⟩ | ⟨rfl, hx⟩)
    · refine Vl.not (Cond_bool (fun h => by cases h) fun _ => ?_)
      refine Vl.sub ⟨⟨k + 1, by congr 2; omega, rfl, by omega, hJ'⟩, ?_⟩
      show ((l.length : Int) - 1 - k - 1 + 1).toNat < ((l.length : Int) - 1 - k + 1).toNat; omega
    · exact Vl.not (Cond_bool (fun _ => Lv.nil (.inr hx)) fun h => by cases h)
  · have : k = l.length := by have := of_decide_eq_false h; omega
    subst this
    refine Lv.nil (.inl ?_)
    rw [backs_len]; exact hJ
theorem c_Backward {w : World} {v : Value} (h1 : One v) {K : Value → World → Prop} (k : ∀ w', Nw w w' (.cells [v].toArray T_sl_int) → K (.func (.func n_slices_Backward_ints_1) #[] #[.pointer (some ⟨w.heap.size, 0, none⟩)]) w') :
    Cf Tryd.prog n_slices_Backward_ints #[v] w K := by
  refine L_slices_Backward_ints _ _ _ ?_
  unfold S_slices_Backward_ints
  refine Vl.box1 h1 fun w1 hw => ?_
  refine Vl.i (w' := w1) (by kernel_rfl) (k w1 hw)
end Go.Proofs
namespace Go.Proofs
open Go Go.Eng

def nameAt (m : AM) (i : Nat) : ByteArray := ((m.elems[i]?.bind fun q => m.nodes[q]?).map NodeM.name).getD ⟨#[]⟩
def Live (m : AM) (i : Nat) : Prop := ∃ q n, m.elems[i]? = some q ∧ m.nodes[q]? = some n
theorem c_Name' {ρ : Roles} {j : Nat} {w : World} {A : Nat} {m : AM} (h : AInv ρ j w A m) {i : Nat} (hi : Live m i) {K : Value → World → Prop}
    (k : ∀ w', w'.heap = w.heap → Ext w w' → K (.string (nameAt m i)) w') : Cf Tryd.prog n_arena_Arena_Name #[.pointer (some ⟨A, 0, none⟩), .int .i64 i] w K := by
  obtain ⟨q, n, h1, h2⟩ := hi
  have : nameAt m i = n.name := by unfold nameAt; rw [h1]; show ((m.nodes[q]?).map NodeM.name).getD _ = _; rw [h2]; rfl
  rw [this] at k
  exact c_Name h h1 h2 k

theorem c_All {ρ : Roles} {j : Nat} {w : World} {S A : Nat} {xs : List Nat} (h : SInv ρ j w S A xs) (hb : xs.length ≤ 1000000) {K : Value → World → Prop}
    (k : ∀ v w', Row w' T_int 1 v xs.length (nats xs) → Ext w w' → (∀ b, blk v = some b → w.heap.size ≤ b) → K v w') : Cf Tryd.prog n_stack_Stack_All #[.pointer (some ⟨S, 0, none⟩)] w K := by
  obtain ⟨ov, h⟩ := h
  refine L_stack_Stack_All _ _ _ ?_
  unfold S_stack_Stack_All
  exact ⟨trivial, Vl.fa (Vl.ld h.cl rfl (c_Clone_ints h.row (by intro u hu; unfold nats at hu; obtain ⟨x, _, rfl⟩ := List.mem_map.1 hu; rfl) hb k))⟩
theorem c_Find {ρ : Roles} {j : Nat} {w : World} {S A : Nat} {xs : List Nat} (h : SInv ρ j w S A xs) (hb : xs.length ≤ 1000000) {i : Nat} {K : Value → World → Prop}
    (k : K (.int .i64 (idx i xs 0)) w) : Cf Tryd.prog n_stack_Stack_Find #[.pointer (some ⟨S, 0, none⟩), .int .i64 i] w K := by
  obtain ⟨ov, h⟩ := h
  refine L_stack_Stack_Find _ _ _ _ ?_
  unfold S_stack_Stack_Find
  exact ⟨trivial, Vl.fa (Vl.ld h.cl rfl (c_Index_ints h.row hb k))⟩

def nOl : ByteArray := ⟨#[111, 108]⟩
def nUl : ByteArray := ⟨#[117, 108]⟩
def nButton : ByteArray := ⟨#[98, 117, 116, 116, 111, 110]⟩
def bnd (far : Int) (name : ByteArray) : Bool :=
  if far = 1 then (if name = nOl then true else if name = nUl then true else isKind name 32)
  else if far = 0 then isKind name 32 else if isKind name 32 then true else decide (name = nButton)
theorem c_bound {w : World} {far : Int} {name : ByteArray} {K : Value → World → Prop} (hG : Glob w) (k : ∀ w', Ext w w' → K (.bool (bnd far name)) w') : Cf Tryd.prog n_stack_bound #[.int .i64 far, .string name] w K := by
  refine L_stack_bound _ _ _ _ ?_
  unfold S_stack_bound
  unfold bnd nOl nUl nButton at k
  refine Vl.eql (Cond_bool (fun h => ?_) (fun h => ?_))
  · rw [if_pos (of_decide_eq_true h)] at k
    refine Vl.seql (Cond_bool (fun h => ?_) (fun h => ?_))
    · rw [if_pos (of_decide_eq_true h)] at k; exact k w (Chg.refl _ _)
    · rw [if_neg (of_decide_eq_false h)] at k
      refine Vl.seql (Cond_bool (fun h => ?_) (fun h => ?_))
      · rw [if_pos (of_decide_eq_true h)] at k; exact k w (Chg.refl _ _)
      · rw [if_neg (of_decide_eq_false h)] at k
        exact c_kind_Is hG k
  · rw [if_neg (of_decide_eq_false h)] at k
    refine Vl.eql (Cond_bool (fun h => ?_) (fun h => ?_))
    · rw [if_pos (of_decide_eq_true h)] at k; exact c_kind_Is hG k
    · rw [if_neg (of_decide_eq_false h)] at k
      refine c_kind_Is hG fun w' hE => Cond_bool (fun h => ?_) (fun h => ?_)
      · rw [if_pos h] at k; exact k w' hE
      · rw [if_neg (by simp [h])] at k; exact Vl.seql (k w' hE)

def seesF (far : Int) (ns : List ByteArray) (nm : Nat → ByteArray) : Nat → Bool
  | 0 => false
  | k + 1 => if among ns (nm k) = true then true else if bnd far (nm k) = true then false else seesF far ns nm k
theorem seesF_succ (far : Int) (ns : List ByteArray) (nm : Nat → ByteArray) (k : Nat) : seesF far ns nm (k + 1) = if among ns (nm k) = true then true else if bnd far (nm k) = true then false else seesF far ns nm k := rfl
def toF (ns : List ByteArray) (nm : Nat → ByteArray) : Nat → Int
  | 0 => -1
  | k + 1 => if among ns (nm k) = true then k else toF ns nm k
def nmOf (m : AM) (xs : List Nat) (k : Nat) : ByteArray := nameAt m (xs.getD k 0)

theorem c_In {ρ : Roles} {j : Nat} {w : World} {S A : Nat} {xs : List Nat} {m : AM} (hA : AInv ρ j w A m) (h : SInv ρ j w S A xs) (hl : ∀ i ∈ xs, Live m i) (hb : xs.length ≤ 1000000) (hG : Glob w)
    {nv : Value} {ns : List ByteArray} (hn : Strs w nv ns) (hnb : ns.length ≤ 1000000) {far : Int} {K : Value → World → Prop}
    (k : ∀ w', Ext w w' → K (.bool (seesF far ns (nmOf m xs) xs.length)) w') : Cf Tryd.prog n_stack_Stack_In #[.pointer (some ⟨S, 0, none⟩), .int .i64 far, nv] w K := by
  obtain ⟨ov, h⟩ := h
  refine L_stack_Stack_In _ _ _ _ _ ?_
  unfold S_stack_Stack_In
  obtain ⟨na, nc, rfl⟩ := hn.val
  obtain ⟨oa, oc, hov, _⟩ := h.row.val
  refine Vl.box1 trivial fun w1 h1 => Vl.box1 trivial fun w2 h2 => Vl.box1 trivial fun w3 h3 => Vl.alloc (z := .bool false) (by intro w; kernel_rfl) fun w4 h4 => ?_
  have s1 := h1.size; have s2 := h2.size; have s3 := h3.size; have s4 := h4.size
  have hE4 : Ext w w4 := ((h1.ext.then h2.ext).then h3.ext).then h4.ext
  have a3 : Cl w4 w.heap.size T_p_stack_Stack [.pointer (some ⟨S, 0, none⟩)] := ((Cl.nw h1.cl h2).nw h3).nw h4
  have a4 : Cl w4 w1.heap.size T_int [.int .i64 far] := (Cl.nw h2.cl h3).nw h4
  have a5 : Cl w4 w2.heap.size T_sl_string [.slice na ns.length nc] := Cl.nw h3.cl h4
  have a6 : Cl w4 w3.heap.size T_bool [.bool false] := h4.cl
  refine Vl.ld a3 rfl ⟨trivial, Vl.fa (Vl.ld (h.cl.ext hE4) rfl ?_)⟩
  refine c_Backward (by rw [hov]; trivial) fun w5 h5 => ?_
  have s5 := h5.size
  have hE5 : Ext w w5 := hE4.then h5.ext
  have hE45 : Ext w4 w5 := h5.ext
  refine Rf.iter (iter_Backward (ov := ov) hb) (by intro x hx; obtain ⟨y, _, rfl⟩ := List.mem_map.1 hx; rfl)
    (fun k w' => Ext w5 w' ∧ w5.heap.size + 2 ≤ w'.heap.size ∧ seesF far ns (nmOf m xs) xs.length = seesF far ns (nmOf m xs) (xs.length - k))
    (fun o w' => Chg (· = w3.heap.size) w5 w' ∧ w5.heap.size + 2 ≤ w'.heap.size ∧ (match o with
      | none => Cl w' w3.heap.size T_bool [.bool true] ∧ seesF far ns (nmOf m xs) xs.length = true
      | some id => id = 0 ∧ Ext w5 w' ∧ seesF far ns (nmOf m xs) xs.length = false)) ?_ ?_ ?_ ?_ ?_ ?_ ?_ ?_
  · rintro k w1 w2 ⟨q1, q2, q3⟩ hls
    exact ⟨Chg.newer q1 hls.chg fun x hx e => by omega, by rw [hls.size]; exact q2, q3⟩
  · rintro o w1 w2 ⟨q1, q2, q3⟩ hls
    refine ⟨Chg.newer q1 hls.chg fun x hx e => by omega, by rw [hls.size]; exact q2, ?_⟩
    cases o with
    | none => exact ⟨q3.1.loopStep hls, q3.2⟩
    | some id => exact ⟨q3.1, Chg.newer q3.2.1 hls.chg fun x hx e => by omega, q3.2.2⟩
  · rintro k w1 ⟨q1, _⟩
    exact ⟨(Cl.ext h5.cl q1), (h.row.ext hE5).ext q1⟩
  · intro w1 hw1 hs1
    exact ⟨hw1, by omega, rfl⟩
  · rintro k hk w6 Bg Kn Kr Kx wz ⟨q1, q2, q3⟩ hd hl2 hn2 hr2 hx2 hB
    refine hB _ ?_
    rw [backs_len] at hk
    have hE6 : Ext w w6 := hE5.then q1
    have hE46 : Ext w4 w6 := hE45.then q1
    refine Vl.ld (a3.ext hE46) rfl ⟨trivial, Vl.fa (Vl.ld (h.cl.ext hE6) rfl ?_)⟩
    have e1 : (fun i => (backs xs)[k].toList.getD i undef) 1 = .int .i64 (xs.getD (xs.length - 1 - k) 0 : Nat) := by rw [backs_get]; rfl
    rw [e1]
    have hin : xs.getD (xs.length - 1 - k) 0 ∈ xs := by
      have hlt : xs.length - 1 - k < xs.length := by omega
      simp [hlt]
    refine c_Name' (hA.ext hE6) (hl _ hin) fun w7 hw7 hE7 => ?_
    have hE67 := hE6.then hE7
    have hE47 := hE46.then hE7
    refine Vl.ld (a5.ext hE47) rfl ?_
    have hstep : xs.length - k = (xs.length - 1 - k) + 1 := by omega
    rw [hstep, seesF_succ] at q3
    refine c_Contains_strs (hn.ext hE67) hnb (Cond_bool (fun h0 => ?_) (fun h0 => ?_))
    · rw [if_pos (show among ns (nmOf m xs (xs.length - 1 - k)) = true from h0)] at q3
      refine Ef.set (a6.ext hE47) (by simp) fun w8 h8 => ?_
      have c8 : Chg (· = w3.heap.size) w6 w8 := hE7.to.then h8.chg
      refine hr2 w8 ⟨(q1.to.then hE7.to).then h8.chg, ?_, h8.cl, q3⟩ (c8.keep (by omega) (fun e => by have e : w5.heap.size = w3.heap.size := e; omega) (fun e => by have e : w5.heap.size + 1 = w3.heap.size := e; omega))
      have := c8.size; omega
    · have hne : ¬ among ns (nmOf m xs (xs.length - 1 - k)) = true := by
        show ¬ among ns (nameAt m _) = true
        rw [h0]; decide
      rw [if_neg hne] at q3
      refine Vl.ld (a4.ext hE47) rfl ?_
      refine c_bound (hG.ext hE67) fun w8 hE8 => ?_
      have c8 : Ext w6 w8 := hE7.then hE8
      have z8 := c8.size
      refine Cond_bool (fun h3 => ?_) (fun h3 => ?_)
      · rw [if_pos (show bnd far (nmOf m xs (xs.length - 1 - k)) = true from h3)] at q3
        exact hx2 0 w8 ⟨Ext.to (q1.then c8), by omega, rfl, q1.then c8, q3⟩ (c8.keep (by omega) id id)
      · have hne : ¬ bnd far (nmOf m xs (xs.length - 1 - k)) = true := by
          show ¬ bnd far (nameAt m _) = true
          rw [h3]; decide
        rw [if_neg hne] at q3
        refine hn2 w8 ⟨q1.then c8, by omega, ?_⟩ (c8.keep (by omega) id id)
        rw [q3]; congr 1; omega
  · rintro w6 ⟨q1, q2, q3⟩ hd
    refine Ef.set (a6.ext (hE45.then q1)) (by simp) fun w7 h7 => ?_
    have c7 : Chg (· = w3.heap.size) w5 w7 := q1.to.then h7.chg
    refine Lv.cons ((h7.chg.same _ (Array.getElem?_eq_some_iff.1 hd).1 (by omega)).trans hd) fun w8 h8 hs8 hsame => Lv.nil (Rs.ld ((Cl.chg h7.cl h8) (by omega)) rfl ?_)
    rw [backs_len, Nat.sub_self] at q3
    have := k w8 (Chg.newer hE5 (c7.trans h8) fun x hx e => by omega)
    rw [q3] at this; exact this
  · rintro w6 ⟨q1, q2, q3, q4⟩ hd
    refine Lv.cons hd fun w8 h8 hs8 hsame => Lv.nil (Rs.ld (q3.chg h8 (by omega)) rfl ?_)
    have := k w8 (Chg.newer hE5 (q1.trans h8) fun x hx e => by omega)
    rw [q4] at this; exact this
  · rintro id w6 ⟨q1, q2, rfl, q5, q4⟩ hd
    show Ef _ _ _ _
    refine Ef.set (a6.ext (hE45.then q5)) (by simp) fun w7 h7 => ?_
    refine Lv.cons ((h7.chg.same _ (Array.getElem?_eq_some_iff.1 hd).1 (by omega)).trans hd) fun w8 h8 hs8 hsame => Lv.nil (Rs.ld ((Cl.chg h7.cl h8) (by omega)) rfl ?_)
    have := k w8 (Chg.newer hE5 ((q1.then h7.chg).trans h8) fun x hx e => by omega)
    rw [q4] at this; exact this
end Go.Proofs
namespace Go.Proofs
open Go Go.Eng

theorem toF_succ (ns : List ByteArray) (nm : Nat → ByteArray) (k : Nat) : toF ns nm (k + 1) = if among ns (nm k) = true then (k : Int) else toF ns nm k := rfl
/-- What closing up to one of some names leaves. -/
def popTo (r : Int) (xs : List Nat) : List Nat := if 0 ≤ r then xs.take r.toNat else xs

theorem c_PopTo {ρ : Roles} {j : Nat} {w : World} {S A : Nat} {xs : List Nat} {m : AM} (hA : AInv ρ j w A m) (h : SInv ρ j w S A xs) (hl : ∀ i ∈ xs, Live m i) (hb : xs.length ≤ 1000000)
    {nv : Value} {ns : List ByteArray} (hn : Strs w nv ns) (hnb : ns.length ≤ 1000000) {K : Value → World → Prop}
    (k : ∀ w', Chg (· = S) w w' → SInv ρ j w' S A (popTo (toF ns (nmOf m xs) xs.length) xs) → K (.bool (decide (0 ≤ toF ns (nmOf m xs) xs.length))) w') : Cf Tryd.prog n_stack_Stack_PopTo #[.pointer (some ⟨S, 0, none⟩), nv] w K := by
  obtain ⟨ov, h⟩ := h
  refine L_stack_Stack_PopTo _ _ _ _ ?_
  unfold S_stack_Stack_PopTo
  obtain ⟨na, nc, rfl⟩ := hn.val
  obtain ⟨oa, oc, hov, _⟩ := h.row.val
  refine Vl.box1 trivial fun w1 h1 => Vl.box1 trivial fun w3 h3 => Vl.alloc (z := .bool false) (by intro w; kernel_rfl) fun w4 h4 => ?_
  have s1 := h1.size; have s3 := h3.size; have s4 := h4.size
  have hE4 : Ext w w4 := (h1.ext.then h3.ext).then h4.ext
  have a3 : Cl w4 w.heap.size T_p_stack_Stack [.pointer (some ⟨S, 0, none⟩)] := (Cl.nw h1.cl h3).nw h4
  have a5 : Cl w4 w1.heap.size T_sl_string [.slice na ns.length nc] := Cl.nw h3.cl h4
  have a6 : Cl w4 w3.heap.size T_bool [.bool false] := h4.cl
  have hSlt := h.cl.lt
  refine Vl.ld a3 rfl ⟨trivial, Vl.fa (Vl.ld (h.cl.ext hE4) rfl ?_)⟩
  refine c_Backward (by rw [hov]; trivial) fun w5 h5 => ?_
  have s5 := h5.size
  have hE5 : Ext w w5 := hE4.then h5.ext
  have hE45 : Ext w4 w5 := h5.ext
  refine Rf.iter (iter_Backward (ov := ov) hb) (by intro x hx; obtain ⟨y, _, rfl⟩ := List.mem_map.1 hx; rfl)
    (fun k w' => Ext w5 w' ∧ w5.heap.size + 2 ≤ w'.heap.size ∧ toF ns (nmOf m xs) xs.length = toF ns (nmOf m xs) (xs.length - k))
    (fun o w' => Chg (fun x => x = w3.heap.size ∨ x = S) w5 w' ∧ w5.heap.size + 2 ≤ w'.heap.size ∧ (match o with
      | none => Cl w' w3.heap.size T_bool [.bool true] ∧ ∃ at_ : Nat, at_ ≤ xs.length ∧ toF ns (nmOf m xs) xs.length = at_ ∧ Cl w' S T_stack_Stack [.pointer (some ⟨A, 0, none⟩), .slice oa at_ oc]
      | some id => False)) ?_ ?_ ?_ ?_ ?_ ?_ ?_ ?_
  · rintro k w1 w2 ⟨q1, q2, q3⟩ hls
    exact ⟨Chg.newer q1 hls.chg fun x hx e => by omega, by rw [hls.size]; exact q2, q3⟩
  · rintro o w1 w2 ⟨q1, q2, q3⟩ hls
    refine ⟨Chg.newer q1 hls.chg fun x hx e => by omega, by rw [hls.size]; exact q2, ?_⟩
    cases o with
    | none => obtain ⟨q3, at_, q4, q5, q6⟩ := q3; exact ⟨q3.loopStep hls, at_, q4, q5, q6.loopStep hls⟩
    | some id => exact q3
  · rintro k w1 ⟨q1, _⟩
    exact ⟨(Cl.ext h5.cl q1), (h.row.ext hE5).ext q1⟩
  · intro w1 hw1 hs1
    exact ⟨hw1, by omega, rfl⟩
  · rintro k hk w6 Bg Kn Kr Kx wz ⟨q1, q2, q3⟩ hd hl2 hn2 hr2 hx2 hB
    refine hB _ ?_
    rw [backs_len] at hk
    have hE6 : Ext w w6 := hE5.then q1
    have hE46 : Ext w4 w6 := hE45.then q1
    have cS : ∀ x : World, Ext w6 x → Cl x S T_stack_Stack [.pointer (some ⟨A, 0, none⟩), ov] := fun x hx => (h.cl.ext hE6).ext hx
    refine ⟨fun x => Ext w6 x, dr_ext w6, ?_⟩
    refine VQ.ld (fun x hx => ((a5.ext hE46).ext hx).cell rfl) (VQ.ld (fun x hx => ((a3.ext hE46).ext hx).cell rfl) ⟨trivial, Pv.fa (VQ.ld (fun x hx => (cS x hx).cell rfl) ?_)⟩)
    have e1 : (fun i => (backs xs)[k].toList.getD i undef) 1 = .int .i64 (xs.getD (xs.length - 1 - k) 0 : Nat) := by rw [backs_get]; rfl
    rw [e1]
    have hin : xs.getD (xs.length - 1 - k) 0 ∈ xs := by
      have hlt : xs.length - 1 - k < xs.length := by omega
      simp [hlt]
    refine c_Name' (hA.ext (hE6.then (dr_ext w6))) (hl _ hin) fun w7 hw7 hE7 => ?_
    have hE67 : Ext w6 w7 := (dr_ext w6).then hE7
    have hE07 := hE6.then hE67
    have hE47 := hE46.then hE67
    refine ⟨fun x => Ext w6 x, fun _ h => h, hE67, ?_⟩
    have hstep : xs.length - k = (xs.length - 1 - k) + 1 := by omega
    rw [hstep, toF_succ] at q3
    refine c_Contains_strs (hn.ext hE07) hnb ⟨fun x => Ext w6 x, fun _ h => h, hE67, Cond_bool (fun h0 => ?_) (fun h0 => ?_)⟩
    · rw [if_pos (show among ns (nmOf m xs (xs.length - 1 - k)) = true from h0)] at q3
      have hE6d : Ext w6 (dr w7) := hE67.then (dr_ext w7)
      refine ⟨fun x => Ext w6 x, hE6d, VQ.ld (fun x hx => ((a3.ext hE46).ext hx).cell rfl) (VQ.ld (fun x hx => ((a3.ext hE46).ext hx).cell rfl) ⟨trivial, Pv.fa (VQ.ld (fun x hx => (cS x hx).cell rfl) ?_)⟩)⟩
      have e0 : (fun i => (backs xs)[k].toList.getD i undef) 0 = .int .i64 ((xs.length - 1 - k : Nat) : Int) := by rw [backs_get]; rfl
      rw [e0, hov]
      have hrow := h.row
      rw [hov] at hrow
      refine Pv.take hrow (by omega) ⟨trivial, Pv.fa (Ef.set (cS _ hE6d) (by simp) fun w8 h8 => ⟨fun _ => True, trivial, ?_⟩)⟩
      have a6' : Cl w8 w3.heap.size T_bool [.bool false] := ((a6.ext hE46).ext hE6d).upd h8 (by omega)
      refine Ef.set a6' (by simp) fun w9 h9 => ?_
      have c9 : Chg (fun x => x = w3.heap.size ∨ x = S) w6 w9 := (hE6d.to (S := fun x => x = S)).then h8.chg |>.trans h9.chg |>.mono fun x _ e => e.symm
      have z9 := c9.size
      refine hr2 w9 ⟨(q1.to.then c9), by omega, h9.cl, xs.length - 1 - k, by omega, q3, ?_⟩ (c9.keep (by omega) (by rintro (e | e) <;> (have e : w5.heap.size = _ := e; omega)) (by rintro (e | e) <;> (have e : w5.heap.size + 1 = _ := e; omega)))
      have := h8.cl
      exact this.upd h9 (by omega)
    · have hne : ¬ among ns (nmOf m xs (xs.length - 1 - k)) = true := by
        show ¬ among ns (nameAt m _) = true
        rw [h0]; decide
      rw [if_neg hne] at q3
      have z7 := hE67.size
      refine hn2 w7 ⟨q1.then hE67, by omega, ?_⟩ (hE67.keep (by omega) id id)
      rw [q3]; congr 1; omega
  · rintro w6 ⟨q1, q2, q3⟩ hd
    refine Ef.set (a6.ext (hE45.then q1)) (by simp) fun w7 h7 => ?_
    have c7 : Chg (· = w3.heap.size) w5 w7 := q1.to.then h7.chg
    refine Lv.cons ((h7.chg.same _ (Array.getElem?_eq_some_iff.1 hd).1 (by omega)).trans hd) fun w8 h8 hs8 hsame => Lv.nil (Rs.ld ((Cl.chg h7.cl h8) (by omega)) rfl ?_)
    rw [backs_len, Nat.sub_self] at q3
    have hC : Ext w w8 := Chg.newer hE5 (c7.trans h8) fun x hx e => by omega
    have q3 : toF ns (nmOf m xs) xs.length = -1 := q3
    have := k w8 hC.to
    rw [q3] at this
    exact this ⟨ov, h.chg (RExt.refl _ _) hC fun _ _ => id⟩
  · rintro w6 ⟨q1, q2, q3, at_, q4, q5, q6⟩ hd
    refine Lv.cons hd fun w8 h8 hs8 hsame => Lv.nil (Rs.ld (q3.chg h8 (by omega)) rfl ?_)
    have hC : Chg (· = S) w w8 := Chg.newer hE5.to (q1.trans h8) fun x hx e => by omega
    have := k w8 hC
    rw [q5] at this
    have e : decide ((0 : Int) ≤ (at_ : Int)) = true := decide_eq_true (by omega)
    rw [e] at this
    refine this ⟨.slice oa at_ oc, q6.chg h8 (by omega), h.role, ?_, fun b hb => ?_⟩
    · have hrow := h.row
      have hp : popTo (at_ : Int) xs = xs.take at_ := by unfold popTo; rw [if_pos (by omega)]; simp
      rw [hp]
      have hlen : (xs.take at_).length = at_ := by simp; omega
      rw [hlen]
      have := (hrow.take q4 hov).chg hC fun b hb e => by
        have e : b = S := e
        rw [e, blk_take (m := xs.length), ← hov] at hb
        have := h.rowRole S hb
        rw [h.role] at this; cases this
      have e2 : nats (xs.take at_) = (nats xs).take (at_ * 1) := by unfold nats; simp
      rw [e2]; exact this
    · refine h.rowRole b ?_
      rw [hov, blk_take (m := at_)]; exact hb
  · rintro id w6 ⟨q1, q2, hf⟩ hd
    exact hf.elim
end Go.Proofs
namespace Go.Proofs
open Go Go.Eng

def elN (n : ByteArray) : NodeM := ⟨n, [], ⟨#[]⟩, -1, []⟩
def mOf (l : List ByteArray) : AM := ⟨rootN :: l.map elN, List.range (l.length + 1), 0⟩
def xsOf (n : Nat) : List Nat := (List.range n).map (· + 1)
theorem xsOf_len (n : Nat) : (xsOf n).length = n := by unfold xsOf; simp
theorem mOf_snoc (l : List ByteArray) (n : ByteArray) : ({ mOf l with nodes := (mOf l).nodes ++ [elN n], elems := (mOf l).elems ++ [(mOf l).nodes.length] } : AM) = mOf (l ++ [n]) := by
  unfold mOf
  simp [List.range_succ]
theorem xsOf_succ (n : Nat) : xsOf (n + 1) = xsOf n ++ [n + 1] := by unfold xsOf; simp [List.range_succ]
theorem mOf_elems (l : List ByteArray) : (mOf l).elems.length = l.length + 1 := by unfold mOf; simp
theorem mOf_nodes (l : List ByteArray) : (mOf l).nodes.length = l.length + 1 := by unfold mOf; simp
theorem live_mOf (l : List ByteArray) : ∀ i ∈ xsOf l.length, Live (mOf l) i := by
  intro i hi
  obtain ⟨k, hk, rfl⟩ := List.mem_map.1 hi
  have hk := List.mem_range.1 hk
  refine ⟨k + 1, elN l[k], ?_, ?_⟩
  · show (List.range (l.length + 1))[k + 1]? = some (k + 1)
    rw [List.getElem?_range (by omega)]
  · show (rootN :: l.map elN)[k + 1]? = some (elN l[k])
    simp [hk]
theorem nm_mOf (l : List ByteArray) (k : Nat) (hk : k < l.length) : nmOf (mOf l) (xsOf l.length) k = l[k] := by
  unfold nmOf xsOf
  have : ((List.range l.length).map (· + 1)).getD k 0 = k + 1 := by simp [hk]
  rw [this]
  unfold nameAt mOf
  have h1 : (List.range (l.length + 1))[k + 1]? = some (k + 1) := by rw [List.getElem?_range (by omega)]
  simp only [h1, Option.bind_some]
  simp [hk, elN]

theorem SInv.chgA {ρ ρ' : Roles} {j : Nat} {w w' : World} {S A : Nat} {xs : List Nat} (h : SInv ρ j w S A xs) (hr : RExt ρ ρ' w) (c : Chg (ArB j ρ) w w') : SInv ρ' j w' S A xs :=
  h.chg hr c fun _ hb hx => not_StB_ArB hx hb
theorem AInv.chgS {ρ ρ' : Roles} {j : Nat} {w w' : World} {A : Nat} {m : AM} (h : AInv ρ j w A m) (hr : RExt ρ ρ' w) (c : Chg (StB j ρ) w w') : AInv ρ' j w' A m :=
  h.chg hr c (fun b hb hx => by rcases hx with e | e <;> (rw [hb] at e; cases e)) fun b hb hx => not_StB_ArB hb hx
theorem RGrow.refl (ρ : Roles) (j : Nat) {w : World} (h : ∀ k, w.heap.size ≤ k → ρ k = none) : RGrow j ρ ρ w := ⟨RExt.refl _ _, fun k hk i r e => by rw [h k hk] at e; cases e⟩
/-- What changes only in new blocks of an instance. -/
theorem new_only {ρ ρ' : Roles} {j : Nat} {w w1 w2 : World} (hF : Fresh ρ j w) (hR : RExt ρ ρ' w) (hE : Ext w w1) {X : Nat → Prop} (hX : ∀ b, X b → ∃ r, ρ' b = some (j, r)) (c : Chg X w1 w2) : Ext w w2 :=
  Chg.newer hE c fun x hx e => by
    obtain ⟨r, e⟩ := hX x e
    rw [hR x hx] at e
    exact hF x r hx e
theorem ArB.role {ρ : Roles} {j b : Nat} (h : ArB j ρ b) : ∃ r, ρ b = some (j, r) := by obtain ⟨r, h, _⟩ := h; exact ⟨r, h⟩
theorem StB.role {ρ : Roles} {j b : Nat} (h : StB j ρ b) : ∃ r, ρ b = some (j, r) := by rcases h with h | h <;> exact ⟨_, h⟩

theorem c_laid {ρ : Roles} {j : Nat} {w : World} (hF : Fresh ρ j w) {v : Value} {l : List ByteArray} (hv : Strs w v l) (hb : l.length ≤ 1000) {K : Value → World → Prop}
    (k : ∀ ρ' w' S A, RGrow j ρ ρ' w → Ext w w' → AInv ρ' j w' A (mOf l) → SInv ρ' j w' S A (xsOf l.length) → K (.pointer (some ⟨S, 0, none⟩)) w') : Cf Tryd.prog n_decanterlaw13_laid #[v] w K := by
  refine L_decanterlaw13_laid _ _ _ ?_
  unfold S_decanterlaw13_laid
  refine c_arena_New hF fun ρ1 w1 A hR1 hE1 hA1 => ?_
  refine Vl.i (w' := w1) (v := .bool false) (by kernel_rfl) (Cond_bool (fun h => by cases h) fun _ => ?_)
  refine c_stack_New (ρ := ρ1) (j := j) fun ρ2 w2 S hR2 hE2 hS2 => ?_
  refine Vl.i (w' := w2) (v := .bool false) (by kernel_rfl) (Cond_bool (fun h => by cases h) fun _ => ?_)
  obtain ⟨a, c, rfl⟩ := hv.val
  have s1 := hE1.size
  have hR02 := hR1.trans hR2 s1
  refine Vl.len ⟨fun g ds w' => ∃ (i : Nat) (ρ' : Roles), g = [.int .i64 i] ∧ ds = [] ∧ i ≤ l.length ∧ RGrow j ρ ρ' w ∧ Ext w w' ∧ AInv ρ' j w' A (mOf (l.take i)) ∧ SInv ρ' j w' S A (xsOf i), fun g _ => (l.length - intAt g 0).toNat,
    ⟨0, ρ2, rfl, rfl, by omega, hR02, hE1.then hE2, hA1.chg hR2.1 hE2 (fun _ _ => id) (fun _ _ => id), hS2⟩, ?_⟩
  rintro g ds wa ⟨i, ρ', hg, rfl, hi, hR, hE, hA, hS⟩
  have e16 : g 16 = .int .i64 i := by injection hg
  rw [e16]
  refine Vl.lss (Cond_bool (fun h => ?_) (fun h => ?_))
  · have hlt : i < l.length := by have := of_decide_eq_true h; omega
    obtain ⟨gb, go, rfl, hcell⟩ := (hv.ext hE).at_ hlt
    refine Vl.ix 1 (by omega) (by omega) (Vl.lda (v := .string l[i]) (by simpa using hcell) ?_)
    have hlen : (l.take i).length = i := by simp; omega
    refine c_Element hA (l := []) (Row.nil _ _ _) (by simp) (by rw [mOf_nodes]; omega) (by rw [mOf_elems]; omega) fun ρ3 w3 hR3 hC3 hA3 => ?_
    have hS3 := hS.chgA hR3.1 hC3
    have s3 := hC3.size
    have s0 := hE.size
    refine c_Push hS3 (by rw [xsOf_len]; omega) fun ρ4 w4 hR4 hC4 hS4 => ?_
    have hA4 := hA3.chgS hR4.1 hC4
    have hE3 := new_only hF hR.1 hE (fun _ => ArB.role) hC3
    have hE4 := new_only hF (hR.trans hR3 s0).1 hE3 (fun _ => StB.role) hC4
    refine Vl.add ⟨⟨i + 1, ρ4, rfl, rfl, by omega, (hR.trans hR3 s0).trans hR4 hE3.size, hE4, ?_, ?_⟩, ?_⟩
    · have e : l.take (i + 1) = l.take i ++ [l[i]] := List.take_succ_eq_append_getElem hlt
      rw [e, ← mOf_snoc]; exact hA4
    · rw [xsOf_succ]
      rw [mOf_elems, hlen] at hS4; exact hS4
    · show ((l.length : Int) - ((i : Int) + 1)).toNat < ((l.length : Int) - (i : Int)).toNat; omega
  · have : i = l.length := by have := of_decide_eq_false h; omega
    subst this
    rw [List.take_length] at hA
    exact Lv.nil (k ρ' wa S A hR hE hA hS)

def emp : ByteArray := ⟨#[]⟩
def rightF (l : List ByteArray) : Bool := !(among l emp) && decide (l.length ≤ 40)
theorem c_right {w : World} {v : Value} {l : List ByteArray} (hv : Strs w v l) (hb : l.length ≤ 9223372036854775807) {K : Value → World → Prop} (k : K (.bool (rightF l)) w) : Cf Tryd.prog n_decanterlaw13_right #[v] w K := by
  refine L_decanterlaw13_right _ _ _ ?_
  unfold S_decanterlaw13_right
  obtain ⟨a, c, rfl⟩ := hv.val
  refine Vl.len ⟨fun g ds w' => ∃ (i : Nat), g = [.int .i64 i] ∧ ds = [] ∧ i ≤ l.length ∧ w' = w ∧ among (l.take i) emp = false, fun g _ => (l.length - intAt g 0).toNat,
    ⟨0, rfl, rfl, by omega, rfl, rfl⟩, ?_⟩
  rintro g ds _ ⟨i, hg, rfl, hi, rfl, hn⟩
  have e7 : g 7 = .int .i64 i := by injection hg
  rw [e7]
  refine Vl.lss (Cond_bool (fun h => ?_) (fun h => ?_))
  · have hlt : i < l.length := by have := of_decide_eq_true h; omega
    obtain ⟨gb, go, rfl, hcell⟩ := hv.at_ hlt
    refine Vl.ix 1 (by omega) (by omega) (Vl.lda (v := .string l[i]) (by simpa using hcell) (Vl.seql (Cond_bool (fun h => ?_) (fun h => ?_))))
    · have h := of_decide_eq_true h
      have : rightF l = false := by
        have : among l emp = true := by rw [among_iff]; unfold emp; rw [← h]; exact List.getElem_mem hlt
        unfold rightF; rw [this]; rfl
      rw [this] at k; exact Lv.nil k
    · have h := of_decide_eq_false h
      refine Vl.add ⟨⟨i + 1, rfl, rfl, by omega, rfl, ?_⟩, ?_⟩
      · rw [List.take_succ_eq_append_getElem hlt]
        unfold among at *
        rw [List.any_append, hn]
        have : emp ≠ l[i] := fun e => h e.symm
        simp [this]
      · show ((l.length : Int) - ((i : Int) + 1)).toNat < ((l.length : Int) - (i : Int)).toNat; omega
  · have : i = l.length := by have := of_decide_eq_false h; omega
    subst this
    rw [List.take_length] at hn
    refine Vl.len (Vl.leq (Lv.nil ?_))
    have : rightF l = decide ((l.length : Int) ≤ 40) := by unfold rightF; rw [hn]; simp; omega
    rw [this] at k; exact k
end Go.Proofs
