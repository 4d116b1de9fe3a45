/- Part of the proof of a law of this seat: facts that it uses, each proved here. No conditions. -/
import Derived.Test.YtcapooghkabloaaDoorAr
import Derived.Test.YtcapooghkabloaaDoorSl2
namespace Go.Proofs
open Go Go.Eng

theorem one_ints (l : List Int) : ∀ u ∈ ints l, u.oneCell' = true := by
  intro u hu; obtain ⟨x, _, rfl⟩ := List.mem_map.1 hu; rfl
theorem one_nats (l : List Nat) : ∀ u ∈ nats l, u.oneCell' = true := by
  intro u hu; obtain ⟨x, _, rfl⟩ := List.mem_map.1 hu; rfl
theorem one_attrs (l : List (ByteArray × ByteArray)) : ∀ u ∈ attrCells l, u.oneCell' = true := by
  intro u hu
  obtain ⟨x, _, h⟩ := List.mem_flatMap.1 hu
  simp at h
  rcases h with rfl | rfl <;> rfl

theorem c_Clone_attrs {w : World} {v : Value} {l : List (ByteArray × ByteArray)} {K : Value → World → Prop} (h : Row w T_api_Attr 2 v l.length (attrCells l)) (hb : l.length ≤ 1000000)
    (k : ∀ v' w', Row w' T_api_Attr 2 v' l.length (attrCells l) → Ext w w' → (∀ k, blk v' = some k → w.heap.size ≤ k) → K v' w') : Cf Tryd.prog n_slices_Clone_attrs #[v] w K := by
  refine L_slices_Clone_attrs _ _ _ ?_
  unfold S_slices_Clone_attrs
  exact clone_vc h (one_attrs l) (by omega) k
theorem c_Clone_ints {w : World} {v : Value} {n : Nat} {l : List Value} {K : Value → World → Prop} (h : Row w T_int 1 v n l) (h1 : ∀ u ∈ l, u.oneCell' = true) (hb : n ≤ 1000000)
    (k : ∀ v' w', Row w' T_int 1 v' n l → Ext w w' → (∀ k, blk v' = some k → w.heap.size ≤ k) → K v' w') : Cf Tryd.prog n_slices_Clone_ints #[v] w K := by
  refine L_slices_Clone_ints _ _ _ ?_
  unfold S_slices_Clone_ints
  exact clone_vc h h1 (by omega) k

/-- Roles for what a call has laid. -/
def grow (ρ : Roles) (w : World) (v : Value) (r : Nat × RK) : Roles := fun k => if k < w.heap.size then ρ k else if blk v = some k then some r else none
theorem grow_ext (ρ : Roles) (w : World) (v : Value) (r : Nat × RK) : RExt ρ (grow ρ w v r) w := fun k hk => by unfold grow; rw [if_pos hk]

theorem grow_grow (ρ : Roles) (w : World) (v : Value) (j : Nat) (r : RK) : RGrow j ρ (grow ρ w v (j, r)) w := ⟨grow_ext _ _ _ _, fun k hk i r' e => by
  unfold grow at e
  rw [if_neg (by omega)] at e
  by_cases hb : blk v = some k
  · rw [if_pos hb] at e; cases e; rfl
  · rw [if_neg hb] at e; cases e⟩
theorem grow_role {ρ : Roles} {w : World} {v : Value} {r : Nat × RK} {b : Nat} (hb : blk v = some b) (h : b < w.heap.size → ρ b = some r) : grow ρ w v r b = some r := by
  unfold grow
  by_cases hlt : b < w.heap.size
  · rw [if_pos hlt]; exact h hlt
  · rw [if_neg hlt, if_pos hb]

theorem c_add {ρ : Roles} {j : Nat} {w : World} {A : Nat} {m : AM} {nv ev : Value} {ph : List (Value × Value)} (h : ArenaPh ρ j w A m nv ev ph) {n : NodeM} {av : Value}
    (ha : Row w T_api_Attr 2 av n.attrs.length (attrCells n.attrs)) (har : ∀ b, blk av = some b → ρ b = none) (hin : n.inner = []) (hb : m.nodes.length ≤ 1000000) {K : Value → World → Prop}
    (k : ∀ ρ' w' nv', RGrow j ρ ρ' w → Chg (ArB j ρ) w w' → ArenaPh ρ' j w' A { m with nodes := m.nodes ++ [n] } nv' ev (ph ++ [(av, .slice none 0 0)]) → K (.int .i64 m.nodes.length) w') :
    Cf Tryd.prog n_arena_Arena_add #[.pointer (some ⟨A, 0, none⟩), .agg (nodeCells n (av, .slice none 0 0)).toArray] w K := by
  refine L_arena_Arena_add _ _ _ _ ?_
  unfold S_arena_Arena_add
  refine Vl.box fun w1 h1 => ?_
  have hbx : Cl w1 w.heap.size T_arena_node (nodeCells n (av, .slice none 0 0)) := h1.new
  have hA := h.cl
  have hAlt := hA.lt
  refine ⟨fun x => Cl x A T_arena_Arena [nv, ev, .int .i64 m.copies] ∧ Cl x w.heap.size T_arena_node (nodeCells n (av, .slice none 0 0)), ⟨(hA.nw h1).dr, hbx.dr⟩, trivial, ?_⟩
  refine Pv.fa (VQ.ld (fun x hx => hx.1.cell rfl) ?_)
  refine VQ.i (v := .agg (nodeCells n (av, .slice none 0 0)).toArray) (fun x hx => run_loadAgg (n := 5) hx.2 (by simp [nodeCells]) (by kernel_rfl)) ?_
  refine Vl.bs1 (E := T_arena_node) (sz := 5) (by simp [Value.cells, nodeCells]) fun w2 h2 => ?_
  have h12 : Ext w (dr w1) := h1.ext.then (dr_ext w1)
  have hE2 : Ext w w2 := h12.then h2.ext
  refine ⟨_, fun x hx => hx, ⟨hA.ext hE2, hbx.dr.nw h2⟩, ?_⟩
  have hnd : Row w2 T_arena_node 5 nv m.nodes.length (nodesCells m.nodes ph) := h.nodes.ext hE2
  have hcl2 : Cl w2 (dr w1).heap.size T_arena_node (nodeCells n (av, .slice none 0 0)) := h2.new
  refine Vl.app hnd hcl2 (by simp [nodeCells]) ?_ (by omega) fun nv' w3 hr3 hc3 hb3 => ?_
  · intro u hu
    obtain ⟨a, c, rfl, _⟩ := ha.val
    simp [nodeCells] at hu
    rcases hu with rfl | rfl | rfl | rfl | rfl <;> rfl
  have hne : ∀ b, blk nv = some b → b ≠ A := fun b hb e => by
    have := h.nodesRole b hb; rw [e, h.role] at this; cases this
  have hsz1 : w1.heap.size = w.heap.size + 1 := h1.size
  have hsz2 : w2.heap.size = w.heap.size + 2 := by rw [h2.size]; show w1.heap.size + 1 = _; omega
  have hA3 : Cl w3 A T_arena_Arena [nv, ev, .int .i64 m.copies] := (hA.ext hE2).chg hc3 fun e => hne A e rfl
  have hb3' : Cl w3 w.heap.size T_arena_node (nodeCells n (av, .slice none 0 0)) := (hbx.dr.nw h2).chg hc3 fun e => by
    have := h.nodes.lt _ e; omega
  refine ⟨_, fun x hx => hx, ⟨hA3, hb3'⟩, trivial, Pv.fa ?_⟩
  have hone : One nv' := by obtain ⟨a, c, rfl, _⟩ := hr3.val; trivial
  refine Ef.set hA3 (by simp) (fun w4 h4 => ?_) hone
  refine ⟨fun _ => True, trivial, trivial, ?_⟩
  have hA4 : Cl w4 A T_arena_Arena [nv', ev, .int .i64 m.copies] := h4.cl
  obtain ⟨na, nc, hnv, _⟩ := hr3.val
  refine Vl.fa (Vl.ld hA4 rfl ?_)
  have hC : Chg (fun b => blk nv = some b ∨ b = A) w w4 := (hE2.to.then hc3).trans h4.chg |>.mono fun x _ e => e
  have hC' : Chg (ArB j ρ) w w4 := hC.mono fun x _ e => e.elim (fun e => ⟨_, h.nodesRole x e, rfl⟩) fun e => ⟨_, e ▸ h.role, rfl⟩
  -- the new roles
  have hrole : ∀ b, blk nv' = some b → grow ρ w nv' (j, .nodes) b = some (j, .nodes) := fun b hb => by
    refine grow_role hb fun hlt => ?_
    rcases hb3 b hb with h5 | h5
    · exact h.nodesRole b h5
    · omega
  have hno : ∀ b, ρ b = none → ¬ (blk nv = some b ∨ b = A) := fun b hb e => by
    rcases e with e | e
    · rw [h.nodesRole b e] at hb; cases hb
    · subst e; rw [h.role] at hb; cases hb
  have hbne : ∀ b, blk nv' = some b → b ≠ A := fun b hb e => by
    subst e
    rcases hb3 b hb with h5 | h5
    · exact hne b h5 rfl
    · omega
  have fin : ArenaPh (grow ρ w nv' (j, .nodes)) j w4 A { m with nodes := m.nodes ++ [n] } nv' ev (ph ++ [(av, .slice none 0 0)]) := by
    refine ⟨by simp [h.len], hA4, (grow_ext _ _ _ _ A hAlt).trans h.role, ?_, hrole, ?_, ?_, ?_⟩
    · have := hr3.chg h4.chg fun b hb => hbne b hb
      rw [← nodesCells_snoc _ _ _ _ h.len] at this
      simpa using this
    · exact h.elems.chg hC fun b hb e => by
        have he := h.elemsRole b hb
        rcases e with e | e
        · rw [h.nodesRole b e] at he; cases he
        · subst e; rw [h.role] at he; cases he
    · exact fun b hb => (grow_ext _ _ _ _ b (h.elems.lt b hb)).trans (h.elemsRole b hb)
    · intro q n' p' hn hp
      by_cases hq : q < m.nodes.length
      · rw [List.getElem?_append_left hq] at hn
        rw [List.getElem?_append_left (by rw [h.len]; exact hq)] at hp
        refine (h.node q n' p' hn hp).chg (grow_ext _ _ _ _) hC hno fun b hb e => ?_
        rcases e with e | e
        · rw [h.nodesRole b e] at hb; cases hb
        · subst e; rw [h.role] at hb; cases hb
      · have hq' : q = m.nodes.length := by
          have := (List.getElem?_eq_some_iff.1 hn).1; simp at this; omega
        subst hq'
        rw [List.getElem?_append_right (Nat.le_refl _)] at hn
        rw [List.getElem?_append_right (by rw [h.len]; exact Nat.le_refl _)] at hp
        simp [h.len] at hn hp
        subst hn; subst hp
        refine ⟨ha.chg hC fun b hb => hno b (har b hb), fun b hb => (grow_ext _ _ _ _ b (ha.lt b hb)).trans (har b hb), ?_, fun b hb => by cases hb⟩
        rw [hin]; exact Row.nil _ _ _
  rw [hnv] at fin ⊢
  refine Vl.len (Vl.sub ?_)
  have hk := k _ w4 _ (grow_grow ρ w _ j .nodes) hC' fin
  have e : ((m.nodes.length + 1 : Nat) : Int) - 1 = (m.nodes.length : Int) := by omega
  rw [e]; exact hk
theorem c_number {ρ : Roles} {j : Nat} {w : World} {A : Nat} {m : AM} (h : AInv ρ j w A m) {n : NodeM} {av : Value}
    (ha : Row w T_api_Attr 2 av n.attrs.length (attrCells n.attrs)) (har : ∀ b, blk av = some b → ρ b = none) (hin : n.inner = []) (hb : m.nodes.length ≤ 1000000) (hbe : m.elems.length ≤ 1000000) {K : Value → World → Prop}
    (k : ∀ ρ' w', RGrow j ρ ρ' w → Chg (ArB j ρ) w w' → AInv ρ' j w' A { m with nodes := m.nodes ++ [n], elems := m.elems ++ [m.nodes.length] } → K (.int .i64 m.elems.length) w') :
    Cf Tryd.prog n_arena_Arena_number #[.pointer (some ⟨A, 0, none⟩), .agg (nodeCells n (av, .slice none 0 0)).toArray] w K := by
  obtain ⟨nv, ev, ph, h⟩ := h
  refine L_arena_Arena_number _ _ _ _ ?_
  unfold S_arena_Arena_number
  refine Vl.box fun w1 h1 => ?_
  have hbx : Cl w1 w.heap.size T_arena_node (nodeCells n (av, .slice none 0 0)) := h1.new
  have hA := h.cl
  have hAlt := hA.lt
  have hE1 : Ext w (dr w1) := h1.ext.then (dr_ext w1)
  have hdr : (dr w1).heap.size = w.heap.size + 1 := h1.size
  -- what stays while the node is added: the elements' slice
  refine ⟨fun x => x.cell? ⟨A, 1, none⟩ = some ev ∧ x.cell? ⟨w.heap.size, 0, none⟩ = some (.string n.name) ∧ Cl x w.heap.size T_arena_node (nodeCells n (av, .slice none 0 0)),
    ⟨(hA.ext hE1).cell rfl, hbx.dr.cell rfl, hbx.dr⟩, trivial, ?_⟩
  refine Pv.fa (VQ.ld (fun x hx => hx.1) ?_)
  refine VQ.i (v := .agg (nodeCells n (av, .slice none 0 0)).toArray) (fun x hx => run_loadAgg (n := 5) hx.2.2 (by simp [nodeCells]) (by kernel_rfl)) ?_
  -- the block of the box is nobody's
  refine c_add (ρ := grow ρ w (.slice none 0 0) (j, .nodes)) (j := j) (h.chg (grow_ext _ _ _ _) hE1 (fun _ _ => id) fun _ _ => id) (ha.ext hE1) (fun b hb => (grow_ext _ _ _ _ b (ha.lt b hb)).trans (har b hb)) hin hb fun ρ1 w2 nv' hr1 hc1 h2 => ?_
  have hbx0 : grow ρ w (.slice none 0 0) (j, .nodes) w.heap.size = none := by unfold grow; rw [if_neg (by omega), if_neg (by intro e; cases e)]
  have hbx2 : Cl w2 w.heap.size T_arena_node (nodeCells n (av, .slice none 0 0)) := hbx.dr.chg hc1 fun ⟨r, e, _⟩ => by rw [hbx0] at e; cases e
  have hA2 := h2.cl
  refine ⟨_, fun x hx => hx, ⟨hA2.cell rfl, hbx2.cell rfl, hbx2⟩, ?_⟩
  refine Vl.bs1 (E := T_int) (sz := 1) rfl fun w3 h3 => ?_
  have hn3 : Cl w3 w2.heap.size T_int [.int .i64 m.nodes.length] := h3.new
  refine ⟨_, fun x hx => hx, ⟨(hA2.nw h3).cell rfl, (hbx2.nw h3).cell rfl, hbx2.nw h3⟩, ?_⟩
  refine Vl.app (h2.elems.ext h3.ext) hn3 (by simp) (by intro u hu; simp at hu; subst hu; rfl) (by show m.elems.length + 1 ≤ _; omega) fun ev' w4 hr4 hc4 hb4 => ?_
  have hs1 := hc1.size
  have hs3 : w3.heap.size = w2.heap.size + 1 := h3.size
  have hneA : ∀ b, blk ev = some b → b ≠ A := fun b hb e => by
    have := h.elemsRole b hb; rw [e, h.role] at this; cases this
  have hA4 : Cl w4 A T_arena_Arena [nv', ev, .int .i64 m.copies] := (hA2.nw h3).chg hc4 fun e => hneA A e rfl
  have hbx4 : Cl w4 w.heap.size T_arena_node (nodeCells n (av, .slice none 0 0)) := (hbx2.nw h3).chg hc4 fun e => by have := h.elems.lt _ e; omega
  refine ⟨_, fun x hx => hx, ⟨hA4.cell rfl, hbx4.cell rfl, hbx4⟩, trivial, Pv.fa ?_⟩
  have hone : One ev' := by obtain ⟨a, c, rfl, _⟩ := hr4.val; trivial
  refine Ef.set hA4 (by simp) (fun w5 h5 => ?_) hone
  refine ⟨fun _ => True, trivial, trivial, ?_⟩
  have hA5 : Cl w5 A T_arena_Arena [nv', ev', .int .i64 m.copies] := h5.cl
  obtain ⟨ea, ec, hev, _⟩ := hr4.val
  refine Vl.fa (Vl.ld hA5 rfl ?_)
  -- roles: all that is old as it was; a new row of elements
  have hC2 : Chg (fun b => blk ev = some b ∨ b = A) w2 w5 := (h3.ext.to.then hc4).trans h5.chg |>.mono fun x _ e => e
  have hr2 : RExt ρ1 (grow ρ1 w2 ev' (j, .elems)) w2 := grow_ext _ _ _ _
  have hevr : ∀ b, blk ev = some b → ρ1 b = some (j, .elems) := h2.elemsRole
  have hAr : ρ1 A = some (j, .arena) := h2.role
  have hno : ∀ b, ρ1 b = none → ¬ (blk ev = some b ∨ b = A) := fun b hb e => by
    rcases e with e | e
    · rw [hevr b e] at hb; cases hb
    · subst e; rw [hAr] at hb; cases hb
  have hnoR : ∀ r : RK, r ≠ .elems → r ≠ .arena → ∀ b, ρ1 b = some (j, r) → ¬ (blk ev = some b ∨ b = A) := fun r q1 q2 b hb e => by
    rcases e with e | e
    · rw [hevr b e] at hb; injection hb with hb; injection hb with _ hb; exact q1 hb.symm
    · subst e; rw [hAr] at hb; injection hb with hb; injection hb with _ hb; exact q2 hb.symm
  have hbne : ∀ b, blk ev' = some b → b ≠ A := fun b hb e => by
    subst e
    rcases hb4 b hb with h6 | h6
    · exact hneA b h6 rfl
    · have := hA2.lt; omega
  have fin : ArenaPh (grow ρ1 w2 ev' (j, .elems)) j w5 A { m with nodes := m.nodes ++ [n], elems := m.elems ++ [m.nodes.length] } nv' ev' (ph ++ [(av, .slice none 0 0)]) := by
    refine ⟨h2.len, hA5, (hr2 A hA2.lt).trans hAr, h2.nodes.chg hC2 fun b hb => hnoR .nodes (by simp) (by simp) b (h2.nodesRole b hb), fun b hb => (hr2 b (h2.nodes.lt b hb)).trans (h2.nodesRole b hb), ?_, fun b hb => grow_role hb fun hlt => ?_, ?_⟩
    · have := hr4.chg h5.chg fun b hb => hbne b hb
      simpa [nats] using this
    · rcases hb4 b hb with h6 | h6
      · exact hevr b h6
      · omega
    · intro q n' p' hn hp
      exact (h2.node q n' p' hn hp).chg hr2 hC2 hno fun b hb => hnoR (.inner q) (by simp) (by simp) b hb
  have hCw : Chg (ArB j ρ) w w5 := by
    refine ((hE1.to (S := ArB j ρ)).trans (hc1.trans hC2)).mono fun x hx e => ?_
    rcases e with e | e | e
    · exact e
    · obtain ⟨r, h1, h2⟩ := e
      rw [grow_ext _ _ _ _ x hx] at h1; exact ⟨r, h1, h2⟩
    · have hx1 : x < (dr w1).heap.size := by omega
      have : ρ1 x = ρ x := (hr1.1 x hx1).trans (grow_ext _ _ _ _ x hx)
      rcases e with e | e
      · exact ⟨.elems, by rw [← this]; exact hevr x e, rfl⟩
      · subst e; exact ⟨_, h.role, rfl⟩
  have hRw : RGrow j ρ (grow ρ1 w2 ev' (j, .elems)) w := ((grow_grow ρ w _ j .nodes).trans hr1 (by omega)).trans (grow_grow ρ1 w2 ev' j .elems) (by omega)
  have hk := k _ w5 hRw hCw ⟨_, _, _, fin⟩
  rw [hev]
  refine Vl.len (Vl.sub ?_ (by show -9223372036854775808 ≤ ((m.elems.length + 1 : Nat) : Int) - 1; omega) (by show ((m.elems.length + 1 : Nat) : Int) - 1 ≤ 9223372036854775807; omega))
  have e : ((m.elems.length + 1 : Nat) : Int) - 1 = (m.elems.length : Int) := by omega
  show K (.int .i64 (((m.elems.length + 1 : Nat) : Int) - 1)) w5
  rw [e]; exact hk
end Go.Proofs
