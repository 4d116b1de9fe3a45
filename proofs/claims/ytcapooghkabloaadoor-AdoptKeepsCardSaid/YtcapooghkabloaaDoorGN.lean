/- Part of the proof of a law of this seat: facts that it uses, each proved here. No conditions. -/
import Derived.Laws.StructEq
import Derived.Test.YtcapooghkabloaaDoorGL
import Derived.Test.YtcapooghkabloaaDoorGM
set_option linter.unusedVariables false
namespace Go.Proofs
open Go Go.Eng
def fR0 : Field := ⟨"Name", 9, 0, false, "", "", 0⟩
def fR1 : Field := ⟨"Value", 9, 1, false, "", "", 16⟩
theorem neq_attr {w : World} {x y : Operand} (a b : ByteArray) : (binop .neq T_decanterref06_Attr x y (.agg #[.string a, .string b]) (.agg #[.string a, .string b])).run Tryd.prog w = .ok (.bool false) w := by
  unfold binop
  rw [Sem.run_bind, run_eqGuard_agg w _ _ _ _ _ _ (by kernel_rfl)]
  simp only [Result.andThen]
  rw [run_neq_struct, run_equalIn_agg w 9999 T_decanterref06_Attr _ _ (by kernel_rfl) (by kernel_rfl)]
  have hf : (Tryd.prog.fieldsOf T_decanterref06_Attr).toList = [fR0, fR1] := by kernel_rfl
  rw [hf]
  have hp : ∀ (f : Field) (s : ByteArray), f.type = 9 → (#[Value.string a, .string b] : Array Value)[f.offset]? = some (.string s) → ∀ w, (part f.type #[.string a, .string b] f.offset).run Tryd.prog w = .ok (.string s) w := fun f s ht ho w => by
    unfold part
    rw [ht]
    have : (isAgg 9).run Tryd.prog w = .ok false w := run_isAgg (by kernel_rfl) w
    simp only [Sem.run_bind, this, Result.andThen, Bool.false_eq_true, if_false, ho]
    rfl
  have he : ∀ (s : ByteArray) w, (Op.equalIn 9999 9 (.string s) (.string s)).run Tryd.prog w = .ok true w := fun s w => by
    rw [run_equalIn_string w 9998 9 s s (by kernel_rfl)]
    simp
  have n0 : fR0.name ≠ "_" := by decide
  have n1 : fR1.name ≠ "_" := by decide
  have t0 : fR0.type = 9 := rfl
  have t1 : fR1.type = 9 := rfl
  simp only [Op.eqFields, Sem.run_ite, if_pos n0, if_pos n1, Sem.run_bind, hp fR0 a rfl rfl, hp fR1 b rfl rfl, Result.andThen]
  simp [t0, t1, he]
end Go.Proofs
namespace Go.Proofs
open Go Go.Eng
theorem c_Alike {w : World} {v u : Value} {l : List (ByteArray × ByteArray)} (h : AtV w v l) (hu : AtV w u l) (hb : l.length ≤ 1000000) {K : Value → World → Prop} (k : ∀ w', Ext w w' → K (.bool true) w') : Cf Tryd.prog n_decanterref06_Alike #[v, u] w K := by
  refine L_decanterref06_Alike _ _ _ _ ?_
  unfold S_decanterref06_Alike
  have h' := h
  have hu' := hu
  obtain ⟨a1, c1, rfl, _⟩ := h'
  obtain ⟨a2, c2, rfl, _⟩ := hu'
  refine Vl.len (Vl.len (Vl.neq (Cond_bool (fun h0 => by simp at h0) fun _ => ?_)))
  refine ⟨fun g ds w' => ∃ i : Nat, g = [.int .i64 i] ∧ ds = [] ∧ Ext w w' ∧ i ≤ l.length, fun g _ => (l.length - intAt g 0).toNat, ⟨0, rfl, rfl, Chg.refl _ _, by omega⟩, ?_⟩
  rintro g ds wa ⟨i, hg, rfl, hE, hi⟩
  have e5 : g 5 = .int .i64 i := (List.cons.inj hg).1
  rw [e5]
  refine Vl.len (Vl.lss (Cond_bool (fun hl => ?_) (fun _ => Lv.nil (k wa hE))))
  have hl : i < l.length := by have := of_decide_eq_true hl; omega
  have hd := hE.then (dr_ext wa)
  obtain ⟨b1, o1, rfl, r1⟩ := (h.ext hE).at_ (by omega) hl
  obtain ⟨b2, o2, rfl, r2⟩ := (hu.ext hE).at_ (by omega) hl
  have ei : ((i : Int)).toNat = i := by omega
  have ldv : ∀ {b o : Nat}, (∀ j x, j < 2 → (attrCells l)[i * 2 + j]? = some x → wa.cell? ⟨b, o + i * 2 + j, none⟩ = some x) → ∀ x : World, Ext wa x → (Instr.loadAt T_decanterref06_Attr (.pointer (some ⟨b, o + i * 2, none⟩))).run Tryd.prog x = .ok (.agg #[.string l[i].1, .string l[i].2]) x := fun {b o} hr x hx => by
    have hc : ∀ j v, [Value.string l[i].1, .string l[i].2][j]? = some v → x.cell? ⟨b, o + i * 2 + j, none⟩ = some v := fun j v hj => by
      have h2 : j < 2 := by have := (List.getElem?_eq_some_iff.1 hj).1; simpa using this
      exact cell_same hx (hr j v h2 (by rw [attrCells_get l i j l[i] (List.getElem?_eq_getElem hl) h2]; exact hj)) id
    have := Vl.ldC (P := Tryd.prog) (T := T_decanterref06_Attr) (K := fun v w' => v = .agg #[.string l[i].1, .string l[i].2] ∧ w' = x) [Value.string l[i].1, .string l[i].2] hc ⟨rfl, rfl⟩
    obtain ⟨v, w', hr, rfl, rfl⟩ := this
    exact hr
  refine ⟨fun x => Ext wa x, dr_ext wa, Pv.ix 2 (by omega) (by omega) ?_⟩
  rw [ei]
  refine VQ.i (ldv r1) (Pv.ix 2 (by omega) (by omega) ?_)
  rw [ei]
  refine VQ.i (ldv r2) (Pv.i (v := .bool false) (fun w => neq_attr _ _) (Cond_bool (fun h => by cases h) fun _ => ?_))
  refine Vl.add ⟨⟨i + 1, rfl, rfl, hd, by omega⟩, ?_⟩
  show ((l.length : Int) - ((i : Int) + 1)).toNat < ((l.length : Int) - (i : Int)).toNat; omega

theorem c_Same12 : ∀ (d : Nat) {Q Q' : Nat → Prop} {w : World} {v u : Value} {l : List TN} (_ : RV Q d w v l) (_ : RV Q' d w u l) (_ : TB d l) {K : Value → World → Prop} (_ : ∀ w', Ext w w' → K (.bool true) w'), Cf Tryd.prog n_decanterref12_Same #[v, u] w K := by
  intro d
  induction d with
  | zero => intro Q Q' w v u l h; exact h.elim
  | succ d ih =>
  intro Q Q' w v u l h hu hB K k
  obtain ⟨a1, c1, rfl⟩ := h.val
  obtain ⟨a2, c2, rfl⟩ := hu.val
  obtain ⟨ph1, hp1, hr1, _, hn1⟩ := h
  obtain ⟨ph2, hp2, hr2, _, hn2⟩ := hu
  have hB1 := hB.1
  refine L_decanterref12_Same _ _ _ _ ?_
  unfold S_decanterref12_Same
  refine Vl.len (Vl.len (Vl.neq (Cond_bool (fun h0 => by simp at h0) fun _ => ?_)))
  refine ⟨fun g ds w' => ∃ i : Nat, g = [.int .i64 i] ∧ ds = [] ∧ Ext w w' ∧ i ≤ l.length, fun g _ => (l.length - intAt g 0).toNat, ⟨0, rfl, rfl, Chg.refl _ _, by omega⟩, ?_⟩
  rintro g ds wa ⟨i, hg, rfl, hE, hi⟩
  have e5 : g 5 = .int .i64 i := (List.cons.inj hg).1
  rw [e5]
  refine Vl.len (Vl.lss (Cond_bool (fun hl => ?_) (fun _ => Lv.nil (k wa hE))))
  have hl : i < l.length := by have := of_decide_eq_true hl; omega
  obtain ⟨t, ht⟩ : ∃ t, l[i]? = some t := ⟨_, List.getElem?_eq_getElem hl⟩
  obtain ⟨p1, hq1⟩ : ∃ p, ph1[i]? = some p := ⟨_, List.getElem?_eq_getElem (by omega)⟩
  obtain ⟨p2, hq2⟩ : ∃ p, ph2[i]? = some p := ⟨_, List.getElem?_eq_getElem (by omega)⟩
  obtain ⟨g1, rfl, cl1⟩ := TV.cellRow hr1 ht hq1
  obtain ⟨g2, rfl, cl2⟩ := TV.cellRow hr2 ht hq2
  obtain ⟨ra1, qa1, in1⟩ := hn1 i t p1 ht hq1
  obtain ⟨ra2, qa2, in2⟩ := hn2 i t p2 ht hq2
  have hBt := hB.2 t (List.mem_of_getElem? ht)
  have ei : ((i : Int)).toNat = i := by omega
  have rd1 : ∀ jj v, (tnCell t p1)[jj]? = some v → ∀ x : World, Ext wa x → x.cell? ⟨g1, 0 + i * 4 + jj, none⟩ = some v := fun jj v hj x hx => cell_same (hE.then hx) (cl1 jj v hj) id
  have rd2 : ∀ jj v, (tnCell t p2)[jj]? = some v → ∀ x : World, Ext wa x → x.cell? ⟨g2, 0 + i * 4 + jj, none⟩ = some v := fun jj v hj x hx => cell_same (hE.then hx) (cl2 jj v hj) id
  have hd := dr_ext wa
  refine ⟨fun x => Ext wa x, hd, Pv.ix 4 (by omega) (by omega) ?_⟩
  rw [ei]
  refine Pv.fa (VQ.ld (rd1 0 (.string t.name) rfl) (Pv.ix 4 (by omega) (by omega) ?_))
  rw [ei]
  refine Pv.fa (VQ.ld (rd2 0 (.string t.name) rfl) (Pv.i (v := .bool false) (fun w => by rw [bs_neq]; simp) (Cond_bool (fun h => by cases h) fun _ => ?_)))
  refine Pv.ix 4 (by omega) (by omega) ?_
  rw [ei]
  refine Pv.fa (VQ.ld (rd1 2 (.string t.text) rfl) (Pv.ix 4 (by omega) (by omega) ?_))
  rw [ei]
  refine Pv.fa (VQ.ld (rd2 2 (.string t.text) rfl) (Pv.i (v := .bool false) (fun w => by rw [bs_neq]; simp) (Cond_bool (fun h => by cases h) fun _ => ?_)))
  refine Pv.ix 4 (by omega) (by omega) ?_
  rw [ei]
  refine Pv.fa (VQ.ld (rd1 1 p1.1 rfl) (Pv.ix 4 (by omega) (by omega) ?_))
  rw [ei]
  refine Pv.fa (VQ.ld (rd2 1 p2.1 rfl) ?_)
  have hEd := hE.then hd
  refine c_Alike (Row.viewN (ra1.ext hEd)) (Row.viewN (ra2.ext hEd)) hBt.1 fun wb hEb => ⟨fun x => Ext wa x, fun _ h => h, hd.then hEb, ?_⟩
  refine Pv.i (v := .bool false) (fun w => rfl) (Cond_bool (fun h => by cases h) fun _ => ?_)
  have hEab := hd.then hEb
  refine Pv.ix 4 (by omega) (by omega) ?_
  rw [ei]
  refine Pv.fa (VQ.ld (rd1 3 p1.2 rfl) (Pv.ix 4 (by omega) (by omega) ?_))
  rw [ei]
  refine Pv.fa (VQ.ld (rd2 3 p2.2 rfl) ?_)
  have hEwb := hE.then hEab
  refine ih (in1.chg d hEwb (fun _ _ _ => id) fun b hb _ => hb) (in2.chg d hEwb (fun _ _ _ => id) fun b hb _ => hb) hBt.2 fun wc hEc => ⟨_, fun _ h => h, hEab.then hEc, ?_⟩
  refine Pv.i (v := .bool false) (fun w => rfl) (Cond_bool (fun h => by cases h) fun _ => ?_)
  refine Vl.add ⟨⟨i + 1, rfl, rfl, hEwb.then hEc, by omega⟩, ?_⟩
  show ((l.length : Int) - ((i : Int) + 1)).toNat < ((l.length : Int) - (i : Int)).toNat; omega

theorem c_Same14 {w : World} {v u : Value} {l : List Int} (h : IView w v l) (hu : IView w u l) (hb : l.length ≤ 1000000) {K : Value → World → Prop} (k : ∀ w', Ext w w' → K (.bool true) w') : Cf Tryd.prog n_decanterref14_Same #[v, u] w K := by
  refine L_decanterref14_Same _ _ _ _ ?_
  unfold S_decanterref14_Same
  obtain ⟨a1, c1, rfl⟩ := h.val
  obtain ⟨a2, c2, rfl⟩ := hu.val
  refine Vl.len (Vl.len (Vl.neq (Cond_bool (fun h0 => by simp at h0) fun _ => ?_)))
  refine ⟨fun g ds w' => ∃ i : Nat, g = [.int .i64 i] ∧ ds = [] ∧ Ext w w' ∧ i ≤ l.length, fun g _ => (l.length - intAt g 0).toNat, ⟨0, rfl, rfl, Chg.refl _ _, by omega⟩, ?_⟩
  rintro g ds wa ⟨i, hg, rfl, hE, hi⟩
  have e5 : g 5 = .int .i64 i := (List.cons.inj hg).1
  rw [e5]
  refine Vl.len (Vl.lss (Cond_bool (fun hl => ?_) (fun _ => Lv.nil (k wa hE))))
  have hl : i < l.length := by have := of_decide_eq_true hl; omega
  have ei : ((i : Int)).toNat = i := by omega
  have rd : ∀ {a : Option Addr} {c : Nat}, IView wa (.slice a l.length c) l → ∃ b o, a = some ⟨b, o, none⟩ ∧ ∀ x : World, Ext wa x → x.cell? ⟨b, o + i * 1, none⟩ = some (.int .i64 l[i]) := fun {a c} hv => by
    obtain ⟨a', c', e, _, hc⟩ := hv
    rw [ints_len] at e
    cases e
    obtain ⟨b, o, ha, hcell⟩ := hc i (.int .i64 l[i]) (by unfold ints; simp [hl])
    exact ⟨b, o, ha, fun x hx => by rw [Nat.mul_one]; exact cell_same hx hcell id⟩
  obtain ⟨b1, o1, rfl, r1⟩ := rd (h.ext hE)
  obtain ⟨b2, o2, rfl, r2⟩ := rd (hu.ext hE)
  refine ⟨fun x => Ext wa x, dr_ext wa, Pv.ix 1 (by omega) (by omega) ?_⟩
  rw [ei]
  refine VQ.ld r1 (Pv.ix 1 (by omega) (by omega) ?_)
  rw [ei]
  refine VQ.ld r2 (Pv.i (v := .bool false) (fun w => by rw [bo_neq]; simp) (Cond_bool (fun h => by cases h) fun _ => ?_))
  refine Vl.add ⟨⟨i + 1, rfl, rfl, hE.then (dr_ext wa), by omega⟩, ?_⟩
  show ((l.length : Int) - ((i : Int) + 1)).toNat < ((l.length : Int) - (i : Int)).toNat; omega

theorem c_Nodes {ρ : Roles} {j : Nat} {w : World} {A : Nat} {m : AM} (h : AInv ρ j w A m) {c : Nat} (hok : AOk c m) (hc : c ≤ 1000000) {r : Nat → Nat} (hr : Ranked m r) {i d : Nat} (hi : i < m.elems.length) (hd : r (elAt m i) < d) {K : Value → World → Prop}
    (k : ∀ v' w', AV (fun b => w.heap.size ≤ b) d w' v' (exportM m d (elAt m i)) → Ext w w' → K v' w') : Cf Tryd.prog n_arena_Arena_Nodes #[.pointer (some ⟨A, 0, none⟩), .int .i64 i] w K := by
  have hA := h
  obtain ⟨nv, ev, ph, h⟩ := h
  refine L_arena_Arena_Nodes _ _ _ _ ?_
  unfold S_arena_Arena_Nodes
  obtain ⟨ea, ec, rfl, hea⟩ := h.elems.val
  obtain ⟨ge, rfl⟩ := hea (by omega)
  have ei : ((i : Int)).toNat = i := by omega
  refine ⟨trivial, Vl.fa (Vl.ld h.cl rfl (Vl.ix 1 (by omega) (by omega) ?_))⟩
  rw [ei, Nat.mul_one, Nat.zero_add]
  exact Vl.lda (h.elRd (Chg.refl _ _) hi).2 (c_export hok hc hr d hA (elAt_lt hok hi) hd k)
end Go.Proofs
set_option linter.unusedVariables false
namespace Go.Proofs
open Go Go.Eng

/-! ### An arena, a stack and a list of one's own -/
structure SL (w0 : World) (ρ : Roles) (w : World) (A S L : Nat) (m : AM) (st : List Nat) (ls : List Int) : Prop where
  ext : Ext w0 w
  r0 : ∀ k, k < w0.heap.size → ρ k = none
  hA : AInv ρ 0 w A m
  hS : SInv ρ 0 w S A st
  hL : LInv ρ 0 w L A ls
variable {w0 : World} {ρ ρ' : Roles} {w w' : World} {A S L : Nat} {m m' : AM} {st st' : List Nat} {ls ls' : List Int}
theorem SL.go (h : SL w0 ρ w A S L m st ls) (k : RC ρ w ρ' w') : Ext w0 w' ∧ ∀ q, q < w0.heap.size → ρ' q = none :=
  ⟨Chg.newer h.ext k.c fun x hx ⟨r, e⟩ => (by rw [h.r0 x hx] at e; cases e), fun q hq => (k.r q (by have := h.ext.size; omega)).trans (h.r0 q hq)⟩
theorem SL.a (h : SL w0 ρ w A S L m st ls) (hr : RExt ρ ρ' w) (hC : Chg (ArB 0 ρ) w w') (hA : AInv ρ' 0 w' A m') : SL w0 ρ' w' A S L m' st ls :=
  have g := h.go (.a hr hC)
  ⟨g.1, g.2, hA, h.hS.chgA hr hC, h.hL.chg hr hC fun b hb e => not_Ls_Ar e hb⟩
theorem SL.s (h : SL w0 ρ w A S L m st ls) (hr : RExt ρ ρ' w) (hC : Chg (StB 0 ρ) w w') (hS : SInv ρ' 0 w' S A st') : SL w0 ρ' w' A S L m st' ls :=
  have g := h.go (.s hr hC)
  ⟨g.1, g.2, h.hA.chgS hr hC, hS, h.hL.chg hr hC fun b hb e => not_Ls_St e hb⟩
theorem SL.l (h : SL w0 ρ w A S L m st ls) (hr : RExt ρ ρ' w) (hC : Chg (LsB 0 ρ) w w') (hL : LInv ρ' 0 w' L A ls') : SL w0 ρ' w' A S L m st ls' :=
  have g := h.go (.of hr hC fun _ => LsB.some)
  ⟨g.1, g.2, h.hA.chg hr hC (fun b hb e => by rcases e with e | e <;> (rw [hb] at e; cases e)) (fun b hb e => not_Ls_Ar hb e), h.hS.chg hr hC fun b hb e => not_Ls_St hb e, hL⟩
theorem SL.e (h : SL w0 ρ w A S L m st ls) (hE : Ext w w') : SL w0 ρ w' A S L m st ls := ⟨h.ext.then hE, h.r0, h.hA.ext hE, h.hS.ext hE, h.hL.ext hE⟩
theorem SL.again {s c : Nat} (h : SL w0 ρ w A S L m st ls) (hG : Glob w0) (hok : GOk s c ⟨m, st, ls, 0⟩) (hs : s ≤ 10000) (hc : c ≤ 10000) {name : ByteArray} {K : Value → World → Prop}
    (k : ∀ ρ' w', SL w0 ρ' w' A S L (againG ⟨m, st, ls, 0⟩ name).1.m (againG ⟨m, st, ls, 0⟩ name).1.st (againG ⟨m, st, ls, 0⟩ name).1.ls → K (.bool (againG ⟨m, st, ls, 0⟩ name).2) w') :
    Cf Tryd.prog n_adopt_Again #[.pointer (some ⟨A, 0, none⟩), .pointer (some ⟨S, 0, none⟩), .pointer (some ⟨L, 0, none⟩), .string name] w K :=
  c_Again hok hs hc h.hA h.hS h.hL (hG.ext h.ext) (h.r0 0 hG.pos) fun ρ' w' hr a b c => by
    have g := h.go hr
    exact k ρ' w' ⟨g.1, g.2, a, b, c⟩
def m0 : AM := ⟨[rootN], [0], 0⟩
theorem TOk.m0 : TOk 1 m0 := by
  have at_ : ∀ (q : Nat) (n : NodeM), Go.Proofs.m0.nodes[q]? = some n → n = rootN := fun q n hn => by
    match q, hn with
    | 0, hn => exact (by simpa [Go.Proofs.m0] using hn.symm)
    | q + 1, hn => simp [Go.Proofs.m0] at hn
  refine ⟨fun q n hn => ?_, fun q n hn => ?_, fun q n hn y hy => ?_, fun q n hn y hy => ?_, Nat.le_refl _, fun i q hq => ?_, Nat.le_refl _, fun q n hn => ?_, Nat.zero_le _⟩
  · rw [at_ q n hn]; decide
  · rw [at_ q n hn]; exact List.nodup_nil
  · rw [at_ q n hn] at hy; cases hy
  · rw [at_ q n hn] at hy; cases hy
  · match i, hq with
    | 0, hq => have : q = 0 := by simpa [Go.Proofs.m0] using hq.symm
               rw [this]; decide
    | i + 1, hq => simp [Go.Proofs.m0] at hq
  · rw [at_ q n hn]; exact Nat.zero_le _

/-! ### A formatting element with something special in it -/
def elN' (n : ByteArray) : NodeM := ⟨n, [], ⟨#[]⟩, -1, []⟩
def bA (f d : ByteArray) : AM := appendM (addEl (addEl m0 (elN' f)) (elN' d)) 0 1
def bB (f d : ByteArray) (x : ByteArray) (xo : Bool) : AM := if xo = true then putM (newText (bA f d) x) 1 3 else bA f d
def bC (f d x y : ByteArray) (xo yo : Bool) : AM :=
  let m := appendM (bB f d x xo) 1 2
  if yo = true then putM (newText m y) 2 (if xo = true then 4 else 3) else m
theorem textM_if {m : AM} {p : Nat} {s : ByteArray} (hl : lastText m p = false) : textM m p s = if (!decide (s = ⟨#[]⟩)) = true then putM (newText m s) (elAt m p) m.nodes.length else m := by
  unfold textM
  by_cases h : s = ⟨#[]⟩
  · rw [if_pos h]; simp [h]
  · rw [if_neg h, if_neg (by rw [hl]; decide)]; simp [h]
theorem bB_eq (f d x : ByteArray) : textM (bA f d) 1 x = bB f d x (!decide (x = ⟨#[]⟩)) := by
  rw [textM_if (by kernel_rfl)]; kernel_rfl
theorem bC_eq (f d x y : ByteArray) (xo : Bool) : textM (appendM (bB f d x xo) 1 2) 2 y = bC f d x y xo (!decide (y = ⟨#[]⟩)) := by
  cases xo <;> (rw [textM_if (by kernel_rfl)]; kernel_rfl)
/-- What comes of it. -/
theorem b_rest (f d x y : ByteArray) : ∀ xo yo : Bool, (restG ⟨bC f d x y xo yo, [1, 2], [1], 0⟩ 1 0 0).st = [2, 3] ∧ (restG ⟨bC f d x y xo yo, [1, 2], [1], 0⟩ 1 0 0).ls = [3] ∧ (restG ⟨bC f d x y xo yo, [1, 2], [1], 0⟩ 1 0 0).m.copies = 1 ∧
    nameAt (restG ⟨bC f d x y xo yo, [1, 2], [1], 0⟩ 1 0 0).m 3 = f ∧
    exportM (restG ⟨bC f d x y xo yo, [1, 2], [1], 0⟩ 1 0 0).m 5 0 = [.mk f [] ⟨#[]⟩ (if xo = true then [.mk ⟨#[]⟩ [] x []] else []), .mk d [] ⟨#[]⟩ [.mk f [] ⟨#[]⟩ (if yo = true then [.mk ⟨#[]⟩ [] y []] else [])]]
  | true, true => ⟨by kernel_rfl, by kernel_rfl, by kernel_rfl, by kernel_rfl, by kernel_rfl⟩
  | true, false => ⟨by kernel_rfl, by kernel_rfl, by kernel_rfl, by kernel_rfl, by kernel_rfl⟩
  | false, true => ⟨by kernel_rfl, by kernel_rfl, by kernel_rfl, by kernel_rfl, by kernel_rfl⟩
  | false, false => ⟨by kernel_rfl, by kernel_rfl, by kernel_rfl, by kernel_rfl, by kernel_rfl⟩
end Go.Proofs
set_option linter.unusedVariables false
namespace Go.Proofs
open Go Go.Eng
theorem onceG_do {g : GM} {name : ByteArray} {f p b : Nat} (h1 : lastF g.m name g.ls g.ls.length = ((f : Int), true)) (h2 : idx f g.st 0 = (p : Nat)) (h3 : (g.st.drop (p + 1)).any (isG g 32) = false) (h4 : findF (isG g 16) (g.st.drop (p + 1)) 0 = (b : Nat)) :
    onceG g name = (restG g f p b, false, true) := by
  unfold onceG
  simp only
  rw [h1]
  simp only
  rw [if_neg (by decide), Int.toNat_natCast, h2, if_neg (by omega), Int.toNat_natCast, h3, if_neg (by decide), h4, if_neg (by omega), Int.toNat_natCast]
theorem onceG_plain {g : GM} {name : ByteArray} {f p : Nat} (h1 : lastF g.m name g.ls g.ls.length = ((f : Int), true)) (h2 : idx f g.st 0 = (p : Nat)) (h3 : (g.st.drop (p + 1)).any (isG g 32) = false) (h4 : findF (isG g 16) (g.st.drop (p + 1)) 0 = -1) :
    onceG g name = ({ closeG g f with ls := removeL g.ls f }, true, true) := by
  unfold onceG
  simp only
  rw [h1]
  simp only
  rw [if_neg (by decide), Int.toNat_natCast, h2, if_neg (by omega), Int.toNat_natCast, h3, if_neg (by decide), h4, if_pos (by decide)]
theorem againG_skip {g : GM} {name : ByteArray} (h : (decide (0 < topOf g.st) && (decide (nameAt g.m (topOf g.st) = name) && decide (findL g.ls (topOf g.st) < 0))) = false) : againG g name = againLoop name 8 { g with bm := 0 } := by
  unfold againG
  rw [if_neg (by rw [h]; decide)]
theorem bC_names (f d x y : ByteArray) : ∀ xo yo : Bool, nameAt (bC f d x y xo yo) 1 = f ∧ nameAt (bC f d x y xo yo) 2 = d
  | true, true => ⟨by kernel_rfl, by kernel_rfl⟩
  | true, false => ⟨by kernel_rfl, by kernel_rfl⟩
  | false, true => ⟨by kernel_rfl, by kernel_rfl⟩
  | false, false => ⟨by kernel_rfl, by kernel_rfl⟩
theorem b_again {f d x y : ByteArray} (xo yo : Bool) (hne : d ≠ f) (h32 : isKind d 32 = false) (h16 : isKind d 16 = true) :
    (againG ⟨bC f d x y xo yo, [1, 2], [1], 0⟩ f).2 = true ∧ (againG ⟨bC f d x y xo yo, [1, 2], [1], 0⟩ f).1.st = [2] ∧ (againG ⟨bC f d x y xo yo, [1, 2], [1], 0⟩ f).1.ls = [] ∧ (againG ⟨bC f d x y xo yo, [1, 2], [1], 0⟩ f).1.m = (restG ⟨bC f d x y xo yo, [1, 2], [1], 0⟩ 1 0 0).m := by
  obtain ⟨n1, n2⟩ := bC_names f d x y xo yo
  obtain ⟨q1, q2, q3, q4, q5⟩ := b_rest f d x y xo yo
  have e1 : againG ⟨bC f d x y xo yo, [1, 2], [1], 0⟩ f = againLoop f 8 ⟨bC f d x y xo yo, [1, 2], [1], 0⟩ := by
    rw [againG_skip]
    have ht : topOf [1, 2] = 2 := rfl
    show (decide (0 < topOf [1, 2]) && (decide (nameAt (bC f d x y xo yo) (topOf [1, 2]) = f) && _)) = false
    rw [ht, n2]
    simp [hne]
  have e2 : onceG ⟨bC f d x y xo yo, [1, 2], [1], 0⟩ f = (restG ⟨bC f d x y xo yo, [1, 2], [1], 0⟩ 1 0 0, false, true) := by
    refine onceG_do (f := 1) (p := 0) (b := 0) ?_ (by rfl) ?_ ?_
    · show (if ([1] : List Int).getD 0 0 = -1 then _ else if nameAt (bC f d x y xo yo) (([1] : List Int).getD 0 0).toNat = f then _ else _) = _
      have e : ([1] : List Int).getD 0 0 = 1 := rfl
      rw [e, if_neg (by decide)]
      have e : (1 : Int).toNat = 1 := rfl
      rw [e, n1, if_pos rfl]; rfl
    · show (isKind (nameAt (bC f d x y xo yo) 2) 32 || false) = false
      rw [n2, h32]; rfl
    · show (if isKind (nameAt (bC f d x y xo yo) 2) 16 = true then _ else _) = _
      rw [n2, h16, if_pos rfl]
  generalize hg : restG ⟨bC f d x y xo yo, [1, 2], [1], 0⟩ 1 0 0 = R at e2 q1 q2 q3 q4 q5
  have e3 : onceG R f = ({ closeG R 3 with ls := removeL R.ls 3 }, true, true) := by
    refine onceG_plain (f := 3) (p := 1) ?_ ?_ ?_ ?_
    · rw [q2]
      show (if ([3] : List Int).getD 0 0 = -1 then _ else if nameAt R.m (([3] : List Int).getD 0 0).toNat = f then _ else _) = _
      have e : ([3] : List Int).getD 0 0 = 3 := rfl
      rw [e, if_neg (by decide)]
      have e : (3 : Int).toNat = 3 := rfl
      rw [e, q4, if_pos rfl]; rfl
    · rw [q1]; rfl
    · rw [q1]; rfl
    · rw [q1]; rfl
  have e4 : againLoop f 8 ⟨bC f d x y xo yo, [1, 2], [1], 0⟩ = ({ closeG R 3 with ls := removeL R.ls 3 }, true) := by
    rw [againLoop_succ, e2]
    simp only
    rw [if_neg (by decide), againLoop_succ, e3]
    simp
  rw [e1, e4]
  refine ⟨rfl, ?_, ?_, rfl⟩
  · show closeF R.st 3 R.st.length = [2]
    rw [q1]; rfl
  · show removeL R.ls 3 = []
    rw [q2]; rfl

def upR (m : AM) (r : Nat → Nat) : Bool := (List.range m.nodes.length).all fun q => (nodeAt m q).inner.all fun y => decide (r y < r q)
theorem Ranked.of {m : AM} {r : Nat → Nat} (h : upR m r = true) : Ranked m r := fun q n hn y hy => by
  have hq := (List.getElem?_eq_some_iff.1 hn).1
  have := List.all_eq_true.1 h q (List.mem_range.2 hq)
  have hn' := nodeAt_some hq
  rw [hn] at hn'; cases hn'
  simpa using List.all_eq_true.1 this y hy
def bR (xo yo : Bool) : Nat → Nat := fun q => if q = 0 then 4 else if q = 2 then 3 else if q = 1 then 2 else if q = (match xo, yo with | true, true => 5 | false, false => 3 | _, _ => 4) then 2 else 0
theorem b_rank (f d x y : ByteArray) : ∀ xo yo : Bool, upR (restG ⟨bC f d x y xo yo, [1, 2], [1], 0⟩ 1 0 0).m (bR xo yo) = true
  | true, true => by kernel_rfl
  | true, false => by kernel_rfl
  | false, true => by kernel_rfl
  | false, false => by kernel_rfl
theorem appendM_elemsL (m : AM) (p i : Nat) : (appendM m p i).elems.length = m.elems.length := by unfold appendM; rw [putM_elems]
theorem addEl_elems (m : AM) (n : NodeM) : (addEl m n).elems.length = m.elems.length + 1 := by unfold addEl; simp
theorem textM_elems (m : AM) (p : Nat) (s : ByteArray) : (textM m p s).elems = m.elems := by
  unfold textM
  split
  · rfl
  · split
    · rw [modN_elems]
    · rw [putM_elems]; rfl
/-- The steps of its building are sound. -/
theorem b_ok (f d : ByteArray) : TOk 3 (bA f d) := by
  have h1 := TOk.m0.elem (n0 := elN' f) ⟨rfl, rfl, Nat.zero_le _⟩
  have h2 := h1.elem (n0 := elN' d) ⟨rfl, rfl, Nat.zero_le _⟩
  exact h2.append (by rw [addEl_elems, addEl_elems]; decide) (by rw [addEl_elems, addEl_elems]; decide)
theorem bA_elems (f d : ByteArray) : (bA f d).elems.length = 3 := by unfold bA; rw [appendM_elemsL]; rfl
theorem b_ok2 (f d x : ByteArray) : TOk 4 (textM (bA f d) 1 x) ∧ (textM (bA f d) 1 x).elems.length = 3 :=
  ⟨(b_ok f d).text (by rw [bA_elems]; decide) x, by rw [textM_elems, bA_elems]⟩
theorem b_ok3 (f d x : ByteArray) : TOk 4 (appendM (textM (bA f d) 1 x) 1 2) ∧ (appendM (textM (bA f d) 1 x) 1 2).elems.length = 3 := by
  obtain ⟨h1, h2⟩ := b_ok2 f d x
  exact ⟨h1.append (by rw [h2]; decide) (by rw [h2]; decide), by rw [appendM_elemsL, h2]⟩
theorem b_ok4 (f d x y : ByteArray) : TOk 5 (textM (appendM (textM (bA f d) 1 x) 1 2) 2 y) ∧ (textM (appendM (textM (bA f d) 1 x) 1 2) 2 y).elems.length = 3 := by
  obtain ⟨h1, h2⟩ := b_ok3 f d x
  exact ⟨h1.text (by rw [h2]; decide) y, by rw [textM_elems, h2]⟩
end Go.Proofs
namespace Go.Proofs
open Go Go.Eng
theorem tbl16 : ∀ b0 b1 b2 b3 b4 b5 b6 b7 b8 b9 : Bool, (!decide (band (band (accB (fun i => [b0, b1, b2, b3, b4, b5, b6, b7, b8, b9].getD i false) 10) 16) 1023 = 0)) = b4 := by decide +kernel
theorem isKind_special (x : ByteArray) : isKind x 16 = inK 4 x := by
  unfold isKind
  rw [kacc_accB, acc10]
  exact tbl16 (inK 0 x) (inK 1 x) (inK 2 x) (inK 3 x) (inK 4 x) (inK 5 x) (inK 6 x) (inK 7 x) (inK 8 x) (inK 9 x)
def isBlock (d : ByteArray) : Prop := inK 5 d = false ∧ inK 4 d = true
theorem blk_p : isBlock ⟨#[112]⟩ := ⟨by kernel_rfl, by kernel_rfl⟩
theorem blk_div : isBlock ⟨#[100, 105, 118]⟩ := ⟨by kernel_rfl, by kernel_rfl⟩
theorem blk_li : isBlock ⟨#[108, 105]⟩ := ⟨by kernel_rfl, by kernel_rfl⟩
theorem blk_section : isBlock ⟨#[115, 101, 99, 116, 105, 111, 110]⟩ := ⟨by kernel_rfl, by kernel_rfl⟩
theorem blk_h1 : isBlock ⟨#[104, 49]⟩ := ⟨by kernel_rfl, by kernel_rfl⟩
theorem blk_pre : isBlock ⟨#[112, 114, 101]⟩ := ⟨by kernel_rfl, by kernel_rfl⟩
theorem blk_button : isBlock ⟨#[98, 117, 116, 116, 111, 110]⟩ := ⟨by kernel_rfl, by kernel_rfl⟩
theorem blk_address : isBlock ⟨#[97, 100, 100, 114, 101, 115, 115]⟩ := ⟨by kernel_rfl, by kernel_rfl⟩
end Go.Proofs
set_option linter.unusedVariables false
namespace Go.Proofs
open Go Go.Eng
theorem AV.rd {Q : Nat → Prop} {d : Nat} {w : World} {v : Value} {l : List TN} (h : AV Q (d + 1) w v l) {i : Nat} {t : TN} (ht : l[i]? = some t) : ∃ g c, v = .slice (some ⟨g, 0, none⟩) l.length c ∧ i < l.length ∧ ∃ u, AV Q d w u t.inner ∧ w.cell? ⟨g, 0 + i * 4 + 0, none⟩ = some (.string t.name) ∧ w.cell? ⟨g, 0 + i * 4 + 2, none⟩ = some (.string t.text) ∧ w.cell? ⟨g, 0 + i * 4 + 3, none⟩ = some u := by
  obtain ⟨a, c, rfl⟩ := h.val
  obtain ⟨ph, hp, hr, _, hn⟩ := h
  have hi := (List.getElem?_eq_some_iff.1 ht).1
  obtain ⟨p, hq⟩ : ∃ p, ph[i]? = some p := ⟨_, List.getElem?_eq_getElem (by omega)⟩
  obtain ⟨g, rfl, hc⟩ := TV.cellRow hr ht hq
  obtain ⟨_, _, hin⟩ := hn i t p ht hq
  exact ⟨g, c, rfl, hi, p.2, hin, hc 0 _ rfl, hc 2 _ rfl, hc 3 _ rfl⟩
theorem AV.rdName {Q : Nat → Prop} {d : Nat} {w : World} {v : Value} {l : List TN} (h : AV Q (d + 1) w v l) {i : Nat} {t : TN} (ht : l[i]? = some t) {K : Value → World → Prop} (k : K (.string t.name) w) :
    Vl Tryd.prog (Instr.indexAt T_sl_api_Node v (.int .i64 (i : Nat))) w fun p w' => Vl Tryd.prog (Instr.fieldAt T_api_Node p 0) w' fun q w'' => Vl Tryd.prog (Instr.loadAt T_string q) w'' K := by
  obtain ⟨g, c, rfl, hi, u, _, h0, _, _⟩ := h.rd ht
  refine Vl.ix 4 (by omega) (by omega) (Vl.fa ?_)
  rw [Int.toNat_natCast]
  exact Vl.lda h0 k
theorem AV.rdText {Q : Nat → Prop} {d : Nat} {w : World} {v : Value} {l : List TN} (h : AV Q (d + 1) w v l) {i : Nat} {t : TN} (ht : l[i]? = some t) {K : Value → World → Prop} (k : K (.string t.text) w) :
    Vl Tryd.prog (Instr.indexAt T_sl_api_Node v (.int .i64 (i : Nat))) w fun p w' => Vl Tryd.prog (Instr.fieldAt T_api_Node p 2) w' fun q w'' => Vl Tryd.prog (Instr.loadAt T_string q) w'' K := by
  obtain ⟨g, c, rfl, hi, u, _, _, h0, _⟩ := h.rd ht
  refine Vl.ix 4 (by omega) (by omega) (Vl.fa ?_)
  rw [Int.toNat_natCast]
  exact Vl.lda h0 k
theorem AV.rdInner {Q : Nat → Prop} {d : Nat} {w : World} {v : Value} {l : List TN} (h : AV Q (d + 1) w v l) {i : Nat} {t : TN} (ht : l[i]? = some t) {K : Value → World → Prop} (k : ∀ u, AV Q d w u t.inner → K u w) :
    Vl Tryd.prog (Instr.indexAt T_sl_api_Node v (.int .i64 (i : Nat))) w fun p w' => Vl Tryd.prog (Instr.fieldAt T_api_Node p 3) w' fun q w'' => Vl Tryd.prog (Instr.loadAt T_sl_api_Node q) w'' K := by
  obtain ⟨g, c, rfl, hi, u, hu, _, _, h0⟩ := h.rd ht
  refine Vl.ix 4 (by omega) (by omega) (Vl.fa ?_)
  rw [Int.toNat_natCast]
  exact Vl.lda h0 (k u hu)
theorem AV.len {Q : Nat → Prop} {d : Nat} {w : World} {v : Value} {l : List TN} (h : AV Q d w v l) {U : Nat} {K : Value → World → Prop} (k : K (.int .i64 l.length) w) : Vl Tryd.prog (Builtin.len_ #[T_sl_api_Node] U #[v]) w K := by
  obtain ⟨a, c, rfl⟩ := h.val
  exact Vl.len k

/-! ### How long texts are -/
def Tx (B : Nat) (m : AM) : Prop := ∀ (q : Nat) (n : NodeM), m.nodes[q]? = some n → n.text.size ≤ B
theorem Tx.mod {B : Nat} {m : AM} (h : Tx B m) {k : Nat} {f : NodeM → NodeM} (hf : ∀ x, (f x).text = x.text) : Tx B (modN m k f) := fun q n hn => by
  obtain ⟨x, hx, rfl | ⟨_, rfl⟩⟩ := modN_at hn
  · exact h q _ hx
  · rw [hf]; exact h q x hx
theorem Tx.put {B : Nat} {m : AM} (h : Tx B m) (p q : Nat) : Tx B (putM m p q) := by
  have h1 : Tx B (leaveM m q) := by
    unfold leaveM
    split
    · exact h
    · split
      · exact h
      · exact h.mod fun _ => rfl
  exact Tx.mod (f := fun x => { x with inner := x.inner ++ [q] }) (Tx.mod (f := fun x => { x with parent := (p : Int) }) h1 fun _ => rfl) fun _ => rfl
theorem Tx.node {B : Nat} {m m' : AM} (h : Tx B m) {n0 : NodeM} (hm : m'.nodes = m.nodes ++ [n0]) (hn : n0.text.size ≤ B) : Tx B m' := fun q n hq => by
  rw [hm] at hq
  by_cases hl : q < m.nodes.length
  · rw [List.getElem?_append_left hl] at hq; exact h q n hq
  · rw [List.getElem?_append_right (by omega)] at hq
    have := (List.getElem?_eq_some_iff.1 hq).1
    have e : q - m.nodes.length = 0 := by simp at this; omega
    rw [e] at hq
    have : n0 = n := by simpa using hq
    rw [← this]; exact hn
theorem Tx.wide {B C : Nat} {m : AM} (h : Tx B m) (hc : B ≤ C) : Tx C m := fun q n hn => Nat.le_trans (h q n hn) hc
theorem Tx.text {B : Nat} {m : AM} (h : Tx B m) (p : Nat) (s : ByteArray) : Tx (B + s.size) (textM m p s) := by
  unfold textM
  split
  · exact h.wide (by omega)
  · split
    · intro q n hn
      obtain ⟨x, hx, rfl | ⟨_, rfl⟩⟩ := modN_at hn
      · have := h q _ hx; omega
      · show (x.text ++ s).size ≤ _
        rw [ByteArray.size_append]; have := h q x hx; omega
    · exact (((h.wide (by omega)).node (m' := newText m s) rfl (by show s.size ≤ _; omega))).put _ _
theorem bA_tx (f d : ByteArray) : Tx 0 (bA f d) := by
  have h0 : Tx 0 m0 := fun q n hn => by
    match q, hn with
    | 0, hn => have : n = rootN := by simpa [m0] using hn.symm
               rw [this]; exact Nat.le_refl _
    | q + 1, hn => simp [m0] at hn
  exact ((h0.node (m' := addEl m0 (elN' f)) rfl (Nat.le_refl _)).node (m' := addEl (addEl m0 (elN' f)) (elN' d)) rfl (Nat.le_refl _)).put _ _

theorem GOk.again_m {s c : Nat} {g : GM} (h : GOk s c g) (name : ByteArray) : TOk (c + 8 * (s + 2)) (againG g name).1.m := (h.again name).m
theorem b_gok {f d x y : ByteArray} : GOk 2 5 ⟨textM (appendM (textM (bA f d) 1 x) 1 2) 2 y, [1, 2], [1], 0⟩ := by
  obtain ⟨h1, h2⟩ := b_ok4 f d x y
  refine ⟨h1, fun i hi => .of_lt h1.aok ?_, (show ([1, 2] : List Nat).Nodup by decide), fun z hz => ?_, (show ([1, 2] : List Nat).length ≤ 2 by decide), (show ([1] : List Int).length ≤ 5 by decide), Int.le_refl _, (show (0 : Int) ≤ (([1] : List Int).length : Nat) by decide)⟩
  · have hi : i = 1 ∨ i = 2 := by simpa using hi
    rw [h2]; omega
  · have hz : z = 1 := by simpa using hz
    exact .inr ⟨1, hz, .of_lt h1.aok (by show 1 < (textM _ _ _).elems.length; rw [h2]; decide)⟩
theorem b_elems (f d x y : ByteArray) : ∀ xo yo : Bool, (restG ⟨bC f d x y xo yo, [1, 2], [1], 0⟩ 1 0 0).m.elems.length = 4
  | true, true => by kernel_rfl
  | true, false => by kernel_rfl
  | false, true => by kernel_rfl
  | false, false => by kernel_rfl
theorem b_el0 (f d x y : ByteArray) : ∀ xo yo : Bool, elAt (restG ⟨bC f d x y xo yo, [1, 2], [1], 0⟩ 1 0 0).m 0 = 0
  | true, true => by kernel_rfl
  | true, false => by kernel_rfl
  | false, true => by kernel_rfl
  | false, false => by kernel_rfl

set_option maxHeartbeats 1000000 in
theorem c_speaks15 {w : World} (hG : Glob w) {K : Value → World → Prop} (k : ∀ w', Ext w w' → K (.bool true) w') : Cf Tryd.prog n_decanterlaw15_speaks #[] w K := by
  refine L_decanterlaw15_speaks _ _ ?_
  unfold S_decanterlaw15_speaks
  refine c_arena_New (fresh0 0 w) fun ρ1 w1 A hR1 hE1 hA1 => ?_
  refine Vl.i (w' := w1) (v := .bool false) (by kernel_rfl) (Cond_bool (fun h => by cases h) fun _ => ?_)
  refine c_stack_New (ρ := ρ1) (j := 0) fun ρ2 w2 S hR2 hE2 hS2 => ?_
  refine c_list_New (ρ := ρ2) (j := 0) fun ρ3 w3 L hR3 hE3 _ hL3 => ?_
  refine Vl.i (w' := w3) (v := .bool false) (by kernel_rfl) (Cond_bool (fun h => by cases h) fun _ => ?_)
  refine Vl.i (w' := w3) (v := .bool false) (by kernel_rfl) (Cond_bool (fun h => by cases h) fun _ => ?_)
  have hR02 := hR1.1.trans hR2.1 hE1.size
  have hR03 := hR02.trans hR3.1 (hE1.then hE2).size
  have h3 : SL w ρ3 w3 A S L m0 [] [] := ⟨(hE1.then hE2).then hE3, fun q hq => hR03 q hq, (hA1.chg hR2.1 hE2 (fun _ _ => id) (fun _ _ => id)).chg hR3.1 hE3 (fun _ _ => id) (fun _ _ => id), hS2.chg hR3.1 hE3 (fun _ _ => id), hL3⟩
  -- two elements
  refine c_Element h3.hA (l := []) (Row.nil _ _ _) (by simp) (by decide) (by decide) fun ρ4 w4 hR4 hC4 hA4 => ?_
  have h4 : SL w ρ4 w4 A S L (addEl m0 (elN' ⟨#[98]⟩)) [] [] := h3.a hR4.1 hC4 hA4
  refine c_Element h4.hA (l := []) (Row.nil _ _ _) (by simp) (by decide) (by decide) fun ρ5 w5 hR5 hC5 hA5 => ?_
  have h5 : SL w ρ5 w5 A S L (addEl (addEl m0 (elN' ⟨#[98]⟩)) (elN' ⟨#[112]⟩)) [] [] := h4.a hR5.1 hC5 hA5
  have t5 : TOk 3 (addEl (addEl m0 (elN' ⟨#[98]⟩)) (elN' ⟨#[112]⟩)) := (TOk.m0.elem (n0 := elN' _) ⟨rfl, rfl, Nat.zero_le _⟩).elem (n0 := elN' _) ⟨rfl, rfl, Nat.zero_le _⟩
  refine c_Append (p := 0) (i := 1) h5.hA t5.aok (by decide) (by decide) (by decide) fun ρ6 w6 hR6 hC6 hA6 => ?_
  have h6 : SL w ρ6 w6 A S L (bA ⟨#[98]⟩ ⟨#[112]⟩) [] [] := h5.a hR6.1 (Chg.ar hC6) hA6
  have e6 := bA_elems ⟨#[98]⟩ ⟨#[112]⟩
  refine c_Append (p := 1) (i := 2) h6.hA (b_ok _ _).aok (by decide) (by rw [e6]; decide) (by rw [e6]; decide) fun ρ7 w7 hR7 hC7 hA7 => ?_
  have h7 : SL w ρ7 w7 A S L (appendM (textM (bA ⟨#[98]⟩ ⟨#[112]⟩) 1 ⟨#[]⟩) 1 2) [] [] := h6.a hR7.1 (Chg.ar hC7) hA7
  obtain ⟨t7, e7⟩ := b_ok3 ⟨#[98]⟩ ⟨#[112]⟩ ⟨#[]⟩
  have x7 : Tx 0 (appendM (textM (bA ⟨#[98]⟩ ⟨#[112]⟩) 1 ⟨#[]⟩) 1 2) := ((bA_tx _ _).text 1 ⟨#[]⟩).put _ _
  refine c_Text (p := 2) (s := ⟨#[120]⟩) h7.hA t7.aok (by decide) (by rw [e7]; decide) (fun q n hn => by have := x7 q n hn; have e : (⟨#[120]⟩ : ByteArray).size = 1 := rfl; rw [e]; omega) fun ρ8 w8 hR8 hC8 hA8 => ?_
  have h8 := h7.a hR8.1 hC8 hA8
  refine c_Push (i := 1) h8.hS (by decide) fun ρ9 w9 hR9 hC9 hS9 => ?_
  have h9 := h8.s hR9.1 hC9 hS9
  refine c_Push (i := 2) h9.hS (by decide) fun ρ10 w10 hR10 hC10 hS10 => ?_
  have h10 := h9.s hR10.1 hC10 hS10
  have gok := b_gok (f := ⟨#[98]⟩) (d := ⟨#[112]⟩) (x := ⟨#[]⟩) (y := ⟨#[120]⟩)
  refine c_LPush (i := 1) h10.hA gok.m.aok h10.hL (fun x hx => by cases hx) (by decide) (gok.st 1 (by simp)) fun ρ11 w11 hR11 hC11 hL11 => ?_
  have h11 : SL w ρ11 w11 A S L (textM (appendM (textM (bA ⟨#[98]⟩ ⟨#[112]⟩) 1 ⟨#[]⟩) 1 2) 2 ⟨#[120]⟩) [1, 2] [1] := h10.l hR11.1 hC11 hL11
  refine h11.again hG gok (by decide) (by decide) fun ρ12 w12 h12 => ?_
  have gm := gok.again_m (⟨#[98]⟩ : ByteArray)
  have em : textM (appendM (textM (bA ⟨#[98]⟩ ⟨#[112]⟩) 1 ⟨#[]⟩) 1 2) 2 ⟨#[120]⟩ = bC ⟨#[98]⟩ ⟨#[112]⟩ ⟨#[]⟩ ⟨#[120]⟩ false true := bC_eq _ _ _ _ false
  rw [em] at h12 gm ⊢
  obtain ⟨a1, a2, a3, a4⟩ := b_again (f := ⟨#[98]⟩) (d := ⟨#[112]⟩) (x := ⟨#[]⟩) (y := ⟨#[120]⟩) false true (by decide) (by rw [isKind_scope]; exact blk_p.1) (by rw [isKind_special]; exact blk_p.2)
  obtain ⟨_, _, _, _, q5⟩ := b_rest ⟨#[98]⟩ ⟨#[112]⟩ ⟨#[]⟩ ⟨#[120]⟩ false true
  have e0 := b_el0 ⟨#[98]⟩ ⟨#[112]⟩ ⟨#[]⟩ ⟨#[120]⟩ false true
  have rk := Ranked.of (b_rank ⟨#[98]⟩ ⟨#[112]⟩ ⟨#[]⟩ ⟨#[120]⟩ false true)
  rw [a1]
  rw [a2, a3, a4] at h12
  rw [a4] at gm
  refine Vl.not (Cond_bool (fun h => by cases h) fun _ => ?_)
  have hel : 0 < (restG ⟨bC ⟨#[98]⟩ ⟨#[112]⟩ ⟨#[]⟩ ⟨#[120]⟩ false true, [1, 2], [1], 0⟩ 1 0 0).m.elems.length := by
    rw [b_elems]; decide
  refine c_Nodes (i := 0) (d := 5) h12.hA gm.aok (by decide) rk hel (by rw [e0]; decide) fun v w13 hv hE13 => ?_
  rw [e0, q5] at hv
  have kE := (h12.e hE13).ext
  refine hv.len (Vl.eql (Cond_bool (fun _ => ?_) fun h => by simp at h))
  refine hv.rdName (i := 1) rfl (Vl.seql (Cond_bool (fun _ => ?_) fun h => by simp [TN.name] at h))
  refine hv.rdInner (i := 1) rfl fun u1 hu1 => ?_
  refine AV.len hu1 (Vl.eql (Cond_bool (fun _ => ?_) fun h => by simp [TN.inner] at h))
  refine hv.rdInner (i := 1) rfl fun u2 hu2 => ?_
  refine AV.rdName (i := 0) hu2 rfl (Vl.seql (Cond_bool (fun _ => ?_) fun h => by simp [TN.name] at h))
  refine hv.rdInner (i := 1) rfl fun u3 hu3 => ?_
  refine AV.rdInner (i := 0) hu3 rfl fun u4 hu4 => ?_
  refine AV.len hu4 (Vl.eql (Cond_bool (fun _ => ?_) fun h => by simp [TN.inner] at h))
  refine hv.rdInner (i := 1) rfl fun u5 hu5 => ?_
  refine AV.rdInner (i := 0) hu5 rfl fun u6 hu6 => ?_
  refine AV.rdText (i := 0) hu6 rfl (Vl.seql ?_)
  exact k w13 kE
end Go.Proofs
set_option linter.unusedVariables false
namespace Go.Eng
open Go
theorem ixK {P : Program} {w : World} {T E sz : Nat} {kd : IntKind} (hT : P.underlying T = some (.slice E)) (hE : ∀ w, (sizeOf E).run P w = .ok sz w) {b o n c : Nat} {i : Int} (h0 : 0 ≤ i) (h1 : i < n) :
    (Instr.indexAt T (.slice (some ⟨b, o, none⟩) n c) (.int kd i)).run P w = .ok (.pointer (some ⟨b, o + i.toNat * sz, none⟩)) w := by
  unfold Instr.indexAt asIntOf
  have hu : ∀ w, (underlying T).run P w = .ok (.slice E) w := fun w => by unfold underlying program; simp [Sem.run_bind, Sem.run, hT, Result.andThen]
  simp only [Sem.run_bind, Sem.run_pure, Result.andThen, hu]
  rw [if_pos ⟨h0, h1⟩]
  simp only [Sem.run_bind, hE, Result.andThen, Sem.run_pure]
  rw [add_off]
theorem bo_remK {P : Program} {w : World} {T} {kd : IntKind} {x y : Operand} {a b : Nat} (hb : 0 < b) : (binop .rem T x y (.int kd a) (.int kd b)).run P w = .ok (.int kd ((a % b : Nat) : Int)) w := by
  have h1 : (binop .rem T x y (.int kd a) (.int kd b)).run P w = (Op.intDiv .rem kd a b).run P w := by
    cases kd <;> rfl
  rw [h1]
  unfold Op.intDiv
  have : ¬ ((b : Int) = 0) := by omega
  rw [if_neg this]
  rfl
end Go.Eng
namespace Go.Proofs
open Go Go.Eng
theorem ix_u8 {w : World} {l : List ByteArray} {g : Nat} (h : Cl w g T_string (strs l)) {i : Nat} (hi : i < l.length) {K : Value → World → Prop} (k : K (.string l[i]) w) :
    Vl Tryd.prog (Instr.indexAt T_sl_string (.slice (some ⟨g, 0, none⟩) l.length l.length) (.int .u8 (i : Nat))) w fun p w' => Vl Tryd.prog (Instr.loadAt T_string p) w' K := by
  refine Vl.i (ixK (E := T_string) (sz := 1) (by kernel_rfl) (Go.Eng.run_sizeOf (by kernel_rfl)) (by omega) (by omega)) ?_
  rw [Int.toNat_natCast, Nat.mul_one, Nat.zero_add]
  exact Vl.ld h (by unfold strs; simp [hi]) k
theorem TV.nil {T E n : Nat} {Q : Nat → Prop} {w : World} : TV T E Q (n + 1) w (.slice none 0 0) [] :=
  ⟨[], rfl, Row.nil _ _ _, fun b hb => (by cases hb), fun k t p ht => by simp at ht⟩
/-- Nodes that were just laid. -/
theorem RV.mk {n g : Nat} {w : World} {l : List TN} {ph : List (Value × Value)} (hl : 0 < l.length) (hb : l.length ≤ 1000) (hp : ph.length = l.length) (hc : Cl w g T_decanterref12_Node (tnCells l ph)) (hn : ∀ (k : Nat) (t : TN) (p : Value × Value), l[k]? = some t → ph[k]? = some p → p.1 = .slice none 0 0 ∧ t.attrs = [] ∧ RV (fun _ => True) n w p.2 t.inner) :
    RV (fun _ => True) (n + 1) w (.slice (some ⟨g, 0, none⟩) l.length l.length) l := by
  refine ⟨ph, hp, ⟨tnCells_len l ph hp, .inr ⟨g, l.length, _, rfl, hc, Nat.le_refl _, hl, by unfold maxLen; omega, tnCells_len l ph hp, ?_⟩⟩, fun _ _ => trivial, fun k t p ht hp' => ?_⟩
  · rw [List.take_of_length_le (by rw [tnCells_len l ph hp]; exact Nat.le_refl _)]
  · obtain ⟨h1, h2, h3⟩ := hn k t p ht hp'
    rw [h1, h2]
    exact ⟨Row.nil _ _ _, fun b hb => trivial, h3⟩
def txt (x : ByteArray) : List TN := if (!decide (x = ⟨#[]⟩)) = true then [.mk ⟨#[]⟩ [] x []] else []
theorem c_txt {x : ByteArray} {w : World} (n : Nat) {K : Value → World → Prop} (k : ∀ v w', RV (fun _ => True) (n + 2) w' v (txt x) → Ext w w' → One v → K v w') : Cf Tryd.prog n_decanterlaw15_AdoptBlock_1 #[.string x] w K := by
  refine L_decanterlaw15_AdoptBlock_1 _ _ _ ?_
  unfold S_decanterlaw15_AdoptBlock_1
  refine Vl.seql (Cond_bool (fun h => ?_) (fun h => ?_))
  · have e : txt x = [] := by unfold txt; rw [h]; rfl
    exact k _ w (by rw [e]; exact TV.nil) (Chg.refl _ _) trivial
  · have e : txt x = [.mk ⟨#[]⟩ [] x []] := by unfold txt; rw [h]; rfl
    refine Vl.i (v := .agg (tnCell (.mk ⟨#[]⟩ [] x []) (.slice none 0 0, .slice none 0 0)).toArray) (w' := w) (by kernel_rfl) ?_
    refine Vl.bs1 (E := T_decanterref12_Node) (sz := 4) (by rfl) fun w1 h1 => ?_
    have c1 : Cl w1 w.heap.size T_decanterref12_Node (tnCells [.mk ⟨#[]⟩ [] x []] [(.slice none 0 0, .slice none 0 0)]) := h1.new
    refine k _ w1 ?_ h1.ext trivial
    rw [e]
    refine RV.mk (by simp) (by simp) rfl c1 fun q t p ht hp => ?_
    match q, ht, hp with
    | 0, ht, hp => cases ht; cases hp; exact ⟨rfl, rfl, TV.nil⟩
    | q + 1, ht, hp => simp at ht

def fmts : List ByteArray := [⟨#[98]⟩, ⟨#[105]⟩, ⟨#[97]⟩, ⟨#[101, 109]⟩, ⟨#[102, 111, 110, 116]⟩, ⟨#[110, 111, 98, 114]⟩]
def blks : List ByteArray := [⟨#[112]⟩, ⟨#[100, 105, 118]⟩, ⟨#[108, 105]⟩, ⟨#[115, 101, 99, 116, 105, 111, 110]⟩, ⟨#[104, 49]⟩, ⟨#[112, 114, 101]⟩, ⟨#[98, 117, 116, 116, 111, 110]⟩, ⟨#[97, 100, 100, 114, 101, 115, 115]⟩]
theorem fmts_not : ∀ i (h : i < fmts.length), inK 4 fmts[i] = false
  | 0, _ => by kernel_rfl
  | 1, _ => by kernel_rfl
  | 2, _ => by kernel_rfl
  | 3, _ => by kernel_rfl
  | 4, _ => by kernel_rfl
  | 5, _ => by kernel_rfl
  | n + 6, h => by exact absurd h (by show ¬ n + 6 < 6; omega)
theorem blks_are : ∀ i (h : i < blks.length), isBlock blks[i]
  | 0, _ => blk_p
  | 1, _ => blk_div
  | 2, _ => blk_li
  | 3, _ => blk_section
  | 4, _ => blk_h1
  | 5, _ => blk_pre
  | 6, _ => blk_button
  | 7, _ => blk_address
  | n + 8, h => by exact absurd h (by show ¬ n + 8 < 8; omega)
def bTree (f d x y : ByteArray) : List TN := [.mk f [] ⟨#[]⟩ (txt x), .mk d [] ⟨#[]⟩ [.mk f [] ⟨#[]⟩ (txt y)]]
theorem txt_b (x : ByteArray) : (txt x).length ≤ 1 ∧ ∀ t ∈ txt x, t.attrs = [] ∧ t.inner = [] := by
  unfold txt
  split
  · exact ⟨Nat.le_refl _, fun t ht => by
      have ht : t = .mk ⟨#[]⟩ [] x [] := by simpa using ht
      rw [ht]; exact ⟨rfl, rfl⟩⟩
  · exact ⟨Nat.zero_le _, fun t ht => by cases ht⟩
theorem txt_TB (x : ByteArray) (n : Nat) : TB n (txt x) := by
  cases n with
  | zero => trivial
  | succ n =>
    obtain ⟨h1, h2⟩ := txt_b x
    refine ⟨by omega, fun t ht => ?_⟩
    obtain ⟨a, b⟩ := h2 t ht
    rw [a, b]
    refine ⟨Nat.zero_le _, ?_⟩
    cases n with
    | zero => trivial
    | succ n => exact ⟨Nat.zero_le _, fun t ht => by cases ht⟩
theorem bTree_TB (f d x y : ByteArray) : TB 5 (bTree f d x y) := by
  refine ⟨by show 2 ≤ _; omega, fun t ht => ?_⟩
  have ht : t = .mk f [] ⟨#[]⟩ (txt x) ∨ t = .mk d [] ⟨#[]⟩ [.mk f [] ⟨#[]⟩ (txt y)] := by simpa [bTree] using ht
  rcases ht with rfl | rfl
  · exact ⟨Nat.zero_le _, txt_TB x 4⟩
  · refine ⟨Nat.zero_le _, by show 1 ≤ _; omega, fun t ht => ?_⟩
    have ht : t = .mk f [] ⟨#[]⟩ (txt y) := by simpa [TN.inner] using ht
    rw [ht]; exact ⟨Nat.zero_le _, txt_TB y 3⟩
end Go.Proofs
set_option linter.unusedVariables false
namespace Go.Proofs
open Go Go.Eng
set_option maxHeartbeats 2000000 in
theorem c_AdoptBlock {w : World} (hG : Glob w) {which block : Nat} {x y : ByteArray} {K : Value → World → Prop} (k : ∀ w', Ext w w' → K (.bool true) w') :
    Cf Tryd.prog n_decanterlaw15_AdoptBlock #[.int .u8 which, .int .u8 block, .string x, .string y] w K := by
  refine L_decanterlaw15_AdoptBlock _ _ _ _ _ _ ?_
  unfold S_decanterlaw15_AdoptBlock
  refine c_speaks15 hG fun wa hEa => Vl.not (Cond_bool (fun h => by cases h) fun _ => ?_)
  have sp : ∀ {wx : World}, Ext w wx → Cf Tryd.prog n_decanterlaw15_speaks #[] wx K := fun hx => c_speaks15 (hG.ext hx) fun w2 hE2 => k w2 (hx.then hE2)
  refine Vl.lenS (Vl.gtr (Cond_bool (fun _ => sp hEa) fun hx => ?_))
  have hx : x.size ≤ 40 := by have := of_decide_eq_false hx; omega
  refine Vl.lenS (Vl.gtr (Cond_bool (fun _ => sp hEa) fun hy => ?_))
  have hy : y.size ≤ 40 := by have := of_decide_eq_false hy; omega
  -- the names
  refine Vl.i (w' := wa.alloc (.cells (strs fmts).toArray T_string)) (v := .slice (some ⟨wa.heap.size, 0, none⟩) 6 6) (by kernel_rfl) ?_
  have nb := nw_alloc wa (.cells (strs fmts).toArray T_string)
  generalize wa.alloc (.cells (strs fmts).toArray T_string) = wb at nb ⊢
  have cb : Cl wb wa.heap.size T_string (strs fmts) := nb.new
  refine Vl.i (bo_remK (kd := .u8) (a := which) (b := 6) (by decide)) ?_
  have hi : which % 6 < fmts.length := Nat.mod_lt _ (by decide)
  refine ix_u8 (l := fmts) cb hi ?_
  have hf := fmts_not _ hi
  generalize fmts[which % 6] = f at hf
  refine Vl.i (w' := wb.alloc (.cells (strs blks).toArray T_string)) (v := .slice (some ⟨wb.heap.size, 0, none⟩) 8 8) (by kernel_rfl) ?_
  have nc := nw_alloc wb (.cells (strs blks).toArray T_string)
  generalize wb.alloc (.cells (strs blks).toArray T_string) = wc at nc ⊢
  have cc : Cl wc wb.heap.size T_string (strs blks) := nc.new
  refine Vl.i (bo_remK (kd := .u8) (a := block) (b := 8) (by decide)) ?_
  have hj : block % 8 < blks.length := Nat.mod_lt _ (by decide)
  refine ix_u8 (l := blks) cc hj ?_
  have hd := blks_are _ hj
  generalize blks[block % 8] = d at hd
  have hne : d ≠ f := fun e => by have := hd.2; rw [e, hf] at this; cases this
  have hE0 : Ext w wc := (hEa.then nb.ext).then nc.ext
  have hG0 := hG.ext hE0
  have k0 : ∀ w', Ext wc w' → K (.bool true) w' := fun w' hE => k w' (hE0.then hE)
  clear nb nc cb cc
  -- an arena, a stack, a list
  refine c_arena_New (fresh0 0 wc) fun ρ1 w1 A hR1 hE1 hA1 => ?_
  refine Vl.i (w' := w1) (v := .bool false) (by kernel_rfl) (Cond_bool (fun h => by cases h) fun _ => ?_)
  refine c_stack_New (ρ := ρ1) (j := 0) fun ρ2 w2 S hR2 hE2 hS2 => ?_
  refine c_list_New (ρ := ρ2) (j := 0) fun ρ3 w3 L hR3 hE3 _ hL3 => ?_
  refine Vl.i (w' := w3) (v := .bool false) (by kernel_rfl) (Cond_bool (fun h => by cases h) fun _ => ?_)
  refine Vl.i (w' := w3) (v := .bool false) (by kernel_rfl) (Cond_bool (fun h => by cases h) fun _ => ?_)
  have hR02 := hR1.1.trans hR2.1 hE1.size
  have hR03 := hR02.trans hR3.1 (hE1.then hE2).size
  have h3 : SL wc ρ3 w3 A S L m0 [] [] := ⟨(hE1.then hE2).then hE3, fun q hq => hR03 q hq, (hA1.chg hR2.1 hE2 (fun _ _ => id) (fun _ _ => id)).chg hR3.1 hE3 (fun _ _ => id) (fun _ _ => id), hS2.chg hR3.1 hE3 (fun _ _ => id), hL3⟩
  refine c_Element h3.hA (l := []) (Row.nil _ _ _) (by simp) (by decide) (by decide) fun ρ4 w4 hR4 hC4 hA4 => ?_
  have h4 : SL wc ρ4 w4 A S L (addEl m0 (elN' f)) [] [] := h3.a hR4.1 hC4 hA4
  have t4 : TOk 2 (addEl m0 (elN' f)) := TOk.m0.elem (n0 := elN' f) ⟨rfl, rfl, Nat.zero_le _⟩
  refine c_Element h4.hA (l := []) (Row.nil _ _ _) (by simp) (Nat.le_trans t4.many (by decide)) (Nat.le_trans t4.elm (by decide)) fun ρ5 w5 hR5 hC5 hA5 => ?_
  have h5 : SL wc ρ5 w5 A S L (addEl (addEl m0 (elN' f)) (elN' d)) [] [] := h4.a hR5.1 hC5 hA5
  have t5 : TOk 3 (addEl (addEl m0 (elN' f)) (elN' d)) := t4.elem (n0 := elN' d) ⟨rfl, rfl, Nat.zero_le _⟩
  have e5 : (addEl (addEl m0 (elN' f)) (elN' d)).elems.length = 3 := by rw [addEl_elems, addEl_elems]; rfl
  refine c_Append (p := 0) (i := 1) h5.hA t5.aok (by decide) (by rw [e5]; decide) (by rw [e5]; decide) fun ρ6 w6 hR6 hC6 hA6 => ?_
  have h6 : SL wc ρ6 w6 A S L (bA f d) [] [] := h5.a hR6.1 (Chg.ar hC6) hA6
  have e6 := bA_elems f d
  have x6 := bA_tx f d
  refine c_Text (p := 1) (s := x) h6.hA (b_ok _ _).aok (by decide) (by rw [e6]; decide) (fun q n hn => by have := x6 q n hn; omega) fun ρ6' w6' hR6' hC6' hA6' => ?_
  have h6' := h6.a hR6'.1 hC6' hA6'
  obtain ⟨t6, e6'⟩ := b_ok2 f d x
  refine c_Append (p := 1) (i := 2) h6'.hA t6.aok (by decide) (by rw [e6']; decide) (by rw [e6']; decide) fun ρ7 w7 hR7 hC7 hA7 => ?_
  have h7 : SL wc ρ7 w7 A S L (appendM (textM (bA f d) 1 x) 1 2) [] [] := h6'.a hR7.1 (Chg.ar hC7) hA7
  obtain ⟨t7, e7⟩ := b_ok3 f d x
  have x7 : Tx (0 + x.size) (appendM (textM (bA f d) 1 x) 1 2) := (x6.text 1 x).put _ _
  refine c_Text (p := 2) (s := y) h7.hA t7.aok (by decide) (by rw [e7]; decide) (fun q n hn => by have := x7 q n hn; omega) fun ρ8 w8 hR8 hC8 hA8 => ?_
  have h8 := h7.a hR8.1 hC8 hA8
  refine c_Push (i := 1) h8.hS (by decide) fun ρ9 w9 hR9 hC9 hS9 => ?_
  have h9 := h8.s hR9.1 hC9 hS9
  refine c_Push (i := 2) h9.hS (by decide) fun ρ10 w10 hR10 hC10 hS10 => ?_
  have h10 := h9.s hR10.1 hC10 hS10
  have gok := b_gok (f := f) (d := d) (x := x) (y := y)
  refine c_LPush (i := 1) h10.hA gok.m.aok h10.hL (fun x hx => by cases hx) (by decide) (gok.st 1 (by simp)) fun ρ11 w11 hR11 hC11 hL11 => ?_
  have h11 : SL wc ρ11 w11 A S L (textM (appendM (textM (bA f d) 1 x) 1 2) 2 y) [1, 2] [1] := h10.l hR11.1 hC11 hL11
  refine h11.again hG0 gok (by decide) (by decide) fun ρ12 w12 h12 => ?_
  have gm := gok.again_m f
  have em : textM (appendM (textM (bA f d) 1 x) 1 2) 2 y = bC f d x y (!decide (x = ⟨#[]⟩)) (!decide (y = ⟨#[]⟩)) := by rw [bB_eq, bC_eq]
  rw [em] at h12 gm ⊢
  obtain ⟨a1, a2, a3, a4⟩ := b_again (f := f) (d := d) (x := x) (y := y) (!decide (x = ⟨#[]⟩)) (!decide (y = ⟨#[]⟩)) hne (by rw [isKind_scope]; exact hd.1) (by rw [isKind_special]; exact hd.2)
  obtain ⟨_, _, q3, _, q5⟩ := b_rest f d x y (!decide (x = ⟨#[]⟩)) (!decide (y = ⟨#[]⟩))
  have e0 := b_el0 f d x y (!decide (x = ⟨#[]⟩)) (!decide (y = ⟨#[]⟩))
  have rk := Ranked.of (b_rank f d x y (!decide (x = ⟨#[]⟩)) (!decide (y = ⟨#[]⟩)))
  have hel := b_elems f d x y (!decide (x = ⟨#[]⟩)) (!decide (y = ⟨#[]⟩))
  have q5 : exportM _ 5 0 = bTree f d x y := q5
  rw [a1]
  rw [a2, a3, a4] at h12
  rw [a4] at gm
  have r0 : bR (!decide (x = ⟨#[]⟩)) (!decide (y = ⟨#[]⟩)) 0 = 4 := rfl
  generalize (restG ⟨bC f d x y (!decide (x = ⟨#[]⟩)) (!decide (y = ⟨#[]⟩)), [1, 2], [1], 0⟩ 1 0 0).m = mR at *
  generalize bR (!decide (x = ⟨#[]⟩)) (!decide (y = ⟨#[]⟩)) = rR at *
  refine Vl.not (Cond_bool (fun h => by cases h) fun _ => ?_)
  refine c_Copies h12.hA ?_
  rw [q3]
  refine Vl.neq (Cond_bool (fun h => by simp at h) fun _ => ?_)
  -- what is wanted
  refine Cv.fn (c_txt 2 fun v98 w13 t98 hE13 o98 => ?_)
  refine Vl.i (v := .agg (tnCell (.mk f [] ⟨#[]⟩ (txt x)) (.slice none 0 0, v98)).toArray) (w' := w13) (by obtain ⟨a, c, e⟩ := TV.val t98; rw [e]; kernel_rfl) ?_
  refine Cv.fn (c_txt 1 fun v104 w14 t104 hE14 o104 => ?_)
  refine Vl.i (v := .agg (tnCell (.mk f [] ⟨#[]⟩ (txt y)) (.slice none 0 0, v104)).toArray) (w' := w14) (by obtain ⟨a, c, e⟩ := TV.val t104; rw [e]; kernel_rfl) ?_
  refine Vl.bs1 (E := T_decanterref12_Node) (sz := 4) (by rfl) fun w15 h15 => ?_
  have c15 : Cl w15 w14.heap.size T_decanterref12_Node (tnCells [.mk f [] ⟨#[]⟩ (txt y)] [(.slice none 0 0, v104)]) := h15.new
  refine Vl.i (v := .agg (tnCell (.mk d [] ⟨#[]⟩ [.mk f [] ⟨#[]⟩ (txt y)]) (.slice none 0 0, .slice (some ⟨w14.heap.size, 0, none⟩) 1 1)).toArray) (w' := w15) (by kernel_rfl) ?_
  refine Vl.i (v := .slice (some ⟨w15.heap.size, 0, none⟩) 2 2) (w' := w15.alloc (.cells (tnCells (bTree f d x y) [(.slice none 0 0, v98), (.slice none 0 0, .slice (some ⟨w14.heap.size, 0, none⟩) 1 1)]).toArray T_decanterref12_Node)) (by obtain ⟨a, c, e⟩ := TV.val t98; rw [e]; kernel_rfl) ?_
  have n16 := nw_alloc w15 (.cells (tnCells (bTree f d x y) [(.slice none 0 0, v98), (.slice none 0 0, .slice (some ⟨w14.heap.size, 0, none⟩) 1 1)]).toArray T_decanterref12_Node)
  generalize w15.alloc (.cells (tnCells (bTree f d x y) [(.slice none 0 0, v98), (.slice none 0 0, .slice (some ⟨w14.heap.size, 0, none⟩) 1 1)]).toArray T_decanterref12_Node) = w16 at n16 ⊢
  have c16 : Cl w16 w15.heap.size T_decanterref12_Node (tnCells (bTree f d x y) [(.slice none 0 0, v98), (.slice none 0 0, .slice (some ⟨w14.heap.size, 0, none⟩) 1 1)]) := n16.new
  have tI : ∀ {n : Nat} {u : Value} {l : List TN} {wx wy : World}, RV (fun _ => True) n wx u l → Ext wx wy → RV (fun _ => True) n wy u l := fun h hE => h.chg _ hE (fun _ _ _ => id) fun _ _ _ => trivial
  have hE1316 : Ext w13 w16 := (hE14.then h15.ext).then n16.ext
  have tin : RV (fun _ => True) 4 w16 (.slice (some ⟨w14.heap.size, 0, none⟩) 1 1) [.mk f [] ⟨#[]⟩ (txt y)] := by
    refine tI (RV.mk (l := [.mk f [] ⟨#[]⟩ (txt y)]) (by simp) (by simp) rfl c15 fun q t p ht hp => ?_) n16.ext
    match q, ht, hp with
    | 0, ht, hp => cases ht; cases hp; exact ⟨rfl, rfl, tI t104 h15.ext⟩
    | q + 1, ht, hp => simp at ht
  have want : RV (fun _ => True) 5 w16 (.slice (some ⟨w15.heap.size, 0, none⟩) 2 2) (bTree f d x y) := by
    refine RV.mk (l := bTree f d x y) (by show 0 < 2; omega) (by show 2 ≤ _; omega) rfl c16 fun q t p ht hp => ?_
    match q, ht, hp with
    | 0, ht, hp => cases ht; cases hp; exact ⟨rfl, rfl, tI t98 hE1316⟩
    | 1, ht, hp => cases ht; cases hp; exact ⟨rfl, rfl, tin⟩
    | q + 2, ht, hp => simp [bTree] at ht
  have h16 := h12.e (hE13.then hE1316)
  refine c_Nodes (i := 0) (d := 5) h16.hA gm.aok (by decide) rk (by rw [hel]; decide) (by rw [e0, r0]; decide) fun v17 w17 hv hE17 => ?_
  rw [e0, q5] at hv
  refine c_To12 5 hv (bTree_TB f d x y) fun v18 w18 hv18 hE18 => ?_
  refine c_Same12 5 hv18 (tI want (hE17.then hE18)) (bTree_TB f d x y) fun w19 hE19 => Cond_bool (fun _ => ?_) fun h => by cases h
  have h19 := h16.e ((hE17.then hE18).then hE19)
  refine c_All h19.hS (by decide) fun v20 w20 hr20 hE20 _ => ?_
  refine Vl.bs1 (E := T_int) (sz := 1) rfl fun w21 h21 => ?_
  have c21 : Cl w21 w20.heap.size T_int [.int .i64 2] := h21.new
  have r21 : Row w21 T_int 1 (.slice (some ⟨w20.heap.size, 0, none⟩) 1 1) 1 (ints [2]) := ⟨rfl, .inr ⟨_, 1, _, rfl, c21, Nat.le_refl _, by decide, by unfold maxLen; omega, rfl, rfl⟩⟩
  refine c_Same14 (l := [2]) (Row.iview (hr20.ext h21.ext)) (Row.iview r21) (by decide) fun w22 hE22 => Cond_bool (fun _ => ?_) fun h => by cases h
  have h22 := h19.e ((hE20.then h21.ext).then hE22)
  refine c_LAll h22.hL (by decide) fun v23 w23 hr23 hE23 _ => ?_
  refine lenRow hr23 (Vl.eql ?_)
  exact k0 w23 (h22.e hE23).ext
end Go.Proofs
