/- Part of the proof of a law of this seat: facts that it uses, each proved here. No conditions. -/
import Derived.Test.YtcapooghkabloaaDoorGLs
namespace Go.Proofs
open Go Go.Eng

/-! ### What Again works on -/
structure GM where
  m : AM
  st : List Nat
  ls : List Int
  bm : Int
def unlistG (g : GM) (i : Nat) : GM := { g with ls := removeL g.ls i, bm := if 0 ≤ findL g.ls i ∧ findL g.ls i < g.bm then g.bm - 1 else g.bm }
def insteadG (g : GM) (i : Nat) : GM := { g with m := copyM g.m i, ls := replaceL g.ls i (g.m.elems.length : Nat), st := insAt (idx i g.st 0).toNat g.m.elems.length (remF i g.st) }
def closeF (st : List Nat) (i : Nat) : Nat → List Nat
  | 0 => []
  | n + 1 => if st.getD n 0 = i then st.take n else closeF st i n
def closeG (g : GM) (i : Nat) : GM := { g with st := closeF g.st i g.st.length }
/-- One element between: what is last now, how many there were. -/
def liftStep (block : Nat) (x : GM × Nat × Nat) (n : Nat) : GM × Nat × Nat :=
  let g := if 3 < x.2.2 + 1 then unlistG x.1 n else x.1
  if findL g.ls n < 0 then ({ g with st := remF n g.st }, x.2.1, x.2.2 + 1) else
    let c := g.m.elems.length
    let g2 := insteadG g n
    let g3 := if x.2.1 = block then { g2 with bm := findL g2.ls c + 1 } else g2
    ({ g3 with m := appendM g3.m c x.2.1 }, c, x.2.2 + 1)
def liftG (g : GM) (between : List Nat) (block : Nat) : GM × Nat × Nat := between.reverse.foldl (liftStep block) (g, block, 0)
/-- Once: what comes of it, whether all is done, and whether it is done at all. -/
def isG (g : GM) (kinds : Int) (i : Nat) : Bool := isKind (nameAt g.m i) kinds
def restG (g : GM) (f at_ b : Nat) : GM :=
  let behind := g.st.drop (at_ + 1)
  let block := behind.getD b 0
  let common := if 0 < at_ then g.st.getD (at_ - 1) 0 else 0
  let g1 := { g with bm := findL g.ls f }
  let x := liftG g1 (behind.take b) block
  let g2 := { x.1 with m := appendM x.1.m common x.2.1 }
  let c := g2.m.elems.length
  let g3 := { g2 with m := copyM g2.m f }
  let g4 := { g3 with m := moveM g3.m block c }
  let g5 := { g4 with m := appendM g4.m block c }
  let g6 := unlistG g5 f
  let g7 := { g6 with ls := insZ g6.bm.toNat c g6.ls }
  let g8 := { g7 with st := remF f g7.st }
  { g8 with st := insAt (idx block g8.st 0 + 1).toNat c g8.st }
def onceG (g : GM) (name : ByteArray) : GM × Bool × Bool :=
  let la := lastF g.m name g.ls g.ls.length
  if la.2 = false then (g, true, false) else
    let f := la.1.toNat
    let at_ := idx f g.st 0
    if at_ < 0 then ({ g with ls := removeL g.ls f }, true, true) else
      let behind := g.st.drop (at_.toNat + 1)
      if behind.any (isG g 32) = true then (g, true, true) else
        let b := findF (isG g 16) behind 0
        if b < 0 then ({ closeG g f with ls := removeL g.ls f }, true, true) else
          (restG g f at_.toNat b.toNat, false, true)
def againLoop (name : ByteArray) : Nat → GM → GM × Bool
  | 0, g => (g, true)
  | n + 1, g => let r := onceG g name; if r.2.1 = true then (r.1, r.2.2) else againLoop name n r.1
def againG (g : GM) (name : ByteArray) : GM × Bool :=
  if decide (0 < topOf g.st) && (decide (nameAt g.m (topOf g.st) = name) && decide (findL g.ls (topOf g.st) < 0)) then ({ g with st := g.st.take (g.st.length - 1) }, true)
  else againLoop name 8 { g with bm := 0 }

/-- What must hold of what Again works on. c: how many there may be of all. -/
structure GOk (s c : Nat) (g : GM) : Prop where
  m : TOk c g.m
  st : ∀ i ∈ g.st, Live g.m i
  nod : g.st.Nodup
  ls : LLive g.m g.ls
  lst : g.st.length ≤ s
  lls : g.ls.length ≤ c
  bm0 : 0 ≤ g.bm
  bm1 : g.bm ≤ g.ls.length
theorem Live.of_lt {c : Nat} {m : AM} (hok : AOk c m) {i : Nat} (h : i < m.elems.length) : Live m i := by
  have h1 := elAt_some h
  have h2 := elAt_lt hok h
  exact ⟨_, _, h1, List.getElem?_eq_getElem h2⟩
theorem removeL_mem {ls : List Int} {i x : Int} (h : x ∈ removeL ls i) : x ∈ ls := by
  unfold removeL at h
  split at h
  · exact List.mem_of_mem_eraseIdx h
  · exact h
theorem removeL_len (ls : List Int) (i : Int) : (removeL ls i).length = if 0 ≤ findL ls i then ls.length - 1 else ls.length := by
  have := findL_lt ls i
  unfold removeL
  split
  · rw [List.length_eraseIdx, if_pos (by omega)]
  · rfl
theorem GOk.unlist {s c : Nat} {g : GM} (h : GOk s c g) (i : Nat) : GOk s c (unlistG g i) := by
  have hl := removeL_len g.ls i
  have hf := findL_lt g.ls i
  have h0 := h.bm0
  have h1 := h.bm1
  have hll := h.lls
  refine ⟨h.m, h.st, h.nod, fun x hx => h.ls x (removeL_mem hx), h.lst, ?_, ?_, ?_⟩
  · show (removeL g.ls i).length ≤ c
    rw [hl]; split <;> omega
  · show 0 ≤ (if 0 ≤ findL g.ls i ∧ findL g.ls i < g.bm then g.bm - 1 else g.bm)
    split <;> omega
  · show (if 0 ≤ findL g.ls i ∧ findL g.ls i < g.bm then g.bm - 1 else g.bm) ≤ ((removeL g.ls i).length : Nat)
    rw [hl]
    split <;> split <;> omega
theorem remF_mem {i x : Nat} {xs : List Nat} (h : x ∈ remF i xs) : x ∈ xs := by
  unfold remF at h
  split at h
  · exact List.mem_of_mem_eraseIdx h
  · exact h
theorem remF_sub (i : Nat) (xs : List Nat) : (remF i xs).Sublist xs := by
  unfold remF
  split
  · exact List.eraseIdx_sublist _ _
  · exact List.Sublist.refl _
theorem GOk.rem {s c : Nat} {g : GM} (h : GOk s c g) (i : Nat) : GOk s c { g with st := remF i g.st } :=
  ⟨h.m, fun x hx => h.st x (remF_mem hx), h.nod.sublist (remF_sub _ _), h.ls, Nat.le_trans (remF_sub _ _).length_le h.lst, h.lls, h.bm0, h.bm1⟩
/-- The arena's elements alone grow, or stay. -/
theorem Live.copy {m : AM} {i x : Nat} (h : Live m x) : Live (copyM m i) x ∧ nameAt (copyM m i) x = nameAt m x := by
  have h' : Live { m with copies := m.copies + 1 } x := h
  exact Live.add _ h'
theorem copyM_elems (m : AM) (i : Nat) : (copyM m i).elems.length = m.elems.length + 1 := by unfold copyM addEl; simp
theorem TOk.copy {c : Nat} {m : AM} (h : TOk c m) {i : Nat} (hi : i < m.elems.length) : TOk (c + 1) (copyM m i) := by
  refine h.newNode (n0 := ⟨nameAt m i, attrsAt m i, ⟨#[]⟩, -1, []⟩) ⟨rfl, rfl, ?_⟩ rfl (fun i q hq => elems_snoc hq) (by rw [copyM_elems]; have := h.elm; omega) (by show m.copies + 1 ≤ _; have := h.cps; omega)
  obtain ⟨x, _, _, ea, hl⟩ := (Live.of_lt h.aok hi).attrs h.aok
  show (attrsAt m i).length ≤ _
  rw [ea]; exact hl
end Go.Proofs
set_option linter.unusedVariables false
namespace Go.Proofs
open Go Go.Eng
theorem LsB.some {ρ : Roles} {j b : Nat} (h : LsB j ρ b) : ∃ r, ρ b = some r := by rcases h with h | h <;> exact ⟨_, h⟩
theorem not_Ls_Ar {ρ : Roles} {j b : Nat} (h : ArB j ρ b) : ¬ LsB j ρ b := by
  obtain ⟨r, h, hr⟩ := h
  rintro (e | e) <;> (rw [h] at e; cases e; cases hr)
theorem not_Ls_St {ρ : Roles} {j b : Nat} (h : StB j ρ b) : ¬ LsB j ρ b := by
  rintro (e | e) <;> rcases h with h | h <;> (rw [h] at e; cases e)
/-- From one world to another: of the blocks that have a role only some have changed; of an agency's own, G alone. -/
structure RG (G : Nat) (ρ : Roles) (w : World) (ρ' : Roles) (w' : World) : Prop where
  r : RExt ρ ρ' w
  c : Chg (fun b => ∃ q : Nat × RK, ρ b = some q ∧ (q.2 = .agt → b = G)) w w'
theorem RG.refl (G : Nat) (ρ : Roles) (w : World) : RG G ρ w ρ w := ⟨RExt.refl _ _, Chg.refl _ _⟩
theorem RG.then {G : Nat} {ρ ρ1 ρ2 : Roles} {w w1 w2 : World} (h : RG G ρ w ρ1 w1) (k : RG G ρ1 w1 ρ2 w2) : RG G ρ w ρ2 w2 :=
  ⟨h.r.trans k.r h.c.size, (h.c.trans k.c).mono fun b hb e => e.elim id fun ⟨q, e, hq⟩ => ⟨q, (h.r b hb).symm.trans e, hq⟩⟩
theorem RG.of {G : Nat} {ρ ρ' : Roles} {w w' : World} {X : Nat → Prop} (hr : RExt ρ ρ' w) (hC : Chg X w w') (hX : ∀ b, X b → ∃ q : Nat × RK, ρ b = some q ∧ (q.2 = .agt → b = G)) : RG G ρ w ρ' w' := ⟨hr, hC.mono fun b _ e => hX b e⟩
theorem RG.ext {G : Nat} {ρ : Roles} {w w' : World} (h : Ext w w') : RG G ρ w ρ w' := ⟨RExt.refl _ _, Ext.to h⟩
theorem RG.cell {G : Nat} {ρ ρ' : Roles} {w w' : World} (h : RG G ρ w ρ' w') {b E : Nat} {cs : List Value} (hb : ρ b = none) (hc : Cl w b E cs) : Cl w' b E cs := hc.chg h.c fun ⟨r, e, _⟩ => by rw [hb] at e; cases e
theorem RG.own {G : Nat} {ρ ρ' : Roles} {w w' : World} (h : RG G ρ w ρ' w') {b j E : Nat} {cs : List Value} (hb : ρ b = some (j, .agt)) (hG : b ≠ G) (hc : Cl w b E cs) : Cl w' b E cs := hc.chg h.c fun ⟨r, e, hr⟩ => by rw [hb] at e; cases e; exact hG (hr rfl)
theorem RG.none {G : Nat} {ρ ρ' : Roles} {w w' : World} (h : RG G ρ w ρ' w') {b : Nat} (hb : ρ b = none) (hlt : b < w.heap.size) : ρ' b = none := (h.r b hlt).trans hb
theorem RG.keepB {G : Nat} {ρ ρ' : Roles} {w w' : World} (h : RG G ρ w ρ' w') {b j : Nat} (hb : ρ b = some (j, .agt)) (hG : b ≠ G) (hlt : b < w.heap.size) : w'.heap[b]? = w.heap[b]? := h.c.same b hlt fun ⟨r, e, hr⟩ => by rw [hb] at e; cases e; exact hG (hr rfl)
theorem rgA {G j b : Nat} {ρ : Roles} (h : ArB j ρ b) : ∃ q : Nat × RK, ρ b = some q ∧ (q.2 = .agt → b = G) := by
  obtain ⟨r, e, hr⟩ := h
  exact ⟨_, e, fun h => by have h : r = .agt := h; rw [h] at hr; cases hr⟩
theorem rgS {G j b : Nat} {ρ : Roles} (h : StB j ρ b) : ∃ q : Nat × RK, ρ b = some q ∧ (q.2 = .agt → b = G) := by
  rcases h with h | h <;> exact ⟨_, h, fun h => by cases h⟩
theorem rgL {G j b : Nat} {ρ : Roles} (h : LsB j ρ b) : ∃ q : Nat × RK, ρ b = some q ∧ (q.2 = .agt → b = G) := by
  rcases h with h | h <;> exact ⟨_, h, fun h => by cases h⟩
structure GI (ρ : Roles) (j : Nat) (w : World) (G A S L : Nat) (g : GM) : Prop where
  hA : AInv ρ j w A g.m
  hS : SInv ρ j w S A g.st
  hL : LInv ρ j w L A g.ls
  cl : Cl w G T_adopt_agency [.pointer (some ⟨A, 0, none⟩), .pointer (some ⟨S, 0, none⟩), .pointer (some ⟨L, 0, none⟩), .int .i64 g.bm]
  role : ρ G = some (j, .agt)
variable {ρ ρ' : Roles} {j : Nat} {w w' : World} {G A S L : Nat} {g : GM}
theorem GI.notAr (h : GI ρ j w G A S L g) : ¬ ArB j ρ G := fun ⟨r, e, hr⟩ => by rw [h.role] at e; cases e; cases hr
theorem GI.notSt (h : GI ρ j w G A S L g) : ¬ StB j ρ G := fun e => by rcases e with e | e <;> (rw [h.role] at e; cases e)
theorem GI.notLs (h : GI ρ j w G A S L g) : ¬ LsB j ρ G := fun e => by rcases e with e | e <;> (rw [h.role] at e; cases e)
theorem GI.ofA (h : GI ρ j w G A S L g) (hr : RExt ρ ρ' w) (hC : Chg (ArB j ρ) w w') {m' : AM} (hA : AInv ρ' j w' A m') : GI ρ' j w' G A S L { g with m := m' } ∧ RG G ρ w ρ' w' :=
  ⟨⟨hA, h.hS.chgA hr hC, h.hL.chg hr hC fun b hb e => not_Ls_Ar e hb, h.cl.chg hC h.notAr, (hr G h.cl.lt).trans h.role⟩, .of hr hC fun _ => rgA⟩
theorem GI.ofS (h : GI ρ j w G A S L g) (hr : RExt ρ ρ' w) (hC : Chg (StB j ρ) w w') {st' : List Nat} (hS : SInv ρ' j w' S A st') : GI ρ' j w' G A S L { g with st := st' } ∧ RG G ρ w ρ' w' :=
  ⟨⟨h.hA.chgS hr hC, hS, h.hL.chg hr hC fun b hb e => not_Ls_St e hb, h.cl.chg hC h.notSt, (hr G h.cl.lt).trans h.role⟩, .of hr hC fun _ => rgS⟩
theorem GI.ofL (h : GI ρ j w G A S L g) (hr : RExt ρ ρ' w) (hC : Chg (LsB j ρ) w w') {ls' : List Int} (hL : LInv ρ' j w' L A ls') : GI ρ' j w' G A S L { g with ls := ls' } ∧ RG G ρ w ρ' w' :=
  ⟨⟨h.hA.chg hr hC (fun b hb e => by rcases e with e | e <;> (rw [hb] at e; cases e)) (fun b hb e => not_Ls_Ar hb e), h.hS.chg hr hC fun b hb e => not_Ls_St hb e, hL, h.cl.chg hC h.notLs, (hr G h.cl.lt).trans h.role⟩, .of hr hC fun _ => rgL⟩
theorem GI.ofB (h : GI ρ j w G A S L g) {bm : Int} (hu : Upd w w' G T_adopt_agency [.pointer (some ⟨A, 0, none⟩), .pointer (some ⟨S, 0, none⟩), .pointer (some ⟨L, 0, none⟩), .int .i64 bm]) : GI ρ j w' G A S L { g with bm := bm } ∧ RG G ρ w ρ w' := by
  have hC := hu.chg
  refine ⟨⟨h.hA.chg (RExt.refl _ _) hC (fun b hb e => ?_) (fun b hb e => ?_), h.hS.chg (RExt.refl _ _) hC fun b hb e => ?_, h.hL.chg (RExt.refl _ _) hC fun b hb e => ?_, hu.cl, h.role⟩, .of (RExt.refl _ _) hC fun b e => ⟨_, (show b = G from e) ▸ h.role, fun _ => e⟩⟩
  · rw [show b = G from e, h.role] at hb; cases hb
  · exact h.notAr ((show b = G from e) ▸ hb)
  · exact h.notSt ((show b = G from e) ▸ hb)
  · exact h.notLs ((show b = G from e) ▸ hb)
theorem GI.ext (h : GI ρ j w G A S L g) (hE : Ext w w') : GI ρ j w' G A S L g :=
  ⟨h.hA.ext hE, h.hS.ext hE, h.hL.ext hE, h.cl.ext hE, h.role⟩
theorem GI.re (h : GI ρ j w G A S L g) (hr : RExt ρ ρ' w) : GI ρ' j w G A S L g :=
  ⟨h.hA.chg hr (Chg.refl (fun _ => False) _) (fun _ _ => id) (fun _ _ => id), h.hS.chg hr (Chg.refl (fun _ => False) _) (fun _ _ => id), h.hL.chg hr (Chg.refl (fun _ => False) _) (fun _ _ => id), h.cl, (hr G h.cl.lt).trans h.role⟩

theorem c_unlist {s c : Nat} (hok : GOk s c g) (hs : s ≤ 1000000) (hc : c ≤ 1000000) (h : GI ρ j w G A S L g) {i : Nat} {K : Value → World → Prop}
    (k : ∀ w', RG G ρ w ρ w' → GI ρ j w' G A S L (unlistG g i) → K (.tuple #[]) w') : Cf Tryd.prog n_adopt_agency_unlist #[.pointer (some ⟨G, 0, none⟩), .int .i64 i] w K := by
  refine L_adopt_agency_unlist _ _ _ _ ?_
  unfold S_adopt_agency_unlist
  have hls := hok.lls
  have hf := findL_lt g.ls i
  have h0 := hok.bm0
  have h1 := hok.bm1
  obtain ⟨bm, hbm⟩ : ∃ b, b = (if 0 ≤ findL g.ls i ∧ findL g.ls i < g.bm then g.bm - 1 else g.bm) := ⟨_, rfl⟩
  refine ⟨fun a ds w' => a = [] ∧ ds = [] ∧ RG G ρ w ρ w' ∧ GI ρ j w' G A S L { g with bm := bm }, ?_, ?_⟩
  · refine ⟨trivial, Vl.fa (Vl.ld h.cl rfl (c_LFind h.hL (by omega) (Vl.geq (Cond_bool (fun h2 => ?_) (fun h2 => ?_)))))⟩
    · have h2 := of_decide_eq_true h2
      refine ⟨trivial, Vl.fa (Vl.ld h.cl rfl (Vl.lss (Cond_bool (fun h3 => ?_) (fun h3 => ?_))))⟩
      · have h3 := of_decide_eq_true h3
        refine ⟨trivial, Vl.fa (Vl.ld h.cl rfl (Vl.sub ⟨trivial, Vl.fa (Ef.set h.cl (by simp) fun w1 h1 => ?_)⟩))⟩
        have e : bm = g.bm - 1 := by rw [hbm, if_pos ⟨h2, h3⟩]
        obtain ⟨a, b⟩ := h.ofB (bm := g.bm - 1) h1
        exact ⟨rfl, rfl, b, e ▸ a⟩
      · have h3 := of_decide_eq_false h3
        have e : bm = g.bm := by rw [hbm, if_neg (fun e => h3 e.2)]
        exact ⟨rfl, rfl, RG.refl _ _ _, by rw [e]; exact h⟩
    · have h2 := of_decide_eq_false h2
      have e : bm = g.bm := by rw [hbm, if_neg (fun e => h2 e.1)]
      exact ⟨rfl, rfl, RG.refl _ _ _, by rw [e]; exact h⟩
  · rintro a ds wa ⟨_, rfl, hrc, hg⟩
    refine ⟨trivial, Vl.fa (Vl.ld hg.cl rfl (c_LRemove hg.hL (by show g.ls.length ≤ _; omega) fun w1 hC1 hL1 => Lv.nil ?_))⟩
    obtain ⟨a, b⟩ := hg.ofL (RExt.refl _ _) hC1 hL1
    refine k w1 (hrc.then b) ?_
    unfold unlistG
    rw [← hbm]; exact a

theorem c_instead {s c : Nat} (hok : GOk s c g) (hs : s ≤ 1000000) (hc : c ≤ 1000000) (h : GI ρ j w G A S L g) {i : Nat} (hi : i ∈ g.st) {K : Value → World → Prop}
    (k : ∀ ρ' w', RG G ρ w ρ' w' → GI ρ' j w' G A S L (insteadG g i) → K (.int .i64 (g.m.elems.length : Nat)) w') : Cf Tryd.prog n_adopt_agency_instead #[.pointer (some ⟨G, 0, none⟩), .int .i64 i] w K := by
  refine L_adopt_agency_instead _ _ _ _ ?_
  unfold S_adopt_agency_instead
  have hls := hok.lls
  have hst := hok.lst
  have hlt := (hok.st i hi).lt
  refine ⟨trivial, Vl.fa (Vl.ld h.cl rfl ?_)⟩
  refine c_Copy h.hA hok.m.aok hc hlt fun ρ1 w1 hR1 hC1 hA1 => ?_
  obtain ⟨h1, r1⟩ := h.ofA hR1.1 hC1 hA1
  refine ⟨trivial, Vl.fa (Vl.ld h1.cl rfl ?_)⟩
  refine c_LReplace h1.hL (by show g.ls.length ≤ _; omega) fun w2 hC2 hL2 => ?_
  obtain ⟨h2, r2⟩ := h1.ofL (RExt.refl _ _) hC2 hL2
  refine ⟨trivial, Vl.fa (Vl.ld h2.cl rfl ?_)⟩
  refine c_Find h2.hS (by show g.st.length ≤ _; omega) ?_
  have h0 := (idx_mem i g.st 0).2 hi
  have hil := idx_lt i g.st 0
  obtain ⟨p, hp⟩ : ∃ p : Nat, idx i g.st 0 = p := ⟨(idx i g.st 0).toNat, by omega⟩
  show NN _ ∧ _
  refine ⟨trivial, Vl.fa (Vl.ld h2.cl rfl ?_)⟩
  refine c_Remove h2.hS (by show g.st.length ≤ _; omega) fun w3 hC3 hS3 => ?_
  obtain ⟨h3, r3⟩ := h2.ofS (RExt.refl _ _) hC3 hS3
  refine ⟨trivial, Vl.fa (Vl.ld h3.cl rfl ?_)⟩
  have hl3 : (remF i g.st).length = g.st.length - 1 := by
    unfold remF
    rw [if_pos h0, List.length_eraseIdx, if_pos (by omega)]
  show Cf Tryd.prog n_stack_Stack_Insert #[_, .int .i64 (idx i g.st 0), _] _ _
  rw [hp]
  refine c_Insert (p := p) h3.hS (by show p ≤ (remF i g.st).length; omega) (by show (remF i g.st).length ≤ _; omega) fun ρ4 w4 hR4 hC4 hS4 => ?_
  obtain ⟨h4, r4⟩ := h3.ofS hR4.1 hC4 hS4
  refine k ρ4 w4 (((r1.then r2).then r3).then r4) ?_
  unfold insteadG
  rw [hp]
  exact h4

def slenAt (S : Nat) (w : World) : Nat := match w.cell? ⟨S, 1, none⟩ with | some (.slice _ n _) => n | _ => 0
theorem slen_of {xs : List Nat} (h : SInv ρ j w S A xs) : slenAt S w = xs.length := by
  obtain ⟨ov, h⟩ := h
  obtain ⟨oa, oc, rfl, _⟩ := h.row.val
  unfold slenAt
  have : w.cell? ⟨S, 1, none⟩ = some (.slice oa xs.length oc) := h.cl.cell rfl
  rw [this]
theorem closeF_succ (st : List Nat) (i n : Nat) : closeF st i (n + 1) = if st.getD n 0 = i then st.take n else closeF st i n := rfl
theorem c_close {s c : Nat} (hok : GOk s c g) (hs : s ≤ 1000000) (hc : c ≤ 1000000) (h : GI ρ j w G A S L g) {i : Nat} {K : Value → World → Prop}
    (k : ∀ w', RG G ρ w ρ w' → GI ρ j w' G A S L (closeG g i) → K (.tuple #[]) w') : Cf Tryd.prog n_adopt_agency_close #[.pointer (some ⟨G, 0, none⟩), .int .i64 i] w K := by
  refine L_adopt_agency_close _ _ _ _ ?_
  unfold S_adopt_agency_close
  have hst := hok.lst
  refine ⟨fun a ds w' => a = [] ∧ ds = [] ∧ ∃ n, n ≤ g.st.length ∧ RG G ρ w ρ w' ∧ GI ρ j w' G A S L { g with st := g.st.take n } ∧ closeF g.st i g.st.length = closeF g.st i n,
    fun a w' => slenAt S w', ⟨rfl, rfl, g.st.length, Nat.le_refl _, RG.refl _ _ _, by rw [List.take_length]; exact h, rfl⟩, ?_⟩
  rintro a ds wa ⟨_, rfl, n, hn, hrc, hg, hx⟩
  have hlen : (g.st.take n).length = n := by simp; omega
  have hsl : slenAt S wa = n := by rw [slen_of hg.hS]; exact hlen
  refine ⟨trivial, Vl.fa (Vl.ld hg.cl rfl ?_)⟩
  refine c_Pop hg.hS (by show (g.st.take n).length ≤ _; omega) (fun he => ?_) (fun hpos w1 hC1 hS1 => ?_)
  · have hz : n = 0 := by
      have he : g.st.take n = [] := he
      rw [he] at hlen; simpa using hlen.symm
    subst hz
    refine Vl.extr (v := .int .i64 0) (Vl.extr (v := .bool false) (Vl.not (Cond_bool (fun _ => Lv.nil (k wa hrc ?_)) (fun h => by cases h))))
    unfold closeG
    rw [hx]
    exact hg
  · have hpos : 0 < (g.st.take n).length := hpos
    obtain ⟨n, rfl⟩ : ∃ q, n = q + 1 := ⟨n - 1, by omega⟩
    have hnl : n < g.st.length := by omega
    have ht : topOf (g.st.take (n + 1)) = g.st.getD n 0 := by
      unfold topOf
      rw [hlen]
      simp [List.getD, hnl]
    have hS1' : SInv ρ j w1 S A (g.st.take n) := by
      have e : (g.st.take (n + 1)).take ((g.st.take (n + 1)).length - 1) = g.st.take n := by
        rw [hlen, List.take_take, Nat.min_eq_left (by omega)]; rfl
      have hS1 : SInv ρ j w1 S A ((g.st.take (n + 1)).take ((g.st.take (n + 1)).length - 1)) := hS1
      rw [e] at hS1; exact hS1
    have hCs : Chg (StB j ρ) wa w1 := hC1.mono fun b _ e => by
      obtain ⟨ov, hS⟩ := hg.hS
      have e : b = S := e
      exact .inl (e ▸ hS.role)
    obtain ⟨h1, r1⟩ := hg.ofS (RExt.refl _ _) hCs hS1'
    have ht' : topOf ({ g with st := g.st.take (n + 1) } : GM).st = g.st.getD n 0 := ht
    rw [ht']
    refine Vl.extr (v := .int .i64 (g.st.getD n 0 : Nat)) (Vl.extr (v := .bool true) (Vl.not (Cond_bool (fun h => by cases h) fun _ => ?_)))
    rw [closeF_succ] at hx
    refine Vl.eql (Cond_bool (fun h2 => ?_) (fun h2 => ?_))
    · have h2 : g.st.getD n 0 = i := by have := of_decide_eq_true h2; omega
      rw [if_pos h2] at hx
      refine Lv.nil (k w1 (hrc.then r1) ?_)
      unfold closeG
      rw [hx]
      exact h1
    · have h2 : ¬ g.st.getD n 0 = i := by have := of_decide_eq_false h2; omega
      rw [if_neg h2] at hx
      refine ⟨⟨rfl, rfl, n, by omega, hrc.then r1, h1, hx⟩, ?_⟩
      show slenAt S w1 < slenAt S wa
      rw [hsl, slen_of hS1']
      have : (g.st.take n).length = n := by simp; omega
      omega
end Go.Proofs
set_option linter.unusedVariables false
namespace Go.Proofs
open Go Go.Eng
variable {ρ ρ' : Roles} {j : Nat} {w w' : World} {G A S L : Nat} {g : GM}

theorem GOk.setM {s c d : Nat} (h : GOk s c g) {m' : AM} (hm : TOk d m') (he : g.m.elems.length ≤ m'.elems.length) (hd : c ≤ d) : GOk s d { g with m := m' } :=
  ⟨hm, fun i hi => .of_lt hm.aok (Nat.lt_of_lt_of_le (h.st i hi).lt he), h.nod, fun x hx => (h.ls x hx).imp id fun ⟨i, e, hl⟩ => ⟨i, e, .of_lt hm.aok (Nat.lt_of_lt_of_le hl.lt he)⟩, h.lst, Nat.le_trans h.lls hd, h.bm0, h.bm1⟩
theorem replaceL_len (ls : List Int) (i b : Int) : (replaceL ls i b).length = ls.length := by unfold replaceL; split <;> simp
theorem replaceL_mem {ls : List Int} {i b x : Int} (h : x ∈ replaceL ls i b) : x ∈ ls ∨ x = b := by
  unfold replaceL at h
  split at h
  · exact List.mem_or_eq_of_mem_set h
  · exact .inl h
theorem GOk.instead {s c : Nat} (h : GOk s c g) {i : Nat} (hi : i ∈ g.st) : GOk s (c + 1) (insteadG g i) := by
  have hlt := (h.st i hi).lt
  have hm : TOk (c + 1) (copyM g.m i) := h.m.copy hlt
  have he := copyM_elems g.m i
  have hrl : (remF i g.st).length = g.st.length - 1 := by
    have := (idx_mem i g.st 0).2 hi
    have := idx_lt i g.st 0
    unfold remF
    rw [if_pos (by omega), List.length_eraseIdx, if_pos (by omega)]
  have hpos : 0 < g.st.length := List.length_pos_of_mem hi
  have hl := h.lst
  refine ⟨hm, fun x hx => ?_, ?_, fun x hx => ?_, ?_, ?_, h.bm0, ?_⟩
  · rcases mem_insAt.1 (show x ∈ insAt _ _ _ from hx) with rfl | hx
    · exact .of_lt hm.aok (by show g.m.elems.length < (copyM g.m i).elems.length; omega)
    · exact .of_lt hm.aok (by show x < (copyM g.m i).elems.length; have := (h.st x (remF_mem hx)).lt; omega)
  · show (insAt _ _ _).Nodup
    rw [(insAt_perm _ _ _).nodup_iff, List.nodup_cons]
    exact ⟨fun hx => by have := (h.st _ (remF_mem hx)).lt; omega, h.nod.sublist (remF_sub _ _)⟩
  · rcases replaceL_mem (show x ∈ replaceL _ _ _ from hx) with hx | rfl
    · exact (h.ls x hx).imp id fun ⟨q, e, hq⟩ => ⟨q, e, .of_lt hm.aok (by show q < (copyM g.m i).elems.length; have := hq.lt; omega)⟩
    · exact .inr ⟨_, rfl, .of_lt hm.aok (by show g.m.elems.length < (copyM g.m i).elems.length; omega)⟩
  · show (insAt _ _ _).length ≤ _
    rw [insAt_len, hrl]; omega
  · show (replaceL _ _ _).length ≤ _
    rw [replaceL_len]; have := h.lls; omega
  · show g.bm ≤ ((replaceL _ _ _).length : Nat)
    rw [replaceL_len]; exact h.bm1
theorem GOk.append {s c : Nat} (h : GOk s c g) {p i : Nat} (hp : p < g.m.elems.length) (hi : i < g.m.elems.length) : GOk s c { g with m := appendM g.m p i } :=
  h.setM (h.m.append hp hi) (by unfold appendM; rw [putM_elems]; exact Nat.le_refl _) (Nat.le_refl _)
theorem GOk.setB {s c : Nat} (h : GOk s c g) {b : Int} (h0 : 0 ≤ b) (h1 : b ≤ g.ls.length) : GOk s c { g with bm := b } := ⟨h.m, h.st, h.nod, h.ls, h.lst, h.lls, h0, h1⟩
theorem GOk.wide {s c d : Nat} (h : GOk s c g) (hd : c ≤ d) : GOk s d g := ⟨h.m.wide hd, h.st, h.nod, h.ls, h.lst, Nat.le_trans h.lls hd, h.bm0, h.bm1⟩

/-- Blocks of an agency's own, but G, have changed. -/
theorem GI.agt (h : GI ρ j w G A S L g) {X : Nat → Prop} (hC : Chg X w w') (hX : ∀ b, X b → (∃ q, ρ b = some (q, .agt)) ∧ b ≠ G) : GI ρ j w' G A S L g := by
  refine ⟨h.hA.chg (RExt.refl _ _) hC (fun b hb e => ?_) (fun b hb e => ?_), h.hS.chg (RExt.refl _ _) hC fun b hb e => ?_, h.hL.chg (RExt.refl _ _) hC fun b hb e => ?_, h.cl.chg hC fun e => (hX _ e).2 rfl, h.role⟩
  all_goals obtain ⟨⟨q, hq⟩, _⟩ := hX b e
  · rw [hb] at hq; cases hq
  · obtain ⟨r, e2, hr⟩ := hb
    rw [hq] at e2; cases e2; cases hr
  · rcases hb with e2 | e2 <;> (rw [hq] at e2; cases e2)
  · rcases hb with e2 | e2 <;> (rw [hq] at e2; cases e2)
theorem RG.rc (h : RG G ρ w ρ' w') : RC ρ w ρ' w' := ⟨h.r, h.c.mono fun b _ ⟨q, e, _⟩ => ⟨q, e⟩⟩
theorem IView.rc {v : Value} {l : List Int} (h : IView w v l) (hn : ∀ a n c, v = .slice (some a) n c → ρ a.block = none) (k : RC ρ w ρ' w') : IView w' v l := by
  obtain ⟨a, c, e, h0, hc⟩ := h
  refine ⟨a, c, e, h0, fun i x hx => ?_⟩
  obtain ⟨b, o, ha, hcell⟩ := hc i x hx
  refine ⟨b, o, ha, cell_same k.c hcell fun ⟨r, hr⟩ => ?_⟩
  have := hn _ _ _ (by rw [e, ha])
  rw [this] at hr; cases hr

theorem liftStep_ok {s c : Nat} {block : Nat} {x : GM × Nat × Nat} (h : GOk s c x.1) {n : Nat} (hn : n ∈ x.1.st) (hlast : x.2.1 < x.1.m.elems.length) (hb : block < x.1.m.elems.length) :
    GOk s (c + 1) (liftStep block x n).1 ∧ (liftStep block x n).2.1 < (liftStep block x n).1.m.elems.length ∧ block < (liftStep block x n).1.m.elems.length ∧ (∀ y ∈ x.1.st, y ≠ n → y ∈ (liftStep block x n).1.st) := by
  obtain ⟨g, last, many⟩ := x
  have hg1 : GOk s c (if 3 < many + 1 then unlistG g n else g) := by
    split
    · exact h.unlist n
    · exact h
  have es : (if 3 < many + 1 then unlistG g n else g).st = g.st := by split <;> rfl
  have em : (if 3 < many + 1 then unlistG g n else g).m = g.m := by split <;> rfl
  unfold liftStep
  simp only
  generalize (if 3 < many + 1 then unlistG g n else g) = g1 at hg1 es em
  have hrem : ∀ y ∈ g.st, y ≠ n → y ∈ remF n g1.st := fun y hy hne => by
    rw [es, remF_filter n g.st h.nod]
    exact List.mem_filter.2 ⟨hy, by simpa using hne⟩
  split
  · exact ⟨(hg1.rem n).wide (by omega), by show last < g1.m.elems.length; rw [em]; exact hlast, by show block < g1.m.elems.length; rw [em]; exact hb, hrem⟩
  · have hn1 : n ∈ g1.st := by rw [es]; exact hn
    have hi := hg1.instead hn1
    have he : (insteadG g1 n).m.elems.length = g1.m.elems.length + 1 := copyM_elems _ _
    have hfl := findL_lt (insteadG g1 n).ls g1.m.elems.length
    have h3 : GOk s (c + 1) (if last = block then { insteadG g1 n with bm := findL (insteadG g1 n).ls g1.m.elems.length + 1 } else insteadG g1 n) := by
      split
      · exact hi.setB (by omega) (by omega)
      · exact hi
    have em3 : (if last = block then { insteadG g1 n with bm := findL (insteadG g1 n).ls g1.m.elems.length + 1 } else insteadG g1 n).m = (insteadG g1 n).m := by split <;> rfl
    have es3 : (if last = block then { insteadG g1 n with bm := findL (insteadG g1 n).ls g1.m.elems.length + 1 } else insteadG g1 n).st = (insteadG g1 n).st := by split <;> rfl
    generalize (if last = block then { insteadG g1 n with bm := findL (insteadG g1 n).ls g1.m.elems.length + 1 } else insteadG g1 n) = g3 at h3 em3 es3
    have hlast : last < g.m.elems.length := hlast
    have hb : block < g.m.elems.length := hb
    have e3 : g3.m.elems.length = g.m.elems.length + 1 := by rw [em3, he, em]
    have ea : (appendM g3.m g1.m.elems.length last).elems.length = g3.m.elems.length := by unfold appendM; rw [putM_elems]
    refine ⟨h3.append (by rw [e3, em]; omega) (by omega), ?_, ?_, fun y hy hne => ?_⟩
    · show g1.m.elems.length < (appendM g3.m g1.m.elems.length last).elems.length
      rw [ea, e3, em]; omega
    · show block < (appendM g3.m g1.m.elems.length last).elems.length
      rw [ea, e3]; omega
    · show y ∈ g3.st
      rw [es3]
      exact mem_insAt.2 (.inr (hrem y hy hne))
end Go.Proofs
set_option linter.unusedVariables false
namespace Go.Proofs
open Go Go.Eng
variable {ρ ρ' : Roles} {j : Nat} {w w' : World} {G A S L : Nat} {g : GM}
def liftK (g : GM) (between : List Nat) (block k : Nat) : GM × Nat × Nat := (between.reverse.take k).foldl (liftStep block) (g, block, 0)
theorem liftK_succ (g : GM) (between : List Nat) (block k : Nat) (h : k < between.length) : liftK g between block (k + 1) = liftStep block (liftK g between block k) (between.getD (between.length - 1 - k) 0) := by
  unfold liftK
  have hk : k < between.reverse.length := by simpa using h
  rw [List.take_succ_eq_append_getElem hk, List.foldl_append]
  have e : between.reverse[k] = between.getD (between.length - 1 - k) 0 := by
    have h2 : between.length - 1 - k < between.length := by omega
    rw [List.getElem_reverse]
    simp [List.getD, h2]
  rw [e]; rfl
theorem liftK_all (g : GM) (between : List Nat) (block : Nat) : liftK g between block between.length = liftG g between block := by
  unfold liftK liftG
  rw [List.take_of_length_le (by simp)]
theorem liftK_ok {s c block : Nat} {between : List Nat} (h : GOk s c g) (hin : ∀ n ∈ between, n ∈ g.st) (hnd : between.Nodup) (hb : block < g.m.elems.length) : ∀ k, k ≤ between.length →
    GOk s (c + k) (liftK g between block k).1 ∧ (liftK g between block k).2.1 < (liftK g between block k).1.m.elems.length ∧ block < (liftK g between block k).1.m.elems.length ∧ (∀ i, i < between.length - k → between.getD i 0 ∈ (liftK g between block k).1.st)
  | 0, _ => ⟨h, hb, hb, fun i hi => by
      have hi : i < between.length := by omega
      have e : between.getD i 0 = between[i] := by simp [List.getD, hi]
      rw [e]; exact hin _ (List.getElem_mem hi)⟩
  | k + 1, hk => by
    obtain ⟨h1, h2, h3, h4⟩ := liftK_ok h hin hnd hb k (by omega)
    rw [liftK_succ g between block k (by omega)]
    obtain ⟨a1, a2, a3, a4⟩ := liftStep_ok h1 (h4 (between.length - 1 - k) (by omega)) h2 h3
    refine ⟨a1, a2, a3, fun i hi => a4 _ (h4 i (by omega)) fun e => ?_⟩
    have hi1 : i < between.length := by omega
    have hi2 : between.length - 1 - k < between.length := by omega
    have e1 : between.getD i 0 = between[i] := by simp [List.getD, hi1]
    have e2 : between.getD (between.length - 1 - k) 0 = between[between.length - 1 - k] := by simp [List.getD, hi2]
    rw [e1, e2] at e
    have i1 := idx_at between 0 i hi1 hnd
    rw [e, idx_at between 0 _ hi2 hnd] at i1
    omega
theorem liftStep_many (block : Nat) (x : GM × Nat × Nat) (n : Nat) : (liftStep block x n).2.2 = x.2.2 + 1 := by
  obtain ⟨g, last, many⟩ := x
  unfold liftStep
  simp only
  generalize (if 3 < many + 1 then unlistG g n else g) = g1
  split <;> rfl
theorem liftK_many (g : GM) (between : List Nat) (block : Nat) : ∀ k, k ≤ between.length → (liftK g between block k).2.2 = k
  | 0, _ => rfl
  | k + 1, hk => by rw [liftK_succ g between block k (by omega), liftStep_many, liftK_many g between block k (by omega)]

/-- Like RG, with some more of the agency's own blocks. -/
structure RY (Y : Nat → Prop) (ρ : Roles) (w : World) (ρ' : Roles) (w' : World) : Prop where
  r : RExt ρ ρ' w
  c : Chg (fun b => ∃ q : Nat × RK, ρ b = some q ∧ (q.2 = .agt → Y b)) w w'
theorem RY.then {Y : Nat → Prop} {ρ1 ρ2 : Roles} {w1 w2 : World} (h : RY Y ρ w ρ1 w1) (k : RY Y ρ1 w1 ρ2 w2) : RY Y ρ w ρ2 w2 :=
  ⟨h.r.trans k.r h.c.size, (h.c.trans k.c).mono fun b hb e => e.elim id fun ⟨q, e, hq⟩ => ⟨q, (h.r b hb).symm.trans e, hq⟩⟩
theorem RG.ry {Y : Nat → Prop} (h : RG G ρ w ρ' w') (hY : Y G) : RY Y ρ w ρ' w' := ⟨h.r, h.c.mono fun b _ ⟨q, e, hq⟩ => ⟨q, e, fun h => by rw [hq h]; exact hY⟩⟩
theorem RY.ext {Y : Nat → Prop} (h : Ext w w') : RY Y ρ w ρ w' := ⟨RExt.refl _ _, Ext.to h⟩
theorem RY.set {Y : Nat → Prop} {b : Nat} (h : Chg (· = b) w w') (hb : ρ b = some (j, .agt)) (hY : Y b) : RY Y ρ w ρ w' := ⟨RExt.refl _ _, h.mono fun x _ e => ⟨_, (show x = b from e) ▸ hb, fun _ => (show x = b from e) ▸ hY⟩⟩
theorem RY.keep {Y : Nat → Prop} (h : RY Y ρ w ρ' w') {b q : Nat} (hb : ρ b = some (q, .agt)) (hn : ¬ Y b) (hlt : b < w.heap.size) : w'.heap[b]? = w.heap[b]? := h.c.same b hlt fun ⟨r, e, hr⟩ => by rw [hb] at e; cases e; exact hn (hr rfl)
theorem RY.rc {Y : Nat → Prop} (h : RY Y ρ w ρ' w') : RC ρ w ρ' w' := ⟨h.r, h.c.mono fun b _ ⟨q, e, _⟩ => ⟨q, e⟩⟩
theorem RY.cell {Y : Nat → Prop} (h : RY Y ρ w ρ' w') {b q E : Nat} {cs : List Value} (hb : ρ b = some (q, .agt)) (hn : ¬ Y b) (hc : Cl w b E cs) : Cl w' b E cs := (h.keep hb hn hc.lt).trans hc
set_option maxHeartbeats 1000000 in
theorem c_lift {s c block : Nat} {between : List Nat} {bv : Value} (hok : GOk s c g) (hs : s ≤ 1000000) (hc : c + between.length + 2 ≤ 1000000) (h : GI ρ j w G A S L g) (hbv : IView w bv (zs between)) (hnone : ∀ a n c, bv = .slice (some a) n c → ρ a.block = none) (hbvl : ∀ a n c, bv = .slice (some a) n c → a.block < w.heap.size)
    (hin : ∀ n ∈ between, n ∈ g.st) (hnd : between.Nodup) (hb : block < g.m.elems.length) {K : Value → World → Prop}
    (k : ∀ ρ' w', RG G ρ w ρ' w' → GI ρ' j w' G A S L (liftG g between block).1 → K (.int .i64 ((liftG g between block).2.1 : Nat)) w') : Cf Tryd.prog n_adopt_agency_lift #[.pointer (some ⟨G, 0, none⟩), bv, .int .i64 block] w K := by
  refine L_adopt_agency_lift _ _ _ _ _ ?_
  unfold S_adopt_agency_lift
  have hzl := zs_len between
  obtain ⟨ba, bc, ebv⟩ := hbv.val
  have hGlt := h.cl.lt
  refine Vl.box1 trivial fun w1 h1 => Vl.box1 trivial fun w2 h2 => ?_
  have s1 := h1.size; have s2 := h2.size
  obtain ⟨b3, hb3⟩ : ∃ b, b = w.heap.size := ⟨_, rfl⟩
  obtain ⟨b5, hb5⟩ : ∃ b, b = w1.heap.size := ⟨_, rfl⟩
  rw [← hb3, ← hb5]
  have a3 : Cl w2 b3 T_p_adopt_agency [.pointer (some ⟨G, 0, none⟩)] := by rw [hb3]; exact Cl.nw h1.cl h2
  have a5 : Cl w2 b5 T_int [.int .i64 block] := by rw [hb5]; exact h2.cl
  refine Vl.ld a5 rfl ?_
  refine Vl.alloc (z := .int .i64 0) (by intro w; kernel_rfl) fun w3 h3 => Vl.alloc (z := .int .i64 0) (by intro w; kernel_rfl) fun w4 h4 => ?_
  have s3 := h3.size; have s4 := h4.size
  obtain ⟨b7, hb7⟩ : ∃ b, b = w2.heap.size := ⟨_, rfl⟩
  obtain ⟨b8, hb8⟩ : ∃ b, b = w3.heap.size := ⟨_, rfl⟩
  rw [← hb7, ← hb8]
  have a7 : Cl w4 b7 T_int [.int .i64 0] := by rw [hb7]; exact Cl.nw h3.cl h4
  have a8 : Cl w4 b8 T_int [.int .i64 0] := by rw [hb8]; exact h4.cl
  refine Ef.set a7 (by simp) fun w5 h5 => Ef.set (a8.upd h5 (by omega)) (by simp) fun w6 h6 => ?_
  have s5 := h5.size; have s6 := h6.size
  have hE4 : Ext w w4 := ((h1.ext.then h2.ext).then h3.ext).then h4.ext
  have hE24 : Ext w2 w4 := h3.ext.then h4.ext
  have hE26 : Ext w2 w6 := (hE24.newer (S' := (· = b7)) h5.chg (fun x hx e => by omega)).newer (S' := (· = b8)) h6.chg (fun x hx e => by omega)
  have hE06 : Ext w w6 := (h1.ext.then h2.ext).then hE26
  refine c_Backward (by rw [ebv]; trivial) fun w7 h7 => ?_
  have s7 := h7.size
  obtain ⟨D, hD⟩ : ∃ d, d = w7.heap.size := ⟨_, rfl⟩
  have hE07 := hE06.then h7.ext
  have hE27 := hE26.then h7.ext
  -- the roles of what is this call's own
  obtain ⟨ρ1, hρ1⟩ : ∃ ρ1 : Roles, ρ1 = fun b => if b < w.heap.size then ρ b else if b = b7 ∨ b = b8 ∨ b = D ∨ b = D + 1 then some (j, .agt) else none := ⟨_, rfl⟩
  have hR1 : RExt ρ ρ1 w := fun b hb => by rw [hρ1]; show (if _ then _ else _) = _; rw [if_pos hb]
  have own : ∀ b, (b = b7 ∨ b = b8 ∨ b = D ∨ b = D + 1) → ρ1 b = some (j, .agt) := fun b hb => by rw [hρ1]; show (if _ then _ else _) = _; rw [if_neg (by omega), if_pos hb]
  have non : ∀ b, w.heap.size ≤ b → ¬ (b = b7 ∨ b = b8 ∨ b = D ∨ b = D + 1) → ρ1 b = none := fun b hb hn => by rw [hρ1]; show (if _ then _ else _) = _; rw [if_neg (by omega), if_neg hn]
  have n3 : ρ1 b3 = none := non b3 (by omega) (by omega)
  have n5 : ρ1 b5 = none := non b5 (by omega) (by omega)
  have nbk : ρ1 w6.heap.size = none := non _ (by omega) (by omega)
  have hg7 : GI ρ1 j w7 G A S L g := (h.re hR1).ext hE07
  have c3 : Cl w7 b3 T_p_adopt_agency [.pointer (some ⟨G, 0, none⟩)] := a3.ext hE27
  have c5 : Cl w7 b5 T_int [.int .i64 block] := a5.ext hE27
  have c7 : Cl w7 b7 T_int [.int .i64 block] := Cl.ext (Cl.upd h5.cl h6 (by omega)) h7.ext
  have c8 : Cl w7 b8 T_int [.int .i64 0] := Cl.ext h6.cl h7.ext
  have hv7 : IView w7 bv (zs between) := hbv.ext hE07
  have hnone1 : ∀ a n c, bv = .slice (some a) n c → ρ1 a.block = none := fun a n c e => (hR1 _ (hbvl a n c e)).trans (hnone a n c e)
  -- what is asked of the caller's world at the end
  have fin : ∀ ρz wz, RC ρ1 w7 ρz wz → (∀ b, b < w.heap.size → (∃ q, ρ b = some (q, .agt)) → b ≠ G → wz.heap[b]? = w7.heap[b]?) → RG G ρ w ρz wz := fun ρz wz hrc hag => by
    refine ⟨hR1.trans hrc.r hE07.size, ?_⟩
    have hC := (Ext.to (S := fun b => ∃ q : Nat × RK, ρ b = some q ∧ (q.2 = .agt → b = G)) hE07)
    refine ⟨hrc.c.os.trans hE07.os, hrc.c.tape.trans hE07.tape, hrc.c.output.trans hE07.output, Nat.le_trans hE07.size hrc.c.size, fun b hb hn => ?_⟩
    have e7 := hE07.same b hb id
    by_cases hr : ∃ q, ρ b = some q
    · obtain ⟨q, hq⟩ := hr
      by_cases hq2 : q.2 = .agt
      · refine (hag b hb ⟨q.1, by rw [hq, ← hq2]⟩ fun e => hn ⟨q, hq, fun _ => e⟩).trans e7
      · exact absurd ⟨q, hq, fun h => absurd h hq2⟩ hn
    · refine (hrc.c.same b (by have := hE07.size; omega) fun ⟨q, hq⟩ => hr ⟨q, by rw [← hR1 b hb]; exact hq⟩).trans e7
  have s07 := hE07.size
  refine Rf.iter (iter_BackwardZ (ov := bv) (l := zs between) (by omega)) (by intro x hx; obtain ⟨y, _, rfl⟩ := List.mem_map.1 hx; rfl)
    (fun k w' => ∃ ρ', RC ρ1 w7 ρ' w' ∧ GI ρ' j w' G A S L (liftK g between block k).1 ∧ Cl w' b7 T_int [.int .i64 ((liftK g between block k).2.1 : Nat)] ∧ Cl w' b8 T_int [.int .i64 ((k : Nat) : Int)] ∧ D + 2 ≤ w'.heap.size ∧ ρ' D = some (j, .agt) ∧ ρ' (D + 1) = some (j, .agt) ∧ (∀ b, b < w.heap.size → (∃ q, ρ b = some (q, .agt)) → b ≠ G → w'.heap[b]? = w7.heap[b]?))
    (fun o w' => False) ?_ ?_ ?_ ?_ ?_ ?_ ?_ ?_
  · rintro k wa wb ⟨ρa, q1, q2, q3, q4, q5, qD, qD1, q6⟩ hls
    rw [← hD] at hls
    refine ⟨ρa, ⟨q1.r, q1.c.newer hls.chg fun x hx e => by omega⟩, q2.agt hls.chg fun b e => ⟨⟨j, (show b = D + 1 from e) ▸ qD1⟩, by have e : b = D + 1 := e; omega⟩, q3.loopStep hls, q4.loopStep hls, by rw [hls.size]; exact q5, qD, qD1, fun b hb hq hG => (hls.chg.same b (by omega) (by omega)).trans (q6 b hb hq hG)⟩
  · rintro o wa wb q hls
    exact q.elim
  · rintro k wa ⟨ρa, q1, _⟩
    exact ⟨q1.cell nbk h7.cl, hv7.rc hnone1 q1⟩
  · intro wa hwa hsa
    refine ⟨ρ1, RC.ext hwa, hg7.ext hwa, c7.ext hwa, c8.ext hwa, by omega, own _ (by omega), own _ (by omega), fun b hb _ _ => hwa.same b (by omega) id⟩
  · rintro k hk wa Bg Kn Kr Kx wz ⟨ρa, q1, q2, q3, q4, q5, qD, qD1, q6⟩ hd hl2 hn2 hr2 hx2 hB
    refine hB _ ?_
    rw [backsZ_len, hzl] at hk
    rw [← hD] at hn2
    have e1 : (fun i => (backsZ (zs between))[k].toList.getD i undef) 1 = .int .i64 (between.getD (between.length - 1 - k) 0 : Nat) := by
      rw [backsZ_get, hzl]
      have h2 : between.length - 1 - k < between.length := by omega
      show Value.int .i64 ((zs between).getD (between.length - 1 - k) 0) = _
      unfold zs
      simp [List.getD, h2]
    rw [e1]
    have hx := liftK_ok hok hin hnd hb k (by omega)
    have hxs := liftK_succ g between block k hk
    have hmany := liftK_many g between block k (by omega)
    obtain ⟨n, hn⟩ : ∃ n, n = between.getD (between.length - 1 - k) 0 := ⟨_, rfl⟩
    rw [← hn] at hxs ⊢
    have hnin : n ∈ (liftK g between block k).1.st := by rw [hn]; exact hx.2.2.2 _ (by omega)
    have r7 : ρa b7 = some (j, .agt) := (q1.r b7 (by omega)).trans (own _ (by omega))
    have r8 : ρa b8 = some (j, .agt) := (q1.r b8 (by omega)).trans (own _ (by omega))
    have r3 : ∀ {wx : World} {ρx : Roles}, RC ρ1 w7 ρx wx → Cl wx b3 T_p_adopt_agency [.pointer (some ⟨G, 0, none⟩)] := fun h => h.cell n3 c3
    have r5 : ∀ {wx : World} {ρx : Roles}, RC ρ1 w7 ρx wx → Cl wx b5 T_int [.int .i64 block] := fun h => h.cell n5 c5
    obtain ⟨hxg, hxl, hxb, _⟩ := hx
    obtain ⟨Y, hY⟩ : ∃ Y : Nat → Prop, Y = fun b => b = G ∨ b = b7 ∨ b = b8 := ⟨_, rfl⟩
    have yG : Y G := by rw [hY]; exact .inl rfl
    have y7 : Y b7 := by rw [hY]; exact .inr (.inl rfl)
    have y8 : Y b8 := by rw [hY]; exact .inr (.inr rfl)
    have yD : ¬ Y D := by rw [hY]; intro e; omega
    have yD1 : ¬ Y (D + 1) := by rw [hY]; intro e; omega
    have yo : ∀ b, b < w.heap.size → b ≠ G → ¬ Y b := fun b hb hG e => by rw [hY] at e; omega
    -- how a step of the loop ends
    have next : ∀ ρb wb x', RY Y ρa wa ρb wb → x' = liftK g between block (k + 1) → GI ρb j wb G A S L x'.1 → Cl wb b7 T_int [.int .i64 (x'.2.1 : Nat)] → Cl wb b8 T_int [.int .i64 ((k + 1 : Nat) : Int)] → Kn wb := fun ρb wb x' hr hx' hg' h7' h8' => by
      subst hx'
      have hs := hr.c.size
      refine hn2 wb ⟨ρb, q1.then hr.rc, hg', h7', h8', by omega, (hr.r D (by omega)).trans qD, (hr.r (D + 1) (by omega)).trans qD1, fun b hb hq hG => ?_⟩ ⟨hr.keep qD yD (by omega), hr.keep qD1 yD1 (by omega)⟩
      obtain ⟨q, hq'⟩ := hq
      have hbw : ρa b = some (q, .agt) := (q1.r b (by omega)).trans ((hR1 b hb).trans hq')
      exact (hr.keep hbw (yo b hb hG) (by omega)).trans (q6 b hb ⟨q, hq'⟩ hG)
    generalize liftK g between block k = x at *
    obtain ⟨gx, last, many⟩ := x
    have hmany : many = k := hmany
    subst hmany
    have q2 : GI ρa j wa G A S L gx := q2
    have hxg : GOk s (c + many) gx := hxg
    have hxl : last < gx.m.elems.length := hxl
    have hxb : block < gx.m.elems.length := hxb
    have hnin : n ∈ gx.st := hnin
    have q3 : Cl wa b7 T_int [.int .i64 (last : Nat)] := q3
    obtain ⟨g1, hg1⟩ : ∃ g1, g1 = (if 3 < many + 1 then unlistG gx n else gx) := ⟨_, rfl⟩
    have hg1ok : GOk s (c + many) g1 := by
      rw [hg1]; split
      · exact hxg.unlist n
      · exact hxg
    have es : g1.st = gx.st := by rw [hg1]; split <;> rfl
    have em : g1.m = gx.m := by rw [hg1]; split <;> rfl
    refine ⟨fun a ds w' => a = [] ∧ ds = [] ∧ RY Y ρa wa ρa w' ∧ GI ρa j w' G A S L g1 ∧ Cl w' b7 T_int [.int .i64 (last : Nat)] ∧ Cl w' b8 T_int [.int .i64 ((many + 1 : Nat) : Int)], ?_, ?_⟩
    · refine Vl.ld q4 rfl (Vl.add (Ef.set q4 (by simp) fun wb hb => ?_))
      have em1 : (many : Int) + 1 = ((many + 1 : Nat) : Int) := by omega
      have c8b : Cl wb b8 T_int [.int .i64 ((many + 1 : Nat) : Int)] := by rw [← em1]; exact hb.cl
      have hry : RY Y ρa wa ρa wb := .set hb.chg r8 y8
      have hgb : GI ρa j wb G A S L gx := q2.agt hb.chg fun b e => ⟨⟨j, (show b = b8 from e) ▸ r8⟩, by have e : b = b8 := e; omega⟩
      have c7b : Cl wb b7 T_int [.int .i64 (last : Nat)] := q3.upd hb (by omega)
      refine Vl.ld c8b rfl (Vl.gtr (Cond_bool (fun h0 => ?_) (fun h0 => ?_)))
      · have h0 : 3 < many + 1 := by have := of_decide_eq_true h0; omega
        rw [if_pos h0] at hg1
        refine Vl.ld (r3 (q1.then hry.rc)) rfl ?_
        refine c_unlist hxg hs (by omega) hgb fun wc hrg hgc => ⟨rfl, rfl, hry.then (hrg.ry yG), by rw [hg1]; exact hgc, hrg.own r7 (by omega) c7b, hrg.own r8 (by omega) c8b⟩
      · have h0 : ¬ 3 < many + 1 := by have := of_decide_eq_false h0; omega
        rw [if_neg h0] at hg1
        exact ⟨rfl, rfl, hry, by rw [hg1]; exact hgb, c7b, c8b⟩
    · rintro ga ds wb ⟨_, rfl, hry, hgb, c7b, c8b⟩
      have hrcb := q1.then hry.rc
      have eX : liftStep block (gx, last, many) n = (if findL g1.ls n < 0 then ({ g1 with st := remF n g1.st }, last, many + 1) else
          ({ (if last = block then { insteadG g1 n with bm := findL (insteadG g1 n).ls g1.m.elems.length + 1 } else insteadG g1 n) with m := appendM (if last = block then { insteadG g1 n with bm := findL (insteadG g1 n).ls g1.m.elems.length + 1 } else insteadG g1 n).m g1.m.elems.length last }, g1.m.elems.length, many + 1)) := by
        unfold liftStep
        simp only
        rw [← hg1]
      rw [eX] at hxs
      have hls1 := hg1ok.lls
      have hst1 := hg1ok.lst
      refine Vl.ld (r3 hrcb) rfl ⟨trivial, Vl.fa (Vl.ld hgb.cl rfl (c_LFind hgb.hL (by omega) (Vl.lss (Cond_bool (fun h0 => ?_) (fun h0 => ?_)))))⟩
      · have h0 := of_decide_eq_true h0
        rw [if_pos h0] at hxs
        refine Vl.ld (r3 hrcb) rfl ⟨trivial, Vl.fa (Vl.ld hgb.cl rfl (c_Remove hgb.hS (by omega) fun wc hCc hSc => ?_))⟩
        obtain ⟨hgc, rgc⟩ := hgb.ofS (RExt.refl _ _) hCc hSc
        refine next ρa wc _ (hry.then (rgc.ry yG)) hxs.symm hgc (rgc.own r7 (by omega) c7b) (rgc.own r8 (by omega) c8b)
      · have h0 := of_decide_eq_false h0
        rw [if_neg h0] at hxs
        refine Vl.ld (r3 hrcb) rfl ?_
        refine c_instead hg1ok hs (by omega) hgb (by rw [es]; exact hnin) fun ρc wc rgc hgc => ?_
        have hryc := hry.then (rgc.ry yG)
        have hrcc := q1.then hryc.rc
        have hi2 := hg1ok.instead (i := n) (by rw [es]; exact hnin)
        have r7c : ρc b7 = some (j, .agt) := (rgc.r b7 (by have := hry.c.size; omega)).trans r7
        have r8c : ρc b8 = some (j, .agt) := (rgc.r b8 (by have := hry.c.size; omega)).trans r8
        have c7c : Cl wc b7 T_int [.int .i64 (last : Nat)] := rgc.own r7 (by omega) c7b
        have c8c : Cl wc b8 T_int [.int .i64 ((many + 1 : Nat) : Int)] := rgc.own r8 (by omega) c8b
        obtain ⟨g3, hg3⟩ : ∃ g3, g3 = (if last = block then { insteadG g1 n with bm := findL (insteadG g1 n).ls g1.m.elems.length + 1 } else insteadG g1 n) := ⟨_, rfl⟩
        rw [← hg3] at hxs
        have em3 : g3.m = (insteadG g1 n).m := by rw [hg3]; split <;> rfl
        have hfl := findL_lt (insteadG g1 n).ls g1.m.elems.length
        refine ⟨fun a ds w' => a = [] ∧ ds = [] ∧ RG G ρc wc ρc w' ∧ GI ρc j w' G A S L g3, ?_, ?_⟩
        · refine Vl.ld c7c rfl (Vl.ld (r5 hrcc) rfl (Vl.eql (Cond_bool (fun h1 => ?_) (fun h1 => ?_))))
          · have h1 : last = block := by have := of_decide_eq_true h1; omega
            rw [if_pos h1] at hg3
            have hd := dr_ext wc
            have hli := hi2.lls
            refine ⟨fun x => Ext wc x, hd, VQ.ld (fun x hx => ((r3 hrcc).ext hx).cell rfl) (VQ.ld (fun x hx => ((r3 hrcc).ext hx).cell rfl) ⟨trivial, Pv.fa (VQ.ld (fun x hx => (hgc.cl.ext hx).cell rfl) ?_)⟩)⟩
            refine c_LFind (hgc.hL.ext hd) (by omega) ⟨_, fun _ h => h, hd, Pv.add ⟨trivial, Pv.fa ?_⟩⟩
            refine Ef.set (hgc.cl.ext hd) (by simp) fun wd hud => ⟨fun _ => True, trivial, rfl, rfl, ?_⟩
            obtain ⟨hgd, rgd⟩ := (hgc.ext hd).ofB (bm := findL (insteadG g1 n).ls g1.m.elems.length + 1) hud
            exact ⟨(RG.ext hd).then rgd, by rw [hg3]; exact hgd⟩
          · have h1 : ¬ last = block := by have := of_decide_eq_false h1; omega
            rw [if_neg h1] at hg3
            exact ⟨rfl, rfl, RG.refl _ _ _, by rw [hg3]; exact hgc⟩
        · rintro gb ds wd ⟨_, rfl, rgd, hgd⟩
          have hryd := hryc.then (rgd.ry yG)
          have hrcd := q1.then hryd.rc
          have hsd := hry.c.size
          have hsc := rgc.c.size
          have c7d : Cl wd b7 T_int [.int .i64 (last : Nat)] := rgd.own r7c (by omega) c7c
          have c8d : Cl wd b8 T_int [.int .i64 ((many + 1 : Nat) : Int)] := rgd.own r8c (by omega) c8c
          have hdd := dr_ext wd
          have hAok : AOk (c + many + 1) g3.m := by rw [em3]; exact hi2.m.aok
          have hel : g3.m.elems.length = gx.m.elems.length + 1 := by rw [em3, ← em]; exact copyM_elems _ _
          have hSx : ∀ {wx : World} {ρx : Roles}, RG G ρc wd ρx wx → GI ρx j wx G A S L { g3 with m := appendM g3.m g1.m.elems.length last } → Cl wx b3 T_p_adopt_agency [.pointer (some ⟨G, 0, none⟩)] ∧ wx.cell? ⟨G, 0, none⟩ = some (.pointer (some ⟨A, 0, none⟩)) ∧ Cl wx b7 T_int [.int .i64 (last : Nat)] := fun {wx ρx} hr hgx => ⟨r3 (hrcd.then hr.rc), hgx.cl.cell rfl, hr.own r7c (by omega) c7d⟩
          refine ⟨fun x => Cl x b3 T_p_adopt_agency [.pointer (some ⟨G, 0, none⟩)] ∧ x.cell? ⟨G, 0, none⟩ = some (.pointer (some ⟨A, 0, none⟩)) ∧ Cl x b7 T_int [.int .i64 (last : Nat)], ⟨(r3 hrcd).ext hdd, (hgd.cl.ext hdd).cell rfl, c7d.ext hdd⟩, ?_⟩
          refine VQ.ld (fun x hx => hx.1.cell rfl) ⟨trivial, Pv.fa (VQ.ld (fun x hx => hx.2.1) (VQ.ld (fun x hx => hx.2.2.cell rfl) ?_))⟩
          have hgdd := hgd.ext hdd
          refine c_Append hgdd.hA hAok (by omega) (by rw [hel, em]; omega) (by omega) fun ρe we hRe hCe hAe => ?_
          obtain ⟨hge, rge⟩ := hgdd.ofA hRe.1 (Chg.ar hCe) hAe
          have rge' := (RG.ext hdd).then rge
          have hss := hSx rge' hge
          refine ⟨_, fun _ h => h, hss, Ef.set hss.2.2 (by simp) fun wf huf => ?_⟩
          have hrye := hryd.then (rge'.ry yG)
          have r7e : ρe b7 = some (j, .agt) := (rge'.r b7 (by have := rgd.c.size; omega)).trans r7c
          have hgf : GI ρe j wf G A S L { g3 with m := appendM g3.m g1.m.elems.length last } := hge.agt huf.chg fun b e => ⟨⟨j, (show b = b7 from e) ▸ r7e⟩, by have e : b = b7 := e; omega⟩
          have c8e : Cl we b8 T_int [.int .i64 ((many + 1 : Nat) : Int)] := rge'.own r8c (by omega) c8d
          exact next ρe wf _ (hrye.then (.set huf.chg r7e y7)) hxs.symm hgf huf.cl (c8e.upd huf (by omega))
  · rintro wa ⟨ρa, q1, q2, q3, q4, q5, qD, qD1, q6⟩ hd
    rw [← hD] at hd ⊢
    rw [backsZ_len, hzl, liftK_all] at q2 q3
    refine Vl.ld q3 rfl (Lv.cons hd fun wb hb hsb hsame => Lv.nil ?_)
    refine k ρa wb (fin ρa wb ⟨q1.r, q1.c.newer hb fun x hx e => by omega⟩ fun b hb2 hq hG => (hsame b (by omega)).trans (q6 b hb2 hq hG)) (q2.agt hb fun b e => ⟨⟨j, (show b = D from e) ▸ qD⟩, by have e : b = D := e; omega⟩)
  · rintro wa q hd
    exact q.elim
  · rintro id wa q hd
    exact q.elim
end Go.Proofs
namespace Go.Proofs
open Go Go.Eng
variable {ρ ρ' : Roles} {j : Nat} {w w' : World} {G A S L : Nat} {g : GM}

theorem Glob.rc (h : Glob w) (hz : ρ 0 = none) (k : RC ρ w ρ' w') : Glob w' := fun c => cell_same k.c (h c) fun ⟨q, e⟩ => by rw [hz] at e; cases e
theorem c_is {kinds : Int} {K : Value → World → Prop} (k : ∀ w' b2 b3, Ext w w' → Cl w' b2 T_p_adopt_agency [.pointer (some ⟨G, 0, none⟩)] → Cl w' b3 T_int [.int .i64 kinds] → K (.func (.func 100) #[] #[.pointer (some ⟨b2, 0, none⟩), .pointer (some ⟨b3, 0, none⟩)]) w') :
    Cf Tryd.prog n_adopt_agency_is #[.pointer (some ⟨G, 0, none⟩), .int .i64 kinds] w K := by
  refine L_adopt_agency_is _ _ _ _ ?_
  unfold S_adopt_agency_is
  refine Vl.box1 trivial fun w1 h1 => Vl.box1 trivial fun w2 h2 => ?_
  refine Vl.i (v := .func (.func 100) #[] #[.pointer (some ⟨w.heap.size, 0, none⟩), .pointer (some ⟨w1.heap.size, 0, none⟩)]) (w' := w2) (by kernel_rfl) ?_
  exact k w2 _ _ (h1.ext.then h2.ext) (Cl.nw h1.cl h2) h2.cl
theorem c_is_1 {b2 b3 x : Nat} {kinds : Int} (hG : Glob w) (h : GI ρ j w G A S L g) (hx : Live g.m x) (h2 : Cl w b2 T_p_adopt_agency [.pointer (some ⟨G, 0, none⟩)]) (h3 : Cl w b3 T_int [.int .i64 kinds]) {K : Value → World → Prop}
    (k : ∀ w', Ext w w' → K (.bool (isG g kinds x)) w') : Cf Tryd.prog n_adopt_agency_is_1 #[.int .i64 x, .pointer (some ⟨b2, 0, none⟩), .pointer (some ⟨b3, 0, none⟩)] w K := by
  refine L_adopt_agency_is_1 _ _ _ _ _ ?_
  unfold S_adopt_agency_is_1
  have hd := dr_ext w
  refine ⟨fun z => Ext w z, hd, VQ.ld (fun z hz => (h2.ext hz).cell rfl) ⟨trivial, Pv.fa (VQ.ld (fun z hz => (h.cl.ext hz).cell rfl) (VQ.ld (fun z hz => (h3.ext hz).cell rfl) ?_))⟩⟩
  refine c_Name' (h.hA.ext hd) hx fun w1 _ hE1 => ⟨_, fun _ h => h, hd.then hE1, ?_⟩
  have hE01 := hd.then hE1
  exact c_kind_Is (hG.ext hE01) fun w2 hE2 => ⟨_, fun _ h => h, hE01.then hE2, k w2 (hE01.then hE2)⟩
theorem any_zs (p : Nat → Bool) : ∀ l : List Nat, (zs l).any (fun x => p x.toNat) = l.any p
  | [] => rfl
  | x :: l => by
    show (p ((x : Int)).toNat || (zs l).any _) = _
    rw [any_zs p l, Int.toNat_natCast, List.any_cons]
theorem first_zs (p : Nat → Bool) : ∀ (l : List Nat) (k : Nat), firstF (fun x => p x.toNat) (zs l) k = findF p l k
  | [], k => rfl
  | x :: l, k => by
    show firstF _ ((x : Int) :: zs l) k = _
    rw [firstF_cons, findF_cons, Int.toNat_natCast, first_zs p l (k + 1)]
theorem zs_take (l : List Nat) (n : Nat) : zs (l.take n) = (zs l).take n := by unfold zs; rw [List.map_take]
theorem lastF_spec {m : AM} {name : ByteArray} {ls : List Int} (hl : LLive m ls) : ∀ n, n ≤ ls.length → (lastF m name ls n).2 = true → ∃ i : Nat, (lastF m name ls n).1 = i ∧ (i : Int) ∈ ls ∧ Live m i ∧ nameAt m i = name
  | 0, _, h => by cases h
  | n + 1, hn, h => by
    rw [lastF_succ] at h ⊢
    by_cases h1 : ls.getD n 0 = -1
    · rw [if_pos h1] at h; cases h
    · rw [if_neg h1] at h ⊢
      obtain ⟨i, hi, hL⟩ := hl.at_ (n := n) (by omega) h1
      by_cases h2 : nameAt m (ls.getD n 0).toNat = name
      · rw [if_pos h2]
        refine ⟨i, hi, ?_, hL, ?_⟩
        · have e : ls.getD n 0 = ls[n] := by simp [List.getD, (show n < ls.length by omega)]
          rw [← hi, e]; exact List.getElem_mem _
        · rw [hi] at h2; simpa using h2
      · rw [if_neg h2] at h ⊢
        exact lastF_spec hl n (by omega) h
theorem findL_mem {ls : List Int} {i : Nat} (h : (i : Int) ∈ ls) : 0 ≤ findL ls i := by
  unfold findL
  rw [if_neg (by omega)]
  exact (idx_mem (i : Int) ls 0).2 h
theorem liftK_keep {s c block : Nat} {between : List Nat} (h : GOk s c g) (hin : ∀ n ∈ between, n ∈ g.st) (hnd : between.Nodup) (hb : block < g.m.elems.length) {y : Nat} (hy : y ∈ g.st) (hyb : y ∉ between) : ∀ k, k ≤ between.length → y ∈ (liftK g between block k).1.st
  | 0, _ => hy
  | k + 1, hk => by
    have ih := liftK_keep h hin hnd hb hy hyb k (by omega)
    obtain ⟨h1, h2, h3, h4⟩ := liftK_ok h hin hnd hb k (by omega)
    rw [liftK_succ g between block k (by omega)]
    obtain ⟨_, _, _, a4⟩ := liftStep_ok h1 (h4 (between.length - 1 - k) (by omega)) h2 h3
    refine a4 y ih fun e => hyb ?_
    have hi2 : between.length - 1 - k < between.length := by omega
    have e2 : between.getD (between.length - 1 - k) 0 = between[between.length - 1 - k] := by simp [List.getD, hi2]
    rw [e, e2]; exact List.getElem_mem _
theorem liftK_elems {s c block : Nat} {between : List Nat} (h : GOk s c g) (hin : ∀ n ∈ between, n ∈ g.st) (hnd : between.Nodup) (hb : block < g.m.elems.length) : ∀ k, k ≤ between.length → g.m.elems.length ≤ (liftK g between block k).1.m.elems.length
  | 0, _ => Nat.le_refl _
  | k + 1, hk => by
    have ih := liftK_elems h hin hnd hb k (by omega)
    rw [liftK_succ g between block k (by omega)]
    refine Nat.le_trans ih ?_
    generalize liftK g between block k = x
    obtain ⟨gx, last, many⟩ := x
    unfold liftStep
    simp only
    have em : (if 3 < many + 1 then unlistG gx (between.getD (between.length - 1 - k) 0) else gx).m = gx.m := by split <;> rfl
    generalize (if 3 < many + 1 then unlistG gx (between.getD (between.length - 1 - k) 0) else gx) = g1 at em
    split
    · show gx.m.elems.length ≤ g1.m.elems.length
      rw [em]; exact Nat.le_refl _
    · have he : (insteadG g1 (between.getD (between.length - 1 - k) 0)).m.elems.length = g1.m.elems.length + 1 := copyM_elems _ _
      have em3 : (if last = block then { insteadG g1 (between.getD (between.length - 1 - k) 0) with bm := findL (insteadG g1 (between.getD (between.length - 1 - k) 0)).ls g1.m.elems.length + 1 } else insteadG g1 (between.getD (between.length - 1 - k) 0)).m = (insteadG g1 (between.getD (between.length - 1 - k) 0)).m := by split <;> rfl
      show gx.m.elems.length ≤ (appendM _ _ _).elems.length
      unfold appendM
      rw [putM_elems, em3, he, em]; omega
end Go.Proofs
namespace Go.Proofs
open Go Go.Eng
variable {ρ ρ' : Roles} {j : Nat} {w w' : World} {G A S L : Nat} {g : GM}
def blockG (g : GM) (p b : Nat) : Nat := (g.st.drop (p + 1)).getD b 0
def commonG (g : GM) (p : Nat) : Nat := if 0 < p then g.st.getD (p - 1) 0 else 0
def r1 (g : GM) (f : Nat) : GM := { g with bm := findL g.ls f }
def rx (g : GM) (f p b : Nat) : GM × Nat × Nat := liftG (r1 g f) ((g.st.drop (p + 1)).take b) (blockG g p b)
def r2 (g : GM) (f p b : Nat) : GM := { (rx g f p b).1 with m := appendM (rx g f p b).1.m (commonG g p) (rx g f p b).2.1 }
def cG (g : GM) (f p b : Nat) : Nat := (r2 g f p b).m.elems.length
def r3 (g : GM) (f p b : Nat) : GM := { r2 g f p b with m := copyM (r2 g f p b).m f }
def r4 (g : GM) (f p b : Nat) : GM := { r3 g f p b with m := moveM (r3 g f p b).m (blockG g p b) (cG g f p b) }
def r5 (g : GM) (f p b : Nat) : GM := { r4 g f p b with m := appendM (r4 g f p b).m (blockG g p b) (cG g f p b) }
def r6 (g : GM) (f p b : Nat) : GM := unlistG (r5 g f p b) f
def r7 (g : GM) (f p b : Nat) : GM := { r6 g f p b with ls := insZ (r6 g f p b).bm.toNat (cG g f p b) (r6 g f p b).ls }
def r8 (g : GM) (f p b : Nat) : GM := { r7 g f p b with st := remF f (r7 g f p b).st }
def r9 (g : GM) (f p b : Nat) : GM := { r8 g f p b with st := insAt (idx (blockG g p b) (r8 g f p b).st 0 + 1).toNat (cG g f p b) (r8 g f p b).st }
theorem restG_eq (g : GM) (f p b : Nat) : restG g f p b = r9 g f p b := rfl
theorem moveM_elems (m : AM) (f t : Nat) : (moveM m f t).elems = m.elems := (moveL_len m t _).2
theorem appendM_elems (m : AM) (p i : Nat) : (appendM m p i).elems = m.elems := by unfold appendM; rw [putM_elems]
theorem GOk.listed {s c : Nat} {g : GM} (o6 : GOk s c g) {x : Nat} (hlc : Live g.m x) : GOk s (c + 1) { g with ls := insZ g.bm.toNat x g.ls } := by
  have hb0 := o6.bm0
  have hb1 := o6.bm1
  have hl7 : (insZ g.bm.toNat (x : Int) g.ls).length = g.ls.length + 1 := by unfold insZ; simp; omega
  refine ⟨o6.m.wide (by omega), o6.st, o6.nod, fun y hx => ?_, o6.lst, ?_, hb0, ?_⟩
  · have hx : y ∈ insZ g.bm.toNat (x : Int) g.ls := hx
    unfold insZ at hx
    rcases List.mem_append.1 hx with hx | hx
    · rcases List.mem_append.1 hx with hx | hx
      · exact o6.ls y (List.mem_of_mem_take hx)
      · exact .inr ⟨_, by simpa using hx, hlc⟩
    · exact o6.ls y (List.mem_of_mem_drop hx)
  · show (insZ _ _ _).length ≤ _
    rw [hl7]; have := o6.lls; omega
  · show g.bm ≤ ((insZ _ _ _).length : Nat)
    rw [hl7]; omega
theorem GOk.swap {s c : Nat} {g : GM} (o7 : GOk s c g) {f : Nat} (hf7 : f ∈ g.st) {x : Nat} (hx : x < g.m.elems.length) (hn : x ∉ g.st) (q : Nat) : GOk s c { g with st := insAt q x (remF f g.st) } := by
  have hr8 : (remF f g.st).length + 1 = g.st.length := by
    have hi0 := (idx_mem f g.st 0).2 hf7
    have hi1 := idx_lt f g.st 0
    unfold remF
    rw [if_pos hi0, List.length_eraseIdx, if_pos (by omega)]
    have := List.length_pos_of_mem hf7
    omega
  refine ⟨o7.m, fun y hy => ?_, ?_, o7.ls, ?_, o7.lls, o7.bm0, o7.bm1⟩
  · rcases mem_insAt.1 (show y ∈ insAt _ _ _ from hy) with rfl | hy
    · exact .of_lt o7.m.aok hx
    · exact o7.st y (remF_mem hy)
  · show (insAt _ _ _).Nodup
    rw [(insAt_perm _ _ _).nodup_iff, List.nodup_cons]
    exact ⟨fun hy => hn (remF_mem hy), o7.nod.sublist (remF_sub _ _)⟩
  · show (insAt _ _ _).length ≤ _
    rw [insAt_len, hr8]; exact o7.lst
structure Stages (s c : Nat) (g : GM) (f p b : Nat) : Prop where
  o1 : GOk s c (r1 g f)
  ox : GOk s (c + s) (rx g f p b).1
  last : (rx g f p b).2.1 < (rx g f p b).1.m.elems.length
  blk : blockG g p b < g.m.elems.length
  com : commonG g p < g.m.elems.length
  gr : g.m.elems.length ≤ (rx g f p b).1.m.elems.length
  o2 : GOk s (c + s) (r2 g f p b)
  o3 : GOk s (c + s + 1) (r3 g f p b)
  o4 : GOk s (c + s + 1) (r4 g f p b)
  o5 : GOk s (c + s + 1) (r5 g f p b)
  o6 : GOk s (c + s + 1) (r6 g f p b)
  o7 : GOk s (c + s + 2) (r7 g f p b)
  o8 : GOk s (c + s + 2) (r8 g f p b)
  o9 : GOk s (c + s + 2) (r9 g f p b)
  e2 : cG g f p b = (rx g f p b).1.m.elems.length
  e5 : (r5 g f p b).m.elems.length = cG g f p b + 1
  inn : ∀ n ∈ (g.st.drop (p + 1)).take b, n ∈ (r1 g f).st
  nd : ((g.st.drop (p + 1)).take b).Nodup
set_option maxHeartbeats 2000000 in
theorem stages {s c : Nat} (h : GOk s c g) {f p b : Nat} (hp : p < g.st.length) (hf : g.st[p] = f) (hfl : 0 ≤ findL g.ls f) (hb : b < (g.st.drop (p + 1)).length) : Stages s c g f p b := by
  have hfl2 := findL_lt g.ls f
  have hfin : f ∈ g.st := hf ▸ List.getElem_mem hp
  have hfe := (h.st f hfin).lt
  have o1 : GOk s c (r1 g f) := h.setB hfl (by omega)
  have hsub : ((g.st.drop (p + 1)).take b).Sublist g.st := (List.take_sublist _ _).trans (List.drop_sublist _ _)
  have inn : ∀ n ∈ (g.st.drop (p + 1)).take b, n ∈ (r1 g f).st := fun n hn => hsub.subset hn
  have nd : ((g.st.drop (p + 1)).take b).Nodup := h.nod.sublist hsub
  have hblm : blockG g p b ∈ g.st := by
    have e : blockG g p b = (g.st.drop (p + 1))[b] := by unfold blockG; rw [List.getD_eq_getElem?_getD, List.getElem?_eq_getElem hb]; rfl
    rw [e]; exact List.mem_of_mem_drop (List.getElem_mem hb)
  have blk := (h.st _ hblm).lt
  have com : commonG g p < g.m.elems.length := by
    unfold commonG
    split
    · have e : g.st.getD (p - 1) 0 = g.st[p - 1] := by simp [List.getD, (show p - 1 < g.st.length by omega)]
      rw [e]; exact (h.st _ (List.getElem_mem _)).lt
    · omega
  have hlen : ((g.st.drop (p + 1)).take b).length ≤ s := Nat.le_trans hsub.length_le h.lst
  have hk := liftK_ok o1 inn nd blk _ (Nat.le_refl _)
  rw [liftK_all] at hk
  have ox : GOk s (c + s) (rx g f p b).1 := hk.1.wide (by omega)
  have last : (rx g f p b).2.1 < (rx g f p b).1.m.elems.length := hk.2.1
  have gr : g.m.elems.length ≤ (rx g f p b).1.m.elems.length := by
    have := liftK_elems o1 inn nd blk _ (Nat.le_refl _)
    rw [liftK_all] at this; exact this
  have hfx : f ∈ (rx g f p b).1.st := by
    have := liftK_keep (y := f) o1 inn nd blk hfin (fun hm => ?_) _ (Nat.le_refl _)
    · rw [liftK_all] at this; exact this
    · -- f stands ahead of all of these
      obtain ⟨i, hi, e⟩ := List.getElem_of_mem hm
      have hi2 : p + 1 + i < g.st.length := by
        have : i < ((g.st.drop (p + 1)).take b).length := hi
        simp at this; omega
      have e2 : g.st[p + 1 + i] = f := by
        rw [← e]; simp
      have i1 := idx_at g.st 0 p hp h.nod
      have i2 := idx_at g.st 0 (p + 1 + i) hi2 h.nod
      rw [hf] at i1
      rw [e2, i1] at i2
      omega
  have o2 : GOk s (c + s) (r2 g f p b) := ox.append (by omega) last
  have e2 : cG g f p b = (rx g f p b).1.m.elems.length := by
    show (appendM _ _ _).elems.length = _
    rw [appendM_elems]
  have hce : ∀ (x : Nat), x < g.m.elems.length → x < (r2 g f p b).m.elems.length := fun x hx => by
    show x < cG g f p b
    rw [e2]; omega
  have hf2 : f < (r2 g f p b).m.elems.length := hce f hfe
  have el3 : (r3 g f p b).m.elems.length = cG g f p b + 1 := copyM_elems _ _
  have o3 : GOk s (c + s + 1) (r3 g f p b) := o2.setM (o2.m.copy hf2) (by rw [copyM_elems]; omega) (by omega)
  have hb2 : blockG g p b < cG g f p b := hce _ blk
  have el4 : (r4 g f p b).m.elems.length = cG g f p b + 1 := by
    show (moveM _ _ _).elems.length = _
    rw [moveM_elems]; exact el3
  have o4 : GOk s (c + s + 1) (r4 g f p b) := o3.setM (o3.m.move (by rw [el3]; omega) (by rw [el3]; omega)) (by rw [moveM_elems]; exact Nat.le_refl _) (Nat.le_refl _)
  have e5 : (r5 g f p b).m.elems.length = cG g f p b + 1 := by
    show (appendM _ _ _).elems.length = _
    rw [appendM_elems]; exact el4
  have o5 : GOk s (c + s + 1) (r5 g f p b) := o4.append (by rw [el4]; omega) (by rw [el4]; omega)
  have o6 : GOk s (c + s + 1) (r6 g f p b) := o5.unlist f
  have hm6 : (r6 g f p b).m.elems.length = cG g f p b + 1 := e5
  have hlc : Live (r6 g f p b).m (cG g f p b) := .of_lt o6.m.aok (by omega)
  have hb0 := o6.bm0
  have hb1 := o6.bm1
  have o7 : GOk s (c + s + 2) (r7 g f p b) := o6.listed hlc
  have o8 : GOk s (c + s + 2) (r8 g f p b) := o7.rem f
  have hf7 : f ∈ (r7 g f p b).st := hfx
  have hst7 : ∀ x ∈ (r7 g f p b).st, x < cG g f p b := fun x hx => by
    rw [e2]; exact (ox.st x hx).lt
  have o9 : GOk s (c + s + 2) (r9 g f p b) := o7.swap hf7 (x := cG g f p b) (by show cG g f p b < (r6 g f p b).m.elems.length; omega) (fun hx => by have := hst7 _ hx; omega) _
  exact ⟨o1, ox, last, blk, com, gr, o2, o3, o4, o5, o6, o7, o8, o9, e2, e5, inn, nd⟩
end Go.Proofs
set_option linter.unusedVariables false
namespace Go.Proofs
open Go Go.Eng
variable {ρ ρ' : Roles} {j : Nat} {w w' : World} {G A S L : Nat} {g : GM}
theorem rg_zero (h : RG G ρ w ρ' w') (hG : Glob w) (hz : ρ 0 = none) : ρ' 0 = none := h.none hz hG.pos

set_option maxHeartbeats 2000000 in
/-- The part of once that does it. vb: the elements behind the formatting element; vo: all. -/
theorem c_rest {s c : Nat} (hok : GOk s c g) (hs : s ≤ 100000) (hc : c ≤ 100000) {f p b : Nat} (hp : p < g.st.length) (hf : g.st[p] = f) (hfl : 0 ≤ findL g.ls f) (hb : b < (g.st.drop (p + 1)).length) (h : GI ρ j w G A S L g)
    {gb n' c' : Nat} (hvb : IView w (.slice (some ⟨gb, p + 1, none⟩) n' c') (zs (g.st.drop (p + 1)))) (hle : n' ≤ c') (hn' : n' = (g.st.drop (p + 1)).length) (hgb : ρ gb = none) (hgl : gb < w.heap.size) {K : Value → World → Prop}
    (k : ∀ ρ' w', RG G ρ w ρ' w' → GI ρ' j w' G A S L (restG g f p b) → K (.tuple #[.bool false, .bool true]) w') :
    Vl Tryd.prog (Instr.indexAt 31 (.slice (some ⟨gb, p + 1, none⟩) n' c') (.int .i64 (b : Nat))) w fun v74 wz31 =>
    Vl Tryd.prog (Instr.loadAt 3 v74) wz31 fun v75 wz32 =>
    NN (.pointer (some ⟨G, 0, none⟩)) ∧
    Vl Tryd.prog (Instr.fieldAt 116 (.pointer (some ⟨G, 0, none⟩)) 2) wz32 fun v79 wz33 =>
    Vl Tryd.prog (Instr.loadAt 55 v79) wz33 fun v80 wz34 =>
    Cf Tryd.prog n_list_List_Find #[v80, .int .i64 (f : Nat)] wz34 fun v82 wz35 =>
    NN (.pointer (some ⟨G, 0, none⟩)) ∧
    Vl Tryd.prog (Instr.fieldAt 116 (.pointer (some ⟨G, 0, none⟩)) 3) wz35 fun v84 wz36 =>
    Ef Tryd.prog (Instr.storeAt 3 v84 v82) wz36 fun wz37 =>
    ∃ S' : World → Prop, S' (dr wz37) ∧
    NN (.pointer (some ⟨G, 0, none⟩)) ∧
    Pv Tryd.prog (Instr.fieldAt 116 (.pointer (some ⟨G, 0, none⟩)) 0) fun v87 =>
    ValQ Tryd.prog S' (Instr.loadAt 47 v87) fun v88 =>
    Pv Tryd.prog (Instr.sliceAt 31 (.slice (some ⟨gb, p + 1, none⟩) n' c') none (some (.int .i64 (b : Nat))) none) fun v93 =>
    Cf Tryd.prog n_adopt_agency_lift #[(.pointer (some ⟨G, 0, none⟩)), v93, v75] (dr wz37) fun v95 wz38 =>
    ∃ Sa : World → Prop, (∀ x, Sa x → S' x) ∧ Sa wz38 ∧
    Cf Tryd.prog n_arena_Arena_Append #[v88, .int .i64 (commonG g p : Nat), v95] wz38 fun v96 wz39 =>
    ∃ Sb : World → Prop, Sb wz39 ∧
    NN (.pointer (some ⟨G, 0, none⟩)) ∧
    Vl Tryd.prog (Instr.fieldAt 116 (.pointer (some ⟨G, 0, none⟩)) 0) wz39 fun v99 wz40 =>
    Vl Tryd.prog (Instr.loadAt 47 v99) wz40 fun v100 wz41 =>
    Cf Tryd.prog n_arena_Arena_Copy #[v100, .int .i64 (f : Nat)] wz41 fun v102 wz42 =>
    NN (.pointer (some ⟨G, 0, none⟩)) ∧
    Vl Tryd.prog (Instr.fieldAt 116 (.pointer (some ⟨G, 0, none⟩)) 0) wz42 fun v105 wz43 =>
    Vl Tryd.prog (Instr.loadAt 47 v105) wz43 fun v106 wz44 =>
    Cf Tryd.prog n_arena_Arena_Move #[v106, v75, v102] wz44 fun v109 wz45 =>
    NN (.pointer (some ⟨G, 0, none⟩)) ∧
    Vl Tryd.prog (Instr.fieldAt 116 (.pointer (some ⟨G, 0, none⟩)) 0) wz45 fun v112 wz46 =>
    Vl Tryd.prog (Instr.loadAt 47 v112) wz46 fun v113 wz47 =>
    Cf Tryd.prog n_arena_Arena_Append #[v113, v75, v102] wz47 fun v116 wz48 =>
    Cf Tryd.prog n_adopt_agency_unlist #[(.pointer (some ⟨G, 0, none⟩)), .int .i64 (f : Nat)] wz48 fun v119 wz49 =>
    ∃ Sc : World → Prop, Sc (dr wz49) ∧
    NN (.pointer (some ⟨G, 0, none⟩)) ∧
    Pv Tryd.prog (Instr.fieldAt 116 (.pointer (some ⟨G, 0, none⟩)) 2) fun v122 =>
    ValQ Tryd.prog Sc (Instr.loadAt 55 v122) fun v123 =>
    NN (.pointer (some ⟨G, 0, none⟩)) ∧
    Pv Tryd.prog (Instr.fieldAt 116 (.pointer (some ⟨G, 0, none⟩)) 3) fun v126 =>
    ValQ Tryd.prog Sc (Instr.loadAt 3 v126) fun v127 =>
    Cf Tryd.prog n_list_List_Insert #[v123, v127, v102] (dr wz49) fun v129 wz50 =>
    ∃ Sd : World → Prop, Sd wz50 ∧
    NN (.pointer (some ⟨G, 0, none⟩)) ∧
    Vl Tryd.prog (Instr.fieldAt 116 (.pointer (some ⟨G, 0, none⟩)) 1) wz50 fun v132 wz51 =>
    Vl Tryd.prog (Instr.loadAt 25 v132) wz51 fun v133 wz52 =>
    Cf Tryd.prog n_stack_Stack_Remove #[v133, .int .i64 (f : Nat)] wz52 fun v135 wz53 =>
    ∃ Se : World → Prop, Se (dr wz53) ∧
    NN (.pointer (some ⟨G, 0, none⟩)) ∧
    Pv Tryd.prog (Instr.fieldAt 116 (.pointer (some ⟨G, 0, none⟩)) 1) fun v138 =>
    ValQ Tryd.prog Se (Instr.loadAt 25 v138) fun v139 =>
    NN (.pointer (some ⟨G, 0, none⟩)) ∧
    Pv Tryd.prog (Instr.fieldAt 116 (.pointer (some ⟨G, 0, none⟩)) 1) fun v142 =>
    ValQ Tryd.prog Se (Instr.loadAt 25 v142) fun v143 =>
    Cf Tryd.prog n_stack_Stack_Find #[v143, v75] (dr wz53) fun v145 wz54 =>
    ∃ Sf : World → Prop, (∀ x, Sf x → Se x) ∧ Sf wz54 ∧
    Pv Tryd.prog (binop BinOp.add 3 (Operand.tmp 145) (Operand.const ((Value.int IntKind.i64 1))) v145 (Value.int IntKind.i64 1)) fun v146 =>
    Cf Tryd.prog n_stack_Stack_Insert #[v139, v146, v102] wz54 fun v148 wz55 =>
    ∃ Sg : World → Prop, (∀ x, Sg x → Sf x) ∧ Sg wz55 ∧
    Lv [] wz55 fun wz56 => K (Value.tuple #[(Value.bool false), (Value.bool true)]) wz56 := by
  have T := stages hok hp hf hfl hb
  have hbl : blockG g p b = (g.st.drop (p + 1))[b] := by unfold blockG; rw [List.getD_eq_getElem?_getD, List.getElem?_eq_getElem hb]; rfl
  have hzl := zs_len (g.st.drop (p + 1))
  have hzb : (zs (g.st.drop (p + 1)))[b]'(by omega) = ((blockG g p b : Nat) : Int) := by rw [hbl]; unfold zs; simp
  refine IView.rd hvb (i := b) (by omega) ?_
  rw [hzb]
  have hfin : f ∈ g.st := hf ▸ List.getElem_mem hp
  refine ⟨trivial, Vl.fa (Vl.ld h.cl rfl (c_LFind h.hL (by have := hok.lls; omega) ⟨trivial, Vl.fa (Ef.set h.cl (by simp) fun w1 h1 => ?_)⟩))⟩
  obtain ⟨i1, g1⟩ := h.ofB (bm := findL g.ls f) h1
  have i1 : GI ρ j w1 G A S L (r1 g f) := i1
  have hd1 := dr_ext w1
  have i1d := i1.ext hd1
  refine ⟨fun x => x.cell? ⟨G, 0, none⟩ = some (.pointer (some ⟨A, 0, none⟩)), i1d.cl.cell rfl, trivial, Pv.fa (VQ.ld (fun x hx => hx) ?_)⟩
  have hn1 : b ≤ n' := by omega
  refine Pv.i (run_slc (l := 0) (h := b) slB31 (.inl ⟨rfl, rfl⟩) (.inr rfl) (Nat.zero_le _) (by omega)) ?_
  have ebv : (Value.slice (if c' = 0 then some (⟨gb, p + 1, none⟩ : Addr) else (some (⟨gb, p + 1, none⟩ : Addr)).map (·.add (0 * 1))) (b - 0) (c' - 0)) = .slice (some ⟨gb, p + 1, none⟩) b c' := by
    rw [if_neg (by omega)]
    show Value.slice (some ((⟨gb, p + 1, none⟩ : Addr).add (0 * 1))) _ _ = _
    rw [add_off]; rfl
  rw [ebv]
  have hbtw : IView (dr w1) (.slice (some ⟨gb, p + 1, none⟩) b c') (zs ((g.st.drop (p + 1)).take b)) := by
    have hv2 : IView (dr w1) (.slice (some ⟨gb, p + 1, none⟩) n' c') (zs (g.st.drop (p + 1))) := (hvb.rc (fun a n c e => by cases e; exact hgb) (g1.rc)).ext hd1
    obtain ⟨a, cc, e, h0, hc⟩ := hv2
    rw [ints_len, hzl] at e
    cases e
    have hlt : (zs ((g.st.drop (p + 1)).take b)).length = b := by rw [zs_len, List.length_take]; omega
    refine ⟨_, _, by rw [ints_len, hlt], h0, fun jj x hx => ?_⟩
    have hjl := (List.getElem?_eq_some_iff.1 hx).1
    rw [ints_len, hlt] at hjl
    refine hc jj x ?_
    rw [zs_take] at hx
    unfold ints at hx ⊢
    rw [List.getElem?_map, List.getElem?_take, if_pos hjl] at hx
    rw [List.getElem?_map]
    exact hx
  have hgd := g1.then (RG.ext hd1)
  have hgb1 : ∀ a n c, (Value.slice (some ⟨gb, p + 1, none⟩) b c') = .slice (some a) n c → ρ a.block = none := fun a n c e => by cases e; exact hgb
  have hgb2 : ∀ a n c, (Value.slice (some ⟨gb, p + 1, none⟩) b c') = .slice (some a) n c → a.block < (dr w1).heap.size := fun a n c e => by
    cases e
    have := hgd.c.size
    show gb < _; omega
  have hlb : ((g.st.drop (p + 1)).take b).length ≤ s := by
    have h1 : ((g.st.drop (p + 1)).take b).length ≤ g.st.length := ((List.take_sublist b _).trans (List.drop_sublist (p + 1) g.st)).length_le
    exact Nat.le_trans h1 hok.lst
  refine c_lift T.o1 (by omega) (by omega) i1d hbtw hgb1 hgb2 T.inn T.nd T.blk fun ρ2 w2 g2 i2 => ⟨_, fun _ h => h, i2.cl.cell rfl, ?_⟩
  have i2 : GI ρ2 j w2 G A S L (rx g f p b).1 := i2
  show Cf Tryd.prog n_arena_Arena_Append #[_, _, .int .i64 ((rx g f p b).2.1 : Nat)] _ _
  refine c_Append i2.hA T.ox.m.aok (by omega) (Nat.lt_of_lt_of_le T.com T.gr) T.last fun ρ3 w3 hR3 hC3 hA3 => ⟨fun _ => True, trivial, ?_⟩
  obtain ⟨i3, g3⟩ := i2.ofA hR3.1 (Chg.ar hC3) hA3
  have i3 : GI ρ3 j w3 G A S L (r2 g f p b) := i3
  have hfe : f < (r2 g f p b).m.elems.length := by
    show f < cG g f p b
    rw [T.e2]; exact Nat.lt_of_lt_of_le (hok.st f hfin).lt T.gr
  have hce : blockG g p b < cG g f p b := by rw [T.e2]; exact Nat.lt_of_lt_of_le T.blk T.gr
  refine ⟨trivial, Vl.fa (Vl.ld i3.cl rfl ?_)⟩
  refine c_Copy i3.hA T.o2.m.aok (by omega) hfe fun ρ4 w4 hR4 hC4 hA4 => ?_
  obtain ⟨i4, g4⟩ := i3.ofA hR4.1 hC4 hA4
  have i4 : GI ρ4 j w4 G A S L (r3 g f p b) := i4
  have el3 : (r3 g f p b).m.elems.length = cG g f p b + 1 := copyM_elems _ _
  refine ⟨trivial, Vl.fa (Vl.ld i4.cl rfl ?_)⟩
  have hin3 : (innerAt (r3 g f p b).m (blockG g p b)).length ≤ c + s + 1 := T.o3.m.aok.inn _ _ (nodeAt_some (elAt_lt T.o3.m.aok (by rw [el3]; omega)))
  refine c_Move i4.hA T.o3.m.aok (f := blockG g p b) (t := cG g f p b) (by rw [el3]; omega) (by rw [el3]; omega) (by omega) fun ρ5 w5 hR5 hC5 hA5 => ?_
  obtain ⟨i5, g5⟩ := i4.ofA hR5.1 hC5 hA5
  have i5 : GI ρ5 j w5 G A S L (r4 g f p b) := i5
  have el4 : (r4 g f p b).m.elems.length = cG g f p b + 1 := by
    show (moveM _ _ _).elems.length = _
    rw [moveM_elems]; exact el3
  refine ⟨trivial, Vl.fa (Vl.ld i5.cl rfl ?_)⟩
  refine c_Append (p := blockG g p b) (i := cG g f p b) i5.hA T.o4.m.aok (by omega) (by rw [el4]; omega) (by rw [el4]; omega) fun ρ6 w6 hR6 hC6 hA6 => ?_
  obtain ⟨i6, g6⟩ := i5.ofA hR6.1 (Chg.ar hC6) hA6
  have i6 : GI ρ6 j w6 G A S L (r5 g f p b) := i6
  refine c_unlist T.o5 (by omega) (by omega) i6 fun w7 g7 i7 => ?_
  have i7 : GI ρ6 j w7 G A S L (r6 g f p b) := i7
  have hd7 := dr_ext w7
  have hb0 := T.o6.bm0
  have hb1 := T.o6.bm1
  have hl6 := T.o6.lls
  obtain ⟨q, hq⟩ : ∃ q : Nat, (r6 g f p b).bm = q := ⟨(r6 g f p b).bm.toNat, by omega⟩
  refine ⟨fun x => Ext w7 x, hd7, trivial, Pv.fa (VQ.ld (fun x hx => (i7.cl.ext hx).cell rfl) ⟨trivial, Pv.fa (VQ.ld (fun x hx => (i7.cl.ext hx).cell rfl) ?_)⟩)⟩
  rw [hq]
  refine c_LInsert (p := q) (i7.hL.ext hd7) (by omega) (by omega) fun ρ8 w8 hR8 hC8 hL8 => ⟨fun _ => True, trivial, ?_⟩
  obtain ⟨i8, g8⟩ := (i7.ext hd7).ofL hR8.1 hC8 hL8
  have i8 : GI ρ8 j w8 G A S L (r7 g f p b) := by
    have e : (r7 g f p b) = { r6 g f p b with ls := insZ q (cG g f p b) (r6 g f p b).ls } := by unfold r7; rw [hq]; rfl
    rw [e]; exact i8
  have hst7 := T.o7.lst
  refine ⟨trivial, Vl.fa (Vl.ld i8.cl rfl ?_)⟩
  refine c_Remove i8.hS (by omega) fun w9 hC9 hS9 => ?_
  obtain ⟨i9, g9⟩ := i8.ofS (RExt.refl _ _) hC9 hS9
  have i9 : GI ρ8 j w9 G A S L (r8 g f p b) := i9
  have hd9 := dr_ext w9
  have hst8 := T.o8.lst
  have i9d := i9.ext hd9
  refine ⟨fun x => x.cell? ⟨G, 1, none⟩ = some (.pointer (some ⟨S, 0, none⟩)), i9d.cl.cell rfl, trivial, Pv.fa (VQ.ld (fun x hx => hx) ⟨trivial, Pv.fa (VQ.ld (fun x hx => hx) ?_)⟩)⟩
  refine c_Find (i := blockG g p b) i9d.hS (by omega) ⟨_, fun _ h => h, i9d.cl.cell rfl, ?_⟩
  have hil := idx_lt (blockG g p b) (r8 g f p b).st 0
  refine Pv.add ?_
  obtain ⟨u, hu⟩ : ∃ u : Nat, idx (blockG g p b) (r8 g f p b).st 0 + 1 = u := ⟨(idx (blockG g p b) (r8 g f p b).st 0 + 1).toNat, by omega⟩
  rw [hu]
  refine c_Insert (p := u) i9d.hS (by omega) (by omega) fun ρ10 w10 hR10 hC10 hS10 => ?_
  obtain ⟨i10, g10⟩ := i9d.ofS hR10.1 hC10 hS10
  refine ⟨_, fun _ h => h, i10.cl.cell rfl, Lv.nil ?_⟩
  refine k ρ10 w10 (((((((((((g1.then (RG.ext hd1)).then g2).then g3).then g4).then g5).then g6).then g7).then (RG.ext hd7)).then g8).then g9).then ((RG.ext hd9).then g10)) ?_
  have e : restG g f p b = { r8 g f p b with st := insAt u (cG g f p b) (r8 g f p b).st } := by
    rw [restG_eq]; unfold r9; rw [hu]; rfl
  rw [e]; exact i10
end Go.Proofs
set_option linter.unusedVariables false
namespace Go.Proofs
open Go Go.Eng
variable {ρ ρ' : Roles} {j : Nat} {w w' : World} {G A S L : Nat} {g : GM}

theorem GOk.rmL {s c : Nat} {g : GM} (h : GOk s c g) (hb : g.bm = 0) (i : Nat) : GOk s c { g with ls := removeL g.ls i } := by
  have hl := removeL_len g.ls i
  have hll := h.lls
  refine ⟨h.m, h.st, h.nod, fun x hx => h.ls x (removeL_mem hx), h.lst, ?_, h.bm0, ?_⟩
  · show (removeL g.ls i).length ≤ c
    rw [hl]; split <;> omega
  · show g.bm ≤ ((removeL g.ls i).length : Nat)
    rw [hb]; omega
theorem closeF_sub (st : List Nat) (i : Nat) : ∀ n, (closeF st i n).Sublist st
  | 0 => List.nil_sublist _
  | n + 1 => by
    rw [closeF_succ]
    split
    · exact List.take_sublist _ _
    · exact closeF_sub st i n
theorem GOk.close {s c : Nat} {g : GM} (h : GOk s c g) (i : Nat) : GOk s c (closeG g i) :=
  ⟨h.m, fun x hx => h.st x ((closeF_sub _ _ _).subset hx), h.nod.sublist (closeF_sub _ _ _), h.ls, Nat.le_trans (closeF_sub _ _ _).length_le h.lst, h.lls, h.bm0, h.bm1⟩

set_option maxHeartbeats 1000000 in
theorem c_once {s c : Nat} (hok : GOk s c g) (hs : s ≤ 100000) (hc : c ≤ 100000) (h : GI ρ j w G A S L g) (hG : Glob w) (hz : ρ 0 = none) {name : ByteArray} {K : Value → World → Prop}
    (k : ∀ ρ' w', RG G ρ w ρ' w' → GI ρ' j w' G A S L (onceG g name).1 → K (.tuple #[.bool (onceG g name).2.1, .bool (onceG g name).2.2]) w') :
    Cf Tryd.prog n_adopt_agency_once #[.pointer (some ⟨G, 0, none⟩), .string name] w K := by
  have hcut := cut_none ρ w
  have h := h.re (cutR_ext ρ w)
  have hz : cutR ρ w 0 = none := (cutR_ext ρ w 0 hG.pos).trans hz
  have k : ∀ ρ' w', RG G (cutR ρ w) w ρ' w' → GI ρ' j w' G A S L (onceG g name).1 → K (.tuple #[.bool (onceG g name).2.1, .bool (onceG g name).2.2]) w' := fun ρ' w' hr hg => k ρ' w' ⟨fun b hb => (hr.r b hb).trans (cutR_ext ρ w b hb), hr.c.mono fun b hb ⟨q, e, hq⟩ => ⟨q, (cutR_ext ρ w b hb).symm.trans e, hq⟩⟩ hg
  generalize cutR ρ w = ρ at h hz k hcut
  refine L_adopt_agency_once _ _ _ _ ?_
  unfold S_adopt_agency_once
  have hll := hok.lls
  have hst := hok.lst
  refine ⟨trivial, Vl.fa (Vl.ld h.cl rfl ?_)⟩
  refine c_LLast h.hA h.hL hok.ls (by omega) fun w1 hE1 => ?_
  have sp := lastF_spec (name := name) hok.ls g.ls.length (Nat.le_refl _)
  unfold onceG at k
  simp only at k
  obtain ⟨la, hla⟩ : ∃ la, la = lastF g.m name g.ls g.ls.length := ⟨_, rfl⟩
  rw [← hla] at k sp ⊢
  refine Vl.extr (v := .int .i64 la.1) (Vl.extr (v := .bool la.2) (Vl.not (Cond_bool (fun h0 => ?_) (fun h0 => ?_))))
  · have h0 : la.2 = false := by simpa using h0
    rw [if_pos h0] at k
    exact k ρ w1 (RG.ext hE1) (h.ext hE1)
  have h0 : la.2 = true := by simpa using h0
  rw [if_neg (by rw [h0]; decide)] at k
  obtain ⟨f, hf, hfl, hfL, _⟩ := sp h0
  rw [hf] at k ⊢
  rw [Int.toNat_natCast] at k
  have hffl := findL_mem hfl
  have i1 := h.ext hE1
  refine ⟨trivial, Vl.fa (Vl.ld i1.cl rfl ?_)⟩
  refine c_All i1.hS (by omega) fun vo w2 hrow hE2 hnew => ?_
  have i2 := i1.ext hE2
  have hE02 := hE1.then hE2
  refine c_Index_ints hrow (by omega) ?_
  have hil := idx_lt f g.st 0
  refine Vl.lss (Cond_bool (fun h1 => ?_) (fun h1 => ?_))
  · have h1 := of_decide_eq_true h1
    rw [if_pos h1] at k
    refine ⟨trivial, Vl.fa (Vl.ld i2.cl rfl (c_LRemove i2.hL (by omega) fun w3 hC3 hL3 => ?_))⟩
    obtain ⟨i3, g3⟩ := i2.ofL (RExt.refl _ _) hC3 hL3
    exact k ρ w3 ((RG.ext hE02).then g3) i3
  have h1 := of_decide_eq_false h1
  rw [if_neg h1] at k
  obtain ⟨p, hp⟩ : ∃ p : Nat, idx f g.st 0 = p := ⟨(idx f g.st 0).toNat, by omega⟩
  rw [hp] at k ⊢
  rw [Int.toNat_natCast] at k
  obtain ⟨_, hpl, hpf⟩ := idx_take f g.st 0 p (by rw [hp, Nat.zero_add])
  refine Vl.add ?_
  have ep : (p : Int) + 1 = ((p + 1 : Nat) : Int) := by omega
  rw [ep]
  obtain ⟨oa, oc, rfl, hoa⟩ := hrow.val
  obtain ⟨gb, rfl⟩ := hoa (by omega)
  have hle := hrow.le
  have hgbn : w1.heap.size ≤ gb := hnew gb (blk_some (by omega))
  have hgb : ρ gb = none := hcut gb (by have := hE1.size; omega)
  have hgl : gb < w2.heap.size := hrow.lt gb (blk_some (by omega))
  refine Vl.i (run_slc (l := p + 1) (h := g.st.length) slB31 (.inr rfl) (.inl ⟨rfl, rfl⟩) (by omega) hle w2) ?_
  have hvb := hrow.viewDrop rfl (show p + 1 ≤ g.st.length by omega)
  have hzl := zs_len (g.st.drop (p + 1))
  obtain ⟨vb, hvbe⟩ : ∃ vb, vb = Value.slice (if oc = p + 1 then some (⟨gb, 0, none⟩ : Addr) else (some (⟨gb, 0, none⟩ : Addr)).map (·.add ((p + 1) * 1))) (g.st.length - (p + 1)) (oc - (p + 1)) := ⟨_, rfl⟩
  rw [← hvbe] at hvb ⊢
  have hvb : IView w2 vb (zs (g.st.drop (p + 1))) := by
    have e : ints (zs (g.st.drop (p + 1))) = (nats g.st).drop (p + 1) := by rw [ints_zs]; unfold nats; simp
    unfold IView
    rw [e]; exact hvb
  have hdl : (g.st.drop (p + 1)).length = g.st.length - (p + 1) := by simp
  have hlive : ∀ x ∈ g.st.drop (p + 1), Live g.m x := fun x hx => hok.st x (List.mem_of_mem_drop hx)
  -- the closure, asked of an element
  have ask : ∀ {kinds : Int} {b2 b3 : Nat} {wx : World}, Ext w wx → Cl wx b2 T_p_adopt_agency [.pointer (some ⟨G, 0, none⟩)] → Cl wx b3 T_int [.int .i64 kinds] → ∀ (x : Int) (w' : World) (K : Value → World → Prop), x ∈ zs (g.st.drop (p + 1)) → Ext wx w' → (∀ w'', Ext w' w'' → K (.bool (isG g kinds x.toNat)) w'') →
      Cv Tryd.prog (.func (.func 100) #[] #[.pointer (some ⟨b2, 0, none⟩), .pointer (some ⟨b3, 0, none⟩)]) #[.int .i64 x] w' K := fun {kinds b2 b3 wx} hE c2 c3 x w' K hx hE' hk => by
    obtain ⟨y, hy, rfl⟩ := List.mem_map.1 (show x ∈ (g.st.drop (p + 1)).map _ from hx)
    rw [Int.toNat_natCast] at hk
    exact Cv.fn (c_is_1 ((hG.ext hE).ext hE') ((h.ext hE).ext hE') (hlive y hy) (c2.ext hE') (c3.ext hE') hk)
  refine c_is fun w3 b2 b3 hE3 c2 c3 => ?_
  have hE03 := hE02.then hE3
  refine c_ContainsFunc (p := fun x => isG g 32 x.toNat) (hvb.ext hE3) (by omega) (ask hE03 c2 c3) fun w4 hE4 => ?_
  have hE04 := hE03.then hE4
  rw [any_zs (isG g 32)]
  refine Cond_bool (fun h2 => ?_) (fun h2 => ?_)
  · rw [if_pos h2] at k
    exact k ρ w4 (RG.ext hE04) (h.ext hE04)
  rw [if_neg (by rw [h2]; decide)] at k
  refine c_is fun w5 b4 b5 hE5 c4 c5 => ?_
  have hE05 := hE04.then hE5
  have hE25 := (hE3.then hE4).then hE5
  refine c_IndexFunc (p := fun x => isG g 16 x.toNat) (hvb.ext hE25) (by omega) (ask hE05 c4 c5) fun w6 hE6 => ?_
  have hE06 := hE05.then hE6
  have hE26 := hE25.then hE6
  rw [first_zs (isG g 16)]
  have i6 := h.ext hE06
  refine Vl.lss (Cond_bool (fun h3 => ?_) (fun h3 => ?_))
  · have h3 := of_decide_eq_true h3
    rw [if_pos h3] at k
    refine c_close hok (by omega) (by omega) i6 fun w7 g7 i7 => ?_
    refine ⟨trivial, Vl.fa (Vl.ld i7.cl rfl (c_LRemove i7.hL (by show g.ls.length ≤ _; omega) fun w8 hC8 hL8 => ?_))⟩
    obtain ⟨i8, g8⟩ := i7.ofL (RExt.refl _ _) hC8 hL8
    exact k ρ w8 (((RG.ext hE06).then g7).then g8) i8
  have h3 := of_decide_eq_false h3
  rw [if_neg h3] at k
  rcases findF_spec (isG g 16) (g.st.drop (p + 1)) 0 with ⟨h4, _⟩ | ⟨b, h4, hb, _⟩
  · rw [h4] at h3; exact absurd (by decide) h3
  rw [h4, Nat.zero_add] at k ⊢
  rw [Int.toNat_natCast] at k
  have hvbe' : vb = .slice (some ⟨gb, p + 1, none⟩) (g.st.length - (p + 1)) (oc - (p + 1)) := by
    rw [hvbe, if_neg (by omega)]
    show Value.slice (some ((⟨gb, 0, none⟩ : Addr).add ((p + 1) * 1))) _ _ = _
    rw [add_off, Nat.mul_one, Nat.zero_add]
  have hrow6 := hrow.ext hE26
  have hvb6 := hvb.ext hE26
  rw [hvbe'] at hvb6 ⊢
  refine ⟨fun a ds w' => a = [.int .i64 (commonG g p : Nat)] ∧ ds = [] ∧ w' = w6, ?_, ?_⟩
  · refine Vl.gtr (Cond_bool (fun h5 => ?_) (fun h5 => ?_))
    · have h5 : 0 < p := by have := of_decide_eq_true h5; omega
      refine Vl.sub ?_
      have e : (p : Int) - 1 = ((p - 1 : Nat) : Int) := by omega
      rw [e]
      refine rdRow hrow6 (i := p - 1) (by omega) ⟨?_, rfl, rfl⟩
      have ec : commonG g p = g.st[p - 1] := by
        unfold commonG
        rw [if_pos h5, List.getD_eq_getElem?_getD, List.getElem?_eq_getElem (by omega)]; rfl
      rw [ec]
    · have h5 : ¬ 0 < p := by have := of_decide_eq_false h5; omega
      refine ⟨?_, rfl, rfl⟩
      have ec : commonG g p = 0 := by unfold commonG; rw [if_neg h5]
      rw [ec]; rfl
  · rintro ga ds wx ⟨hga, rfl, rfl⟩
    have e12 : ga 12 = .int .i64 (commonG g p : Nat) := (List.cons.inj hga).1
    rw [e12]
    exact c_rest hok hs hc hpl hpf hffl hb i6 hvb6 (by omega) (by omega) hgb (by have := hE26.size; omega) fun ρ' w' hr hg => k ρ' w' ((RG.ext hE06).then hr) hg
end Go.Proofs
set_option linter.unusedVariables false
namespace Go.Proofs
open Go Go.Eng
variable {ρ ρ' : Roles} {j : Nat} {w w' : World} {G A S L : Nat} {g : GM}

theorem onceG_not {name : ByteArray} (h : (onceG g name).2.1 = false) (hl : LLive g.m g.ls) : ∃ f p b, ∃ hp : p < g.st.length, g.st[p] = f ∧ 0 ≤ findL g.ls f ∧ b < (g.st.drop (p + 1)).length ∧ onceG g name = (restG g f p b, false, true) := by
  unfold onceG at h ⊢
  simp only at h ⊢
  have sp := lastF_spec (name := name) hl g.ls.length (Nat.le_refl _)
  obtain ⟨la, hla⟩ : ∃ la, la = lastF g.m name g.ls g.ls.length := ⟨_, rfl⟩
  rw [← hla] at h sp ⊢
  by_cases h0 : la.2 = false
  · rw [if_pos h0] at h; cases h
  rw [if_neg h0] at h ⊢
  have h0 : la.2 = true := by simpa using h0
  obtain ⟨f, hf, hfl, hfL, _⟩ := sp h0
  rw [hf, Int.toNat_natCast] at h ⊢
  by_cases h1 : idx f g.st 0 < 0
  · rw [if_pos h1] at h; cases h
  rw [if_neg h1] at h ⊢
  have hil := idx_lt f g.st 0
  obtain ⟨p, hp⟩ : ∃ p : Nat, idx f g.st 0 = p := ⟨(idx f g.st 0).toNat, by omega⟩
  rw [hp, Int.toNat_natCast] at h ⊢
  obtain ⟨_, hpl, hpf⟩ := idx_take f g.st 0 p (by rw [hp, Nat.zero_add])
  by_cases h2 : (g.st.drop (p + 1)).any (isG g 32) = true
  · rw [if_pos h2] at h; cases h
  rw [if_neg h2] at h ⊢
  by_cases h3 : findF (isG g 16) (g.st.drop (p + 1)) 0 < 0
  · rw [if_pos h3] at h; cases h
  rw [if_neg h3] at h ⊢
  rcases findF_spec (isG g 16) (g.st.drop (p + 1)) 0 with ⟨h4, _⟩ | ⟨b, h4, hb, _⟩
  · rw [h4] at h3; exact absurd (by decide) h3
  rw [h4, Nat.zero_add, Int.toNat_natCast]
  exact ⟨f, p, b, hpl, hpf, findL_mem hfl, hb, rfl⟩
theorem GOk.bm0' {s c : Nat} (h : GOk s c g) : GOk s c { g with bm := 0 } := h.setB (Int.le_refl _) (by omega)
theorem GOk.rm0 {s c : Nat} (h : GOk s c g) (i : Nat) : GOk s c { g with ls := removeL g.ls i, bm := 0 } := (h.bm0').rmL rfl i
theorem GOk.once {s c : Nat} (h : GOk s c g) (name : ByteArray) : GOk s (c + s + 2) { (onceG g name).1 with bm := 0 } ∧ ((onceG g name).2.1 = false → GOk s (c + s + 2) (onceG g name).1) := by
  cases ha : (onceG g name).2.1 with
  | false =>
    obtain ⟨f, p, b, hp, hf, hfl, hb, e⟩ := onceG_not ha h.ls
    rw [e]
    have := (stages h hp hf hfl hb).o9
    rw [← restG_eq] at this
    exact ⟨this.bm0', fun _ => this⟩
  | true =>
    refine ⟨?_, fun h => by cases h⟩
    have hw : ∀ {g' : GM}, GOk s c g' → GOk s (c + s + 2) g' := fun h => h.wide (by omega)
    unfold onceG at ha ⊢
    simp only at ha ⊢
    split
    · exact hw h.bm0'
    · split
      · exact hw (h.rm0 _)
      · split
        · exact hw h.bm0'
        · split
          · exact hw ((h.close _).rm0 _)
          · rename_i q1 q2 q3 q4
            rw [if_neg q1, if_neg q2, if_neg q3, if_neg q4] at ha
            cases ha
theorem againLoop_succ (name : ByteArray) (n : Nat) (g : GM) : Go.Proofs.againLoop name (n + 1) g = if (onceG g name).2.1 = true then ((onceG g name).1, (onceG g name).2.2) else Go.Proofs.againLoop name n (onceG g name).1 := rfl
theorem GOk.againLoop {s : Nat} (name : ByteArray) : ∀ (n c : Nat) (g : GM), GOk s c g → GOk s (c + n * (s + 2)) { (againLoop name n g).1 with bm := 0 }
  | 0, c, g, h => by
    show GOk s (c + 0 * (s + 2)) { g with bm := 0 }
    rw [Nat.zero_mul, Nat.add_zero]; exact h.bm0'
  | n + 1, c, g, h => by
    obtain ⟨h1, h2⟩ := h.once name
    have e : c + (n + 1) * (s + 2) = c + s + 2 + n * (s + 2) := by rw [Nat.succ_mul]; omega
    unfold Go.Proofs.againLoop
    simp only
    split
    · exact h1.wide (by rw [e]; omega)
    · rename_i hn
      rw [e]
      exact GOk.againLoop name n (c + s + 2) _ (h2 (by simpa using hn))
theorem GOk.again {s c : Nat} (h : GOk s c g) (name : ByteArray) : GOk s (c + 8 * (s + 2)) { (againG g name).1 with bm := 0 } := by
  unfold againG
  split
  · have h' : GOk s c { g with st := g.st.take (g.st.length - 1), bm := 0 } := ⟨h.m, fun x hx => h.st x (List.mem_of_mem_take hx), h.nod.sublist (List.take_sublist _ _), h.ls, Nat.le_trans (List.take_sublist _ _).length_le h.lst, h.lls, Int.le_refl _, by show (0 : Int) ≤ _; omega⟩
    exact h'.wide (by omega)
  · exact GOk.againLoop name 8 c _ h.bm0'

set_option maxHeartbeats 1000000 in
theorem c_Again {s c : Nat} (hok : GOk s c g) (hs : s ≤ 10000) (hc : c ≤ 10000) (hA : AInv ρ j w A g.m) (hS : SInv ρ j w S A g.st) (hL : LInv ρ j w L A g.ls) (hG : Glob w) (hz : ρ 0 = none) {name : ByteArray} {K : Value → World → Prop}
    (k : ∀ ρ' w', RC ρ w ρ' w' → AInv ρ' j w' A (againG g name).1.m → SInv ρ' j w' S A (againG g name).1.st → LInv ρ' j w' L A (againG g name).1.ls → K (.bool (againG g name).2) w') :
    Cf Tryd.prog n_adopt_Again #[.pointer (some ⟨A, 0, none⟩), .pointer (some ⟨S, 0, none⟩), .pointer (some ⟨L, 0, none⟩), .string name] w K := by
  refine L_adopt_Again _ _ _ _ _ _ ?_
  unfold S_adopt_Again
  have hst := hok.lst
  have hll := hok.lls
  unfold againG at k
  refine ⟨fun a ds w' => a = [] ∧ ds = [] ∧ Ext w w' ∧ ¬ (decide (0 < topOf g.st) && (decide (nameAt g.m (topOf g.st) = name) && decide (findL g.ls (topOf g.st) < 0))) = true, ?_, ?_⟩
  · refine c_Top hS (by omega) fun w1 _ hE1 => Vl.gtr (Cond_bool (fun h0 => ?_) (fun h0 => ?_))
    · have h0 : 0 < topOf g.st := by have := of_decide_eq_true h0; omega
      have htm : topOf g.st ∈ g.st := by
        by_cases hl : 0 < g.st.length
        · rw [topOf_get hl]; exact List.getElem_mem _
        · have : g.st = [] := List.eq_nil_of_length_eq_zero (by omega)
          rw [this] at h0; exact absurd h0 (by decide)
      refine c_Name' (hA.ext hE1) (hok.st _ htm) fun w2 _ hE2 => Vl.seql (Cond_bool (fun h1 => ?_) (fun h1 => ?_))
      · have hE02 := hE1.then hE2
        refine c_LFind (hL.ext hE02) (by omega) (Vl.lss (Cond_bool (fun h2 => ?_) (fun h2 => ?_)))
        · rw [if_pos (by rw [decide_eq_true h0, h1, h2]; rfl)] at k
          refine c_Pop (hS.ext hE02) (by omega) (fun he => ?_) fun _ w3 hC3 hS3 => ?_
          · rw [he] at htm; cases htm
          · have hCs : Chg (StB j ρ) w w3 := (Ext.to hE02).then (hC3.mono fun b _ e => by
              obtain ⟨ov, hS'⟩ := hS
              have e : b = S := e
              exact .inl (e ▸ hS'.role))
            exact k ρ w3 (.of (RExt.refl _ _) hCs fun _ => StB.some) (hA.chgS (RExt.refl _ _) hCs) hS3 (hL.chg (RExt.refl _ _) hCs fun b hb e => not_Ls_St e hb)
        · exact ⟨rfl, rfl, hE02, by rw [h2]; simp⟩
      · exact ⟨rfl, rfl, hE1.then hE2, by rw [h1]; simp⟩
    · have h0 : ¬ 0 < topOf g.st := by have := of_decide_eq_false h0; omega
      exact ⟨rfl, rfl, hE1, by simp [h0]⟩
  · rintro ga ds w1 ⟨_, rfl, hE1, hn⟩
    rw [if_neg hn] at k
    refine Vl.i (v := .agg #[.pointer (some ⟨A, 0, none⟩), .pointer (some ⟨S, 0, none⟩), .pointer (some ⟨L, 0, none⟩), .int .i64 0]) (w' := w1) (by kernel_rfl) ?_
    refine Vl.box fun w2 h2 => ?_
    obtain ⟨G, hGe⟩ : ∃ G, G = w1.heap.size := ⟨_, rfl⟩
    rw [← hGe]
    have cG : Cl w2 G T_adopt_agency [.pointer (some ⟨A, 0, none⟩), .pointer (some ⟨S, 0, none⟩), .pointer (some ⟨L, 0, none⟩), .int .i64 0] := by rw [hGe]; exact h2.new
    have s1 := hE1.size
    have hE02 := hE1.then h2.ext
    have hR : RExt ρ (putR ρ w G (j, .agt)) w := putR_ext _ _ _ _
    have hrole : putR ρ w G (j, .agt) G = some (j, .agt) := putR_at _ _ _ _ (by omega)
    have hGI : GI (putR ρ w G (j, .agt)) j w2 G A S L { g with bm := 0 } :=
      ⟨hA.chg hR hE02 (fun _ _ => id) (fun _ _ => id), hS.chg hR hE02 (fun _ _ => id), hL.chg hR hE02 (fun _ _ => id), cG, hrole⟩
    have hz2 : putR ρ w G (j, .agt) 0 = none := (hR 0 hG.pos).trans hz
    have hrc2 : RC ρ w (putR ρ w G (j, .agt)) w2 := ⟨hR, Ext.to hE02⟩
    generalize putR ρ w G (j, .agt) = ρ2 at hGI hz2 hrc2
    obtain ⟨R, hRe⟩ : ∃ R, R = againLoop name 8 { g with bm := 0 } := ⟨_, rfl⟩
    rw [← hRe] at k
    refine ⟨fun a ds w' => ∃ (i : Nat) (ρ' : Roles) (g' : GM), a = [.int .i64 i] ∧ ds = [] ∧ i ≤ 8 ∧ RC ρ w ρ' w' ∧ GI ρ' j w' G A S L g' ∧ ρ' 0 = none ∧ GOk s (c + i * (s + 2)) g' ∧ R = againLoop name (8 - i) g',
      fun a _ => (8 - intAt a 0).toNat, ⟨0, ρ2, _, rfl, rfl, by omega, hrc2, hGI, hz2, by rw [Nat.zero_mul, Nat.add_zero]; exact hok.bm0', hRe⟩, ?_⟩
    rintro gb dsb wa ⟨i, ρa, g', hgb, rfl, hi, hrc, hg, hza, hok', hx⟩
    have e37 : gb 37 = .int .i64 i := (List.cons.inj hgb).1
    rw [e37]
    refine Vl.lss (Cond_bool (fun h0 => ?_) (fun h0 => ?_))
    · have h0 : i < 8 := by have := of_decide_eq_true h0; omega
      have e8 : 8 - i = (8 - (i + 1)) + 1 := by omega
      rw [e8] at hx
      have hci : c + i * (s + 2) ≤ 100000 := by
        have : i * (s + 2) ≤ 7 * (s + 2) := Nat.mul_le_mul_right _ (by omega)
        omega
      have hGa := hG.rc hz hrc
      refine c_once hok' (by omega) hci hg hGa hza fun ρb wb hgr hgb => ?_
      have hrcb := hrc.then hgr.rc
      rw [againLoop_succ] at hx
      refine Vl.extr (v := .bool (onceG g' name).2.1) (Vl.extr (v := .bool (onceG g' name).2.2) (Cond_bool (fun h1 => ?_) (fun h1 => ?_)))
      · rw [if_pos h1] at hx
        have := k ρb wb hrcb
        rw [hx] at this
        exact Lv.nil (this hgb.hA hgb.hS hgb.hL)
      · rw [if_neg (by rw [h1]; decide)] at hx
        refine Vl.add ⟨⟨i + 1, ρb, _, rfl, rfl, by omega, hrcb, hgb, rg_zero hgr hGa hza, ?_, hx⟩, ?_⟩
        · have e : c + (i + 1) * (s + 2) = c + i * (s + 2) + s + 2 := by rw [Nat.succ_mul]; omega
          rw [e]; exact (hok'.once name).2 h1
        · show ((8 : Int) - ((i : Int) + 1)).toNat < ((8 : Int) - (i : Int)).toNat; omega
    · have : i = 8 := by have := of_decide_eq_false h0; omega
      subst this
      have := k ρa wa hrc
      have e0 : againLoop name (8 - 8) g' = (g', true) := rfl
      rw [e0] at hx
      rw [hx] at this
      exact Lv.nil (this hg.hA hg.hS hg.hL)
end Go.Proofs
