/- Part of the proof of a law of this seat: facts that it uses, each proved here. No conditions. -/
import Derived.Test.YtcapooghkabloaaDoorK2
namespace Go.Eng
open Go
def bor (a b : Int) : Int := IntKind.i64.wrap ((BitVec.ofInt 64 a ||| BitVec.ofInt 64 b).toNat : Nat)
def band (a b : Int) : Int := IntKind.i64.wrap ((BitVec.ofInt 64 a &&& BitVec.ofInt 64 b).toNat : Nat)
def shl1 (i : Nat) : Int := IntKind.i64.wrap (1 * 2 ^ (min i 64))
section
variable {P : Program} {w : World} {T : Nat} {x y : Operand} {K : Value → World → Prop}
theorem bo_or {a b : Int} : (binop .or T x y (.int .i64 a) (.int .i64 b)).run P w = .ok (.int .i64 (bor a b)) w := rfl
theorem bo_and {a b : Int} : (binop .and T x y (.int .i64 a) (.int .i64 b)).run P w = .ok (.int .i64 (band a b)) w := rfl
theorem bo_shl {i : Nat} : (binop .shl T x y (.int .i64 1) (.int .i64 i)).run P w = .ok (.int .i64 (shl1 i)) w := by
  show (Op.shift .shl .i64 1 .i64 (i : Int)).run P w = _
  unfold Op.shift
  rw [if_neg (by omega)]
  rfl

/-- What is no block of deferred calls stays. -/
structure DefStep (w w' : World) : Prop where
  os : w'.os = w.os
  tape : w'.tape = w.tape
  output : w'.output = w.output
  size : w'.heap.size = w.heap.size
  same : ∀ b : Nat, (∀ c : Option (List Deferred), w.heap[b]? ≠ some (.deferred c)) → w'.heap[b]? = w.heap[b]?
theorem DefStep.refl (w : World) : DefStep w w := ⟨rfl, rfl, rfl, rfl, fun _ _ => rfl⟩
theorem Cl.defStep {w w' : World} {b T : Nat} {cs : List Value} (h : Cl w b T cs) (s : DefStep w w') : Cl w' b T cs :=
  (s.same b fun c e => by unfold Cl at h; rw [h] at e; cases e).trans h
theorem Mp.defStep {w w' : World} {b : Nat} {f : ByteArray → Option Int} (h : Mp w b f) (s : DefStep w w') : Mp w' b f := by
  obtain ⟨es, c, hb, hr⟩ := h
  exact ⟨es, c, (s.same b fun c e => by rw [hb] at e; cases e).trans hb, hr⟩
/-- The marks of a function's range statements, laid since w0. -/
def Marks (w0 : World) (ds : List Deferred) (w : World) : Prop :=
  ∃ Ds : List Nat, ds = Ds.map mark ∧ Ds.Nodup ∧ ∀ D ∈ Ds, w0.heap.size ≤ D ∧ w.heap[D]? = some (.deferred (some []))
theorem Marks.nil (w0 w : World) : Marks w0 [] w := ⟨[], rfl, List.nodup_nil, fun _ h => by cases h⟩
theorem Marks.cons {w0 : World} {ds : List Deferred} {w1 w2 : World} (h : Marks w0 ds w1) (hs : w0.heap.size ≤ w1.heap.size) (hk : ∀ b : Nat, w1.heap[b]? = some (.deferred (some [])) → w2.heap[b]? = some (.deferred (some [])))
    (hd : w2.heap[w1.heap.size]? = some (.deferred (some []))) : Marks w0 (mark w1.heap.size :: ds) w2 := by
  obtain ⟨Ds, rfl, hn, ha⟩ := h
  refine ⟨w1.heap.size :: Ds, rfl, List.nodup_cons.2 ⟨fun hm => ?_, hn⟩, fun D hD => ?_⟩
  · have := (Array.getElem?_eq_some_iff.1 (ha _ hm).2).1; omega
  · rcases List.mem_cons.1 hD with rfl | hD
    · exact ⟨hs, hd⟩
    · exact ⟨(ha D hD).1, hk D (ha D hD).2⟩
theorem Marks.keep {w0 : World} {ds : List Deferred} {w1 w2 : World} (h : Marks w0 ds w1) (hk : ∀ b : Nat, w1.heap[b]? = some (.deferred (some [])) → w2.heap[b]? = some (.deferred (some []))) : Marks w0 ds w2 := by
  obtain ⟨Ds, e, hn, ha⟩ := h
  exact ⟨Ds, e, hn, fun D hD => ⟨(ha D hD).1, hk D (ha D hD).2⟩⟩
theorem Lv.marks {w0 : World} {K : World → Prop} : ∀ {ds : List Deferred} {w : World}, Marks w0 ds w → (∀ w', DefStep w w' → Chg (fun k => w0.heap.size ≤ k) w w' → K w') → Lv ds w K := by
  intro ds w ⟨Ds, e, hn, ha⟩
  subst e
  induction Ds generalizing w with
  | nil => exact fun k => Lv.nil (k w (DefStep.refl w) (Chg.refl _ _))
  | cons D Ds ih =>
    intro k
    have hD := ha D (by simp)
    refine Lv.cons hD.2 fun w' hc hsz hsame => ih (List.nodup_cons.1 hn).2 (fun D' hD' => ?_) fun w2 hs2 hc2 => k w2 ?_ ?_
    · have hne : D' ≠ D := fun e => (List.nodup_cons.1 hn).1 (e ▸ hD')
      exact ⟨(ha D' (List.mem_cons_of_mem _ hD')).1, (hsame D' hne).trans (ha D' (List.mem_cons_of_mem _ hD')).2⟩
    · refine ⟨hs2.os.trans hc.os, hs2.tape.trans hc.tape, hs2.output.trans hc.output, hs2.size.trans hsz, fun b hb => ?_⟩
      have hne : b ≠ D := fun e => hb _ (e ▸ hD.2)
      rw [hs2.same b (fun c => by rw [hsame b hne]; exact hb c), hsame b hne]
    · exact (hc.trans hc2).mono fun x _ e => e.elim (fun h => h ▸ hD.1) id
end
end Go.Eng
namespace Go.Proofs
open Go Go.Eng

def kstep (i : Nat) (x : ByteArray) (acc : Int) (wd : ByteArray) : Int := if x = wd then bor acc (shl1 i) else acc
def kacc : Nat → ByteArray → Int
  | 0, _ => 0
  | n + 1, x => (words (klist.getD n ⟨#[]⟩)).foldl (kstep n x) (kacc n x)

theorem c_strings_FieldsSeq {w : World} {s : ByteArray} {K : Value → World → Prop} (k : ∀ w', Nw w w' (.cells [Value.string s].toArray 9) → K (.func (.func n_strings_FieldsSeq_1) #[] #[.pointer (some ⟨w.heap.size, 0, none⟩)]) w') :
    Cf Tryd.prog n_strings_FieldsSeq #[.string s] w K := by
  refine L_strings_FieldsSeq _ _ _ ?_
  unfold S_strings_FieldsSeq
  exact Vl.box1 trivial fun w1 h1 => Vl.i (w' := w1) rfl (k w1 h1)

theorem klist_ascii : ∀ s ∈ klist, ascii s ∧ s.size < 1000000000 := by
  have : ∀ s ∈ klist, (s.data.all fun c => decide (c.toNat < 128)) = true ∧ decide (s.size < 1000000000) = true := by decide +kernel
  intro s hs
  obtain ⟨h1, h2⟩ := this s hs
  refine ⟨fun i hi => ?_, of_decide_eq_true h2⟩
  have := (Array.all_eq_true.1 h1) i hi
  exact of_decide_eq_true this

theorem c_kind_kinds {w : World} {K : Value → World → Prop} (hG : Glob w)
    (k : ∀ w' b f, Ext w w' → w.heap.size ≤ b → Mp w' b f → (∀ x, (f x).getD 0 = kacc 10 x) → K (.map (some b)) w') : Cf Tryd.prog n_kind_kinds #[] w K := by
  refine L_kind_kinds _ _ ?_
  unfold S_kind_kinds
  refine Vl.i (v := .map (some w.heap.size)) (w' := w.alloc (.map #[] 0)) rfl ?_
  have hn0 := nw_alloc w (.map #[] 0)
  generalize w.alloc (.map #[] 0) = w0 at hn0
  have hM0 : Mp w0 w.heap.size (fun _ => none) := ⟨#[], 0, hn0.new, fun e he => by simp at he, fun s => rfl⟩
  refine Vl.alloc (z := .map none) (by intro w; kernel_rfl) fun w1 h1 => ?_
  have hc1 : Cl w1 w0.heap.size 122 [.map none] := h1.new
  refine Ef.set hc1 (by simp) fun w2 h2 => ?_
  have hs0 : w0.heap.size = w.heap.size + 1 := hn0.size
  have hc2 : Cl w2 w0.heap.size 122 [.map (some w.heap.size)] := h2.cl
  have hM2 : Mp w2 w.heap.size (fun _ => none) := (hM0.ext h1.ext).chg h2.chg (by omega)
  have hE2 : Ext w w2 := Chg.newer (hn0.ext.then h1.ext) h2.chg fun x hx e => by omega
  refine c_kind_lists fun w3 h3 => ?_
  refine ⟨fun a ds w' => ∃ (i : Nat) (f : ByteArray → Option Int), a = [.int .i64 i] ∧ i ≤ 10 ∧ Cl w' w0.heap.size 122 [.map (some w.heap.size)] ∧ Mp w' w.heap.size f ∧ (∀ x, (f x).getD 0 = kacc i x) ∧ Ext w w' ∧ Marks w ds w',
    fun a _ => (10 - intAt a 0).toNat, ⟨0, _, rfl, by omega, hc2.ext h3, hM2.ext h3, fun x => rfl, hE2.then h3, Marks.nil _ _⟩, ?_⟩
  rintro g ds wa ⟨i, f, ha, hi, hc, hM, hf, hE, hMk⟩
  have e7 : g 7 = .int .i64 i := by injection ha
  rw [e7]
  refine Vl.lss (Cond_bool (fun h => ?_) (fun h => ?_))
  · have hlt : i < 10 := by have := of_decide_eq_true h; omega
    have hG' := hG.ext hE
    -- the list of this kind
    refine Vl.ixV 10 (v := .string (klist.getD i ⟨#[]⟩)) hlt ?_ ?_
    · have : i < klist.length := hlt
      simp [List.getD, List.getElem?_eq_getElem this]
    have hin : klist.getD i ⟨#[]⟩ ∈ klist := by
      have : i < klist.length := hlt
      simp [List.getD, List.getElem?_eq_getElem this]
    obtain ⟨hasc, hsz⟩ := klist_ascii _ hin
    have hka : kacc (i + 1) = fun x => (words (klist.getD i ⟨#[]⟩)).foldl (kstep i x) (kacc i x) := rfl
    generalize klist.getD i ⟨#[]⟩ = s at *
    refine Vl.alloc (z := .int .i64 0) (by intro w; kernel_rfl) fun wb hb => ?_
    have hcb : Cl wb wa.heap.size 3 [.int .i64 0] := hb.new
    refine Ef.set hcb (by simp) fun wc hwc => ?_
    have hEc : Ext wa wc := Chg.newer hb.ext hwc.chg fun x hx e => by omega
    refine c_strings_FieldsSeq fun wd hwd => ?_
    have hEd := hEc.then hwd.ext
    have hcd : Cl wd wa.heap.size 3 [.int .i64 i] := Cl.nw hwc.cl hwd
    have hcx : Cl wd wc.heap.size 9 [.string s] := hwd.cl
    have hltm := hM.lt
    have hltc := hc.lt
    have hszd : wd.heap.size = wa.heap.size + 2 := by rw [hwd.size, hwc.size, hb.size]
    have hszc : wc.heap.size = wa.heap.size + 1 := by rw [hwc.size, hb.size]
    have hwsz := hE.size
    refine Rf.iter (iter_FieldsSeq_1 hasc hsz) (by intro x hx; obtain ⟨y, _, rfl⟩ := List.mem_map.1 hx; rfl)
      (fun k w' => Cl w' w0.heap.size 122 [.map (some w.heap.size)] ∧ Cl w' wa.heap.size 3 [.int .i64 i] ∧ Cl w' wc.heap.size 9 [.string s] ∧ Ext w w' ∧ wd.heap.size + 2 ≤ w'.heap.size ∧
        (∀ b : Nat, wd.heap[b]? = some (.deferred (some [])) → w'.heap[b]? = some (.deferred (some []))) ∧
        ∃ f', Mp w' w.heap.size f' ∧ ∀ x, (f' x).getD 0 = ((words s).take k).foldl (kstep i x) (kacc i x))
      (fun _ _ => False) ?_ (fun _ _ _ h _ => h) ?_ ?_ ?_ ?_ (fun _ h => h.elim) (fun _ _ h => h.elim)
    · rintro k w1 w2 ⟨q1, q2, q3, q4, q5, q6, f', q7, q8⟩ hls
      refine ⟨q1.loopStep hls, q2.loopStep hls, q3.loopStep hls, Chg.newer q4 hls.chg fun x hx e => by omega, by rw [hls.size]; exact q5, fun b hb => ?_, f', q7.loopStep hls, q8⟩
      rw [hls.same b fun e => by
        have := (Array.getElem?_eq_some_iff.1 hb).1; omega]
      exact q6 b hb
    · rintro k w1 ⟨_, _, q3, q4, _⟩
      exact ⟨q3, hG.ext q4⟩
    · rintro w1 h1 hs1
      exact ⟨(hc.ext hEd).ext h1, hcd.ext h1, hcx.ext h1, (hE.then hEd).then h1, by omega, fun b hb => (h1.same b (Array.getElem?_eq_some_iff.1 hb).1 id).trans hb, f, (hM.ext hEd).ext h1, fun x => by rw [hf]; rfl⟩
    · rintro k hk w1 Bg Kn Kr Kx wz ⟨q1, q2, q3, q4, q5, q6, f', q7, q8⟩ hd hl hn _ _ hB
      refine hB _ ?_
      have hk' : k < (words s).length := by simpa using hk
      refine ⟨fun x => x.heap = w1.heap, rfl, ?_⟩
      have hsame : ∀ x : World, x.heap = w1.heap → Ext w1 { w1 with heap := x.heap } := fun x hx => by rw [hx]; exact Chg.refl _ _
      have hcl : ∀ {b T cs}, Cl w1 b T cs → ∀ x : World, x.heap = w1.heap → Cl x b T cs := fun h x hx => by unfold Cl at *; rw [hx]; exact h
      refine VQ.ld (v := .map (some w.heap.size)) (fun x hx => (hcl q1 x hx).cell rfl) ?_
      have ea : (fun i => (((words s).map fun x => #[Value.string x])[k]).toList.getD i undef) 0 = .string ((words s)[k]) := by simp
      rw [ea]
      refine VQ.lookM (fun x hx => q7.same hx) ?_
      refine VQ.ld (v := .int .i64 i) (fun x hx => (hcl q2 x hx).cell rfl) ?_
      refine Pv.i (fun _ => bo_shl) (Pv.i (fun _ => bo_or) ?_)
      refine Ef.updM (q7.same (dr_heap w1)) fun w2 hch hsz2 hsame2 hM2 => ⟨fun _ => True, trivial, ?_⟩
      have hch' : Chg (· = w.heap.size) w1 w2 := (dr_ext w1).trans hch |>.mono fun x _ e => e.elim False.elim id
      refine hn w2 ⟨q1.chg hch' (by omega), q2.chg hch' (by omega), q3.chg hch' (by omega), Chg.newer q4 hch' fun x hx e => by omega, by rw [hsz2]; exact q5, fun b hb => ?_, _, hM2, fun x => ?_⟩ (hch'.keep (by omega) (fun e => by have e : wd.heap.size = w.heap.size := e; omega) (fun e => by have e : wd.heap.size + 1 = w.heap.size := e; omega))
      · refine (hsame2 b fun e => ?_).trans (q6 b hb)
        obtain ⟨es, c, hmp, _⟩ := hM.ext hEd
        rw [e, hmp] at hb; cases hb
      · show (if x = (words s)[k] then some (bor ((f' (words s)[k]).getD 0) (shl1 i)) else f' x).getD 0 = _
        rw [List.take_succ_eq_append_getElem hk', List.foldl_append]
        simp only [List.foldl_cons, List.foldl_nil]
        rw [← q8 x]
        unfold kstep
        split
        · rename_i h; rw [h]; rfl
        · rfl
    · rintro w2 ⟨q1, q2, q3, q4, q5, q6, f', q7, q8⟩ hd
      refine Vl.add ⟨⟨i + 1, f', rfl, by omega, q1, q7, fun x => ?_, q4, ?_⟩, ?_⟩
      · rw [q8 x, hka]; simp
      · refine Marks.cons (hMk.keep fun b hb => (hEd.same b (Array.getElem?_eq_some_iff.1 hb).1 id).trans hb) (by omega) q6 hd
      · show ((10 : Int) - ((i : Int) + 1)).toNat < ((10 : Int) - (i : Int)).toNat; omega
  · have : i = 10 := by have := of_decide_eq_false h; omega
    subst this
    refine Vl.ld hc rfl (Lv.marks hMk fun w' hs hch => k w' w.heap.size f (Chg.newer hE hch fun x hx e => by omega) (Nat.le_refl _) (hM.defStep hs) hf)

theorem c_kind_table {w : World} {K : Value → World → Prop} (hG : Glob w)
    (k : ∀ w' b f, Ext w w' → w.heap.size ≤ b → Mp w' b f → (∀ x, (f x).getD 0 = kacc 10 x) → K (.map (some b)) w') : Cf Tryd.prog n_kind_table #[] w K := by
  refine L_kind_table _ _ ?_
  unfold S_kind_table
  exact c_kind_kinds hG k

/-- Is a name of one of some kinds? -/
def isKind (name : ByteArray) (kinds : Int) : Bool := !decide (band (band (kacc 10 name) kinds) 1023 = 0)
theorem c_kind_Is {w : World} {name : ByteArray} {kinds : Int} {K : Value → World → Prop} (hG : Glob w) (k : ∀ w', Ext w w' → K (.bool (isKind name kinds)) w') :
    Cf Tryd.prog n_kind_Is #[.string name, .int .i64 kinds] w K := by
  refine L_kind_Is _ _ _ _ ?_
  unfold S_kind_Is
  refine c_kind_table hG fun w' b f hE _ hM hf => Vl.lookM hM (Vl.i bo_and (Vl.i bo_and (Vl.neq ?_)))
  rw [hf]
  exact k w' hE
end Go.Proofs
