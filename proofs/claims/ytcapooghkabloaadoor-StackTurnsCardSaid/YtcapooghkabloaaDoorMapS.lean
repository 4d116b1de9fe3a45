/- Part of the proof of a law of this seat: facts that it uses, each proved here. No conditions. -/
import Derived.Test.YtcapooghkabloaaDoorStep
namespace Go.Eng
open Go

theorem ba_beq (a b : ByteArray) : (a == b) = decide (a = b) := by
  by_cases h : a = b
  · subst h
    rw [decide_eq_true rfl]
    cases a with | mk d => 
    show (d == d) = true
    simp
  · rw [decide_eq_false h]
    cases a with | mk d => 
    cases b with | mk e => 
    show (d == e) = false
    have : d ≠ e := fun x => h (by rw [x])
    simpa using this

/-! ### Maps from texts to ints -/
def lookE (s : ByteArray) : List MapEntry → Option Int
  | [] => none
  | e :: es => match e.key, e.val with
    | .string k, .int .i64 n => if s = k then some n else lookE s es
    | _, _ => none
def goodE (e : MapEntry) : Prop := ∃ k n, e.key = .string k ∧ e.val = .int .i64 n
/-- Block b is a map that has these. -/
def Mp (w : World) (b : Nat) (f : ByteArray → Option Int) : Prop :=
  ∃ es clock, w.heap[b]? = some (.map es clock) ∧ (∀ e ∈ es.toList, goodE e) ∧ ∀ s, lookE s es.toList = f s
theorem Mp.lt {w : World} {b : Nat} {f : ByteArray → Option Int} (h : Mp w b f) : b < w.heap.size := by
  obtain ⟨es, c, h, _⟩ := h; exact (Array.getElem?_eq_some_iff.1 h).1
theorem Mp.chg {w w' : World} {S : Nat → Prop} {b : Nat} {f : ByteArray → Option Int} (h : Mp w b f) (c : Chg S w w') (hn : ¬ S b) : Mp w' b f := by
  obtain ⟨es, cl, hb, hr⟩ := id h
  exact ⟨es, cl, (c.same b h.lt hn).trans hb, hr⟩
theorem Mp.ext {w w' : World} {b : Nat} {f : ByteArray → Option Int} (h : Mp w b f) (c : Ext w w') : Mp w' b f := h.chg c id
theorem Mp.loopStep {l : Nat} {w1 w2 : World} {b : Nat} {f : ByteArray → Option Int} (h : Mp w1 b f) (s : LoopStep l w1 w2) : Mp w2 b f := by
  refine h.chg s.chg fun e => ?_
  subst e
  obtain ⟨r, hr⟩ := s.loop
  obtain ⟨es, c, h, _⟩ := h
  rw [h] at hr; cases hr
theorem Mp.same {w w' : World} {b : Nat} {f : ByteArray → Option Int} (h : Mp w b f) (e : w'.heap = w.heap) : Mp w' b f := by
  unfold Mp at *; rw [e]; exact h

def mapT (P : Program) (T : Nat) : Bool := match P.underlying T with
  | some (.map k e) => (match P.underlying k with | some .string => true | _ => false) && (match P.info? e with
    | some i => (match i.zero with | some (.int .i64 z) => decide (z = 0) | _ => false)
    | none => false)
  | _ => false

section
variable {P : Program} {w : World} {K : Value → World → Prop} {T : Nat}

theorem mapT_out (h : mapT P T = true) : ∃ k e, (∀ w, (underlying T).run P w = .ok (.map k e) w) ∧ (∀ w, (underlying k).run P w = .ok .string w) ∧ ∀ w, (zeroValue e).run P w = .ok (.int .i64 0) w := by
  unfold mapT at h
  split at h
  · rename_i k e hu
    simp only [Bool.and_eq_true] at h
    obtain ⟨h1, h2⟩ := h
    refine ⟨k, e, run_underlying' hu, ?_, ?_⟩
    · split at h1
      · rename_i hk; exact run_underlying' hk
      · cases h1
    · split at h2
      · rename_i i hi
        split at h2
        · rename_i z hz
          intro w
          have hz0 : z = 0 := by simpa using h2
          subst hz0
          unfold zeroValue typeInfo program
          simp [Sem.run_bind, Sem.run, hi, Result.andThen, hz]
        · cases h2
      · cases h2
  · cases h

theorem run_checkKey {k : Nat} {e : Bool} {s : ByteArray} (hk : ∀ w, (underlying k).run P w = .ok .string w) (w : World) : (Instr.checkKey e 10000 k (.string s)).run P w = .ok () w := by
  show (Instr.checkKey e (9999 + 1) k (.string s)).run P w = _
  unfold Instr.checkKey
  rw [Sem.run_bind, hk]; rfl

theorem findNow_look (s : ByteArray) : ∀ (es : List MapEntry) (i : Nat), (∀ e ∈ es, goodE e) →
    ∃ r, Instr.findNow .string (.string s) es i = some r ∧ (match r with
      | none => lookE s es = none
      | some (j, v) => ∃ n, v = .int .i64 n ∧ lookE s es = some n ∧ i ≤ j ∧ j < i + es.length ∧ (∃ e, es[j - i]? = some e ∧ e.key = .string s) ∧ ∀ e' ∈ es.take (j - i), e'.key ≠ .string s)
  | [], i, _ => ⟨none, rfl, rfl⟩
  | e :: es, i, h => by
    obtain ⟨k, n, hk, hv⟩ := h e (by simp)
    obtain ⟨r, hr, hs⟩ := findNow_look s es (i + 1) fun e he => h e (List.mem_cons_of_mem _ he)
    unfold Instr.findNow lookE
    rw [hk, hv]
    by_cases hsk : s = k
    · have e1 : Instr.sameNow .string (.string s) (.string k) = some true := by simp [Instr.sameNow, ba_beq, hsk]
      rw [e1]
      refine ⟨some (i, .int .i64 n), rfl, n, rfl, by simp [hsk], Nat.le_refl _, by simp, ⟨e, by simp, by rw [hk, hsk]⟩, by simp⟩
    · have e1 : Instr.sameNow .string (.string s) (.string k) = some false := by simp [Instr.sameNow, ba_beq, hsk]
      rw [e1]
      refine ⟨r, hr, ?_⟩
      simp only [if_neg hsk]
      cases r with
      | none => exact hs
      | some p =>
        obtain ⟨j, v⟩ := p
        obtain ⟨m, h1, h2, h3, h4, ⟨e', h5, h6⟩, h7⟩ := hs
        have hj : j - i = (j - (i + 1)) + 1 := by omega
        refine ⟨m, h1, h2, by omega, by simp; omega, ⟨e', by rw [hj]; simpa using h5, h6⟩, ?_⟩
        rw [hj, List.take_succ_cons]
        intro e'' he
        rcases List.mem_cons.1 he with rfl | he
        · rw [hk]; intro h; injection h with h; exact hsk h.symm
        · exact h7 _ he

theorem run_lookupM {f : ByteArray → Option Int} {b : Nat} {s : ByteArray} (h : Mp w b f) (hT : mapT P T = true) : (Instr.lookup T (.map (some b)) (.string s) false).run P w = .ok (.int .i64 ((f s).getD 0)) w := by
  obtain ⟨es, c, hb, hg, hf⟩ := h
  obtain ⟨k, e, h1, h2, h3⟩ := mapT_out hT
  obtain ⟨r, hr, hs⟩ := findNow_look s es.toList 0 hg
  have hobj : (getObj b).run P w = .ok (.map es c) w := by unfold getObj; simp [Sem.run, hb]
  have hfk : (Instr.findKey k (.string s) es.toList).run P w = .ok r w := by
    unfold Instr.findKey
    rw [Sem.run_bind, h2]; simp only [Result.andThen, hr]; rfl
  unfold Instr.lookup
  simp only [Sem.run_bind, h1, Result.andThen, hobj, Sem.run_pure, run_checkKey h2, hfk]
  cases r with
  | none =>
    simp only [Sem.run_bind, h3, Result.andThen, Sem.run_pure]
    rw [← hf s, hs]; rfl
  | some p =>
    obtain ⟨j, v⟩ := p
    obtain ⟨n, rfl, h5, _⟩ := hs
    rw [← hf s, h5]; rfl
theorem Vl.lookM {f : ByteArray → Option Int} {b : Nat} {s : ByteArray} (h : Mp w b f) (k : K (.int .i64 ((f s).getD 0)) w) (hT : mapT P T = true := by kernel_rfl) : Vl P (Instr.lookup T (.map (some b)) (.string s) false) w K := Vl.i (run_lookupM h hT) k
theorem VQ.lookM {S : World → Prop} {K : Value → Prop} {f : ByteArray → Option Int} {b : Nat} {s : ByteArray} (h : ∀ w, S w → Mp w b f) (k : K (.int .i64 ((f s).getD 0))) (hT : mapT P T = true := by kernel_rfl) :
    ValQ P S (Instr.lookup T (.map (some b)) (.string s) false) K := VQ.i (fun _ hw => run_lookupM (h _ hw) hT) k

theorem lookE_push {s x : ByteArray} {n : Int} {c : Nat} : ∀ (es : List MapEntry), (∀ e ∈ es, goodE e) → lookE s es = none → lookE x (es ++ [{ key := .string s, val := .int .i64 n, born := c }]) = if x = s then some n else lookE x es
  | [], _, _ => rfl
  | e :: es, h, hn => by
    obtain ⟨k, m, hk, hv⟩ := h e (by simp)
    have ih := lookE_push (s := s) (x := x) (n := n) (c := c) es (fun e he => h e (List.mem_cons_of_mem _ he))
    unfold lookE at hn
    rw [hk, hv] at hn
    simp only at hn
    by_cases hsk : s = k
    · rw [if_pos hsk] at hn; cases hn
    · rw [if_neg hsk] at hn
      rw [List.cons_append]
      unfold lookE
      rw [hk, hv]
      simp only
      rw [ih hn]
      by_cases hx : x = k
      · rw [if_pos hx, if_neg (fun e => hsk (e.symm.trans hx)), if_pos hx]
      · rw [if_neg hx, if_neg hx]
theorem lookE_modify {s x : ByteArray} {n : Int} : ∀ (es : List MapEntry) (j : Nat), (∀ e ∈ es, goodE e) → (∃ e, es[j]? = some e ∧ e.key = .string s) → (∀ e ∈ es.take j, e.key ≠ .string s) →
    lookE x (es.modify j fun e => { e with key := .string s, val := .int .i64 n }) = if x = s then some n else lookE x es
  | [], j, _, h, _ => by obtain ⟨e, h, _⟩ := h; simp at h
  | e :: es, 0, h, he, _ => by
    obtain ⟨e', h1, h2⟩ := he
    have : e' = e := by simpa using h1.symm
    subst this
    obtain ⟨k, m, hk, hv⟩ := h e' (by simp)
    rw [hk] at h2; injection h2 with h2; subst h2
    rw [List.modify_zero_cons]
    unfold lookE
    rw [hk, hv]
    simp only
    by_cases hx : x = k
    · rw [if_pos hx, if_pos hx]
    · rw [if_neg hx, if_neg hx, if_neg hx]
  | e :: es, j + 1, h, he, hn => by
    obtain ⟨k, m, hk, hv⟩ := h e (by simp)
    have hks : k ≠ s := fun e' => hn e (by simp) (by rw [hk, e'])
    have ih := lookE_modify (s := s) (x := x) (n := n) es j (fun e he => h e (List.mem_cons_of_mem _ he)) (by simpa using he) (fun e he => hn e (by rw [List.take_succ_cons]; exact List.mem_cons_of_mem _ he))
    rw [List.modify_succ_cons]
    unfold lookE
    rw [hk, hv]
    simp only
    rw [ih]
    by_cases hx : x = k
    · rw [if_pos hx, if_pos hx, if_neg (fun e => hks (hx.symm.trans e))]
    · rw [if_neg hx, if_neg hx]

theorem Ef.updM {f : ByteArray → Option Int} {b : Nat} {s : ByteArray} {n : Int} {K : World → Prop} (h : Mp w b f) (k : ∀ w', Chg (· = b) w w' → w'.heap.size = w.heap.size → (∀ x, x ≠ b → w'.heap[x]? = w.heap[x]?) → Mp w' b (fun x => if x = s then some n else f x) → K w')
    (hT : mapT P T = true := by kernel_rfl) : Ef P (Instr.mapUpdate T (.map (some b)) (.string s) (.int .i64 n)) w K := by
  obtain ⟨es, c, hb, hg, hf⟩ := h
  obtain ⟨kt, e, h1, h2, h3⟩ := mapT_out hT
  obtain ⟨r, hr, hs⟩ := findNow_look s es.toList 0 hg
  have hlt : b < w.heap.size := (Array.getElem?_eq_some_iff.1 hb).1
  have hobj : (getObj b).run P w = .ok (.map es c) w := by unfold getObj; simp [Sem.run, hb]
  have hfk : (Instr.findKey kt (.string s) es.toList).run P w = .ok r w := by
    unfold Instr.findKey
    rw [Sem.run_bind, h2]; simp only [Result.andThen, hr]; rfl
  have hset : ∀ o, (setObj b o).run P w = .ok () (w.putObj b o) := fun o => by unfold setObj; simp [Sem.run, hb, World.putObj]
  have fin : ∀ es' c', (∀ e ∈ es'.toList, goodE e) → (∀ x, lookE x es'.toList = if x = s then some n else f x) → K (w.putObj b (.map es' c')) := fun es' c' h1 h2 =>
    k _ ⟨rfl, rfl, rfl, by simp, fun x _ hx => World.putObj_heap_other hx⟩ (by simp) (fun x hx => World.putObj_heap_other hx) ⟨es', c', World.putObj_heap_same hlt, h1, h2⟩
  unfold Ef Eff
  unfold Instr.mapUpdate
  simp only [Sem.run_bind, h1, Result.andThen, hobj, run_checkKey h2, hfk]
  cases r with
  | none =>
    simp only [hset]
    refine ⟨_, rfl, fin _ _ ?_ ?_⟩
    · intro e he
      simp only [Array.toList_push, List.mem_append, List.mem_singleton] at he
      rcases he with he | rfl
      · exact hg e he
      · exact ⟨s, n, rfl, rfl⟩
    · intro x
      rw [Array.toList_push, lookE_push es.toList hg hs, hf]
  | some p =>
    obtain ⟨j, v⟩ := p
    obtain ⟨m, rfl, h5, h6, h7, ⟨e', h8, h9⟩, h10⟩ := hs
    have hj : es[j]? = some e' := by simpa using h8
    have hks : (Instr.keyThatStays (((es[j]?).map (·.key)).getD (.string s)) (.string s)).run P w = .ok (.string s) w := by
      rw [hj]
      unfold Instr.keyThatStays
      have : Instr.sameBits 10000 (.string s) (.string s) = true := by show Instr.sameBits (9999 + 1) _ _ = true; simp [Instr.sameBits, ba_beq]
      simp only [Option.map_some, Option.getD_some, h9, this, if_true]; rfl
    simp only [Sem.run_bind, hks, Result.andThen, hset]
    refine ⟨_, rfl, fin _ _ ?_ ?_⟩
    · intro e he
      rw [Array.toList_modify] at he
      obtain ⟨i, hi⟩ := List.mem_iff_getElem?.1 he
      rw [List.getElem?_modify] at hi
      split at hi
      · cases hx : es.toList[i]? with
        | none => rw [hx] at hi; cases hi
        | some y => rw [hx] at hi; cases hi; exact ⟨s, n, rfl, rfl⟩
      · have hi : es.toList[i]? = some e := by simpa using hi
        exact hg e (List.mem_of_getElem? hi)
    · intro x
      rw [Array.toList_modify, lookE_modify es.toList j hg ⟨e', by simpa using h8, h9⟩ (by simpa using h10), hf]
end
end Go.Eng
