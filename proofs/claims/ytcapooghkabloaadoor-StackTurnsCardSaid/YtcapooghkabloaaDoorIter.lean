/- Part of the proof of a law of this seat: facts that it uses, each proved here. No conditions. -/
import Derived.Test.YtcapooghkabloaaDoorMem
namespace Go.Eng
open Go

/-! ### Iterators that write nothing -/
/-- The function gf, with what it captured, calls yield with each of xs, in order, as long as it answers true; Pre is what it reads. -/
def Iter (P : Program) (gf : Nat) (lb : Array Value) (xs : List (Array Value)) (Pre : World → Prop) : Prop :=
  ∀ (l : Nat) (J : Nat → World → Prop) (Jx : World → Prop) (w : World), J 0 w → (∀ k w, J k w → Pre w) →
    (∀ k (hk : k < xs.length) w, J k w → YieldC P l xs[k] (fun v w' => (v = .bool true ∧ J (k + 1) w') ∨ (v = .bool false ∧ Jx w')) w) →
    CallE P gf (#[.func (.yield l) #[] #[]] ++ lb) (fun _ w' => J xs.length w' ∨ Jx w') w

/-- A loop's record (block l) turned, and nothing else. -/
structure LoopStep (l : Nat) (w1 w2 : World) : Prop where
  os : w2.os = w1.os
  tape : w2.tape = w1.tape
  output : w2.output = w1.output
  size : w2.heap.size = w1.heap.size
  same : ∀ b, b ≠ l → w2.heap[b]? = w1.heap[b]?
  loop : ∃ r, w1.heap[l]? = some (.loop r)
theorem LoopStep.chg {l : Nat} {w1 w2 : World} (h : LoopStep l w1 w2) : Chg (· = l) w1 w2 := ⟨h.os, h.tape, h.output, Nat.le_of_eq h.size.symm, fun k _ hn => h.same k hn⟩
theorem Cl.loopStep {l : Nat} {w1 w2 : World} {b T : Nat} {cs : List Value} (h : Cl w1 b T cs) (s : LoopStep l w1 w2) : Cl w2 b T cs := by
  refine h.chg s.chg fun e => ?_
  subst e
  obtain ⟨r, hr⟩ := s.loop
  unfold Cl at h
  rw [h] at hr; cases hr
theorem loopStep_put {l : Nat} {w : World} {r : Loop} (r' : Loop) (h : w.heap[l]? = some (.loop r)) : LoopStep l w (w.putObj l (.loop r')) :=
  ⟨rfl, rfl, rfl, by simp, fun b hb => World.putObj_heap_other hb, r, h⟩
/-- The two blocks of a range statement. -/
structure Keep (D : Nat) (w1 w2 : World) : Prop where
  d : w2.heap[D]? = w1.heap[D]?
  l : w2.heap[D + 1]? = w1.heap[D + 1]?
theorem Chg.keep {S : Nat → Prop} {w1 w2 : World} {D : Nat} (h : Chg S w1 w2) (hD : D + 1 < w1.heap.size) (h0 : ¬ S D) (h1 : ¬ S (D + 1)) : Keep D w1 w2 :=
  ⟨h.same D (by omega) h0, h.same (D + 1) hD h1⟩
abbrev mark (D : Nat) : Deferred := { target := .collected D, args := #[] }

theorem Rf.iter {P : Program} {np gf : Nat} {lb : Array Value} {xs : List (Array Value)} {Pre : World → Prop} (hit : Iter P gf lb xs Pre) (hnp : ∀ x ∈ xs, x.size = np)
    {ds : List Deferred} {w : World} {B : (Nat → Value) → ((World → Prop) → World → Prop) → (World → Prop) → (World → Prop) → (Nat → World → Prop) → World → Prop}
    {Kn Kr : List Deferred → World → Prop} {Kx : Nat → List Deferred → World → Prop}
    (I : Nat → World → Prop) (X : Option Nat → World → Prop)
    (hI : ∀ k w1 w2, I k w1 → LoopStep (w.heap.size + 1) w1 w2 → I k w2) (hX : ∀ k w1 w2, X k w1 → LoopStep (w.heap.size + 1) w1 w2 → X k w2)
    (hpre : ∀ k w1, I k w1 → Pre w1)
    (h0 : ∀ w1, Ext w w1 → w1.heap.size = w.heap.size + 2 → I 0 w1)
    (hbody : ∀ k (hk : k < xs.length) w1 Bg Kn Kr Kx w0, I k w1 → w1.heap[w.heap.size]? = some (.deferred (some [])) → (∃ r, w1.heap[w.heap.size + 1]? = some (.loop r)) →
      (∀ w2, I (k + 1) w2 → Keep w.heap.size w1 w2 → Kn w2) → (∀ w2, X none w2 → Keep w.heap.size w1 w2 → Kr w2) → (∀ id w2, X (some id) w2 → Keep w.heap.size w1 w2 → Kx id w2) →
      (∀ Kb : World → Prop, Kb w1 → Bg Kb w0) → B (fun i => xs[k].toList.getD i undef) Bg Kn Kr Kx w0)
    (hdone : ∀ w2, I xs.length w2 → w2.heap[w.heap.size]? = some (.deferred (some [])) → Kn (mark w.heap.size :: ds) w2)
    (hret : ∀ w2, X none w2 → w2.heap[w.heap.size]? = some (.deferred (some [])) → Kr (mark w.heap.size :: ds) w2)
    (hexit : ∀ id w2, X (some id) w2 → w2.heap[w.heap.size]? = some (.deferred (some [])) → Kx id (mark w.heap.size :: ds) w2) :
    Rf P np (.func (.func gf) #[] lb) ds w B Kn Kr Kx := by
  refine ⟨gf, lb, rfl, fun rec hrec hY => ?_⟩
  have hl1 : ((w.alloc (.deferred (some []))).alloc (.loop (rec .ready none))).heap[w.heap.size + 1]? = some (.loop (rec .ready none)) := by
    have := World.alloc_heap_new (w.alloc (.deferred (some []))) (.loop (rec .ready none)); rwa [World.size_alloc] at this
  have hd1 : ((w.alloc (.deferred (some []))).alloc (.loop (rec .ready none))).heap[w.heap.size]? = some (.deferred (some [])) :=
    (RowKit.Below.heap_alloc _ _ _ (by simp)).trans (World.alloc_heap_new w _)
  have hcall := hit (w.heap.size + 1)
    (fun k w' => I k w' ∧ w'.heap[w.heap.size + 1]? = some (.loop (rec .ready none)) ∧ w'.heap[w.heap.size]? = some (.deferred (some [])))
    (fun w' => w'.heap[w.heap.size]? = some (.deferred (some [])) ∧ ((X none w' ∧ w'.heap[w.heap.size + 1]? = some (.loop (rec .done (some .ret)))) ∨
      ∃ id, X (some id) w' ∧ w'.heap[w.heap.size + 1]? = some (.loop (rec .done (some (.exit id))))))
    ((w.alloc (.deferred (some []))).alloc (.loop (rec .ready none)))
    ⟨h0 _ ((nw_alloc w _).ext.then (nw_alloc _ _).ext) (by simp), hl1, hd1⟩ (fun k w1 h => hpre k w1 h.1) ?_
  · refine CallE.mono hcall ?_
    rintro v w2 (⟨hi, hl, hd⟩ | ⟨hd, ⟨hx, hl⟩ | ⟨id, hx, hl⟩⟩)
    · exact .inl ⟨hl, hdone _ (hI _ _ _ hi (loopStep_put _ hl)) ((World.putObj_heap_other (by omega)).trans hd)⟩
    · exact .inr (.inl ⟨hl, hret _ (hX _ _ _ hx (loopStep_put _ hl)) ((World.putObj_heap_other (by omega)).trans hd)⟩)
    · exact .inr (.inr ⟨id, hl, hexit _ _ (hX _ _ _ hx (loopStep_put _ hl)) ((World.putObj_heap_other (by omega)).trans hd)⟩)
  · rintro k hk w1 ⟨hi, hl, hd⟩
    have hlt : w.heap.size + 1 < w1.heap.size := (Array.getElem?_eq_some_iff.1 hl).1
    refine hY _ _ _ (hnp _ (List.getElem_mem hk)) hl ?_
    have hl2 : (w1.putObj (w.heap.size + 1) (.loop (rec .busy none))).heap[w.heap.size + 1]? = some (.loop (rec .busy none)) := World.putObj_heap_same hlt
    have hd2 : (w1.putObj (w.heap.size + 1) (.loop (rec .busy none))).heap[w.heap.size]? = some (.deferred (some [])) := (World.putObj_heap_other (by omega)).trans hd
    refine hbody k hk (w1.putObj (w.heap.size + 1) (.loop (rec .busy none))) _ _ _ _ _ (hI _ _ _ hi (loopStep_put _ hl)) hd2 ⟨_, hl2⟩ ?_ ?_ ?_ ?_
    · intro w2 h2 kp
      have hl3 := kp.l.trans hl2
      refine ⟨hl3, .inl ⟨rfl, hI _ _ _ h2 (loopStep_put _ hl3), World.putObj_heap_same (Array.getElem?_eq_some_iff.1 hl3).1, (World.putObj_heap_other (by omega)).trans (kp.d.trans hd2)⟩⟩
    · intro w2 h2 kp
      have hl3 := kp.l.trans hl2
      exact ⟨hl3, .inr ⟨rfl, (World.putObj_heap_other (by omega)).trans (kp.d.trans hd2), .inl ⟨hX _ _ _ h2 (loopStep_put _ hl3), World.putObj_heap_same (Array.getElem?_eq_some_iff.1 hl3).1⟩⟩⟩
    · intro id w2 h2 kp
      have hl3 := kp.l.trans hl2
      exact ⟨hl3, .inr ⟨rfl, (World.putObj_heap_other (by omega)).trans (kp.d.trans hd2), .inr ⟨id, hX _ _ _ h2 (loopStep_put _ hl3), World.putObj_heap_same (Array.getElem?_eq_some_iff.1 hl3).1⟩⟩⟩
    · intro Kb hb
      exact ⟨hl, hb⟩

/-- A function's marks are taken up as it leaves. -/
theorem Lv.nil {w : World} {K : World → Prop} (h : K w) : Lv [] w K := h
theorem Lv.cons {D : Nat} {ds : List Deferred} {w : World} {K : World → Prop} (hd : w.heap[D]? = some (.deferred (some [])))
    (h : ∀ w', Chg (· = D) w w' → w'.heap.size = w.heap.size → (∀ b, b ≠ D → w'.heap[b]? = w.heap[b]?) → Lv ds w' K) : Lv (mark D :: ds) w K :=
  ⟨hd, h _ ⟨rfl, rfl, rfl, by simp, fun k _ hn => World.putObj_heap_other hn⟩ (by simp) fun b hb => World.putObj_heap_other hb⟩
end Go.Eng
