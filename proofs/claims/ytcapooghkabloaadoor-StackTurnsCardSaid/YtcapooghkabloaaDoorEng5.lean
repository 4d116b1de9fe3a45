/- Part of the proof of a law of this seat: facts that it uses, each proved here. No conditions. -/
import Derived.Test.YtcapooghkabloaaDoorEng4
namespace Go.Eng
open Go

/-! ### Code -/
def thenP (K : St → World → Prop) (Q : Post) : Post
  | .normal, s, w => K s w
  | e, s, w => Q e s w
def blockP (id : Nat) (Q : Post) : Post
  | .exit id', s, w => bif Nat.beq id' id then Q .normal s w else Q (.exit id') s w
  | e, s, w => Q e s w

/-- The temporaries of a list are g's, all others e's. -/
def mixE (l : List Nat) (g e : Nat → Value) : Nat → Value := fun t => bif l.any (Nat.beq t) then g t else e t

/-- The temporaries that code may store into. -/
def asg : Code → List Nat
  | .region _ ops _ => ops.toList.filterMap (·.dst)
  | .seq a b => asg a ++ asg b
  | .cond _ a b => asg a ++ asg b
  | .block _ c => asg c
  | .loop c => asg c
  | .scope c => asg c
  | _ => []

def key : Code → Nat
  | .region id _ _ => id
  | .seq a _ => key a
  | .cond _ a _ => key a
  | .block _ c => key c
  | .loop c => key c
  | _ => 0

/-- A range over a function value g: what a round does (its arguments, where it goes on, where it is left), what comes behind. -/
def RangeVC (P : Program) (np : Nat) (g : Value) (B : (Nat → Value) → ((World → Prop) → World → Prop) → (World → Prop) → (World → Prop) → (Nat → World → Prop) → World → Prop)
    (Kn Kr : List Deferred → World → Prop) (Kx : Nat → List Deferred → World → Prop) (ds : List Deferred) (w : World) : Prop :=
  ∃ gf lb, g = .func (.func gf) #[] lb ∧ ∀ rec : LoopState → Option Code → Loop, (∀ st p, (rec st p).state = st ∧ (rec st p).pending = p) →
    (∀ (args : Array Value) (w' : World) (K : Value → World → Prop), args.size = np → w'.heap[w.heap.size + 1]? = some (.loop (rec .ready none)) →
      B (fun i => args.toList.getD i undef)
        (fun Kb w2 => w2.heap[w.heap.size + 1]? = some (.loop (rec .ready none)) ∧ Kb (w2.putObj (w.heap.size + 1) (.loop (rec .busy none))))
        (fun w2 => w2.heap[w.heap.size + 1]? = some (.loop (rec .busy none)) ∧ K (.bool true) (w2.putObj (w.heap.size + 1) (.loop (rec .ready none))))
        (fun w2 => w2.heap[w.heap.size + 1]? = some (.loop (rec .busy none)) ∧ K (.bool false) (w2.putObj (w.heap.size + 1) (.loop (rec .done (some .ret)))))
        (fun id w2 => w2.heap[w.heap.size + 1]? = some (.loop (rec .busy none)) ∧ K (.bool false) (w2.putObj (w.heap.size + 1) (.loop (rec .done (some (.exit id))))))
        w' →
      YieldC P (w.heap.size + 1) args K w') →
    CallE P gf (#[.func (.yield (w.heap.size + 1)) #[] #[]] ++ lb) (fun _ w2 =>
      (w2.heap[w.heap.size + 1]? = some (.loop (rec .ready none)) ∧ Kn ({ target := .collected w.heap.size, args := #[] } :: ds) (w2.putObj (w.heap.size + 1) (.loop (rec .exhausted none)))) ∨
      (w2.heap[w.heap.size + 1]? = some (.loop (rec .done (some .ret))) ∧ Kr ({ target := .collected w.heap.size, args := #[] } :: ds) (w2.putObj (w.heap.size + 1) (.loop (rec .exhausted (some .ret))))) ∨
      (∃ id, w2.heap[w.heap.size + 1]? = some (.loop (rec .done (some (.exit id)))) ∧ Kx id ({ target := .collected w.heap.size, args := #[] } :: ds) (w2.putObj (w.heap.size + 1) (.loop (rec .exhausted (some (.exit id)))))))
      ((w.alloc (.deferred (some []))).alloc (.loop (rec .ready none)))

def putArgs (args : Nat → Value) : List Nat → Nat → (Nat → Value) → (Nat → Value)
  | p :: ps, i, e => putArgs args ps (i + 1) (setEnv e p (args i))
  | [], _, e => e

/-- The verification condition of code: Q is asked where it is left. lv: of each loop, by the number of its first region, the temporaries that an invariant may speak of. -/
def codeVC (P : Program) (lv : Nat → List Nat) (jn : Nat → Option (List Nat)) : Bool → Code → Post → St → World → Prop
  | _, .skip, Q, s, w => Q .normal s w
  | _, .label _, Q, s, w => Q .normal s w
  | _, .exit id, Q, s, w => Q (.exit id) s w
  | _, .ret, Q, s, w => Q .ret s w
  | r, .seq a b, Q, s, w => match jn (key b) with
    | none => codeVC P lv jn r a (thenP (fun s w => codeVC P lv jn r b Q s w) Q) s w
    | some jv => ∃ J : List Value → List Deferred → World → Prop, codeVC P lv jn r a (thenP (fun s' w' => J (jv.map s'.env) s'.ds w') Q) s w ∧
        ∀ (g : Nat → Value) (ds : List Deferred) (w : World), J (jv.map g) ds w → codeVC P lv jn r b Q { env := mixE (asg a) g s.env, ds := ds } w
  | r, .cond c a b, Q, s, w => Cond (s.eval c) (codeVC P lv jn r a Q s w) (codeVC P lv jn r b Q s w)
  | r, .block id c, Q, s, w => codeVC P lv jn r c (blockP id Q) s w
  | _, .region _ ops false, Q, s, w => opsVC P ops (Q .normal) (List.range ops.size) s w
  | _, .region _ ops true, Q, s, w => ∃ S : World → Prop, S (dr w) ∧ drawVC P ops (Q .normal) ops.size S [] s (dr w)
  | r, .loop c, Q, s, w => ∃ (I : List Value → List Deferred → World → Prop) (μ : List Value → World → Nat), I ((lv (key c)).map s.env) s.ds w ∧
      ∀ (g : Nat → Value) (ds : List Deferred) (w : World), I ((lv (key c)).map g) ds w →
        codeVC P lv jn r c (thenP (fun s' w' => I ((lv (key c)).map s'.env) s'.ds w' ∧ μ ((lv (key c)).map s'.env) w' < μ ((lv (key c)).map g) w) Q) { env := mixE (asg c) g s.env, ds := ds } w
  | false, .rangeFunc f ps as body, Q, s, w =>
      RangeVC P ps.size (s.eval f)
        (fun args Bg Kn Kr Kx w => codeVC P lv jn true as (thenP (fun s w => Bg (fun w => codeVC P lv jn true body (fun e _ w => match e with
            | .normal => Kn w
            | .ret => Kr w
            | .exit id => Kx id w
            | _ => False) s w) w) (fun _ _ _ => False)) { env := putArgs args ps.toList 0 s.env, ds := [] } w)
        (fun ds w => Q .normal { env := s.env, ds := ds } w) (fun ds w => Q .ret { env := s.env, ds := ds } w) (fun id ds w => Q (.exit id) { env := s.env, ds := ds } w) s.ds w
  | _, _, _, _, _ => False

/-- Every temporary that is stored into lies in the frame; the draws' edges in the region; each loop's list lies in what is stored. -/
def codeOk (n : Nat) (lv : Nat → List Nat) : Code → Bool
  | .region _ ops _ => dstOk n ops && aftOk ops
  | .seq a b => codeOk n lv a && codeOk n lv b
  | .cond _ a b => codeOk n lv a && codeOk n lv b
  | .block _ c => codeOk n lv c
  | .loop c => codeOk n lv c && (lv (key c)).all fun t => (asg c).any (Nat.beq t)
  | .rangeFunc _ ps a b => codeOk n lv a && codeOk n lv b && ps.toList.all fun p => Nat.blt p n
  | _ => true

section
variable {P : Program} {lv : Nat → List Nat} {jn : Nat → Option (List Nat)}

theorem thenP_mono {K K' : St → World → Prop} {Q Q' : Post} (hk : ∀ s w, K s w → K' s w) (hq : ∀ e s w, Q e s w → Q' e s w) : ∀ e s w, thenP K Q e s w → thenP K' Q' e s w
  | .normal, _, _, h => hk _ _ h
  | .exit _, _, _, h => hq _ _ _ h
  | .goto _, _, _, h => hq _ _ _ h
  | .ret, _, _, h => hq _ _ _ h
  | .panic _, _, _, h => hq _ _ _ h
  | .outgrown, _, _, h => hq _ _ _ h
theorem blockP_mono {id : Nat} {Q Q' : Post} (hq : ∀ e s w, Q e s w → Q' e s w) : ∀ e s w, blockP id Q e s w → blockP id Q' e s w
  | .normal, _, _, h => hq _ _ _ h
  | .exit id', s, w, h => by
    show bif Nat.beq id' id then Q' .normal s w else Q' (.exit id') s w
    have h : bif Nat.beq id' id then Q .normal s w else Q (.exit id') s w := h
    revert h
    cases Nat.beq id' id
    · exact hq _ _ _
    · exact hq _ _ _
  | .goto _, _, _, h => hq _ _ _ h
  | .ret, _, _, h => hq _ _ _ h
  | .panic _, _, _, h => hq _ _ _ h
  | .outgrown, _, _, h => hq _ _ _ h

theorem mixE_of_same {l : List Nat} {e e' : Nat → Value} (h : Same l e e') : mixE l e' e = e' := by
  funext t
  unfold mixE
  cases hb : l.any (Nat.beq t) with
  | true => rfl
  | false =>
    refine (h t fun hm => ?_).symm
    have := List.any_eq_false.1 hb t hm
    exact this (Nat.beq_refl t)
theorem map_mixE {m l : List Nat} {g e : Nat → Value} (h : (m.all fun t => l.any (Nat.beq t)) = true) : m.map (mixE l g e) = m.map g := by
  refine List.map_congr_left fun t ht => ?_
  have := List.all_eq_true.1 h t ht
  unfold mixE
  rw [this]; rfl
end
end Go.Eng
