/- Part of the proof of a law of this seat: facts that it uses, each proved here. No conditions. -/
import Derived.Test.YtcapooghkabloaaDoorEng
namespace Go.Eng
open Go

theorem callsIn_round {r : Option Nat} {n : Nat} {P : Program} {f : FuncId} {args : Array Value} {w : World} {R : Ending → World → Prop}
    (h : CallsIn (Fr none) 0 P f args w R) : CallsIn (Fr r) n P f args w R := ⟨h.1, fun cs _ => h.2 cs (Fr_room none _)⟩
theorem roundIn_round {r : Option Nat} {n : Nat} {P : Program} {l : Nat} {f : FuncId} {t : Array Value} {as b : Code} {w : World} {R : Ending → World → Prop}
    (h : RoundIn (Fr none) 0 P l f t as b w R) : RoundIn (Fr r) n P l f t as b w R := ⟨h.1, fun c cs _ => h.2 c cs (Fr_room none _)⟩

theorem semAt_plain {r : Option Nat} {ρ : Operand → Value} {o : Oper} (h : ∀ c, o.op ≠ .defer c) : o.semAt r ρ = execOp ρ o := by
  unfold Oper.semAt
  cases r with
  | none => rfl
  | some l => cases ho : o.op <;> first | rfl | exact absurd ho (h _)

section
variable {P : Program} {r : Option Nat} {o : Oper} {a : Act} {next : Act → World → Prop} {Q : Exit → Act → World → Prop} {w : World}

theorem upon_value {s : Sem Value} (h : Val P s (fun v w => next (a.put o.dst v) w) w) :
    o.uponIn (Fr r) 0 P a next Q ((do pure (Next.value (← s))).run P w) := by
  obtain ⟨v, w', e, k⟩ := h
  have : (do pure (Next.value (← s)) : Sem Next).run P w = .ok (.value v) w' := by
    rw [Sem.run_bind, e]; rfl
  rw [this]; exact k
theorem upon_unit {s : Sem Unit} (h : Eff P s (next (a.put o.dst undef)) w) :
    o.uponIn (Fr r) 0 P a next Q ((do s; pure Next.skip).run P w) := by
  obtain ⟨w', e, k⟩ := h
  have : (do s; pure Next.skip : Sem Next).run P w = .ok .skip w' := by
    rw [Sem.run_bind, e]; rfl
  rw [this]; exact k
theorem upon_callF {f : FuncId} {args : Array Value} {s : Sem Next} (hs : s.run P w = (callFunc f args).run P w)
    (h : CallF P f args (fun v w => next (a.put o.dst v) w) w) :
    o.uponIn (Fr r) 0 P a next Q (s.run P w) := by
  rcases h with ⟨hc, h⟩ | ⟨v, w', e, k⟩
  case value_ => rw [hs, e]; exact k
  rw [hs, hc w]
  exact ⟨fun e => Bool.noConfusion e, (callsIn_round h).mono fun e w h => by cases e <;> first | exact h | exact h.elim⟩
theorem upon_yield {l : Nat} {args : Array Value} {s : Sem Next} (hs : s.run P w = (Instr.yield l args).run P w)
    (h : YieldC P l args (fun v w => next (a.put o.dst v) w) w) :
    o.uponIn (Fr r) 0 P a next Q (s.run P w) := by
  obtain ⟨fn, t, as, b, e, hr⟩ := h
  rw [hs, e]
  exact ⟨fun e => Bool.noConfusion e, (roundIn_round hr).mono fun e w h => by cases e <;> first | exact h | exact h.elim⟩

theorem ofValue_func (g : Fn) (lb args : Array Value) : Deferred.ofValue (.func g #[] lb) args = pure { target := .fn g lb, args } := by
  simp [Deferred.ofValue]

theorem map_list {α β : Type} (f : α → β) (a : Array α) : (a.toList.map f).toArray = a.map f := by
  rw [← Array.toList_map]

theorem callVC_sound {c : Call} {ρ : Operand → Value} (hρ : ∀ f, ρ (.func f) = .func (.func f) #[] #[])
    (h : callVC P c o.type ρ (c.args.toList.map ρ).toArray (fun v w => next (a.put o.dst v) w) w) :
    o.uponIn (Fr r) 0 P a next Q ((do let d ← resolve ρ c o.type; invoke d.target d.args).run P w) := by
  rw [map_list] at h
  unfold callVC at h
  unfold resolve
  cases hc : c.callee with
  | builtin b =>
    simp only [hc] at h ⊢
    cases b <;> first | exact h.elim | exact upon_value (s := _) h
  | invoke rv m =>
    simp only [hc] at h ⊢
    obtain ⟨f, args', e, hcall⟩ := h
    have : (do let d ← (pure { target := .fn (.method m) #[], args := #[ρ rv] ++ c.args.map ρ } : Sem Deferred); invoke d.target d.args).run P w = .ok (.enter f args') w := by
      rw [Sem.run_bind]
      show (invoke (.fn (.method m) #[]) (#[ρ rv] ++ c.args.map ρ)).run P w = _
      unfold invoke
      have e1 : (#[ρ rv] ++ c.args.map ρ)[0]? = some (ρ rv) := by simp [Array.getElem?_append]
      have e2 : (#[ρ rv] ++ c.args.map ρ).extract 1 (#[ρ rv] ++ c.args.map ρ).size = c.args.map ρ := by
        apply Array.ext_getElem?; intro i; simp [Array.getElem?_extract]
        intro h; rw [Array.getElem?_eq_none (by simpa using h)]; rfl
      simp only [e1, e2]
      exact e
    rw [this]
    exact ⟨fun e => Bool.noConfusion e, (callsIn_round hcall).mono fun e w h => by cases e <;> first | exact h | exact h.elim⟩
  | value x =>
    have key : ∀ (v : Value), CallV P v (c.args.map ρ) (fun v w => next (a.put o.dst v) w) w →
        o.uponIn (Fr r) 0 P a next Q ((do let d ← Deferred.ofValue v (c.args.map ρ); invoke d.target d.args).run P w) := by
      intro v h
      rcases h with ⟨g, lb, rfl, h⟩ | ⟨l, rfl, h⟩
      · refine upon_callF ?_ h
        rw [ofValue_func, Sem.run_bind]; rfl
      · refine upon_yield ?_ h
        rw [ofValue_func, Sem.run_bind]; rfl
    cases x with
    | func f =>
      simp only [hc] at h ⊢
      rw [hρ f]
      refine upon_callF ?_ h
      rw [ofValue_func, Sem.run_bind]
      show (invoke (.fn (.func f) #[]) (c.args.map ρ)).run P w = _
      unfold invoke; simp
    | tmp t => simp only [hc] at h ⊢; exact key _ h
    | const t => simp only [hc] at h ⊢; exact key _ h
    | global t => simp only [hc] at h ⊢; exact key _ h

theorem opRun_sound (h : opRun P o a.eval (fun v w => next (a.put o.dst v) w) w) : o.wpIn (Fr r) 0 P a w next Q := by
  refine ⟨fun _ _ => trivial, ?_⟩
  have hd : ∀ c, o.op ≠ .defer c := by
    intro c hc; unfold opRun at h; simp only [hc] at h
  show o.uponIn (Fr r) 0 P a next Q ((o.semAt r a.eval).run P w)
  rw [semAt_plain hd]
  unfold opRun at h
  unfold execOp
  cases ho : o.op <;> simp only [ho, map_list] at h ⊢ <;>
    first
      | exact h.elim
      | exact h
      | exact upon_value h
      | exact upon_unit h
      | exact callVC_sound (fun _ => rfl) (by rw [map_list]; exact h)
      | skip
  case pick c x y =>
    cases hv : a.eval c <;> simp only [hv, Cond] at h
    rename_i b
    rw [Sem.run_bind]
    have : (asBool (Value.bool b)).run P w = .ok b w := rfl
    rw [this]
    cases b
    · exact h
    · exact h
  case nilCheck x =>
    obtain ⟨hn, h⟩ := h
    cases hv : a.eval x with
    | pointer p => cases p <;> simp only [hv, NN] at hn h ⊢ ; exact h
    | func f x y => cases f <;> simp only [hv, NN] at hn h ⊢ <;> exact h
    | nilIface => simp only [hv, NN] at hn
    | nilFunc => simp only [hv, NN] at hn
    | bool b => simp only [hv] at h ⊢; exact h
    | int k i => simp only [hv] at h ⊢; exact h
    | float k i => simp only [hv] at h ⊢; exact h
    | complex k i j => simp only [hv] at h ⊢; exact h
    | string k => simp only [hv] at h ⊢; exact h
    | slice x i j => simp only [hv] at h ⊢; exact h
    | map x => simp only [hv] at h ⊢; exact h
    | chan x => simp only [hv] at h ⊢; exact h
    | iface x i => simp only [hv] at h ⊢; exact h
    | agg x => simp only [hv] at h ⊢; exact h
    | tuple x => simp only [hv] at h ⊢; exact h
end
end Go.Eng
