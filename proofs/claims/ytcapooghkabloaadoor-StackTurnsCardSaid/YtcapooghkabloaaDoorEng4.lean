/- Part of the proof of a law of this seat: facts that it uses, each proved here. No conditions. -/
import Derived.Test.YtcapooghkabloaaDoorEng3
namespace Go.Eng
open Go
section
variable {P : Program} {ops : Array Oper} {K : St → World → Prop}

/-- In every world of S the operation (under its guard) hands over v and leaves the world. -/
def Yl (P : Program) (ops : Array Oper) (S : World → Prop) (i : Nat) (s : St) (v : Value) : Prop :=
  ∀ w, S w → ∀ K' : St → World → Prop, K' (s.put ((ops[i]?).bind (·.dst)) v) w → opG P ops i K' s w

theorem ValQ.val {S : World → Prop} {x : Sem Value} {K : Value → Prop} (h : ValQ P S x K) :
    ∃ v, K v ∧ ∀ w, S w → ∀ K' : Value → World → Prop, K' v w → Val P x K' w :=
  let ⟨v, e, k⟩ := h; ⟨v, k, fun w hw _ hk => ⟨v, w, e w hw, hk⟩⟩

theorem Pv.val {x : Sem Value} {K : Value → Prop} (h : Pv P x K) :
    ∃ v, K v ∧ ∀ w, ∀ K' : Value → World → Prop, K' v w → Val P x K' w :=
  let ⟨v, e, k⟩ := h; ⟨v, k, fun w _ hk => ⟨v, w, e w, hk⟩⟩

theorem opQ.run {o : Oper} {ρ : Operand → Value} {S : World → Prop} {K : Value → Prop} (h : opQ P o ρ S K) :
    ∃ v, K v ∧ ∀ w, (isImp o = true → S w) → ∀ K' : Value → World → Prop, K' v w → opRun P o ρ K' w := by
  unfold opQ at h
  unfold opRun isImp
  have vq : ∀ {x : Sem Value}, ValQ P S x K → ∃ v, K v ∧ ∀ w, (true = true → S w) → ∀ K' : Value → World → Prop, K' v w → Val P x K' w := fun h =>
    let ⟨v, k, e⟩ := ValQ.val h; ⟨v, k, fun w hw => e w (hw rfl)⟩
  have vqT : ∀ {x : Sem Value}, ValQ P S x K → ∃ v, K v ∧ ∀ w, (True → S w) → ∀ K' : Value → World → Prop, K' v w → Val P x K' w := fun h =>
    let ⟨v, k, e⟩ := ValQ.val h; ⟨v, k, fun w hw => e w (hw trivial)⟩
  have pvF : ∀ {x : Sem Value}, Pv P x K → ∃ v, K v ∧ ∀ w, (False → S w) → ∀ K' : Value → World → Prop, K' v w → Val P x K' w := fun h =>
    let ⟨v, k, e⟩ := Pv.val h; ⟨v, k, fun w _ => e w⟩
  have pv : ∀ {x : Sem Value}, Pv P x K → ∃ v, K v ∧ ∀ w, (false = true → S w) → ∀ K' : Value → World → Prop, K' v w → Val P x K' w := fun h =>
    let ⟨v, k, e⟩ := Pv.val h; ⟨v, k, fun w _ => e w⟩
  cases ho : o.op <;> simp only [ho] at h ⊢ <;>
    first
      | exact ⟨_, h, fun _ _ _ hk => hk⟩
      | exact vq h
      | exact pv h
      | exact vqT h
      | exact pvF h
      | exact ⟨_, h.2, fun _ _ _ hk => ⟨h.1, hk⟩⟩
      | exact h.elim
      | skip
  case pick c a b =>
    cases hv : ρ c <;> simp only [hv, Cond] at h ⊢
    rename_i t
    cases t
    · exact ⟨_, h, fun _ _ _ hk => hk⟩
    · exact ⟨_, h, fun _ _ _ hk => hk⟩
  case call c =>
    unfold callVC
    cases hc : c.callee with
    | value x => simp only [hc] at h
    | invoke r m => simp only [hc] at h
    | builtin b => cases b <;> simp only [hc] at h ⊢ <;> first | exact vq h | exact vqT h

theorem opGQ.yl {i : Nat} {S : World → Prop} {Kq : St → Prop} {s : St} (h : opGQ P ops i S Kq s) :
    ∃ v, Kq (s.put ((ops[i]?).bind (·.dst)) v) ∧ Yl P ops (fun w => isImpAt ops i = true → S w) i s v := by
  unfold opGQ at h
  unfold Yl opG isImpAt
  cases ho : ops[i]? with
  | none => simp only [ho] at h
  | some o =>
    simp only [ho] at h ⊢
    cases hg : o.guard with
    | none =>
      simp only [hg] at h ⊢
      obtain ⟨v, k, e⟩ := opQ.run h
      exact ⟨v, splitK_out k, fun w hw K' hk => e w (fun he => hw (by simp [he])) _ hk⟩
    | some g =>
      simp only [hg] at h ⊢
      cases hv : gval ops g.1 s with
      | bool t =>
        rw [hv] at h
        have h := Guard_out h
        by_cases ht : t = g.2
        · obtain ⟨v, k, e⟩ := opQ.run (h.1 ht)
          exact ⟨v, splitK_out k, fun w hw K' hk => Guard_in ⟨fun _ => e w (fun he => hw (by simp [he])) _ hk, fun hn => absurd ht hn⟩⟩
        · exact ⟨undef, h.2 ht, fun w hw K' hk => Guard_in ⟨fun he => absurd he ht, fun _ => hk⟩⟩
      | _ => simp only [hv, Guard] at h ⊢; exact ⟨undef, h, fun w hw K' hk => hk⟩

theorem mem_looks_op {o : Oper} {t : Nat} (h : Operand.tmp t ∈ o.op.operands) : t ∈ looks ops o :=
  List.mem_append_left _ (List.mem_filterMap.2 ⟨.tmp t, by simpa using h, rfl⟩)

theorem gval_put {o : Oper} {g : Nat × Bool} (hg : o.guard = some g) {d : Option Tmp} {v : Value} {s : St} (h : ∀ t, d = some t → t ∉ looks ops o) :
    gval ops g.1 (s.put d v) = gval ops g.1 s := by
  unfold gval
  cases hj : ops[g.1]? with
  | none => rfl
  | some o' =>
    cases hd : o'.dst with
    | none => simp only [hd]
    | some t =>
      simp only [hd]
      refine put_env s d v t fun x e hx => h x e ?_
      subst hx
      exact List.mem_append_right _ (by simp [hg, hj, hd])

/-- An operation goes by another one's store into a temporary that it does not touch. -/
theorem opG.by_put {j : Nat} {oj : Oper} (hj : ops[j]? = some oj) {d : Option Tmp} {v : Value} {s : St} {w : World} {K : St → World → Prop}
    (h1 : ∀ t, d = some t → t ∉ looks ops oj) (h2 : ∀ t, d = some t → oj.dst ≠ some t)
    (h : opG P ops j K (s.put d v) w) : opG P ops j (fun s' w' => K (s'.put d v) w') s w := by
  have hev : ∀ x ∈ oj.op.operands, (s.put d v).eval x = s.eval x := fun x hx =>
    put_eval s d v x fun t e hxt => h1 t e (mem_looks_op (by rw [← hxt]; exact hx))
  unfold opG at h ⊢
  simp only [hj] at h ⊢
  cases hg : oj.guard with
  | none =>
    simp only [hg] at h ⊢
    refine opRun.mono (fun v' w' hk => ?_) (opRun_congr hev h)
    rw [put_comm s d oj.dst v v' (fun x hx => h2 x hx)] at hk; exact hk
  | some g =>
    simp only [hg] at h ⊢
    rw [gval_put hg h1] at h
    refine Guard.mono h (fun h => ?_) (fun h => ?_)
    · refine opRun.mono (fun v' w' hk => ?_) (opRun_congr hev h)
      rw [put_comm s d oj.dst v v' (fun x hx => h2 x hx)] at hk; exact hk
    · rw [put_comm s d oj.dst v undef (fun x hx => h2 x hx)] at h; exact h

/-- What an operation hands over hangs on nothing that another one stores. -/
theorem Yl.put {i : Nat} {oi : Oper} (hi : ops[i]? = some oi) {S : World → Prop} {s : St} {v : Value} (h : Yl P ops S i s v) {d : Option Tmp} {u : Value}
    (h1 : ∀ t, d = some t → t ∉ looks ops oi) (h2 : ∀ t, d = some t → oi.dst ≠ some t) : Yl P ops S i (s.put d u) v := by
  intro w hw K' hk
  -- by_put read backwards: congr on the operands
  have hev : ∀ x ∈ oi.op.operands, s.eval x = (s.put d u).eval x := fun x hx =>
    (put_eval s d u x fun t e hxt => h1 t e (mem_looks_op (by rw [← hxt]; exact hx))).symm
  have := h w hw (fun s' w' => K' (s'.put d u) w') (by
    simp only [hi, Option.bind_some] at hk ⊢
    rw [← put_comm s d oi.dst u v (fun x hx => h2 x hx)]; exact hk)
  unfold opG at this ⊢
  simp only [hi] at this ⊢
  cases hg : oi.guard with
  | none =>
    simp only [hg] at this ⊢
    refine opRun.mono (fun v' w' hk => ?_) (opRun_congr hev this)
    rw [put_comm s d oi.dst u v' (fun x hx => h2 x hx)]; exact hk
  | some g =>
    simp only [hg] at this ⊢
    rw [gval_put hg h1]
    refine Guard.mono this (fun h => ?_) (fun h => ?_)
    · refine opRun.mono (fun v' w' hk => ?_) (opRun_congr hev h)
      rw [put_comm s d oi.dst u v' (fun x hx => h2 x hx)]; exact hk
    · rw [put_comm s d oi.dst u undef (fun x hx => h2 x hx)]; exact h

theorem rdy_spec {d : List Nat} {i : Nat} : rdy ops d i = true ↔ i ∉ d ∧ ∃ o, ops[i]? = some o ∧ ∀ e ∈ o.after, Region.binds .any e = true → e.on ∈ d := by
  unfold rdy
  cases ho : ops[i]? with
  | none => simp
  | some o =>
    simp only [Bool.and_eq_true, Bool.not_eq_true', List.contains_eq_mem, decide_eq_false_iff_not, List.all_eq_true, Bool.or_eq_true, decide_eq_true_eq, Option.some.injEq, exists_eq_left', Array.mem_toList_iff]
    constructor
    · exact fun ⟨h1, h2⟩ => ⟨h1, fun e he hb => (h2 e he).resolve_left (by simp [hb])⟩
    · exact fun ⟨h1, h2⟩ => ⟨h1, fun e he => by
        cases hb : Region.binds .any e
        · exact .inl rfl
        · exact .inr (h2 e he hb)⟩

theorem rdy_more {d : List Nat} {i j : Nat} (h : rdy ops d i = true) (hne : i ≠ j) : rdy ops (j :: d) i = true := by
  obtain ⟨h1, o, ho, h2⟩ := rdy_spec.1 h
  exact rdy_spec.2 ⟨by simp [h1, hne], o, ho, fun e he hb => List.mem_cons_of_mem _ (h2 e he hb)⟩

/-- 'freeB', as what it says. -/
def Free (ops : Array Oper) (done : List Nat) (i : Nat) : Prop :=
  ∀ j oj, ops[j]? = some oj → j ≠ i → j ∉ done → (∃ e ∈ oj.after, Region.binds .any e = true ∧ e.on = i) ∨
    ∀ oi, ops[i]? = some oi → (∀ t, oi.dst = some t → t ∉ looks ops oj ∧ oj.dst ≠ some t) ∧ (∀ t, oj.dst = some t → t ∉ looks ops oi)
theorem free_of {d : List Nat} {i : Nat} (h : freeB ops d i = true) : Free ops d i := by
  intro j oj hj hne hd
  have hlt : j < ops.size := (Array.getElem?_eq_some_iff.1 hj).1
  have := List.all_eq_true.1 h j (List.mem_range.2 hlt)
  simp only [hj, Bool.or_eq_true] at this
  rcases this with ((h1 | h2) | h3) | h4
  · exact absurd (Nat.eq_of_beq_eq_true h1) hne
  · exact absurd (by simpa using h2) hd
  · obtain ⟨e, he, hb⟩ := List.any_eq_true.1 h3
    simp only [Bool.and_eq_true] at hb
    exact .inl ⟨e, by simpa using he, hb.1, Nat.eq_of_beq_eq_true hb.2⟩
  · refine .inr fun oi hi => ?_
    unfold apartB at h4
    simp only [hi, hj, Bool.and_eq_true, List.all_eq_true, Bool.not_eq_true', List.contains_eq_mem, decide_eq_false_iff_not, Option.mem_toList] at h4
    refine ⟨fun t ht => ?_, fun t ht => h4.2 t (by simp [ht])⟩
    have := h4.1 t (by simp [ht])
    exact ⟨this.1, fun e => this.2 (by simp [e])⟩
theorem Free.more {d : List Nat} {i j : Nat} (h : Free ops d i) : Free ops (j :: d) i :=
  fun k ok hk hne hd => h k ok hk hne (fun h => hd (List.mem_cons_of_mem _ h))

/-- Whoever has been done has been done behind what it waits for. -/
def Closed (ops : Array Oper) (d : List Nat) : Prop := ∀ j, j ∈ d → ∀ o, ops[j]? = some o → ∀ e ∈ o.after, Region.binds .any e = true → e.on ∈ d
theorem Closed.cons {d : List Nat} {j : Nat} (h : Closed ops d) (hr : rdy ops d j = true) : Closed ops (j :: d) := by
  intro x hx o ho e he hb
  rcases List.mem_cons.1 hx with rfl | hx
  · obtain ⟨_, o', ho', h2⟩ := rdy_spec.1 hr
    rw [ho] at ho'; cases ho'
    exact List.mem_cons_of_mem _ (h2 e he hb)
  · exact List.mem_cons_of_mem _ (h x hx o ho e he hb)

theorem anyV_take {S : List Nat → World → Prop} {S0 : World → Prop} {i : Nat} {oi : Oper} {v : Value} (hi : ops[i]? = some oi) (hSc : ∀ d d' x, (∀ y, y ∈ d ↔ y ∈ d') → S d x → S d' x)
    (hS0 : ∀ d x, Closed ops d → i ∉ d → S (i :: d) x → S0 x ∧ S d x) : ∀ (fuel : Nat) (done : List Nat) (s : St) (w : World),
    Closed ops done → Free ops done i → rdy ops done i = true → Yl P ops S0 i s v → S0 w → S done w → anyV P ops K fuel S (i :: done) (s.put oi.dst v) w → anyV P ops K (fuel + 1) S done s w := by
  have hlt : i < ops.size := (Array.getElem?_eq_some_iff.1 hi).1
  intro fuel
  induction fuel with
  | zero =>
    intro done s w hcl hf hr hy hS hSd h
    refine ⟨hSd, fun hn => (by rw [hn i hlt] at hr; cases hr), fun j hj hrj => ?_⟩
    by_cases e : j = i
    · subst e
      exact hy w hS _ (by simp only [hi, Option.bind_some]; exact h)
    · have := h.2.1 j hj
      rw [rdy_more hrj e] at this; cases this
  | succ f ih =>
    intro done s w hcl hf hr hy hS hSd h
    refine ⟨hSd, fun hn => (by rw [hn i hlt] at hr; cases hr), fun j hj hrj => ?_⟩
    by_cases e : j = i
    · subst e
      exact hy w hS _ (by simp only [hi, Option.bind_some]; exact h)
    · have h1 := h.2.2 j hj (rdy_more hrj e)
      obtain ⟨hjd, oj, hoj, haft⟩ := rdy_spec.1 hrj
      have hid : i ∉ done := (rdy_spec.1 hr).1
      have hap := (hf j oj hoj e hjd).resolve_left (fun ⟨e', he', hb, hon⟩ => hid (hon ▸ haft e' he' hb)) oi hi
      have h2 := opG.by_put hoj (fun t ht => (hap.1 t ht).1) (fun t ht => (hap.1 t ht).2) h1
      have hnot : i ∉ j :: done := fun hm => by
        rcases List.mem_cons.1 hm with h | h
        · exact e h.symm
        · exact hid h
      -- the yield lives on behind j's store
      unfold opG at h2 ⊢
      simp only [hoj] at h2 ⊢
      have fin : ∀ (u : Value) (w' : World), anyV P ops K f S (j :: i :: done) ((s.put oj.dst u).put oi.dst v) w' → anyV P ops K (f + 1) S (j :: done) (s.put oj.dst u) w' := fun u w' hk => by
        have hcg : anyV P ops K f S (i :: j :: done) ((s.put oj.dst u).put oi.dst v) w' := anyV.congr hSc (fun x => by simp only [List.mem_cons]; constructor <;> (rintro (h | h | h) <;> simp [h])) hk
        exact ih (j :: done) _ w' (hcl.cons hrj) hf.more (rdy_more hr (fun h => e h.symm)) (hy.put hi (fun t ht => hap.2 t ht) (fun t ht he => (hap.1 t he).2 ht))
          (hS0 (j :: done) w' (hcl.cons hrj) hnot hcg.holds).1 (hS0 (j :: done) w' (hcl.cons hrj) hnot hcg.holds).2 hcg
      cases hg : oj.guard with
      | none => simp only [hg] at h2 ⊢; exact opRun.mono (fun u w' hk => fin u w' hk) h2
      | some g => simp only [hg] at h2 ⊢; exact Guard.mono h2 (opRun.mono fun u w' hk => fin u w' hk) (fun hk => fin _ _ hk)
/-- What holds of the worlds of a drawn region: S, till one is done that waits for all that was taken and hangs on memory. -/
def Sx (ops : Array Oper) (S : World → Prop) (base : List Nat) (d : List Nat) (x : World) : Prop := S x ∨ ∃ j, j ∈ d ∧ j ∉ base ∧ barB ops base j = true
theorem barB_spec {base : List Nat} {j : Nat} (h : barB ops base j = true) : ∃ o, ops[j]? = some o ∧ isQ o = false ∧ ∀ i ∈ base, isImpAt ops i = true → ∃ e ∈ o.after, Region.binds .any e = true ∧ e.on = i := by
  unfold barB at h
  cases ho : ops[j]? with
  | none => simp only [ho] at h; cases h
  | some o =>
    simp only [ho, Bool.and_eq_true, Bool.not_eq_true'] at h
    refine ⟨o, rfl, h.1, fun i hi himp => ?_⟩
    have := List.all_eq_true.1 h.2 i hi
    rw [himp] at this
    have this : (o.after.toList.any fun e => Region.binds .any e && Nat.beq e.on i) = true := this
    obtain ⟨e, he, hb⟩ := List.any_eq_true.1 this
    simp only [Bool.and_eq_true] at hb
    exact ⟨e, by simpa using he, hb.1, Nat.eq_of_beq_eq_true hb.2⟩
theorem barB_less {base : List Nat} {i j : Nat} (h : barB ops (i :: base) j = true) : barB ops base j = true := by
  unfold barB at h ⊢
  cases ho : ops[j]? with
  | none => simp only [ho] at h; cases h
  | some o => simp only [ho, List.all_cons, Bool.and_eq_true] at h ⊢; exact ⟨h.1, h.2.2⟩
theorem Sx_less {S S' : World → Prop} {base : List Nat} {i : Nat} (hs : ∀ x, S' x → S x) (d : List Nat) (x : World) (h : Sx ops S' (i :: base) d x) : Sx ops S base d x := by
  rcases h with h | ⟨j, h1, h2, h3⟩
  · exact .inl (hs x h)
  · exact .inr ⟨j, h1, fun hm => h2 (List.mem_cons_of_mem _ hm), barB_less h3⟩

theorem drawVC_any : ∀ (fuel : Nat) (S : World → Prop) (done : List Nat) (s : St) (w : World), S w → Closed ops done → drawVC P ops K fuel S done s w → anyV P ops K fuel (Sx ops S done) done s w := by
  intro fuel
  induction fuel with
  | zero =>
    intro S done s w hS _ h
    unfold drawVC at h
    cases hl : (List.range ops.size).filter (rdy ops done) with
    | nil =>
      simp only [hl] at h
      refine ⟨.inl hS, fun i hi => ?_, h⟩
      cases hr : rdy ops done i with
      | false => rfl
      | true =>
        have : i ∈ (List.range ops.size).filter (rdy ops done) := List.mem_filter.2 ⟨List.mem_range.2 hi, hr⟩
        rw [hl] at this; cases this
    | cons i l => simp only [hl] at h
  | succ f ih =>
    intro S done s w hS hcl h
    unfold drawVC at h
    have hmem : ∀ i, i < ops.size → rdy ops done i = true → i ∈ (List.range ops.size).filter (rdy ops done) := fun i hi hr => List.mem_filter.2 ⟨List.mem_range.2 hi, hr⟩
    generalize hl : (List.range ops.size).filter (rdy ops done) = l at h hmem
    have hmem' : ∀ i ∈ l, i < ops.size ∧ rdy ops done i = true := fun i hi => by
      rw [← hl] at hi; have := List.mem_filter.1 hi; exact ⟨List.mem_range.1 this.1, this.2⟩
    cases l with
    | nil =>
      simp only at h
      exact ⟨.inl hS, fun _ => h, fun i hi hr => by cases hmem i hi hr⟩
    | cons i0 rs =>
      simp only at h
      cases hfd : (i0 :: rs).find? (fun i => isQat ops i && freeB ops done i) with
      | some i =>
        simp only [hfd] at h
        have him := hmem' i (List.mem_of_find?_eq_some hfd)
        have hfr : freeB ops done i = true := by
          have := List.find?_some hfd
          simp only [Bool.and_eq_true] at this; exact this.2
        obtain ⟨v, hk, hy⟩ := opGQ.yl h
        obtain ⟨_, oi, hoi, _⟩ := rdy_spec.1 him.2
        simp only [hoi, Option.bind_some] at hk
        have h1 := ih S (i :: done) _ w hS (hcl.cons him.2) hk
        have hq : isQ oi = true := by
          have := List.find?_some hfd
          simp only [Bool.and_eq_true, isQat, hoi] at this; exact this.1
        refine anyV.mono (fun d x _ hx => Sx_less (fun _ => id) d x hx) (anyV_take (S := Sx ops S (i :: done)) hoi ?_ ?_ f done s w hcl (free_of hfr) him.2 hy (fun _ => hS) (.inl hS) h1)
        · rintro d d' x hd (hx | ⟨j, h1, h2⟩)
          · exact .inl hx
          · exact .inr ⟨j, (hd j).1 h1, h2⟩
        · rintro d x hcd hid (hx | ⟨j, h1, h2, h3⟩)
          · exact ⟨fun _ => hx, .inl hx⟩
          · obtain ⟨o, ho, hnq, hbar⟩ := barB_spec h3
            have hji : j ≠ i := fun e => by
              subst e; rw [hoi] at ho; cases ho; rw [hq] at hnq; cases hnq
            have hjd : j ∈ d := (List.mem_cons.1 h1).resolve_left hji
            refine ⟨fun himp => ?_, .inr ⟨j, hjd, h2, h3⟩⟩
            exfalso
            obtain ⟨e, he, hb, hon⟩ := hbar i (by simp) himp
            exact hid (hon ▸ hcd j hjd o ho e he hb)
      | none =>
        simp only [hfd] at h
        have wr : ∀ i, rdy ops done i = true → opGs P ops i (fun s' w' => WrK (barB ops done i) S w' fun S' => drawVC P ops K f S' (i :: done) s' w') s w → opG P ops i (anyV P ops K f (Sx ops S done) (i :: done)) s w := fun i hr hh =>
          opG.mono (fun s' w' hw => by
            cases hb : barB ops done i with
            | true =>
              rw [hb] at hw
              obtain ⟨S', h2, h3⟩ := hw
              exact anyV.mono (fun d x hd _ => .inr ⟨i, hd i (by simp), (rdy_spec.1 hr).1, hb⟩) (ih S' _ s' w' h2 (hcl.cons hr) h3)
            | false =>
              rw [hb] at hw
              obtain ⟨S', h1, h2, h3⟩ := hw
              exact anyV.mono (fun d x _ hx => Sx_less h1 d x hx) (ih S' _ s' w' h2 (hcl.cons hr) h3)) (opGs_out hh)
        have all : ∀ i ∈ i0 :: rs, opG P ops i (anyV P ops K f (Sx ops S done) (i :: done)) s w := by
          cases rs with
          | nil =>
            intro i hi
            have : i = i0 := by simpa using hi
            subst this; exact wr _ (hmem' i (by simp)).2 h
          | cons i1 rs =>
            simp only at h
            have : ∀ (l : List Nat) (F : Nat → Prop), allL F l → ∀ i ∈ l, F i := by
              intro l F
              induction l with
              | nil => exact fun _ _ h => by cases h
              | cons a l ihl =>
                intro h i hi
                rcases List.mem_cons.1 hi with rfl | hi
                · exact h.1
                · exact ihl h.2 i hi
            exact fun i hi => wr i (hmem' i hi).2 (this _ _ h i hi)
        exact ⟨.inl hS, fun hn => (by have := hmem' i0 (by simp); rw [hn i0 this.1] at this; cases this.2), fun i hi hr => all i (hmem i hi hr)⟩

/-- What code stores into, and nothing else, may part behind it. -/
def Same (l : List Nat) (e e' : Nat → Value) : Prop := ∀ t, t ∉ l → e' t = e t
theorem Same.trans {l : List Nat} {a b c : Nat → Value} (h : Same l a b) (k : Same l b c) : Same l a c := fun t ht => (k t ht).trans (h t ht)
theorem Same.wider {l l' : List Nat} {a b : Nat → Value} (h : Same l a b) (hl : ∀ t, t ∈ l → t ∈ l') : Same l' a b := fun t ht => h t fun hm => ht (hl t hm)
abbrev dsts (ops : Array Oper) : List Nat := ops.toList.filterMap (·.dst)
theorem same_put {ops : Array Oper} {i : Nat} {o : Oper} (ho : ops[i]? = some o) (s : St) (v : Value) : Same (dsts ops) s.env (s.put o.dst v).env := fun t ht =>
  put_env s o.dst v t fun x hx hxt => ht (List.mem_filterMap.2 ⟨o, by simpa using Array.mem_of_getElem? ho, by rw [hx, hxt]⟩)

/-! ### Down to the model's own calculus -/
def stOf (a : Act) : St := { env := fun t => a.tmps.getD t undef, ds := a.defers }
theorem stOf_eval (a : Act) : (stOf a).eval = a.eval := by funext x; cases x <;> rfl
def dstOk (n : Nat) (ops : Array Oper) : Bool := ops.toList.all fun o => match o.dst with | some d => Nat.blt d n | none => true
theorem dstOk_spec {n : Nat} (h : dstOk n ops = true) {i : Nat} {o : Oper} (ho : ops[i]? = some o) {d : Nat} (hd : o.dst = some d) : d < n := by
  have := List.all_eq_true.1 h o (by simpa using Array.mem_of_getElem? ho)
  simp only [hd] at this
  exact (Nat.blt_eq (x := _) (y := _)).mp this
theorem put_size (a : Act) (d : Option Tmp) (v : Value) : (a.put d v).tmps.size = a.tmps.size := by cases d <;> simp [Act.put]
theorem stOf_put (a : Act) (d : Option Tmp) (v : Value) (h : ∀ x, d = some x → x < a.tmps.size) : stOf (a.put d v) = (stOf a).put d v := by
  cases d with
  | none => rfl
  | some d =>
    have hd := h d rfl
    show St.mk _ _ = St.mk _ _
    congr 1
    funext t
    show (a.tmps.setIfInBounds d v).getD t undef = bif Nat.beq t d then v else a.tmps.getD t undef
    cases hb : Nat.beq t d with
    | true =>
      have := Nat.eq_of_beq_eq_true hb; subst this
      simp [Array.getD, hd]
    | false =>
      have hne : d ≠ t := fun e => by subst e; rw [Nat.beq_refl] at hb; cases hb
      by_cases ht : t < a.tmps.size
      · simp [Array.getD, ht, hne]
      · simp [Array.getD, ht]

theorem yielded_gval {a : Act} {j : Nat} : yielded ops a.tmps j = (match gval ops j (stOf a) with | .bool b => some b | _ => none) := by
  unfold yielded gval
  cases hj : ops[j]? with
  | none => rfl
  | some o =>
    simp only [Option.bind_some]
    cases hd : o.dst with
    | none => rfl
    | some d =>
      simp only [Option.bind_some]
      show _ = (match a.tmps.getD d undef with | .bool b => some b | _ => none)
      by_cases h : d < a.tmps.size
      · have e1 : a.tmps[d]? = some a.tmps[d] := Array.getElem?_eq_getElem h
        have e2 : a.tmps.getD d undef = a.tmps[d] := by simp [Array.getD, h]
        rw [e1, e2]
        cases a.tmps[d] <;> rfl
      · have e1 : a.tmps[d]? = none := Array.getElem?_eq_none (Nat.le_of_not_lt h)
        have e2 : a.tmps.getD d undef = undef := by simp [Array.getD, h]
        rw [e1, e2]; rfl

variable {r : Option Nat} {Q : Exit → Act → World → Prop}

theorem opG_sound {N : Nat} (hd : dstOk N ops = true) {i : Nat} {K : St → World → Prop} {Kn : Act → World → Prop} {a : Act} {w : World} (ha : a.tmps.size = N)
    (hk : ∀ (a' : Act) w', a'.tmps.size = N → a'.defers = a.defers → Same (dsts ops) (stOf a).env (stOf a').env → K (stOf a') w' → Kn a' w') (h : opG P ops i K (stOf a) w) : wpOpIn (Fr r) 0 P ops Q i Kn a w := by
  unfold opG at h
  unfold wpOpIn
  cases ho : ops[i]? with
  | none => simp only [ho] at h ⊢; exact hk _ _ ha rfl (fun _ _ => rfl) h
  | some o =>
    simp only [ho] at h ⊢
    have hput : ∀ v, stOf (a.put o.dst v) = (stOf a).put o.dst v := fun v => stOf_put a o.dst v fun x hx => by rw [ha]; exact dstOk_spec hd ho hx
    have hds : ∀ v, (a.put o.dst v).defers = a.defers := fun v => by cases o.dst <;> rfl
    have hsm : ∀ v, Same (dsts ops) (stOf a).env (stOf (a.put o.dst v)).env := fun v => by rw [hput]; exact same_put ho _ v
    have run : opRun P o (stOf a).eval (fun v w => K ((stOf a).put o.dst v) w) w → o.wpIn (Fr r) 0 P a w Kn Q := fun h => by
      refine opRun_sound ?_
      rw [stOf_eval] at h
      exact opRun.mono (fun v w' h => hk _ _ (by rw [put_size, ha]) (hds v) (hsm v) (by rw [hput]; exact h)) h
    cases hg : o.guard with
    | none =>
      simp only [hg] at h
      have : Region.wanted o (yielded ops a.tmps) = true := by simp [Region.wanted, hg]
      rw [if_pos this]; exact run h
    | some g =>
      obtain ⟨j, want⟩ := g
      simp only [hg] at h
      have hy : Region.wanted o (yielded ops a.tmps) = (yielded ops a.tmps j == some want) := by simp [Region.wanted, hg]
      rw [hy, yielded_gval]
      have no : K ((stOf a).put o.dst undef) w → (∀ f, o.about P w a.eval = some f → (Fr r).fn f) ∧ Kn (a.put o.dst undef) w := fun h =>
        ⟨fun _ _ => trivial, hk _ _ (by rw [put_size, ha]) (hds _) (hsm _) (by rw [hput]; exact h)⟩
      cases hv : gval ops j (stOf a) <;> rw [hv] at h <;> first | (rw [if_neg (by simp)]; exact no h) | skip
      rename_i t
      have h := Guard_out h
      by_cases ht : t = want
      · rw [if_pos (by simp [ht])]; exact run (h.1 ht)
      · rw [if_neg (by simp [ht])]; exact no (h.2 ht)

/-- How an activation may part from the one at the region's head. -/
def At (N : Nat) (l : List Nat) (a0 a : Act) : Prop := a.tmps.size = N ∧ a.defers = a0.defers ∧ Same l (stOf a0).env (stOf a).env
theorem At.refl {N : Nat} {l : List Nat} {a : Act} (h : a.tmps.size = N) : At N l a a := ⟨h, rfl, fun _ _ => rfl⟩
theorem At.step {N : Nat} {l : List Nat} {a0 a a' : Act} (h : At N l a0 a) (h1 : a'.tmps.size = N) (h2 : a'.defers = a.defers) (h3 : Same l (stOf a).env (stOf a').env) : At N l a0 a' :=
  ⟨h1, h2.trans h.2.1, h.2.2.trans h3⟩

theorem opsVC_sound {N : Nat} (hd : dstOk N ops = true) {K : St → World → Prop} {a0 : Act} (l : List Nat) : ∀ (a : Act) (w : World), At N (dsts ops) a0 a →
    (∀ (a' : Act) w', At N (dsts ops) a0 a' → K (stOf a') w' → Q .normal a' w') → opsVC P ops K l (stOf a) w → wpOpsIn (Fr r) 0 P ops Q l a w := by
  induction l with
  | nil => exact fun a w ha hk h => hk a w ha h
  | cons i l ih =>
    intro a w ha hk h
    rw [wpOpsIn_cons]
    exact opG_sound hd ha.1 (fun a' w' h1 h2 h3 h' => ih a' w' (ha.step h1 h2 h3) hk h') (opGs_out h)

theorem anyV_sound {N : Nat} (hd : dstOk N ops = true) {K : St → World → Prop} {a0 : Act} : ∀ (fuel : Nat) (S : List Nat → World → Prop) (done : List Nat) (listed : Array Bool) (a : Act) (w : World), At N (dsts ops) a0 a →
    (∀ (a' : Act) w', At N (dsts ops) a0 a' → K (stOf a') w' → Q .normal a' w') → listed.size = ops.size → (∀ j, j < ops.size → (listed.getD j false = true ↔ j ∈ done)) →
    (∀ (j : Nat) (o : Oper), ops[j]? = some o → ∀ e ∈ o.after, Region.binds .any e = true → e.on < ops.size) →
    anyV P ops K fuel S done (stOf a) w → wpAnyIn (Fr r) 0 P .any ops Q fuel listed a w := by
  intro fuel
  induction fuel with
  | zero =>
    intro S done listed a w ha hk hs hl he h
    refine ⟨?_, hk a w ha h.2.2⟩
    refine List.eq_nil_iff_forall_not_mem.2 fun j hj => ?_
    obtain ⟨h1, o, ho, h2⟩ := mem_ready.1 hj
    have hlt := (Array.getElem?_eq_some_iff.1 ho).1
    have := h.2.1 j hlt
    rw [rdy_spec.2 ⟨fun hd => (by
      have := (hl j hlt).2 hd
      rw [Array.getD, dif_pos (by omega)] at this h1; rw [this] at h1; cases h1), o, ho, fun e he' hb => (hl _ (he j o ho e he' hb)).1 (h2 e he' hb)⟩] at this
    cases this
  | succ f ih =>
    intro S done listed a w ha hk hs hl he h
    have rd : ∀ j, j ∈ Region.ready .any ops listed → j < ops.size ∧ rdy ops done j = true := fun j hj => by
      obtain ⟨h1, o, ho, h2⟩ := mem_ready.1 hj
      have hlt := (Array.getElem?_eq_some_iff.1 ho).1
      exact ⟨hlt, rdy_spec.2 ⟨fun hd => (by
        have := (hl j hlt).2 hd
        rw [Array.getD, dif_pos (by omega)] at this h1; rw [this] at h1; cases h1), o, ho, fun e he' hb => (hl _ (he j o ho e he' hb)).1 (h2 e he' hb)⟩⟩
    refine ⟨fun hn => hk a w ha (h.2.1 fun j hj => ?_), fun i hi => ?_⟩
    · cases hr : rdy ops done j with
      | false => rfl
      | true =>
        obtain ⟨h1, o, ho, h2⟩ := rdy_spec.1 hr
        have : j ∈ Region.ready .any ops listed := mem_ready.2 ⟨(by
          cases hb : listed.getD j true with
          | false => rfl
          | true =>
            rw [Array.getD, dif_pos (by omega)] at hb
            exact absurd ((hl j hj).1 (by rw [Array.getD, dif_pos (by omega)]; exact hb)) h1), o, ho, fun e he' hb => (hl _ (he j o ho e he' hb)).2 (h2 e he' hb)⟩
        rw [hn] at this; cases this
    · obtain ⟨hlt, hr⟩ := rd i hi
      refine opG_sound hd ha.1 (fun a' w' h1 h2 h3 h' => ih S (i :: done) _ a' w' (ha.step h1 h2 h3) hk (by simp [hs]) (fun j hj => ?_) he h') (h.2.2 i hlt hr)
      rw [List.mem_cons, ← hl j hj]
      by_cases e : j = i
      · subst e; simp [Array.getD, hs, hlt]
      · have e' : i ≠ j := fun h => e h.symm
        rw [getD_set_ne false e']; simp [e]

def aftOk (ops : Array Oper) : Bool := ops.toList.all fun o => o.after.toList.all fun e => Nat.blt e.on ops.size
theorem aftOk_spec (h : aftOk ops = true) : ∀ (j : Nat) (o : Oper), ops[j]? = some o → ∀ e ∈ o.after, Region.binds .any e = true → e.on < ops.size := fun j o ho e he _ => by
  have := List.all_eq_true.1 (List.all_eq_true.1 h o (by simpa using Array.mem_of_getElem? ho)) e (by simpa using he)
  exact (Nat.blt_eq (x := _) (y := _)).mp this

/-- The world behind a draw. -/
def dr (w : World) : World := { w with drawn := w.drawn + 1 }

theorem region_sound {N : Nat} (hd : dstOk N ops = true) {K : St → World → Prop} {id : Nat} {a : Act} {w : World} (ha : a.tmps.size = N)
    (hk : ∀ (a' : Act) w', At N (dsts ops) a a' → K (stOf a') w' → Q .normal a' w') (h : opsVC P ops K (List.range ops.size) (stOf a) w) : (Code.region id ops false).wpIn (Fr r) 0 P Q a w :=
  wpIn_region (opsVC_sound hd _ a w (.refl ha) hk h)
theorem region_draw_sound {N : Nat} (hm : P.follows .mixedOrders = true) (hd : dstOk N ops = true) (hf : aftOk ops = true) {K : St → World → Prop} {id : Nat} {a : Act} {w : World} (ha : a.tmps.size = N)
    (hk : ∀ (a' : Act) w', At N (dsts ops) a a' → K (stOf a') w' → Q .normal a' w') {S : World → Prop} (hS : S (dr w))
    (h : drawVC P ops K ops.size S [] (stOf a) (dr w)) : (Code.region id ops true).wpIn (Fr r) 0 P Q a w :=
  wpIn_region_any hm (anyV_sound hd _ _ [] _ a _ (.refl ha) hk (by simp) (fun j hj => by simp [Array.getD, hj]) (aftOk_spec hf) (drawVC_any _ _ _ _ _ hS (fun _ h => by cases h) h))
end
end Go.Eng
