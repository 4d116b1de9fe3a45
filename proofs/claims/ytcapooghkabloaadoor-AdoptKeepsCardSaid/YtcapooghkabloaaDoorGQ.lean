/- Part of the proof of a law of this seat: facts that it uses, each proved here. No conditions. -/
import Derived.Test.YtcapooghkabloaaDoorGM
import Derived.Test.YtcapooghkabloaaDoorGN
import Derived.Test.YtcapooghkabloaaDoorGP
set_option linter.unusedVariables false
namespace Go.Proofs
open Go Go.Eng
/-! ### Trees as lists: each node with what stands in it, in the document's order -/
abbrev En := List (Nat × List Nat)
def ids (E : En) : List Nat := E.map Prod.fst
theorem ids_append (E F : En) : ids (E ++ F) = ids E ++ ids F := List.map_append
theorem ids_cons (e : Nat × List Nat) (F : En) : ids (e :: F) = e.1 :: ids F := rfl
inductive WF : List Nat → En → Prop
  | nil : WF [] []
  | cons {q : Nat} {l rs : List Nat} {E1 E2 : En} : WF l E1 → WF rs E2 → WF (q :: rs) ((q, l) :: (E1 ++ E2))
theorem WF.append {r1 r2 : List Nat} {E1 E2 : En} (h1 : WF r1 E1) (h2 : WF r2 E2) : WF (r1 ++ r2) (E1 ++ E2) := by
  induction h1 with
  | nil => exact h2
  | @cons q l rs E1 E2' a b iha ihb =>
    have := WF.cons (q := q) a ihb
    rw [List.cons_append, List.cons_append, List.append_assoc]
    exact this
theorem WF.kids {l : List Nat} {E : En} (h : WF l E) : (∀ y ∈ l, y ∈ ids E) ∧ ∀ e ∈ E, ∀ y ∈ e.2, y ∈ ids E := by
  induction h with
  | nil => exact ⟨fun y hy => (by cases hy), fun e he => (by cases he)⟩
  | cons a b iha ihb =>
    refine ⟨fun y hy => ?_, fun e he y hy => ?_⟩
    · rw [ids_cons, ids_append]
      rcases List.mem_cons.1 hy with rfl | hy
      · simp
      · simp [ihb.1 y hy]
    · rw [ids_cons, ids_append]
      rcases List.mem_cons.1 he with rfl | he
      · simp [iha.1 y hy]
      · rcases List.mem_append.1 he with he | he
        · simp [iha.2 e he y hy]
        · simp [ihb.2 e he y hy]
/-- A tree with its rightmost way, and what still stands behind all of it. -/
inductive Op : List Nat → Option Nat → En → Prop
  | one {q : Nat} {l : List Nat} {E : En} {x : Option Nat} : WF l E → Op [q] x ((q, l ++ x.toList) :: E)
  | cons {q q' : Nat} {S l : List Nat} {x : Option Nat} {E1 E2 : En} : WF l E1 → Op (q' :: S) x E2 → Op (q :: q' :: S) x ((q, l ++ [q']) :: (E1 ++ E2))
theorem Op.join {S S2 : List Nat} {x : Nat} {y z : Option Nat} {E E2 : En} (h : Op S z E) (hz : z = some x) (h2 : Op (x :: S2) y E2) : Op (S ++ x :: S2) y (E ++ E2) := by
  induction h with
  | one a =>
    subst hz
    exact Op.cons a h2
  | @cons q q' S l z E1 E2' a b ih =>
    have := Op.cons (q := q) a (ih hz)
    rw [List.cons_append, List.cons_append, List.cons_append, List.append_assoc]
    exact this
theorem Op.split : ∀ (S1 : List Nat) {x : Nat} {S2 : List Nat} {y : Option Nat} {E : En}, S1 ≠ [] → Op (S1 ++ x :: S2) y E → ∃ E1 E2, E = E1 ++ E2 ∧ Op S1 (some x) E1 ∧ Op (x :: S2) y E2
  | [], _, _, _, _, h, _ => absurd rfl h
  | [q], x, S2, y, E, _, h => by
    cases h with
    | cons a b => exact ⟨_, _, rfl, Op.one (x := some x) a, b⟩
  | q :: q' :: S1, x, S2, y, E, _, h => by
    cases h with
    | cons a b =>
      obtain ⟨F1, F2, e, h1, h2⟩ := Op.split (q' :: S1) (by simp) b
      rw [e]
      exact ⟨_, F2, by rw [← List.append_assoc]; rfl, Op.cons a h1, h2⟩
theorem Op.close {S : List Nat} {z : Option Nat} {E : En} (h : Op S z E) (hz : z = none) : ∃ q S', S = q :: S' ∧ WF [q] E := by
  induction h with
  | @one q l E z a =>
    subst hz
    refine ⟨_, _, rfl, ?_⟩
    have := WF.cons (q := q) a WF.nil
    rw [List.append_nil] at this
    rw [show (none : Option Nat).toList = [] from rfl, List.append_nil]
    exact this
  | @cons q q' S l z E1 E2 a b ih =>
    obtain ⟨_, S', e, h⟩ := ih hz
    cases e
    refine ⟨_, _, rfl, ?_⟩
    have := WF.cons (q := q) (a.append h) WF.nil
    rw [List.append_nil] at this
    exact this
theorem Op.head {q : Nat} {S : List Nat} {x : Option Nat} {E : En} (h : Op (q :: S) x E) : ∃ l E', E = (q, l) :: E' ∧ ∀ q', Op (q' :: S) x ((q', l) :: E') := by
  cases h with
  | one a => exact ⟨_, _, rfl, fun q' => Op.one a⟩
  | cons a b => exact ⟨_, _, rfl, fun q' => Op.cons a b⟩
theorem Op.kids {S : List Nat} {x : Option Nat} {E : En} (h : Op S x E) : ∀ e ∈ E, ∀ y ∈ e.2, y ∈ (ids E).tail ∨ some y = x := by
  induction h with
  | @one q l E x a =>
    intro e he y hy
    rcases List.mem_cons.1 he with rfl | he
    · rcases List.mem_append.1 (show y ∈ l ++ x.toList from hy) with hy | hy
      · exact .inl (a.kids.1 y hy)
      · cases x with
        | none => cases hy
        | some z =>
          have : y = z := by simpa using hy
          exact .inr (by rw [this])
    · exact .inl (a.kids.2 e he y hy)
  | cons a b ih =>
    intro e he y hy
    have tl : ∀ {F : En} {y}, y ∈ (ids F).tail → y ∈ ids F := fun h => List.mem_of_mem_tail h
    rcases List.mem_cons.1 he with rfl | he
    · left
      show y ∈ ids (_ ++ _)
      rw [ids_append]
      rcases List.mem_append.1 hy with hy | hy
      · exact List.mem_append.2 (.inl (a.kids.1 y hy))
      · have e1 := List.mem_singleton.1 hy
        refine List.mem_append.2 (.inr ?_)
        cases b with
        | one c => rw [e1]; simp [ids]
        | cons c d => rw [e1]; simp [ids]
    · show y ∈ ids (_ ++ _) ∨ _
      rw [ids_append]
      rcases List.mem_append.1 he with he | he
      · exact .inl (List.mem_append.2 (.inl (a.kids.2 e he y hy)))
      · exact (ih e he y hy).imp (fun h => List.mem_append.2 (.inr (tl h))) id
theorem Op.sub {S : List Nat} {x : Option Nat} {E : En} (h : Op S x E) : S.Sublist (ids E) := by
  induction h with
  | one a => exact List.Sublist.cons_cons _ (List.nil_sublist _)
  | cons a b ih =>
    refine List.Sublist.cons_cons _ ?_
    show List.Sublist _ (ids (_ ++ _))
    rw [ids_append]
    exact ih.trans (List.sublist_append_right _ _)
/-- A node leaves; a node comes. -/
def fil (x : Nat) (E : En) : En := E.map fun e => (e.1, e.2.filter fun y => decide (y ≠ x))
def app (p x : Nat) (E : En) : En := E.map fun e => (e.1, e.2 ++ if e.1 = p then [x] else [])
theorem fil_append (x : Nat) (E F : En) : fil x (E ++ F) = fil x E ++ fil x F := List.map_append
theorem app_append (p x : Nat) (E F : En) : app p x (E ++ F) = app p x E ++ app p x F := List.map_append
theorem fil_ids (x : Nat) (E : En) : ids (fil x E) = ids E := by unfold ids fil; rw [List.map_map]; rfl
theorem app_ids (p x : Nat) (E : En) : ids (app p x E) = ids E := by unfold ids app; rw [List.map_map]; rfl
theorem filter_no {x : Nat} {l : List Nat} (h : x ∉ l) : l.filter (fun y => decide (y ≠ x)) = l := by
  rw [List.filter_eq_self]
  intro y hy
  have : y ≠ x := fun e => h (e ▸ hy)
  simpa using this
theorem fil_id {x : Nat} : ∀ {E : En}, (∀ e ∈ E, x ∉ e.2) → fil x E = E
  | [], _ => rfl
  | (q, l) :: E, h => by
    show (q, l.filter _) :: fil x E = _
    rw [filter_no (h (q, l) (by simp)), fil_id fun e he => h e (by simp [he])]
theorem app_id {p x : Nat} : ∀ {E : En}, p ∉ ids E → app p x E = E
  | [], _ => rfl
  | (q, l) :: E, h => by
    show (q, l ++ if q = p then [x] else []) :: app p x E = _
    rw [if_neg (fun e => h (by rw [e]; simp [ids])), List.append_nil, app_id fun he => h (by simp [ids] at he ⊢; exact .inr he)]
theorem WF.no {l : List Nat} {E : En} (h : WF l E) {x : Nat} (hx : x ∉ ids E) : x ∉ l ∧ fil x E = E :=
  ⟨fun e => hx (h.kids.1 x e), fil_id fun e he hy => hx (h.kids.2 e he x hy)⟩
theorem Op.fil {S : List Nat} {z : Option Nat} {E : En} (h : Op S z E) {x : Nat} (hz : z = some x) (hx : x ∉ ids E) : Op S none (fil x E) := by
  induction h with
  | @one q l E z a =>
    subst hz
    have hx' : x ∉ ids E := fun e => hx (by rw [ids_cons]; simp [e])
    obtain ⟨h1, h2⟩ := a.no hx'
    have := Op.one (q := q) (x := none) a
    have e1 : (l ++ (some x).toList).filter (fun y => decide (y ≠ x)) = l ++ (none : Option Nat).toList := by
      rw [List.filter_append, filter_no h1]; simp
    show Op [q] none ((q, (l ++ (some x).toList).filter (fun y => decide (y ≠ x))) :: Go.Proofs.fil x E)
    rw [e1, h2]
    exact this
  | @cons q q' S l z E1 E2 a b ih =>
    have hx1 : x ∉ ids E1 := fun e => hx (by rw [ids_cons, ids_append]; simp [e])
    have hx2 : x ∉ ids E2 := fun e => hx (by rw [ids_cons, ids_append]; simp [e])
    obtain ⟨h1, h2⟩ := a.no hx1
    have hq : x ≠ q' := fun e => hx2 (b.sub.subset (by rw [e]; simp))
    have e1 : (l ++ [q']).filter (fun y => decide (y ≠ x)) = l ++ [q'] := by
      refine filter_no fun e => ?_
      rcases List.mem_append.1 e with e | e
      · exact h1 e
      · exact hq (by simpa using e)
    show Op (q :: q' :: S) none ((q, (l ++ [q']).filter (fun y => decide (y ≠ x))) :: Go.Proofs.fil x (E1 ++ E2))
    rw [e1, fil_append, h2]
    exact Op.cons a (ih hz hx2)
theorem Op.attach : ∀ (S1 : List Nat) {cm : Nat} {S2 : List Nat} {E : En} (x : Nat), Op (S1 ++ cm :: S2) none E → (ids E).Nodup → Op (S1 ++ [cm]) (some x) (app cm x E)
  | [], cm, S2, E, x, h, hn => by
    obtain ⟨q, S', e, hw⟩ := h.close rfl
    cases e
    cases hw with
    | cons a b =>
      cases b
      rename_i l E1
      rw [List.append_nil] at hn ⊢
      have hcm : cm ∉ ids E1 := by
        have hn : (cm :: ids E1).Nodup := hn
        exact (List.nodup_cons.1 hn).1
      show Op [cm] (some x) ((cm, l ++ if cm = cm then [x] else []) :: app cm x E1)
      rw [if_pos rfl, app_id hcm]
      exact Op.one (x := some x) a
  | [q], cm, S2, E, x, h, hn => by
    cases h with
    | @cons q q' S l z E1 E2 a b =>
      have hn : (q :: ids (E1 ++ E2)).Nodup := hn
      rw [ids_append] at hn
      have hc : cm ∈ ids E2 := b.sub.subset (by simp)
      have h1 : q ≠ cm := fun e => (List.nodup_cons.1 hn).1 (by rw [e]; simp [hc])
      have h2 := (List.nodup_append.1 (List.nodup_cons.1 hn).2)
      have h3 : cm ∉ ids E1 := fun e => h2.2.2 cm e cm hc rfl
      have ih := Op.attach [] x b h2.2.1
      show Op [q, cm] (some x) ((q, (l ++ [cm]) ++ if q = cm then [x] else []) :: app cm x (E1 ++ E2))
      rw [if_neg h1, List.append_nil, app_append, app_id h3]
      exact Op.cons a ih
  | q :: q' :: S1, cm, S2, E, x, h, hn => by
    cases h with
    | @cons q _ S l z E1 E2 a b =>
      have hn : (q :: ids (E1 ++ E2)).Nodup := hn
      rw [ids_append] at hn
      have hc : cm ∈ ids E2 := b.sub.subset (by simp)
      have h1 : q ≠ cm := fun e => (List.nodup_cons.1 hn).1 (by rw [e]; simp [hc])
      have h2 := (List.nodup_append.1 (List.nodup_cons.1 hn).2)
      have h3 : cm ∉ ids E1 := fun e => h2.2.2 cm e cm hc rfl
      have ih := Op.attach (q' :: S1) x b h2.2.1
      show Op (q :: q' :: (S1 ++ [cm])) (some x) ((q, (l ++ [q']) ++ if q = cm then [x] else []) :: app cm x (E1 ++ E2))
      rw [if_neg h1, List.append_nil, app_append, app_id h3]
      exact Op.cons a ih
/-! ### What stands in a node comes behind it -/
def Ord : En → Prop
  | [] => True
  | e :: E => (∀ y ∈ e.2, y ∈ ids E) ∧ Ord E
theorem Ord.append : ∀ {E F : En}, Ord E → Ord F → Ord (E ++ F)
  | [], _, _, h => h
  | e :: E, F, h, k => ⟨fun y hy => by show y ∈ ids (E ++ F); rw [ids_append]; exact List.mem_append.2 (.inl (h.1 y hy)), Ord.append h.2 k⟩
theorem WF.ord {l : List Nat} {E : En} (h : WF l E) : Ord E := by
  induction h with
  | nil => trivial
  | cons a b iha ihb => exact ⟨fun y hy => by rw [ids_append]; exact List.mem_append.2 (.inl (a.kids.1 y hy)), iha.append ihb⟩
theorem Ord.kids : ∀ {E : En}, Ord E → ∀ e ∈ E, ∀ y ∈ e.2, y ∈ ids E
  | [], _, e, he, _, _ => by cases he
  | d :: E, h, e, he, y, hy => by
    rw [ids_cons]
    rcases List.mem_cons.1 he with rfl | he
    · exact List.mem_cons_of_mem _ (h.1 y hy)
    · exact List.mem_cons_of_mem _ (Ord.kids h.2 e he y hy)
def rk : En → Nat → Nat
  | [], _ => 0
  | e :: E, q => if q = e.1 then E.length + 1 else rk E q
theorem rk_le : ∀ (E : En) (q : Nat), rk E q ≤ E.length
  | [], _ => Nat.le_refl _
  | e :: E, q => by
    unfold rk
    have := rk_le E q
    split
    · exact Nat.le_refl _
    · simp; omega
theorem rk_lt : ∀ {E : En}, Ord E → (ids E).Nodup → ∀ e ∈ E, ∀ y ∈ e.2, rk E y < rk E e.1
  | [], _, _, e, he, _, _ => by cases he
  | d :: E, h, hn, e, he, y, hy => by
    have hn : (d.1 :: ids E).Nodup := hn
    have hn1 := List.nodup_cons.1 hn
    unfold rk
    rcases List.mem_cons.1 he with rfl | he
    · have hyE := h.1 y hy
      have hne : y ≠ e.1 := fun e => hn1.1 (e ▸ hyE)
      rw [if_neg hne, if_pos rfl]
      have := rk_le E y
      omega
    · have hyE := Ord.kids h.2 e he y hy
      have hne : y ≠ d.1 := fun e => hn1.1 (e ▸ hyE)
      have heE : e.1 ∈ ids E := List.mem_map.2 ⟨e, he, rfl⟩
      have hne2 : e.1 ≠ d.1 := fun e => hn1.1 (e ▸ heE)
      rw [if_neg hne, if_neg hne2]
      exact rk_lt h.2 hn1.2 e he y hy
end Go.Proofs
set_option linter.unusedVariables false
namespace Go.Proofs
open Go Go.Eng
variable {m m' : AM}
/-! ### What a node is behind a change -/
theorem leaveM_nt (m : AM) (q k : Nat) {n : NodeM} (hn : (leaveM m q).nodes[k]? = some n) : ∃ x, m.nodes[k]? = some x ∧ n.name = x.name ∧ n.text = x.text := by
  unfold leaveM at hn
  split at hn
  · exact ⟨n, hn, rfl, rfl⟩
  · split at hn
    · exact ⟨n, hn, rfl, rfl⟩
    · obtain ⟨x, hx, rfl | ⟨_, rfl⟩⟩ := modN_at hn
      · exact ⟨_, hx, rfl, rfl⟩
      · exact ⟨x, hx, rfl, rfl⟩
theorem mod_self {k : Nat} {f : NodeM → NodeM} {x : NodeM} (h : m.nodes[k]? = some x) : (modN m k f).nodes[k]? = some (f x) := by
  rw [modN_some h]
  show (m.nodes.set k (f x))[k]? = _
  rw [List.getElem?_set_self (List.getElem?_eq_some_iff.1 h).1]
theorem mod_other {k j : Nat} {f : NodeM → NodeM} (h : j ≠ k) : (modN m k f).nodes[j]? = m.nodes[j]? := by
  unfold modN
  split
  · rfl
  · show (m.nodes.set k _)[j]? = _
    rw [List.getElem?_set_ne (fun e => h e.symm)]
theorem nodeAt_of {q : Nat} {n : NodeM} (h : m.nodes[q]? = some n) : nodeAt m q = n := by unfold nodeAt; rw [List.getD_eq_getElem?_getD, h]; rfl
/-- Where a node is put. -/
theorem put_at {c : Nat} (h : TOk c m) {p q : Nat} (k : Nat) (hk : k < m.nodes.length) :
    (nodeAt (putM m p q) k).inner = (nodeAt m k).inner.filter (fun y => decide (y ≠ q)) ++ (if k = p then [q] else []) ∧ (nodeAt (putM m p q) k).name = (nodeAt m k).name ∧ (nodeAt (putM m p q) k).text = (nodeAt m k).text := by
  have l1 := leaveM_len m q
  have hl : k < (leaveM m q).nodes.length := by rw [l1]; exact hk
  obtain ⟨n1, hn1⟩ : ∃ n1, (leaveM m q).nodes[k]? = some n1 := ⟨_, List.getElem?_eq_getElem hl⟩
  obtain ⟨x, hx, _, _, e3, e4, e5⟩ := leaveM_at h hn1
  obtain ⟨n2, hn2, f1, f2, f3⟩ : ∃ n2, (modN (leaveM m q) q fun x => { x with parent := (p : Int) }).nodes[k]? = some n2 ∧ n2.inner = n1.inner ∧ n2.name = n1.name ∧ n2.text = n1.text := by
    by_cases hkq : k = q
    · subst hkq; exact ⟨_, mod_self hn1, rfl, rfl, rfl⟩
    · exact ⟨n1, by rw [mod_other hkq]; exact hn1, rfl, rfl, rfl⟩
  rw [nodeAt_of hx]
  unfold putM
  by_cases hkp : k = p
  · subst hkp
    rw [nodeAt_of (mod_self hn2), if_pos rfl]
    exact ⟨by show n2.inner ++ [q] = _; rw [f1, e5], f2.trans e3, f3.trans e4⟩
  · rw [nodeAt_of (by rw [mod_other hkp]; exact hn2), if_neg hkp, List.append_nil]
    exact ⟨by rw [f1, e5], f2.trans e3, f3.trans e4⟩
/-- What stands in nodes is as it is told. -/
def Real (m : AM) (E : En) : Prop := ∀ e ∈ E, e.1 < m.nodes.length ∧ (nodeAt m e.1).inner = e.2
theorem Real.append {E F : En} (h : Real m E) (k : Real m F) : Real m (E ++ F) := fun e he => (List.mem_append.1 he).elim (h e) (k e)
theorem Real.left {E F : En} (h : Real m (E ++ F)) : Real m E := fun e he => h e (List.mem_append.2 (.inl he))
theorem Real.right {E F : En} (h : Real m (E ++ F)) : Real m F := fun e he => h e (List.mem_append.2 (.inr he))
theorem Real.put {c : Nat} (hk : TOk c m) {E : En} (h : Real m E) (p q : Nat) : Real (putM m p q) (app p q (fil q E)) := by
  intro e he
  obtain ⟨d, hd, rfl⟩ := List.mem_map.1 he
  obtain ⟨b, hb, rfl⟩ := List.mem_map.1 hd
  obtain ⟨h1, h2⟩ := h b hb
  refine ⟨by rw [putM_len]; exact h1, ?_⟩
  show (nodeAt (putM m p q) b.1).inner = _
  rw [(put_at hk b.1 h1).1, h2]
/-- A new node, in which nothing stands. -/
theorem nodeAt_new {n0 : NodeM} (hm : m'.nodes = m.nodes ++ [n0]) : nodeAt m' m.nodes.length = n0 ∧ ∀ k, k < m.nodes.length → nodeAt m' k = nodeAt m k := by
  unfold nodeAt
  rw [hm]
  refine ⟨by rw [List.getD_eq_getElem?_getD]; simp, fun k hk => ?_⟩
  rw [List.getD_eq_getElem?_getD, List.getElem?_append_left hk, List.getD_eq_getElem?_getD]
theorem Real.node {E : En} (h : Real m E) {n0 : NodeM} (hm : m'.nodes = m.nodes ++ [n0]) : Real m' E := fun e he =>
  ⟨by rw [hm]; have := (h e he).1; simp; omega, by rw [(nodeAt_new hm).2 _ (h e he).1]; exact (h e he).2⟩
/-! ### Names and texts stay -/
structure NT (m m' : AM) : Prop where
  len : m.nodes.length ≤ m'.nodes.length
  nt : ∀ k, k < m.nodes.length → (nodeAt m' k).name = (nodeAt m k).name ∧ (nodeAt m' k).text = (nodeAt m k).text
theorem NT.refl (m : AM) : NT m m := ⟨Nat.le_refl _, fun _ _ => ⟨rfl, rfl⟩⟩
theorem NT.then {m'' : AM} (h : NT m m') (k : NT m' m'') : NT m m'' :=
  ⟨Nat.le_trans h.len k.len, fun q hq => ⟨(k.nt q (Nat.lt_of_lt_of_le hq h.len)).1.trans (h.nt q hq).1, (k.nt q (Nat.lt_of_lt_of_le hq h.len)).2.trans (h.nt q hq).2⟩⟩
theorem NT.put {c : Nat} (h : TOk c m) (p q : Nat) : NT m (putM m p q) := ⟨by rw [putM_len]; exact Nat.le_refl _, fun k hk => (put_at h k hk).2⟩
theorem NT.node {n0 : NodeM} (hm : m'.nodes = m.nodes ++ [n0]) : NT m m' := ⟨by rw [hm]; simp, fun k hk => by rw [(nodeAt_new hm).2 k hk]; exact ⟨rfl, rfl⟩⟩
/-- Of all children of a node another becomes the parent. -/
theorem moveL_at {c t : Nat} : ∀ (l : List Nat) (m : AM), TOk c m → t < m.elems.length → (∀ q ∈ l, q < m.nodes.length) → l.Nodup → elAt m t ∉ l →
    (∀ k, k < m.nodes.length → (nodeAt (moveL m t l) k).inner = if k = elAt m t then (nodeAt m k).inner.filter (fun y => decide (y ∉ l)) ++ l else (nodeAt m k).inner.filter (fun y => decide (y ∉ l))) ∧ NT m (moveL m t l)
  | [], m, h, ht, hl, hn, hc => by
    refine ⟨fun k hk => ?_, NT.refl _⟩
    have e : (nodeAt m k).inner.filter (fun y => decide (y ∉ ([] : List Nat))) = (nodeAt m k).inner := by
      rw [List.filter_eq_self]; intro y _; simp
    rw [e, List.append_nil, ite_self]; rfl
  | q :: l, m, h, ht, hl, hn, hc => by
    have hq := hl q (by simp)
    have hel := elAt_lt h.aok ht
    have hP := h.put (p := elAt m t) hel hq
    have e1 : elAt (putM m (elAt m t) q) t = elAt m t := elAt_put _ _ _ _
    obtain ⟨ih, nt⟩ := moveL_at l (putM m (elAt m t) q) hP (by rw [putM_elems]; exact ht) (fun y hy => by rw [putM_len]; exact hl y (by simp [hy])) (List.nodup_cons.1 hn).2 (by rw [e1]; exact fun e => hc (by simp [e]))
    refine ⟨fun k hk => ?_, (NT.put h _ _).then nt⟩
    have := ih k (by rw [putM_len]; exact hk)
    rw [e1] at this
    show (nodeAt (moveL (putM m (elAt m t) q) t l) k).inner = _
    rw [this, (put_at h k hk).1]
    have hql : q ∉ l := (List.nodup_cons.1 hn).1
    have ef : ((nodeAt m k).inner.filter (fun y => decide (y ≠ q))).filter (fun y => decide (y ∉ l)) = (nodeAt m k).inner.filter (fun y => decide (y ∉ q :: l)) := by
      rw [List.filter_filter]
      apply List.filter_congr
      intro y _
      by_cases h1 : y = q <;> by_cases h2 : y ∈ l <;> simp [h1, h2]
    by_cases hkt : k = elAt m t
    · rw [if_pos hkt, if_pos hkt, if_pos hkt, List.filter_append, ef]
      have : [q].filter (fun y => decide (y ∉ l)) = [q] := by simp [hql]
      rw [this, List.append_assoc]; rfl
    · rw [if_neg hkt, if_neg hkt, if_neg hkt, List.append_nil, ef]
end Go.Proofs
set_option linter.unusedVariables false
namespace Go.Proofs
open Go Go.Eng
variable {m m' : AM} {c : Nat}
/-! ### Elements have names, texts have nothing in them -/
theorem nameAt_node (hok : AOk c m) {i : Nat} (hi : i < m.elems.length) : nameAt m i = (nodeAt m (elAt m i)).name := nameAt_of (elAt_some hi) (nodeAt_some (elAt_lt hok hi))
structure Pl (m : AM) : Prop where
  nm : ∀ i, 0 < i → i < m.elems.length → nameAt m i ≠ ⟨#[]⟩
  lf : ∀ q, 0 < q → q < m.nodes.length → (nodeAt m q).name = ⟨#[]⟩ → (nodeAt m q).inner = []
  e0 : elAt m 0 = 0
  pos : 0 < m.elems.length
theorem Pl.put (h : Pl m) (hk : TOk c m) {t q : Nat} (ht : t < m.elems.length) : Pl (putM m (elAt m t) q) := by
  refine ⟨fun i hi hl => ?_, fun k hk0 hkl hn => ?_, by rw [elAt_put]; exact h.e0, by rw [putM_elems]; exact h.pos⟩
  · rw [nameAt_put]; exact h.nm i hi (by rw [putM_elems] at hl; exact hl)
  · rw [putM_len] at hkl
    obtain ⟨h1, h2, _⟩ := put_at hk (p := elAt m t) (q := q) k hkl
    rw [h2] at hn
    rw [h1, h.lf k hk0 hkl hn, if_neg]
    · rfl
    · intro e
      by_cases ht0 : t = 0
      · rw [ht0, h.e0] at e; omega
      · exact h.nm t (by omega) ht (by rw [nameAt_node hk.aok ht, ← e]; exact hn)
theorem Pl.append (h : Pl m) (hk : TOk c m) {p i : Nat} (hp : p < m.elems.length) : Pl (appendM m p i) := h.put hk hp
theorem Pl.moveL {t : Nat} : ∀ (l : List Nat) (m : AM), Pl m → TOk c m → t < m.elems.length → (∀ q ∈ l, q < m.nodes.length) → Pl (Go.Proofs.moveL m t l)
  | [], m, h, _, _, _ => h
  | q :: l, m, h, hk, ht, hl => Pl.moveL l (putM m (elAt m t) q) (h.put hk ht) (hk.put (elAt_lt hk.aok ht) (hl q (by simp))) (by rw [putM_elems]; exact ht) (fun y hy => by rw [putM_len]; exact hl y (by simp [hy]))
theorem copy_nodes (m : AM) (i : Nat) : (copyM m i).nodes = m.nodes ++ [⟨nameAt m i, attrsAt m i, ⟨#[]⟩, -1, []⟩] := rfl
theorem copy_el (m : AM) (n : Nat) : elAt (copyM m n) m.elems.length = m.nodes.length ∧ ∀ i, i < m.elems.length → elAt (copyM m n) i = elAt m i := by
  unfold elAt copyM addEl
  refine ⟨by simp [List.getD], fun i hi => ?_⟩
  show (m.elems ++ [_]).getD i 0 = _
  rw [List.getD_eq_getElem?_getD, List.getElem?_append_left hi, List.getD_eq_getElem?_getD]
theorem copy_name (hk : TOk c m) {n : Nat} : (∀ i, i < m.elems.length → nameAt (copyM m n) i = nameAt m i) ∧ nameAt (copyM m n) m.elems.length = nameAt m n :=
  ⟨fun i hi => (Live.of_lt hk.aok hi).copy.2, (Live.new { m with copies := m.copies + 1 } ⟨nameAt m n, attrsAt m n, ⟨#[]⟩, -1, []⟩).2⟩
theorem Pl.copy (h : Pl m) (hk : TOk c m) {n : Nat} (hn : 0 < n) (hl : n < m.elems.length) : Pl (copyM m n) := by
  obtain ⟨e1, e2⟩ := copy_el m n
  obtain ⟨n1, n2⟩ := copy_name hk (n := n)
  have hlen := copyM_elems m n
  obtain ⟨a1, a2⟩ := nodeAt_new (copy_nodes m n)
  refine ⟨fun i hi hil => ?_, fun q hq hql hnm => ?_, by rw [e2 0 h.pos]; exact h.e0, by rw [hlen]; omega⟩
  · by_cases h' : i < m.elems.length
    · rw [n1 i h']; exact h.nm i hi h'
    · have : i = m.elems.length := by omega
      rw [this, n2]; exact h.nm n hn hl
  · by_cases h' : q < m.nodes.length
    · rw [a2 q h'] at hnm ⊢; exact h.lf q hq h' hnm
    · have : q = m.nodes.length := by rw [copy_nodes] at hql; simp at hql; omega
      rw [this, a1]
/-! ### What is listed -/
structure LsOk (m : AM) (ls : List Int) : Prop where
  nd : ls.Nodup
  of : ∀ z ∈ ls, ∃ i : Nat, z = i ∧ 0 < i ∧ i < m.elems.length ∧ inK 3 (nameAt m i) = true
theorem removeL_sub (ls : List Int) (i : Int) : (removeL ls i).Sublist ls := by
  unfold removeL
  split
  · exact List.eraseIdx_sublist _ _
  · exact List.Sublist.refl _
theorem LsOk.sub {ls l' : List Int} (h : LsOk m ls) (hs : l'.Sublist ls) : LsOk m l' := ⟨h.nd.sublist hs, fun z hz => h.of z (hs.subset hz)⟩
theorem LsOk.to {ls : List Int} (h : LsOk m ls) (he : m.elems.length ≤ m'.elems.length) (hn : ∀ i, i < m.elems.length → nameAt m' i = nameAt m i) : LsOk m' ls :=
  ⟨h.nd, fun z hz => by
    obtain ⟨i, e, h1, h2, h3⟩ := h.of z hz
    exact ⟨i, e, h1, by omega, by rw [hn i h2]; exact h3⟩⟩
theorem findL_iff {ls : List Int} {i : Nat} : 0 ≤ findL ls i ↔ (i : Int) ∈ ls := by
  unfold findL
  rw [if_neg (by omega)]
  exact idx_mem (i : Int) ls 0
theorem removeL_not {ls : List Int} (h : ls.Nodup) (i : Nat) : (i : Int) ∉ removeL ls i := by
  unfold removeL
  split
  · rename_i h0
    intro hm
    have hlt := findL_lt ls i
    have hi : (findL ls i).toNat < ls.length := by omega
    have e : ls[(findL ls i).toNat] = (i : Int) := by
      have hmem := findL_iff.1 h0
      obtain ⟨j, hj, ej⟩ := List.getElem_of_mem hmem
      have := idx_at ls 0 j hj h
      rw [ej] at this
      have e2 : findL ls i = idx (i : Int) ls 0 := by unfold findL; rw [if_neg (by omega)]
      have : (findL ls i).toNat = j := by rw [e2, this]; omega
      simp only [this, ej]
    have hne := h
    rw [List.mem_eraseIdx_iff_getElem] at hm
    obtain ⟨k, hk, hkne, ek⟩ := hm
    have e1 := idx_at ls 0 k hk h
    have e2 := idx_at ls 0 (findL ls i).toNat hi h
    rw [ek] at e1
    rw [e, e1] at e2
    omega
  · rename_i h0
    exact fun hm => h0 (findL_iff.2 hm)
theorem LsOk.replace {ls : List Int} (h : LsOk m ls) {n x : Nat} (hx : (x : Int) ∉ ls) (hx0 : 0 < x) (hxl : x < m.elems.length) (hf : inK 3 (nameAt m x) = true) : LsOk m (replaceL ls n x) := by
  refine ⟨?_, fun z hz => ?_⟩
  · unfold replaceL
    split
    · refine List.pairwise_iff_getElem.2 fun i j hi hj hij => ?_
      have hn := List.pairwise_iff_getElem.1 h.nd
      rw [List.length_set] at hi hj
      rw [List.getElem_set, List.getElem_set]
      split
      · rw [if_neg (by omega)]
        exact fun e => hx (e ▸ List.getElem_mem _)
      · split
        · exact fun e => hx (e ▸ List.getElem_mem _)
        · exact hn i j hi hj hij
    · exact h.nd
  · rcases replaceL_mem hz with hz | rfl
    · exact h.of z hz
    · exact ⟨x, rfl, hx0, hxl, hf⟩
theorem LsOk.ins {ls : List Int} (h : LsOk m ls) {p x : Nat} (hx : (x : Int) ∉ ls) (hx0 : 0 < x) (hxl : x < m.elems.length) (hf : inK 3 (nameAt m x) = true) : LsOk m (insZ p x ls) := by
  have hp : (insZ p (x : Int) ls).Perm ((x : Int) :: ls) := by
    unfold insZ
    have := (List.perm_middle (l₁ := ls.take p) (a := (x : Int)) (l₂ := ls.drop p))
    rw [List.take_append_drop] at this
    rw [List.append_assoc]
    exact this
  refine ⟨(hp.nodup_iff).2 (List.nodup_cons.2 ⟨hx, h.nd⟩), fun z hz => ?_⟩
  rcases List.mem_cons.1 (hp.mem_iff.1 hz) with rfl | hz
  · exact ⟨x, rfl, hx0, hxl, hf⟩
  · exact h.of z hz
/-! ### Stacks -/
theorem idx_mid {P Q : List Nat} {n : Nat} (h : n ∉ P) : idx n (P ++ n :: Q) 0 = P.length := by
  have g : ∀ (P : List Nat) (k : Nat), n ∉ P → idx n (P ++ n :: Q) k = ((P.length + k : Nat) : Int) := fun P => by
    induction P with
    | nil => intro k _; show idx n (n :: Q) k = _; unfold idx; rw [if_pos rfl]; simp
    | cons a P ih =>
      intro k hk
      show idx n (a :: (P ++ n :: Q)) k = _
      unfold idx
      rw [if_neg (fun e => hk (by simp [e])), ih (k + 1) (fun e => hk (by simp [e]))]
      simp; omega
  have := g P 0 h
  rw [this]; rfl
theorem remF_mid {P Q : List Nat} {n : Nat} (h : n ∉ P) : remF n (P ++ n :: Q) = P ++ Q := by
  unfold remF
  rw [idx_mid h, if_pos (by omega), Int.toNat_natCast, List.eraseIdx_append_of_length_le (Nat.le_refl _), Nat.sub_self]
  rfl
theorem insAt_mid (P Q : List Nat) (x : Nat) : insAt P.length x (P ++ Q) = P ++ x :: Q := by
  unfold insAt
  rw [List.take_left, List.drop_left, List.append_assoc]; rfl
end Go.Proofs
set_option linter.unusedVariables false
namespace Go.Proofs
open Go Go.Eng
variable {m m' : AM} {W : List Nat} {E E1 E2 : En} {ls ls' : List Int}
/-! ### What stays of a tree -/
def plainN (m : AM) (q : Nat) : Bool := !inK 3 (nodeAt m q).name
structure KB (W : List Nat) (m : AM) (ls : List Int) (E : En) : Prop where
  ok : ∃ c, TOk c m
  pl : Pl m
  ls : LsOk m ls
  real : Real m E
  nd : (ids E).Nodup
  w : (ids E).filter (plainN m) = W
  all : ∀ q, q < m.nodes.length → q ∈ ids E
theorem KB.sub (h : KB W m ls E) (hs : ls'.Sublist ls) : KB W m ls' E := ⟨h.ok, h.pl, h.ls.sub hs, h.real, h.nd, h.w, h.all⟩
theorem KB.lt (h : KB W m ls E) {q : Nat} (hq : q ∈ ids E) : q < m.nodes.length := by
  obtain ⟨e, he, rfl⟩ := List.mem_map.1 hq
  exact (h.real e he).1
theorem KB.kid (h : KB W m ls E) {e : Nat × List Nat} (he : e ∈ E) {y : Nat} (hy : y ∈ e.2) : y < m.nodes.length := by
  obtain ⟨c, hk⟩ := h.ok
  obtain ⟨h1, h2⟩ := h.real e he
  exact hk.inb e.1 _ (nodeAt_some h1) y (by rw [h2]; exact hy)
theorem filter_nt (nt : NT m m') {l : List Nat} (hl : ∀ q ∈ l, q < m.nodes.length) : l.filter (plainN m') = l.filter (plainN m) :=
  List.filter_congr fun q hq => by unfold plainN; rw [(nt.nt q (hl q hq)).1]
theorem KB.put (h : KB W m ls E) {p q : Nat} (hp : p < m.elems.length) (hq : q < m.nodes.length) : KB W (putM m (elAt m p) q) ls (app (elAt m p) q (fil q E)) := by
  obtain ⟨c, hk⟩ := h.ok
  refine ⟨⟨c, hk.put (elAt_lt hk.aok hp) hq⟩, h.pl.put hk hp, h.ls.to (by rw [putM_elems]; exact Nat.le_refl _) (fun i _ => nameAt_put _ _ _), h.real.put hk _ _, by rw [app_ids, fil_ids]; exact h.nd, ?_, fun q hq => by rw [app_ids, fil_ids]; exact h.all q (by rw [putM_len] at hq; exact hq)⟩
  rw [app_ids, fil_ids, filter_nt (NT.put hk _ _) fun q hq => h.lt hq]; exact h.w
theorem KB.copy (h : KB W m ls (E1 ++ E2)) {n : Nat} (h0 : 0 < n) (hl : n < m.elems.length) (hf : inK 3 (nameAt m n) = true) :
    KB W (copyM m n) ls (E1 ++ (m.nodes.length, []) :: E2) := by
  obtain ⟨c, hk⟩ := h.ok
  obtain ⟨a1, a2⟩ := nodeAt_new (copy_nodes m n)
  have hlen : (copyM m n).nodes.length = m.nodes.length + 1 := by rw [copy_nodes]; simp
  have hr : Real (copyM m n) (E1 ++ E2) := h.real.node (copy_nodes m n)
  have hnt : NT m (copyM m n) := NT.node (copy_nodes m n)
  have hx : m.nodes.length ∉ ids (E1 ++ E2) := fun hx => by have := h.lt hx; omega
  have hp : (ids (E1 ++ (m.nodes.length, []) :: E2)).Perm (m.nodes.length :: ids (E1 ++ E2)) := by
    rw [ids_append, ids_append]; exact List.perm_middle
  refine ⟨⟨c + 1, hk.copy hl⟩, h.pl.copy hk h0 hl, h.ls.to (by rw [copyM_elems]; omega) (fun i hi => (copy_name hk (n := n)).1 i hi), ?_, ?_, ?_, fun q hq => ?_⟩
  · intro e he
    rcases List.mem_append.1 he with he | he
    · exact hr e (List.mem_append.2 (.inl he))
    · rcases List.mem_cons.1 he with rfl | he
      · exact ⟨by show m.nodes.length < _; omega, by show (nodeAt (copyM m n) m.nodes.length).inner = []; rw [a1]⟩
      · exact hr e (List.mem_append.2 (.inr he))
  · rw [hp.nodup_iff, List.nodup_cons]; exact ⟨hx, h.nd⟩
  · have e1 := filter_nt hnt (fun q hq => h.lt hq)
    rw [h.w, ids_append, List.filter_append] at e1
    have e2 : plainN (copyM m n) m.nodes.length = false := by unfold plainN; rw [a1, hf]; rfl
    rw [ids_append, ids_cons, List.filter_append, List.filter_cons, if_neg (by rw [e2]; decide)]
    exact e1
  · rw [hp.mem_iff]
    by_cases h' : q = m.nodes.length
    · rw [h']; exact List.mem_cons_self ..
    · exact List.mem_cons_of_mem _ (h.all q (by omega))
theorem KB.instead (h : KB W m ls (E1 ++ E2)) {n : Nat} (hn : (n : Int) ∈ ls) :
    KB W (copyM m n) (replaceL ls n (m.elems.length : Nat)) (E1 ++ (m.nodes.length, []) :: E2) := by
  obtain ⟨i, e, h0, hl, hf⟩ := h.ls.of _ hn
  obtain rfl : i = n := by omega
  have hc := h.copy h0 hl hf
  obtain ⟨c, hk⟩ := h.ok
  refine ⟨hc.ok, hc.pl, hc.ls.replace (fun hx => ?_) (by have := h.pl.pos; omega) (by rw [copyM_elems]; omega) (by rw [(copy_name hk).2]; exact hf), hc.real, hc.nd, hc.w, hc.all⟩
  obtain ⟨j, e, _, hj, _⟩ := h.ls.of _ hx
  omega
/-! ### Lifting -/
theorem app_fil {N : List Nat} {z : Option Nat} {S : List Nat} {q x : Nat} (h1 : Op N z E1) (hz : z = some x ∨ z = none) (h2 : Op (x :: S) none E2) (hn : (ids (E1 ++ E2)).Nodup) :
    fil x (E1 ++ E2) = fil x E1 ++ E2 ∧ Op N none (fil x E1) := by
  rw [ids_append] at hn
  obtain ⟨n1, n2, n3⟩ := List.nodup_append.1 hn
  have hx2 : x ∈ ids E2 := h2.sub.subset (by simp)
  have hx1 : x ∉ ids E1 := fun h => n3 x h x hx2 rfl
  have e2 : fil x E2 = E2 := by
    refine fil_id fun e he hy => ?_
    rcases h2.kids e he x hy with h | h
    · obtain ⟨l, E', e', _⟩ := h2.head
      rw [e', ids_cons] at h n2
      exact (List.nodup_cons.1 n2).1 h
    · cases h
  refine ⟨by rw [fil_append, e2], ?_⟩
  rcases hz with hz | hz
  · exact h1.fil hz hx1
  · subst hz
    rw [fil_id fun e he hy => ?_]
    · exact h1
    · rcases h1.kids e he x hy with h | h
      · exact hx1 (List.mem_of_mem_tail h)
      · cases h
structure LI (W N1 : List Nat) (m0 : AM) (P R : List Nat) (bl : Nat) (B : List Nat) (x : GM × Nat × Nat) : Prop where
  st : ∃ Cs E1 E2, x.1.st = (P ++ B) ++ (Cs ++ bl :: R) ∧ (∃ t, Cs ++ bl :: R = x.2.1 :: t) ∧ (Cs = [] ∧ x.2.1 = bl ∨ x.2.1 ≠ bl) ∧ KB W x.1.m x.1.ls (E1 ++ E2) ∧
    Op N1 (if x.2.1 = bl then some (elAt x.1.m bl) else none) E1 ∧ Op ((Cs ++ bl :: R).map (elAt x.1.m)) none E2
  nd : x.1.st.Nodup
  lt : ∀ i ∈ x.1.st, 0 < i ∧ i < x.1.m.elems.length
  cp : x.1.m.copies ≤ m0.copies + min x.2.2 3
  ge : m0.elems.length ≤ x.1.m.elems.length
  sm : ∀ i, i < m0.elems.length → elAt x.1.m i = elAt m0 i ∧ nameAt x.1.m i = nameAt m0 i
  nt : NT m0 x.1.m
set_option maxHeartbeats 1000000 in
theorem LI.step {N1 P R B : List Nat} {m0 : AM} {bl n : Nat} {x : GM × Nat × Nat} (h : LI W N1 m0 P R bl (B ++ [n]) x) : LI W N1 m0 P R bl B (liftStep bl x n) := by
  obtain ⟨g, last, many⟩ := x
  obtain ⟨⟨Cs, E1, E2, hst, ⟨t, ht⟩, hlast, hK, hO1, hO2⟩, hnd, hlt, hcp, hge, hsm, hnt⟩ := h
  have hst : g.st = (P ++ (B ++ [n])) ++ (Cs ++ bl :: R) := hst
  have ht : Cs ++ bl :: R = last :: t := ht
  have hK : KB W g.m g.ls (E1 ++ E2) := hK
  have hO1 : Op N1 (if last = bl then some (elAt g.m bl) else none) E1 := hO1
  have hO2 : Op ((Cs ++ bl :: R).map (elAt g.m)) none E2 := hO2
  have hcp : g.m.copies ≤ m0.copies + min many 3 := hcp
  have hst' : g.st = (P ++ B) ++ n :: (Cs ++ bl :: R) := by rw [hst]; simp
  have hnP : n ∉ P ++ B := fun hm => by
    have hnd : g.st.Nodup := hnd
    rw [hst'] at hnd
    exact (List.nodup_append.1 hnd).2.2 n hm n (by simp) rfl
  unfold liftStep
  simp only
  obtain ⟨g1, hg1⟩ : ∃ g1, g1 = (if 3 < many + 1 then unlistG g n else g) := ⟨_, rfl⟩
  have em : g1.m = g.m := by rw [hg1]; split <;> rfl
  have es : g1.st = g.st := by rw [hg1]; split <;> rfl
  have el : g1.ls.Sublist g.ls := by
    rw [hg1]; split
    · exact removeL_sub _ _
    · exact List.Sublist.refl _
  have en : 3 < many + 1 → (n : Int) ∉ g1.ls := fun h3 => by
    rw [hg1, if_pos h3]; exact removeL_not hK.ls.nd n
  rw [← hg1]
  have hK1 : KB W g.m g1.ls (E1 ++ E2) := hK.sub el
  have hrem : remF n g1.st = (P ++ B) ++ (Cs ++ bl :: R) := by rw [es, hst', remF_mid hnP]
  have hmin : min many 3 ≤ min (many + 1) 3 := by omega
  by_cases hf : findL g1.ls n < 0
  · rw [if_pos hf]
    refine ⟨⟨Cs, E1, E2, hrem, ⟨t, ht⟩, hlast, by show KB W g1.m g1.ls _; rw [em]; exact hK1, by show Op N1 (if last = bl then some (elAt g1.m bl) else none) E1; rw [em]; exact hO1, by show Op ((Cs ++ bl :: R).map (elAt g1.m)) none E2; rw [em]; exact hO2⟩, ?_, ?_, ?_, ?_, ?_, ?_⟩
    · exact (show (remF n g1.st).Nodup by rw [es]; exact List.Nodup.sublist (remF_sub _ _) hnd)
    · intro i hi
      show 0 < i ∧ i < g1.m.elems.length
      rw [em]; exact hlt i (by have := remF_mem hi; rw [es] at this; exact this)
    · show g1.m.copies ≤ m0.copies + min (many + 1) 3
      rw [em]; omega
    · show m0.elems.length ≤ g1.m.elems.length; rw [em]; exact hge
    · intro i hi; show elAt g1.m i = _ ∧ nameAt g1.m i = _; rw [em]; exact hsm i hi
    · show NT m0 g1.m; rw [em]; exact hnt
  · rw [if_neg hf]
    have hm : (n : Int) ∈ g1.ls := findL_iff.1 (by omega)
    have hmany : many < 3 := by
      by_cases h3 : 3 < many + 1
      · exact absurd hm (en h3)
      · omega
    obtain ⟨g3, hg3⟩ : ∃ g3, g3 = (if last = bl then { insteadG g1 n with bm := findL (insteadG g1 n).ls g1.m.elems.length + 1 } else insteadG g1 n) := ⟨_, rfl⟩
    have e3m : g3.m = copyM g.m n := by rw [hg3, ← em]; split <;> rfl
    have e3s : g3.st = insAt (idx n g1.st 0).toNat g1.m.elems.length (remF n g1.st) := by rw [hg3]; split <;> rfl
    have e3l : g3.ls = replaceL g1.ls n (g1.m.elems.length : Nat) := by rw [hg3]; split <;> rfl
    rw [← hg3]
    have hst3 : g3.st = (P ++ B) ++ ((g.m.elems.length :: Cs) ++ bl :: R) := by
      rw [e3s, hrem, es, hst', idx_mid hnP, Int.toNat_natCast, insAt_mid, em]; rfl
    have hlast' : last ∈ g.st := by rw [hst, ht]; simp
    have hll := (hlt last hlast').2
    have hbl : bl < g.m.elems.length := (hlt bl (by show bl ∈ g.st; rw [hst]; simp)).2
    have hI := hK1.instead hm
    obtain ⟨c1, c2⟩ := copy_el g.m n
    have hlen : (copyM g.m n).nodes.length = g.m.nodes.length + 1 := by rw [copy_nodes]; simp
    obtain ⟨c, hk⟩ := hK.ok
    have helast := elAt_lt hk.aok hll
    have hP := hI.put (p := g.m.elems.length) (q := elAt g.m last) (by rw [copyM_elems]; omega) (by omega)
    rw [c1] at hP
    -- the tree
    have hq1 : g.m.nodes.length ∉ ids E1 := fun h => by have := hK.lt (q := g.m.nodes.length) (by rw [ids_append]; simp [h]); omega
    have hq2 : g.m.nodes.length ∉ ids E2 := fun h => by have := hK.lt (q := g.m.nodes.length) (by rw [ids_append]; simp [h]); omega
    rw [ht, List.map_cons] at hO2
    have hz : (if last = bl then some (elAt g.m bl) else none) = some (elAt g.m last) ∨ (if last = bl then some (elAt g.m bl) else none) = none := by
      split
      · rename_i e; exact .inl (by rw [e])
      · exact .inr rfl
    obtain ⟨ef, hO1'⟩ := app_fil (q := g.m.nodes.length) hO1 hz hO2 hK.nd
    have eE : app g.m.nodes.length (elAt g.m last) (fil (elAt g.m last) (E1 ++ (g.m.nodes.length, []) :: E2)) = fil (elAt g.m last) E1 ++ (g.m.nodes.length, [elAt g.m last]) :: E2 := by
      have ef2 : fil (elAt g.m last) E2 = E2 := by
        rw [fil_append] at ef
        exact List.append_cancel_left ef
      have : fil (elAt g.m last) (E1 ++ (g.m.nodes.length, []) :: E2) = fil (elAt g.m last) E1 ++ (g.m.nodes.length, []) :: E2 := by
        rw [fil_append]; show _ ++ (_, _) :: fil (elAt g.m last) E2 = _; rw [ef2]; rfl
      rw [this, app_append, app_id (by rw [fil_ids]; exact hq1)]
      show _ ++ (g.m.nodes.length, [] ++ if g.m.nodes.length = g.m.nodes.length then [elAt g.m last] else []) :: app g.m.nodes.length (elAt g.m last) E2 = _
      rw [if_pos rfl, app_id hq2]; rfl
    rw [eE] at hP
    have emf : appendM g3.m g1.m.elems.length last = putM (copyM g.m n) g.m.nodes.length (elAt g.m last) := by
      unfold appendM; rw [e3m, em, c1, c2 last hll]
    have hel : ∀ i, elAt (putM (copyM g.m n) g.m.nodes.length (elAt g.m last)) i = elAt (copyM g.m n) i := fun i => elAt_put _ _ _ _
    have hne : g.m.elems.length ≠ bl := by omega
    refine ⟨⟨g.m.elems.length :: Cs, fil (elAt g.m last) E1, (g.m.nodes.length, [elAt g.m last]) :: E2, hst3, ⟨last :: t, by show g.m.elems.length :: (Cs ++ bl :: R) = g1.m.elems.length :: last :: t; rw [em, ht]⟩, .inr (by show g1.m.elems.length ≠ bl; rw [em]; exact hne), ?_, ?_, ?_⟩, ?_, ?_, ?_, ?_, ?_, ?_⟩
    · show KB W (appendM g3.m g1.m.elems.length last) g3.ls _
      rw [emf, e3l, em]; exact hP
    · show Op N1 (if g1.m.elems.length = bl then _ else none) _
      rw [em, if_neg hne]; exact hO1'
    · show Op (((g.m.elems.length :: Cs) ++ bl :: R).map (elAt (appendM g3.m g1.m.elems.length last))) none _
      rw [emf]
      have e1 : ((g.m.elems.length :: Cs) ++ bl :: R).map (elAt (putM (copyM g.m n) g.m.nodes.length (elAt g.m last))) = g.m.nodes.length :: (last :: t).map (elAt g.m) := by
        rw [List.cons_append, List.map_cons, hel, c1, ht]
        congr 1
        refine List.map_congr_left fun i hi => ?_
        rw [hel, c2 i]
        refine (hlt i ?_).2
        show i ∈ g.st
        rw [hst, ht]; exact List.mem_append.2 (.inr hi)
      rw [e1, List.map_cons]
      exact Op.cons WF.nil hO2
    · show g3.st.Nodup
      rw [hst3]
      have hp : ((P ++ B) ++ ((g.m.elems.length :: Cs) ++ bl :: R)).Perm (g.m.elems.length :: remF n g.st) := by
        rw [← es, hrem]; exact List.perm_middle
      rw [hp.nodup_iff, List.nodup_cons]
      refine ⟨fun hx => ?_, List.Nodup.sublist (remF_sub _ _) hnd⟩
      have := (hlt _ (remF_mem hx)).2
      exact absurd this (Nat.lt_irrefl _)
    · intro i hi
      have hi : i ∈ g3.st := hi
      show 0 < i ∧ i < (appendM g3.m g1.m.elems.length last).elems.length
      rw [emf, putM_elems, copyM_elems]
      have hpos := hK.pl.pos
      rw [hst3] at hi
      rcases List.mem_append.1 hi with hi | hi
      · have := hlt i (by show i ∈ g.st; rw [hst']; exact List.mem_append.2 (.inl hi)); exact ⟨this.1, by have h2 : i < g.m.elems.length := this.2; omega⟩
      · rcases List.mem_cons.1 hi with rfl | hi
        · exact ⟨hpos, by omega⟩
        · have := hlt i (by show i ∈ g.st; rw [hst']; exact List.mem_append.2 (.inr (List.mem_cons_of_mem _ hi))); exact ⟨this.1, by have h2 : i < g.m.elems.length := this.2; omega⟩
    · show (appendM g3.m g1.m.elems.length last).copies ≤ m0.copies + min (many + 1) 3
      rw [emf, putM_copies]
      show g.m.copies + 1 ≤ _
      omega
    · show m0.elems.length ≤ (appendM g3.m g1.m.elems.length last).elems.length
      rw [emf, putM_elems, copyM_elems]
      have : m0.elems.length ≤ g.m.elems.length := hge
      omega
    · intro i hi
      show elAt (appendM g3.m g1.m.elems.length last) i = _ ∧ nameAt (appendM g3.m g1.m.elems.length last) i = _
      have hi' : i < g.m.elems.length := Nat.lt_of_lt_of_le hi hge
      rw [emf, hel, nameAt_put, c2 i hi', (copy_name hk).1 i hi']
      exact hsm i hi
    · show NT m0 (appendM g3.m g1.m.elems.length last)
      rw [emf]
      exact (hnt.then (NT.node (copy_nodes g.m n))).then (NT.put (hk.copy (hlt n (by show n ∈ g.st; rw [hst']; simp)).2) _ _)
theorem LI.all {N1 P R : List Nat} {m0 : AM} {bl : Nat} : ∀ (Br : List Nat) (x : GM × Nat × Nat), LI W N1 m0 P R bl Br.reverse x → LI W N1 m0 P R bl [] (Br.foldl (liftStep bl) x)
  | [], x, h => h
  | n :: Br, x, h => LI.all Br (liftStep bl x n) (by rw [List.reverse_cons] at h; exact h.step)
end Go.Proofs
set_option linter.unusedVariables false
namespace Go.Proofs
open Go Go.Eng
variable {m m' : AM} {W : List Nat} {E E1 E2 : En} {ls ls' : List Int}
/-! ### All children of a node into another -/
theorem Real.moveL {c t : Nat} {l : List Nat} (hk : TOk c m) (ht : t < m.elems.length) (hl : ∀ q ∈ l, q < m.nodes.length) (hn : l.Nodup) (hc : elAt m t ∉ l) (h : Real m E) :
    Real (Go.Proofs.moveL m t l) (E.map fun e => (e.1, if e.1 = elAt m t then e.2.filter (fun y => decide (y ∉ l)) ++ l else e.2.filter (fun y => decide (y ∉ l)))) := by
  intro e he
  obtain ⟨d, hd, rfl⟩ := List.mem_map.1 he
  obtain ⟨h1, h2⟩ := h d hd
  refine ⟨by rw [(moveL_len m t l).1]; exact h1, ?_⟩
  rw [(moveL_at l m hk ht hl hn hc).1 d.1 h1, h2]
theorem KB.moveL {t : Nat} {l : List Nat} (h : KB W m ls E) (ht : t < m.elems.length) (hl : ∀ q ∈ l, q < m.nodes.length) (hn : l.Nodup) (hc : elAt m t ∉ l) :
    KB W (Go.Proofs.moveL m t l) ls (E.map fun e => (e.1, if e.1 = elAt m t then e.2.filter (fun y => decide (y ∉ l)) ++ l else e.2.filter (fun y => decide (y ∉ l)))) := by
  obtain ⟨c, hk⟩ := h.ok
  have nt := (moveL_at l m hk ht hl hn hc).2
  have eid : ids (E.map fun e => (e.1, if e.1 = elAt m t then e.2.filter (fun y => decide (y ∉ l)) ++ l else e.2.filter (fun y => decide (y ∉ l)))) = ids E := by unfold ids; rw [List.map_map]; rfl
  refine ⟨⟨c, ?_⟩, Pl.moveL l m h.pl hk ht hl, h.ls.to (by rw [(moveL_len m t l).2]; exact Nat.le_refl _) (fun i hi => ?_), h.real.moveL hk ht hl hn hc, by rw [eid]; exact h.nd, ?_, fun q hq => by rw [eid]; exact h.all q (by rw [(moveL_len m t l).1] at hq; exact hq)⟩
  · have g : ∀ (l : List Nat) (m : AM), TOk c m → t < m.elems.length → (∀ q ∈ l, q < m.nodes.length) → TOk c (Go.Proofs.moveL m t l) := fun l => by
      induction l with
      | nil => exact fun m h _ _ => h
      | cons q l ih => exact fun m h ht hl => ih _ (h.put (elAt_lt h.aok ht) (hl q (by simp))) (by rw [putM_elems]; exact ht) (fun y hy => by rw [putM_len]; exact hl y (by simp [hy]))
    exact g l m hk ht hl
  · have g : ∀ (l : List Nat) (m : AM) (i : Nat), nameAt (Go.Proofs.moveL m t l) i = nameAt m i := fun l => by
      induction l with
      | nil => exact fun m i => rfl
      | cons q l ih => exact fun m i => (ih _ i).trans (nameAt_put _ _ _)
    exact g l m i
  · rw [eid, filter_nt nt fun q hq => h.lt hq]; exact h.w
/-! ### Once -/
structure KI (W : List Nat) (g : GM) (E : En) : Prop where
  kb : KB W g.m g.ls E
  op : Op (0 :: g.st.map (elAt g.m)) none E
  nd : g.st.Nodup
  lt : ∀ i ∈ g.st, 0 < i ∧ i < g.m.elems.length

theorem path_snoc (P : List Nat) (el : Nat → Nat) (h0 : el 0 = 0) (S : List Nat) (hS : S = P) : ∃ S1, 0 :: P.map el = S1 ++ [el (if 0 < P.length then P.getD (P.length - 1) 0 else 0)] := by
  rcases List.eq_nil_or_concat P with rfl | ⟨P', q, rfl⟩
  · exact ⟨[], by rw [if_neg (by simp), h0]; rfl⟩
  · refine ⟨0 :: P'.map el, ?_⟩
    rw [if_pos (by simp)]
    have : (P' ++ [q]).getD ((P' ++ [q]).length - 1) 0 = q := by
      rw [List.getD_eq_getElem?_getD]; simp
    rw [List.concat_eq_append, this]; simp
theorem moveL_cp (t : Nat) : ∀ (l : List Nat) (m : AM), (Go.Proofs.moveL m t l).copies = m.copies
  | [], _ => rfl
  | q :: l, m => (moveL_cp t l (putM m (elAt m t) q)).trans (putM_copies _ _ _)
theorem moveL_el (t i : Nat) : ∀ (l : List Nat) (m : AM), elAt (Go.Proofs.moveL m t l) i = elAt m i := fun l m => by unfold elAt; rw [(moveL_len m t l).2]
set_option maxHeartbeats 2000000 in
theorem KI.rest {g : GM} (h : KI W g E) {P B R : List Nat} {f bl : Nat} (hst : g.st = P ++ f :: (B ++ bl :: R)) (hf : inK 3 (nameAt g.m f) = true) (hbm : 0 ≤ findL g.ls f) :
    ∃ E', KI W (restG g f P.length B.length) E' ∧ (restG g f P.length B.length).m.copies ≤ g.m.copies + 4 ∧ NT g.m (restG g f P.length B.length).m := by
  obtain ⟨hK, hO, hnd, hlt⟩ := h
  have hf0 := hlt f (by rw [hst]; simp)
  have hb0 := hlt bl (by rw [hst]; simp)
  -- what is looked up
  have e1 : g.st.drop (P.length + 1) = B ++ bl :: R := by
    rw [hst, List.drop_append]; simp
  have e2 : (g.st.drop (P.length + 1)).getD B.length 0 = bl := by
    rw [e1, List.getD_eq_getElem?_getD]; simp
  have e3 : (g.st.drop (P.length + 1)).take B.length = B := by rw [e1]; simp
  have ecom : (if 0 < P.length then g.st.getD (P.length - 1) 0 else 0) = (if 0 < P.length then P.getD (P.length - 1) 0 else 0) := by
    split
    · rw [hst, List.getD_eq_getElem?_getD, List.getElem?_append_left (by omega), ← List.getD_eq_getElem?_getD]
    · rfl
  have ed : restG g f P.length B.length = r9 g f P.length B.length := rfl
  unfold restG
  simp only
  rw [e2, e3, ecom]
  obtain ⟨com, hcom⟩ : ∃ com, com = (if 0 < P.length then P.getD (P.length - 1) 0 else 0) := ⟨_, rfl⟩
  rw [← hcom]
  have hcl : com < g.m.elems.length := by
    rw [hcom]; split
    · rename_i hp
      have e : P.getD (P.length - 1) 0 = P[P.length - 1] := by simp [List.getD, (show P.length - 1 < P.length by omega)]
      rw [e]; exact (hlt _ (by rw [hst]; exact List.mem_append.2 (.inl (List.getElem_mem _)))).2
    · exact hK.pl.pos
  obtain ⟨S1, hS1⟩ := path_snoc P (elAt g.m) hK.pl.e0 P rfl
  rw [← hcom] at hS1
  -- lift
  have hpath : 0 :: g.st.map (elAt g.m) = (0 :: (P ++ f :: B).map (elAt g.m)) ++ elAt g.m bl :: R.map (elAt g.m) := by rw [hst]; simp
  rw [hpath] at hO
  obtain ⟨Ea, Eb, rfl, hOa, hOb⟩ := hO.split _ (by simp)
  have hI0 : LI W (0 :: (P ++ f :: B).map (elAt g.m)) g.m (P ++ [f]) R bl B ({ g with bm := findL g.ls f }, bl, 0) := by
    refine ⟨⟨[], Ea, Eb, by show g.st = _; rw [hst]; simp, ⟨R, rfl⟩, .inl ⟨rfl, rfl⟩, hK, by show Op _ (if bl = bl then _ else _) _; rw [if_pos rfl]; exact hOa, hOb⟩, hnd, hlt, Nat.le_add_right _ _, Nat.le_refl _, fun i hi => ⟨rfl, rfl⟩, NT.refl _⟩
  have hI := LI.all B.reverse _ (by rw [List.reverse_reverse]; exact hI0)
  clear hI0 hOa hOb hO
  unfold liftG
  generalize B.reverse.foldl (liftStep bl) ({ g with bm := findL g.ls f }, bl, 0) = x at hI
  obtain ⟨g1, last, many⟩ := x
  obtain ⟨⟨Cs, E1, E2, hst1, ⟨t, ht⟩, hlast, hK1, hO1, hO2⟩, hnd1, hlt1, hcp1, hge1, hsm1, hnt1⟩ := hI
  simp only at hst1 ht hlast hK1 hO1 hO2 hnd1 hlt1 hcp1 hge1 hsm1 hnt1 ⊢
  rw [List.append_nil] at hst1
  have hlin : last ∈ g1.st := by rw [hst1, ht]; simp
  have hll := (hlt1 last hlin).2
  have hblin : bl ∈ g1.st := by rw [hst1]; simp
  have hbll := (hlt1 bl hblin).2
  have hfl1 : f < g1.m.elems.length := Nat.lt_of_lt_of_le hf0.2 hge1
  have hcl1 : com < g1.m.elems.length := Nat.lt_of_lt_of_le hcl hge1
  obtain ⟨c1, hk1⟩ := hK1.ok
  -- the outermost one goes into the common one
  rw [ht, List.map_cons] at hO2
  have hz : (if last = bl then some (elAt g1.m bl) else none) = some (elAt g1.m last) ∨ (if last = bl then some (elAt g1.m bl) else none) = none := by
    split
    · rename_i e; exact .inl (by rw [e])
    · exact .inr rfl
  obtain ⟨ef, hO1'⟩ := app_fil (q := 0) hO1 hz hO2 hK1.nd
  have hK2 := hK1.put (p := com) (q := elAt g1.m last) hcl1 (elAt_lt hk1.aok hll)
  have ecm : elAt g1.m com = elAt g.m com := (hsm1 com hcl).1
  have hN : 0 :: (P ++ f :: B).map (elAt g.m) = S1 ++ elAt g.m com :: (f :: B).map (elAt g.m) := by
    have : 0 :: (P ++ f :: B).map (elAt g.m) = (0 :: P.map (elAt g.m)) ++ (f :: B).map (elAt g.m) := by simp
    rw [this, hS1, List.append_assoc]; rfl
  rw [hN] at hO1'
  have hnd1' : (ids (fil (elAt g1.m last) E1 ++ E2)).Nodup := by rw [← ef, fil_ids]; exact hK1.nd
  have hnd1'' := hnd1'
  rw [ids_append] at hnd1'
  have hAt := Op.attach S1 (elAt g1.m last) hO1' (List.nodup_append.1 hnd1').1
  have hcmE1 : elAt g.m com ∈ ids (fil (elAt g1.m last) E1) := hO1'.sub.subset (by simp)
  have hcmE2 : elAt g.m com ∉ ids E2 := fun hx => (List.nodup_append.1 hnd1').2.2 _ hcmE1 _ hx rfl
  rw [ef, ecm, app_append, app_id hcmE2] at hK2
  have hJ := hAt.join rfl hO2
  rw [← hS1] at hJ
  generalize app (elAt g.m com) (elAt g1.m last) (fil (elAt g1.m last) E1) ++ E2 = F at hK2 hJ
  clear hAt hO1' hO1 hO2 hcmE1 hcmE2 hnd1' hnd1'' ef hz
  have hm2 : appendM g1.m com last = putM g1.m (elAt g.m com) (elAt g1.m last) := by unfold appendM; rw [ecm]
  rw [hm2]
  have el2 : ∀ i, elAt (putM g1.m (elAt g.m com) (elAt g1.m last)) i = elAt g1.m i := fun i => elAt_put _ _ _ _
  have nm2 : ∀ i, nameAt (putM g1.m (elAt g.m com) (elAt g1.m last)) i = nameAt g1.m i := fun i => nameAt_put _ _ _
  have le2 : (putM g1.m (elAt g.m com) (elAt g1.m last)).elems.length = g1.m.elems.length := by rw [putM_elems]
  have cp2 : (putM g1.m (elAt g.m com) (elAt g1.m last)).copies = g1.m.copies := putM_copies _ _ _
  have nt2 : NT g.m (putM g1.m (elAt g.m com) (elAt g1.m last)) := hnt1.then (NT.put hk1 _ _)
  -- as a path
  have hPth : 0 :: P.map (elAt g.m) ++ elAt g1.m last :: t.map (elAt g1.m) = (0 :: (P ++ Cs).map (elAt g1.m)) ++ elAt g1.m bl :: R.map (elAt g1.m) := by
    have e : elAt g1.m last :: t.map (elAt g1.m) = Cs.map (elAt g1.m) ++ elAt g1.m bl :: R.map (elAt g1.m) := by
      rw [← List.map_cons, ← ht]; simp
    have e' : P.map (elAt g1.m) = P.map (elAt g.m) := List.map_congr_left fun i hi => (hsm1 i (hlt i (by rw [hst]; exact List.mem_append.2 (.inl hi))).2).1
    rw [e, List.map_append, e']; simp
  rw [hPth] at hJ
  generalize putM g1.m (elAt g.m com) (elAt g1.m last) = m2 at hK2 el2 nm2 le2 cp2 nt2 ⊢
  obtain ⟨Fa, Fb, rfl, hJa, hJb⟩ := hJ.split _ (by simp)
  obtain ⟨l, Fb', rfl, hJq⟩ := hJb.head
  -- the copy
  have hfm2 : inK 3 (nameAt m2 f) = true := by rw [nm2, (hsm1 f hf0.2).2]; exact hf
  have hfl2 : f < m2.elems.length := by rw [le2]; exact hfl1
  have hK3 : KB W (copyM m2 f) g1.ls ((Fa ++ [(elAt g1.m bl, l)]) ++ (m2.nodes.length, []) :: Fb') := by
    refine KB.copy ?_ hf0.1 hfl2 hfm2
    rw [List.append_assoc]; exact hK2
  rw [List.append_assoc] at hK3
  have hK3 : KB W (copyM m2 f) g1.ls (Fa ++ (elAt g1.m bl, l) :: (m2.nodes.length, []) :: Fb') := hK3
  obtain ⟨k1, k2⟩ := copy_el m2 f
  have len3 : (copyM m2 f).nodes.length = m2.nodes.length + 1 := by rw [copy_nodes]; simp
  have lee3 : (copyM m2 f).elems.length = m2.elems.length + 1 := copyM_elems _ _
  obtain ⟨c2, hk2⟩ := hK2.ok
  have nt3 : NT g.m (copyM m2 f) := nt2.then (NT.node (copy_nodes m2 f))
  have cp3 : (copyM m2 f).copies = m2.copies + 1 := rfl
  have hinner : innerAt (copyM m2 f) bl = l := by
    unfold innerAt
    rw [k2 bl (by omega), el2]
    exact (hK3.real (elAt g1.m bl, l) (by simp)).2
  have hlm2 : ∀ y ∈ l, y < m2.nodes.length := fun y hy => hK2.kid (e := (elAt g1.m bl, l)) (by simp) hy
  have hqid : m2.nodes.length ∉ ids (Fa ++ (elAt g1.m bl, l) :: Fb') := fun hx => by have := hK2.lt hx; omega
  have hlnd : l.Nodup := by
    obtain ⟨h1, h2⟩ := hK2.real (elAt g1.m bl, l) (by simp)
    have := hk2.nod _ _ (nodeAt_some h1)
    rw [h2] at this; exact this
  have hdis : ∀ e ∈ Fa ++ (elAt g1.m bl, l) :: Fb', e.1 ≠ elAt g1.m bl → ∀ y ∈ e.2, y ∉ l := fun e he hne y hy hyl => by
    obtain ⟨h1, h2⟩ := hK2.real e he
    obtain ⟨h3, h4⟩ := hK2.real (elAt g1.m bl, l) (by simp)
    have hyl' := hlm2 y hyl
    have p1 := hk2.con _ _ (nodeAt_some h1) y (by rw [h2]; exact hy) _ (nodeAt_some hyl')
    have p2 := hk2.con _ _ (nodeAt_some h3) y (by rw [h4]; exact hyl) _ (nodeAt_some hyl')
    rw [p1] at p2
    exact hne (by omega)
  have hK4 := hK3.moveL (t := m2.elems.length) (l := l) (by omega) (fun q hq => by have := hlm2 q hq; omega) hlnd (by rw [k1]; exact fun hx => by have := hlm2 _ hx; omega)
  have hm4 : moveM (copyM m2 f) bl m2.elems.length = Go.Proofs.moveL (copyM m2 f) m2.elems.length l := by unfold moveM; rw [hinner]
  have hndF := hK2.nd
  rw [ids_append, ids_cons] at hndF
  obtain ⟨d1, d2, d3⟩ := List.nodup_append.1 hndF
  have hbFa : elAt g1.m bl ∉ ids Fa := fun hx => d3 _ hx _ (by simp) rfl
  have hbFb : elAt g1.m bl ∉ ids Fb' := (List.nodup_cons.1 d2).1
  have hqb : m2.nodes.length ≠ elAt g1.m bl := fun e => hqid (by rw [e, ids_append, ids_cons]; simp)
  have memid : ∀ {e : Nat × List Nat} {F : En}, e ∈ F → e.1 ∈ ids F := fun he => List.mem_map.2 ⟨_, he, rfl⟩
  have same : ∀ e ∈ Fa ++ (elAt g1.m bl, l) :: Fb', e.1 ≠ elAt g1.m bl → (fun e : Nat × List Nat => (e.1, if e.1 = m2.nodes.length then e.2.filter (fun y => decide (y ∉ l)) ++ l else e.2.filter (fun y => decide (y ∉ l)))) e = e := fun e he hne => by
    have h1 : e.1 ≠ m2.nodes.length := fun h => hqid (h ▸ memid he)
    have h2 : e.2.filter (fun y => decide (y ∉ l)) = e.2 := by
      rw [List.filter_eq_self]; intro y hy; simpa using hdis e he hne y hy
    show (e.1, if e.1 = m2.nodes.length then _ else e.2.filter (fun y => decide (y ∉ l))) = e
    rw [if_neg h1, h2]
  have eE4 : (Fa ++ (elAt g1.m bl, l) :: (m2.nodes.length, []) :: Fb').map (fun e : Nat × List Nat => (e.1, if e.1 = m2.nodes.length then e.2.filter (fun y => decide (y ∉ l)) ++ l else e.2.filter (fun y => decide (y ∉ l)))) = Fa ++ (elAt g1.m bl, []) :: (m2.nodes.length, l) :: Fb' := by
    rw [List.map_append, List.map_cons, List.map_cons]
    have hA : Fa.map (fun e : Nat × List Nat => (e.1, if e.1 = m2.nodes.length then e.2.filter (fun y => decide (y ∉ l)) ++ l else e.2.filter (fun y => decide (y ∉ l)))) = Fa := by
      conv => rhs; rw [← List.map_id Fa]
      exact List.map_congr_left fun e he => same e (by simp [he]) fun h => hbFa (h ▸ memid he)
    have hB : Fb'.map (fun e : Nat × List Nat => (e.1, if e.1 = m2.nodes.length then e.2.filter (fun y => decide (y ∉ l)) ++ l else e.2.filter (fun y => decide (y ∉ l)))) = Fb' := by
      conv => rhs; rw [← List.map_id Fb']
      exact List.map_congr_left fun e he => same e (by simp [he]) fun h => hbFb (h ▸ memid he)
    rw [hA, hB]
    have : l.filter (fun y => decide (y ∉ l)) = [] := by rw [List.filter_eq_nil_iff]; intro y hy; simpa using hy
    show Fa ++ (elAt g1.m bl, if elAt g1.m bl = m2.nodes.length then _ else l.filter (fun y => decide (y ∉ l))) :: (m2.nodes.length, if m2.nodes.length = m2.nodes.length then [].filter _ ++ l else _) :: Fb' = _
    rw [if_neg (Ne.symm hqb), if_pos rfl, this]; rfl
  rw [k1, eE4] at hK4
  rw [hm4]
  have el4 : ∀ i, elAt (Go.Proofs.moveL (copyM m2 f) m2.elems.length l) i = elAt (copyM m2 f) i := fun i => moveL_el _ _ _ _
  have le4 : (Go.Proofs.moveL (copyM m2 f) m2.elems.length l).elems.length = m2.elems.length + 1 := by rw [(moveL_len _ _ _).2]; exact lee3
  have len4 : (Go.Proofs.moveL (copyM m2 f) m2.elems.length l).nodes.length = m2.nodes.length + 1 := by rw [(moveL_len _ _ _).1]; exact len3
  have cp4 : (Go.Proofs.moveL (copyM m2 f) m2.elems.length l).copies = m2.copies + 1 := moveL_cp _ _ _
  have nt4 : NT g.m (Go.Proofs.moveL (copyM m2 f) m2.elems.length l) := nt3.then (moveL_at l _ (Classical.choose_spec hK3.ok) (by omega) (fun q hq => by have := hlm2 q hq; omega) hlnd (by rw [k1]; exact fun hx => by have := hlm2 _ hx; omega)).2
  have nm4 : ∀ i, nameAt (Go.Proofs.moveL (copyM m2 f) m2.elems.length l) i = nameAt (copyM m2 f) i := fun i => by
    have g : ∀ (l : List Nat) (m : AM), nameAt (Go.Proofs.moveL m m2.elems.length l) i = nameAt m i := fun l => by
      induction l with
      | nil => exact fun m => rfl
      | cons q l ih => exact fun m => (ih _).trans (nameAt_put _ _ _)
    exact g l _
  generalize Go.Proofs.moveL (copyM m2 f) m2.elems.length l = m4 at hK4 el4 le4 len4 cp4 nt4 nm4 ⊢
  -- the copy goes into the block
  have hm5 : appendM m4 bl m2.elems.length = putM m4 (elAt m4 bl) m2.nodes.length := by unfold appendM; rw [el4 m2.elems.length, k1]
  have hK5 := hK4.put (p := bl) (q := m2.nodes.length) (by omega) (by omega)
  have ebl : elAt m4 bl = elAt g1.m bl := by rw [el4, k2 bl (by omega), el2]
  rw [ebl] at hK5
  have kidq : ∀ e ∈ Fa ++ (elAt g1.m bl, l) :: Fb', m2.nodes.length ∉ e.2 := fun e he hx => by have := hK2.kid he hx; omega
  have eE5 : app (elAt g1.m bl) m2.nodes.length (fil m2.nodes.length (Fa ++ (elAt g1.m bl, []) :: (m2.nodes.length, l) :: Fb')) = Fa ++ (elAt g1.m bl, [m2.nodes.length]) :: (m2.nodes.length, l) :: Fb' := by
    have : fil m2.nodes.length (Fa ++ (elAt g1.m bl, []) :: (m2.nodes.length, l) :: Fb') = Fa ++ (elAt g1.m bl, []) :: (m2.nodes.length, l) :: Fb' := by
      refine fil_id fun e he => ?_
      rcases List.mem_append.1 he with he | he
      · exact kidq e (by simp [he])
      · rcases List.mem_cons.1 he with rfl | he
        · exact fun hx => by cases hx
        · rcases List.mem_cons.1 he with rfl | he
          · exact fun hx => by have := hlm2 _ hx; omega
          · exact kidq e (by simp [he])
    rw [this, app_append, app_id hbFa]
    show Fa ++ (elAt g1.m bl, [] ++ if elAt g1.m bl = elAt g1.m bl then [m2.nodes.length] else []) :: (m2.nodes.length, l ++ if m2.nodes.length = elAt g1.m bl then [m2.nodes.length] else []) :: app (elAt g1.m bl) m2.nodes.length Fb' = _
    rw [if_pos rfl, if_neg hqb, app_id hbFb, List.append_nil]; rfl
  rw [eE5] at hK5
  rw [hm5, ebl]
  have el5 : ∀ i, elAt (putM m4 (elAt g1.m bl) m2.nodes.length) i = elAt (copyM m2 f) i := fun i => (elAt_put _ _ _ _).trans (el4 i)
  have le5 : (putM m4 (elAt g1.m bl) m2.nodes.length).elems.length = m2.elems.length + 1 := by rw [putM_elems]; exact le4
  have cp5 : (putM m4 (elAt g1.m bl) m2.nodes.length).copies = m2.copies + 1 := by rw [putM_copies]; exact cp4
  have nt5 : NT g.m (putM m4 (elAt g1.m bl) m2.nodes.length) := nt4.then (NT.put (Classical.choose_spec hK4.ok) _ _)
  have nm5 : nameAt (putM m4 (elAt g1.m bl) m2.nodes.length) m2.elems.length = nameAt m2 f := by rw [nameAt_put, nm4]; exact (copy_name hk2 (n := f)).2
  generalize putM m4 (elAt g1.m bl) m2.nodes.length = m5 at hK5 el5 le5 cp5 nt5 nm5 ⊢
  -- the list, the stack
  have e6m : (unlistG { g1 with m := m5 } f).m = m5 := rfl
  have hst1' : g1.st = P ++ f :: (Cs ++ bl :: R) := by rw [hst1]; simp
  have hfP : f ∉ P := fun hx => by rw [hst1'] at hnd1; exact (List.nodup_append.1 hnd1).2.2 f hx f (by simp) rfl
  have hrem : remF f g1.st = (P ++ Cs) ++ bl :: R := by rw [hst1', remF_mid hfP]; simp
  have hndr : ((P ++ Cs) ++ bl :: R).Nodup := by rw [← hrem]; exact hnd1.sublist (remF_sub _ _)
  have hbP : bl ∉ P ++ Cs := fun hx => (List.nodup_append.1 hndr).2.2 bl hx bl (by simp) rfl
  have hpos : (idx bl (remF f g1.st) 0 + 1).toNat = ((P ++ Cs) ++ [bl]).length := by
    rw [hrem, idx_mid hbP]; simp only [List.length_append, List.length_singleton]; omega
  have hst9 : insAt (idx bl (remF f g1.st) 0 + 1).toNat m2.elems.length (remF f g1.st) = (P ++ Cs) ++ bl :: m2.elems.length :: R := by
    rw [hpos, hrem]
    have : (P ++ Cs) ++ bl :: R = ((P ++ Cs) ++ [bl]) ++ R := by simp
    rw [this, insAt_mid]; simp
  refine ⟨Fa ++ (elAt g1.m bl, [m2.nodes.length]) :: (m2.nodes.length, l) :: Fb', ⟨?_, ?_, ?_, ?_⟩, ?_, ?_⟩
  · show KB W m5 (insZ _ ((m2.elems.length : Nat) : Int) (removeL g1.ls f)) _
    have hs := hK5.sub (removeL_sub g1.ls f)
    refine ⟨hs.ok, hs.pl, hs.ls.ins (fun hx => ?_) (by have := hK2.pl.pos; omega) (by omega) (by rw [nm5]; exact hfm2), hs.real, hs.nd, hs.w, hs.all⟩
    have hx := (removeL_sub g1.ls f).subset hx
    obtain ⟨i, ei, _, hi, _⟩ := hK2.ls.of _ hx
    omega
  · show Op (0 :: (insAt (idx bl (remF f g1.st) 0 + 1).toNat m2.elems.length (remF f g1.st)).map (elAt m5)) none _
    rw [hst9]
    have mp : ∀ i ∈ g1.st, elAt m5 i = elAt g1.m i := fun i hi => by rw [el5, k2 i (by rw [le2]; exact (hlt1 i hi).2), el2]
    have inS : ∀ i, i ∈ (P ++ Cs) ++ bl :: R → i ∈ g1.st := fun i hi => by
      rw [← hrem] at hi; exact remF_mem hi
    have e : 0 :: ((P ++ Cs) ++ bl :: m2.elems.length :: R).map (elAt m5) = (0 :: (P ++ Cs).map (elAt g1.m)) ++ elAt g1.m bl :: m2.nodes.length :: R.map (elAt g1.m) := by
      have q1 : (P ++ Cs).map (elAt m5) = (P ++ Cs).map (elAt g1.m) := List.map_congr_left fun i hi => mp i (inS i (List.mem_append.2 (.inl hi)))
      have q2 : R.map (elAt m5) = R.map (elAt g1.m) := List.map_congr_left fun i hi => mp i (inS i (List.mem_append.2 (.inr (List.mem_cons_of_mem _ hi))))
      rw [List.map_append, List.map_cons, List.map_cons, q1, q2, mp bl (inS bl (by simp)), el5, k1]; rfl
    rw [e]
    refine hJa.join rfl ?_
    have := Op.cons (q := elAt g1.m bl) WF.nil (hJq m2.nodes.length)
    exact this
  · show (insAt (idx bl (remF f g1.st) 0 + 1).toNat m2.elems.length (remF f g1.st)).Nodup
    rw [(insAt_perm _ _ _).nodup_iff, List.nodup_cons]
    refine ⟨fun hx => ?_, hnd1.sublist (remF_sub _ _)⟩
    have := (hlt1 _ (remF_mem hx)).2
    omega
  · intro i hi
    show 0 < i ∧ i < m5.elems.length
    rcases mem_insAt.1 (show i ∈ insAt _ _ _ from hi) with rfl | hi
    · exact ⟨by have := hK2.pl.pos; omega, by omega⟩
    · have := hlt1 i (remF_mem hi); exact ⟨this.1, by omega⟩
  · show m5.copies ≤ _
    omega
  · show NT g.m m5
    exact nt5
end Go.Proofs
set_option linter.unusedVariables false
namespace Go.Proofs
open Go Go.Eng
variable {m m' : AM} {W : List Nat} {E E1 E2 : En} {ls ls' : List Int}
theorem LsOk.live {c : Nat} (h : LsOk m ls) (hk : AOk c m) : LLive m ls := fun x hx => by
  obtain ⟨i, e, _, hi, _⟩ := h.of x hx
  exact .inr ⟨i, e, .of_lt hk hi⟩
theorem onceG_m {g : GM} {name : ByteArray} (h : (onceG g name).2.1 = true) : (onceG g name).1.m = g.m := by
  unfold onceG at h ⊢
  simp only at h ⊢
  split
  · rfl
  · split
    · rfl
    · split
      · rfl
      · split
        · rfl
        · rename_i a b c d
          rw [if_neg a, if_neg b, if_neg c, if_neg d] at h
          cases h
theorem onceG_keeps {g : GM} {name : ByteArray} (h : KI W g E) (hn : (onceG g name).2.1 = false) : ∃ E', KI W (onceG g name).1 E' ∧ (onceG g name).1.m.copies ≤ g.m.copies + 4 ∧ NT g.m (onceG g name).1.m := by
  obtain ⟨c, hk⟩ := h.kb.ok
  obtain ⟨f, p, b, hp, hf, hfl, hb, e⟩ := onceG_not hn (h.kb.ls.live hk.aok)
  rw [e]
  obtain ⟨i, ei, _, _, hfm⟩ := h.kb.ls.of _ (findL_iff.1 hfl)
  obtain rfl : i = f := by omega
  have hst : g.st = g.st.take p ++ i :: (((g.st.drop (p + 1)).take b) ++ (g.st.drop (p + 1))[b] :: (g.st.drop (p + 1)).drop (b + 1)) := by
    conv => lhs; rw [← List.take_append_drop p g.st, List.drop_eq_getElem_cons hp, hf]
    congr 2
    conv => lhs; rw [← List.take_append_drop b (g.st.drop (p + 1)), List.drop_eq_getElem_cons hb]
  have h1 : (g.st.take p).length = p := by rw [List.length_take]; omega
  have h2 : ((g.st.drop (p + 1)).take b).length = b := by rw [List.length_take]; omega
  have := h.rest hst hfm hfl
  rw [h1, h2] at this
  exact this
/-- What is left of a tree. -/
structure KT (W : List Nat) (m : AM) (E : En) : Prop where
  ok : ∃ c, TOk c m
  real : Real m E
  nd : (ids E).Nodup
  w : (ids E).filter (plainN m) = W
  all : ∀ q, q < m.nodes.length → q ∈ ids E
  wf : WF [0] E
  pl : Pl m
theorem KI.tree {g : GM} (h : KI W g E) : KT W g.m E := by
  obtain ⟨q, S', e, hw⟩ := h.op.close rfl
  cases e
  exact ⟨h.kb.ok, h.kb.real, h.kb.nd, h.kb.w, h.kb.all, hw, h.kb.pl⟩
theorem KI.loop {name : ByteArray} : ∀ (n : Nat) {g : GM} {E : En}, KI W g E → ∃ E', KT W (againLoop name n g).1.m E' ∧ (againLoop name n g).1.m.copies ≤ g.m.copies + 4 * n ∧ NT g.m (againLoop name n g).1.m
  | 0, g, E, h => ⟨E, h.tree, Nat.le_refl _, NT.refl _⟩
  | n + 1, g, E, h => by
    rw [againLoop_succ]
    by_cases hn : (onceG g name).2.1 = true
    · rw [if_pos hn]
      show ∃ E', KT W (onceG g name).1.m E' ∧ (onceG g name).1.m.copies ≤ _ ∧ NT g.m (onceG g name).1.m
      rw [onceG_m hn]
      exact ⟨E, h.tree, by omega, NT.refl _⟩
    · rw [if_neg hn]
      obtain ⟨E1, h1, c1, t1⟩ := onceG_keeps (name := name) h (by simpa using hn)
      obtain ⟨E2, h2, c2, t2⟩ := KI.loop n h1
      exact ⟨E2, h2, by omega, t1.then t2⟩
theorem KI.bm {g : GM} {b : Int} (h : KI W g E) : KI W { g with bm := b } E := ⟨h.kb, h.op, h.nd, h.lt⟩
theorem KI.again {g : GM} (h : KI W g E) (name : ByteArray) : ∃ E', KT W (againG g name).1.m E' ∧ (againG g name).1.m.copies ≤ g.m.copies + 32 ∧ NT g.m (againG g name).1.m := by
  unfold againG
  split
  · exact ⟨E, h.tree, by show g.m.copies ≤ _; omega, NT.refl _⟩
  · exact KI.loop 8 (h.bm (b := 0))
theorem find_entry : ∀ {E : En} {q : Nat}, q ∈ ids E → ∃ l, (q, l) ∈ E := fun {E} {q} h => by
  obtain ⟨e, he, rfl⟩ := List.mem_map.1 h
  exact ⟨e.2, he⟩
theorem KT.ranked (h : KT W m E) : Ranked m (rk E) := fun q n hn y hy => by
  have hq := (List.getElem?_eq_some_iff.1 hn).1
  obtain ⟨l, hl⟩ := find_entry (h.all q hq)
  obtain ⟨_, h2⟩ := h.real _ hl
  have : nodeAt m q = n := nodeAt_of hn
  rw [this] at h2
  exact rk_lt h.wf.ord h.nd (q, l) hl y (by rw [← h2]; exact hy)
/-! ### Reading a tree -/
def radd (a b : ByteArray × Nat) : ByteArray × Nat := (a.1 ++ b.1, a.2 + b.2)
def r0 : ByteArray × Nat := (⟨#[]⟩, 0)
theorem ba_assoc (a b c : ByteArray) : (a ++ b) ++ c = a ++ (b ++ c) := by
  apply ByteArray.ext
  simp [ByteArray.data_append, Array.append_assoc]
theorem ba_nil (a : ByteArray) : (⟨#[]⟩ : ByteArray) ++ a = a := by
  apply ByteArray.ext
  simp [ByteArray.data_append]
theorem ba_nil' (a : ByteArray) : a ++ (⟨#[]⟩ : ByteArray) = a := by
  apply ByteArray.ext
  simp [ByteArray.data_append]
theorem ba_size (a b : ByteArray) : (a ++ b).size = a.size + b.size := by
  show (a ++ b).data.size = a.data.size + b.data.size
  rw [ByteArray.data_append, Array.size_append]
theorem radd_assoc (a b c : ByteArray × Nat) : radd (radd a b) c = radd a (radd b c) := by unfold radd; simp only; rw [ba_assoc, Nat.add_assoc]
theorem r0_radd (a : ByteArray × Nat) : radd r0 a = a := by unfold radd r0; simp only; rw [ba_nil, Nat.zero_add]
theorem radd_r0 (a : ByteArray × Nat) : radd a r0 = a := by unfold radd r0; simp only; rw [ba_nil', Nat.add_zero]
def isum : List (ByteArray × Nat) → ByteArray × Nat
  | [] => r0
  | x :: l => radd x (isum l)
theorem isum_append : ∀ (a b : List (ByteArray × Nat)), isum (a ++ b) = radd (isum a) (isum b)
  | [], b => (r0_radd _).symm
  | x :: a, b => by show radd x (isum (a ++ b)) = radd (radd x (isum a)) (isum b); rw [isum_append a b, radd_assoc]
/-- What a node tells. -/
def rdN (m : AM) (q : Nat) : ByteArray × Nat := if (nodeAt m q).name = ⟨#[]⟩ then ((nodeAt m q).text, 0) else (⟨#[]⟩, if inK 3 (nodeAt m q).name = true then 0 else 1)
def foldW (m : AM) (l : List Nat) : ByteArray × Nat := isum (l.map (rdN m))
theorem foldW_append (m : AM) (a b : List Nat) : foldW m (a ++ b) = radd (foldW m a) (foldW m b) := by unfold foldW; rw [List.map_append, isum_append]
theorem foldW_cons (m : AM) (q : Nat) (b : List Nat) : foldW m (q :: b) = radd (rdN m q) (foldW m b) := rfl
theorem inK3_nil : inK 3 ⟨#[]⟩ = false := by kernel_rfl
theorem foldW_filter (m : AM) : ∀ l : List Nat, foldW m (l.filter (plainN m)) = foldW m l
  | [] => rfl
  | q :: l => by
    rw [List.filter_cons]
    split
    · rw [foldW_cons, foldW_cons, foldW_filter m l]
    · rename_i h
      have hq : inK 3 (nodeAt m q).name = true := by unfold plainN at h; simpa using h
      rw [foldW_cons, foldW_filter m l]
      have : rdN m q = r0 := by
        unfold rdN
        rw [if_neg (fun e => by rw [e, inK3_nil] at hq; cases hq), if_pos hq]; rfl
      rw [this, r0_radd]
theorem foldW_nt (nt : NT m m') {l : List Nat} (hl : ∀ q ∈ l, q < m.nodes.length) : foldW m' l = foldW m l := by
  unfold foldW
  congr 1
  refine List.map_congr_left fun q hq => ?_
  unfold rdN
  rw [(nt.nt q (hl q hq)).1, (nt.nt q (hl q hq)).2]
def readN : Nat → List TN → ByteArray × Nat
  | 0, _ => r0
  | d + 1, l => isum (l.map fun t => if t.name = ⟨#[]⟩ then (t.text, 0) else radd (⟨#[]⟩, if inK 3 t.name = true then 0 else 1) (readN d t.inner))
def tnOf (m : AM) (d k : Nat) : TN := .mk (nodeAt m k).name (nodeAt m k).attrs (nodeAt m k).text (exportM m d k)
theorem exportM_succ (m : AM) (d q : Nat) : exportM m (d + 1) q = (nodeAt m q).inner.map (tnOf m d) := rfl
theorem readN_succ (d : Nat) (l : List TN) : readN (d + 1) l = isum (l.map fun t => if t.name = ⟨#[]⟩ then (t.text, 0) else radd (⟨#[]⟩, if inK 3 t.name = true then 0 else 1) (readN d t.inner)) := rfl
theorem WF.read {l : List Nat} (h : WF l E) (hr : Real m E) (hlf : ∀ q ∈ ids E, (nodeAt m q).name = ⟨#[]⟩ → (nodeAt m q).inner = []) : ∀ d, E.length ≤ d → readN (d + 1) (l.map (tnOf m d)) = foldW m (ids E) := by
  induction h with
  | nil => exact fun d _ => rfl
  | @cons q l rs E1 E2 a b iha ihb =>
    intro d hd
    simp only [List.length_cons, List.length_append] at hd
    obtain ⟨d', rfl⟩ : ∃ d', d = d' + 1 := ⟨d - 1, by omega⟩
    have hr2 : Real m (E1 ++ E2) := fun e he => hr e (List.mem_cons_of_mem _ he)
    have l2 : ∀ x ∈ ids (E1 ++ E2), (nodeAt m x).name = ⟨#[]⟩ → (nodeAt m x).inner = [] := fun x hx => hlf x (by rw [ids_cons]; exact List.mem_cons_of_mem _ hx)
    rw [ids_append] at l2
    have iB := ihb hr2.right (fun x hx => l2 x (List.mem_append.2 (.inr hx))) (d' + 1) (by omega)
    have iA := iha hr2.left (fun x hx => l2 x (List.mem_append.2 (.inl hx))) d' (by omega)
    have hq : (nodeAt m q).inner = l := (hr (q, l) (List.mem_cons_self ..)).2
    rw [readN_succ, List.map_map] at iB
    rw [readN_succ, List.map_map, List.map_cons, ids_cons, ids_append, foldW_cons, foldW_append]
    show radd _ (isum (rs.map _)) = _
    rw [iB, ← iA, ← radd_assoc]
    congr 1
    show (if (nodeAt m q).name = ⟨#[]⟩ then ((nodeAt m q).text, 0) else radd (⟨#[]⟩, if inK 3 (nodeAt m q).name = true then 0 else 1) (readN (d' + 1) (exportM m (d' + 1) q))) = radd (if (nodeAt m q).name = ⟨#[]⟩ then ((nodeAt m q).text, 0) else (⟨#[]⟩, if inK 3 (nodeAt m q).name = true then 0 else 1)) _
    by_cases hn : (nodeAt m q).name = ⟨#[]⟩
    · rw [if_pos hn, if_pos hn]
      have hl : l = [] := by rw [← hq]; exact hlf q (by rw [ids_cons]; exact List.mem_cons_self ..) hn
      subst hl
      exact (radd_r0 _).symm
    · rw [if_neg hn, if_neg hn, exportM_succ, hq]
/-- All that is read of a tree. -/
theorem KT.read (h : KT W m E) (h0n : (nodeAt m 0).name = ⟨#[]⟩) : readN (E.length + 1) (exportM m (E.length + 1) 0) = foldW m W.tail ∧ ∃ W', W = 0 :: W' := by
  cases hE : E with
  | nil => have := h.wf; rw [hE] at this; cases this
  | cons e E' =>
    have hw := h.wf
    rw [hE] at hw
    cases hw with
    | @cons _ l _ E1 E2 a b =>
      cases b
      rw [List.append_nil] at hE ⊢
      have hr := h.real
      have hnd := h.nd
      rw [hE] at hr hnd
      have hnd : (0 :: ids E1).Nodup := hnd
      have h0 := hr (0, l) (List.mem_cons_self ..)
      have hr1 : Real m E1 := fun e he => hr e (List.mem_cons_of_mem _ he)
      have hlf : ∀ q ∈ ids E1, (nodeAt m q).name = ⟨#[]⟩ → (nodeAt m q).inner = [] := fun q hq hn => by
        have hq0 : q ≠ 0 := fun e => (List.nodup_cons.1 hnd).1 (e ▸ hq)
        obtain ⟨l', hl'⟩ := find_entry hq
        exact h.pl.lf q (by omega) (hr1 _ hl').1 hn
      have e1 := a.read hr1 hlf (E1.length + 1) (by omega)
      have hW := h.w
      rw [hE, ids_cons, List.filter_cons, if_pos (by unfold plainN; rw [h0n, inK3_nil]; rfl)] at hW
      refine ⟨?_, _, hW.symm⟩
      have h0 : (nodeAt m 0).inner = l := h0.2
      show readN (E1.length + 1 + 1) (exportM m (E1.length + 1 + 1) 0) = _
      rw [exportM_succ, h0, e1, ← hW, List.tail_cons, foldW_filter]
end Go.Proofs
set_option linter.unusedVariables false
namespace Go.Proofs
open Go Go.Eng
variable {m m' : AM} {W : List Nat} {E E1 E2 : En} {ls ls' : List Int}
/-! ### An element with a text comes into the innermost one -/
theorem KB.node (h : KB W m ls E) {n0 : NodeM} (hm : m'.nodes = m.nodes ++ [n0]) (hi : n0.inner = []) (ok' : ∃ c, TOk c m') (pl' : Pl m') (ls' : LsOk m' ls) :
    KB (W ++ [m.nodes.length].filter (plainN m')) m' ls (E ++ [(m.nodes.length, [])]) := by
  obtain ⟨a1, a2⟩ := nodeAt_new hm
  have hlen : m'.nodes.length = m.nodes.length + 1 := by rw [hm]; simp
  have hx : m.nodes.length ∉ ids E := fun hx => by have := h.lt hx; omega
  refine ⟨ok', pl', ls', (h.real.node hm).append ?_, ?_, ?_, fun q hq => ?_⟩
  · intro e he
    obtain rfl := List.mem_singleton.1 he
    exact ⟨by show m.nodes.length < _; omega, by show (nodeAt m' m.nodes.length).inner = []; rw [a1, hi]⟩
  · rw [ids_append]
    refine List.nodup_append.2 ⟨h.nd, by simp [ids], fun a ha b hb e => hx ?_⟩
    obtain rfl : b = m.nodes.length := by simpa [ids] using hb
    exact e ▸ ha
  · rw [ids_append, List.filter_append, filter_nt (NT.node hm) (fun q hq => h.lt hq), h.w]; rfl
  · rw [ids_append]
    by_cases h' : q = m.nodes.length
    · rw [h']; simp [ids]
    · exact List.mem_append.2 (.inl (h.all q (by omega)))
theorem addEl_el (m : AM) (n : NodeM) : elAt (addEl m n) m.elems.length = m.nodes.length ∧ ∀ i, i < m.elems.length → elAt (addEl m n) i = elAt m i := by
  unfold elAt addEl
  refine ⟨by simp [List.getD], fun i hi => ?_⟩
  show (m.elems ++ [_]).getD i 0 = _
  rw [List.getD_eq_getElem?_getD, List.getElem?_append_left hi, List.getD_eq_getElem?_getD]
theorem addEl_name {c : Nat} (hk : TOk c m) (n : NodeM) : (∀ i, i < m.elems.length → nameAt (addEl m n) i = nameAt m i) ∧ nameAt (addEl m n) m.elems.length = n.name :=
  ⟨fun i hi => ((Live.of_lt hk.aok hi).add n).2, (Live.new m n).2⟩
theorem Pl.elem (h : Pl m) {c : Nat} (hk : TOk c m) {n : NodeM} (hn : n.name ≠ ⟨#[]⟩) : Pl (addEl m n) := by
  obtain ⟨e1, e2⟩ := addEl_el m n
  obtain ⟨n1, n2⟩ := addEl_name hk n
  have hlen := addEl_elems m n
  obtain ⟨a1, a2⟩ := nodeAt_new (m := m) (m' := addEl m n) (n0 := n) rfl
  refine ⟨fun i hi hil => ?_, fun q hq hql hnm => ?_, by rw [e2 0 h.pos]; exact h.e0, by rw [hlen]; omega⟩
  · by_cases h' : i < m.elems.length
    · rw [n1 i h']; exact h.nm i hi h'
    · have : i = m.elems.length := by omega
      rw [this, n2]; exact hn
  · by_cases h' : q < m.nodes.length
    · rw [a2 q h'] at hnm ⊢; exact h.lf q hq h' hnm
    · have : q = m.nodes.length := by have : (addEl m n).nodes.length = m.nodes.length + 1 := by unfold addEl; simp
                                      omega
      rw [this, a1] at hnm; exact absurd hnm hn
theorem newText_name {c : Nat} (hk : TOk c m) (s : ByteArray) (i : Nat) (hi : i < m.elems.length) : nameAt (newText m s) i = nameAt m i := by
  have h1 := elAt_some hi
  have h2 := elAt_lt hk.aok hi
  have e : elAt (newText m s) i = elAt m i := rfl
  rw [nameAt_of h1 (nodeAt_some h2)]
  exact nameAt_of (q := elAt m i) (n := nodeAt m (elAt m i)) h1 (by show (m.nodes ++ [_])[elAt m i]? = _; rw [List.getElem?_append_left h2]; exact nodeAt_some h2)
theorem Pl.newText (h : Pl m) {c : Nat} (hk : TOk c m) (s : ByteArray) : Pl (Go.Proofs.newText m s) := by
  obtain ⟨a1, a2⟩ := nodeAt_new (m := m) (m' := Go.Proofs.newText m s) (n0 := ⟨⟨#[]⟩, [], s, -1, []⟩) rfl
  refine ⟨fun i hi hil => by rw [newText_name hk s i hil]; exact h.nm i hi hil, fun q hq hql hnm => ?_, h.e0, h.pos⟩
  by_cases h' : q < m.nodes.length
  · rw [a2 q h'] at hnm ⊢; exact h.lf q hq h' hnm
  · have : q = m.nodes.length := by have : (Go.Proofs.newText m s).nodes.length = m.nodes.length + 1 := by unfold Go.Proofs.newText; simp
                                    omega
    rw [this, a1]
def elA (n : ByteArray) (a : List (ByteArray × ByteArray)) : NodeM := ⟨n, a, ⟨#[]⟩, -1, []⟩
def enterA (m : AM) (p : Nat) (name : ByteArray) (a : List (ByteArray × ByteArray)) (s : ByteArray) : AM := textM (appendM (addEl m (elA name a)) p m.elems.length) m.elems.length s
def topN (st : List Nat) : Nat := if 0 < st.length then st.getD (st.length - 1) 0 else 0
set_option maxHeartbeats 1000000 in
theorem KI.enter {g : GM} (h : KI W g E) {name : ByteArray} (hn : name ≠ ⟨#[]⟩) {a : List (ByteArray × ByteArray)} (ha : a.length ≤ 1000000) (s : ByteArray) :
    ∃ E' W2, KI (W ++ W2) { g with m := enterA g.m (topN g.st) name a s, st := g.st ++ [g.m.elems.length] } E' ∧ foldW (enterA g.m (topN g.st) name a s) W2 = (s, if inK 3 name = true then 0 else 1) ∧ NT g.m (enterA g.m (topN g.st) name a s) ∧
      (enterA g.m (topN g.st) name a s).elems.length = g.m.elems.length + 1 ∧ nameAt (enterA g.m (topN g.st) name a s) g.m.elems.length = name ∧ (∀ q ∈ W2, (nodeAt (enterA g.m (topN g.st) name a s) q).name = name ∨ (nodeAt (enterA g.m (topN g.st) name a s) q).name = ⟨#[]⟩) := by
  obtain ⟨hK, hO, hnd, hlt⟩ := h
  obtain ⟨c, hk⟩ := hK.ok
  obtain ⟨m, st, ls, bm⟩ := g
  simp only at hK hO hnd hlt hk ⊢
  have hpos := hK.pl.pos
  have htl : topN st < m.elems.length := by
    unfold topN
    split
    · rename_i hp
      have e : st.getD (st.length - 1) 0 = st[st.length - 1] := by simp [List.getD, (show st.length - 1 < st.length by omega)]
      rw [e]; exact (hlt _ (List.getElem_mem _)).2
    · exact hpos
  -- the new element
  have hk1 := hk.elem (n0 := elA name a) ⟨rfl, rfl, ha⟩
  obtain ⟨e1, e2⟩ := addEl_el m (elA name a)
  obtain ⟨n1, n2⟩ := addEl_name hk (elA name a)
  have el1 := addEl_elems m (elA name a)
  have ln1 : (addEl m (elA name a)).nodes.length = m.nodes.length + 1 := by unfold addEl; simp
  have hK1 := hK.node (m' := addEl m (elA name a)) (n0 := elA name a) rfl rfl ⟨_, hk1⟩ (hK.pl.elem hk hn) (hK.ls.to (by omega) n1)
  have nd1 : nodeAt (addEl m (elA name a)) m.nodes.length = elA name a := (nodeAt_new (m := m) (m' := addEl m (elA name a)) rfl).1
  obtain ⟨S1, hS1⟩ := path_snoc st (elAt m) hK.pl.e0 st rfl
  have hS1 : 0 :: st.map (elAt m) = S1 ++ [elAt m (topN st)] := hS1
  have hx : m.nodes.length ∉ ids E := fun hx => by have := hK.lt hx; omega
  have hkx : ∀ e ∈ E, m.nodes.length ∉ e.2 := fun e he hy => by have := hK.kid he hy; omega
  rw [hS1] at hO
  have hp : elAt m (topN st) ∈ ids E := hO.sub.subset (by simp)
  have hA := Op.attach S1 m.nodes.length hO hK.nd
  have hpx : m.nodes.length ≠ elAt m (topN st) := fun e => hx (e ▸ hp)
  -- it is put in
  have hK2 := hK1.put (p := topN st) (q := m.nodes.length) (by omega) (by omega)
  rw [e2 _ htl] at hK2
  have eE2 : app (elAt m (topN st)) m.nodes.length (fil m.nodes.length (E ++ [(m.nodes.length, [])])) = app (elAt m (topN st)) m.nodes.length E ++ [(m.nodes.length, [])] := by
    rw [fil_append, fil_id hkx, app_append]
    show _ ++ [(m.nodes.length, [] ++ if m.nodes.length = elAt m (topN st) then _ else [])] = _
    rw [if_neg hpx]; rfl
  rw [eE2] at hK2
  have em2 : appendM (addEl m (elA name a)) (topN st) m.elems.length = putM (addEl m (elA name a)) (elAt m (topN st)) m.nodes.length := by unfold appendM; rw [e1, e2 _ htl]
  have hkp := hk1.put (p := elAt m (topN st)) (q := m.nodes.length) (by have := elAt_lt hk.aok htl; omega) (by omega)
  have nt2 : NT m (putM (addEl m (elA name a)) (elAt m (topN st)) m.nodes.length) := (NT.node (n0 := elA name a) rfl).then (NT.put hk1 _ _)
  have ln2 : (putM (addEl m (elA name a)) (elAt m (topN st)) m.nodes.length).nodes.length = m.nodes.length + 1 := by rw [putM_len]; exact ln1
  have el2 : (putM (addEl m (elA name a)) (elAt m (topN st)) m.nodes.length).elems.length = m.elems.length + 1 := by rw [putM_elems]; exact el1
  have ee2 : ∀ i, elAt (putM (addEl m (elA name a)) (elAt m (topN st)) m.nodes.length) i = elAt (addEl m (elA name a)) i := fun i => elAt_put _ _ _ _
  have nm2 : ∀ i, nameAt (putM (addEl m (elA name a)) (elAt m (topN st)) m.nodes.length) i = nameAt (addEl m (elA name a)) i := fun i => nameAt_put _ _ _
  obtain ⟨in2, nx2, tx2⟩ := put_at hk1 (p := elAt m (topN st)) (q := m.nodes.length) m.nodes.length (by omega)
  rw [nd1] at nx2
  have hin2 : (nodeAt (putM (addEl m (elA name a)) (elAt m (topN st)) m.nodes.length) m.nodes.length).inner = [] := by rw [in2, nd1, if_neg hpx]; rfl
  have hpl : [m.nodes.length].filter (plainN (addEl m (elA name a))) = if inK 3 name = true then [] else [m.nodes.length] := by
    rw [List.filter_cons]
    have : plainN (addEl m (elA name a)) m.nodes.length = !inK 3 name := by unfold plainN; rw [nd1]; rfl
    rw [this]
    cases inK 3 name <;> rfl
  rw [hpl] at hK2
  unfold enterA
  rw [em2]
  -- as a path
  have path : ∀ (m' : AM), (∀ i, i < m.elems.length + 1 → elAt m' i = elAt (addEl m (elA name a)) i) → 0 :: (st ++ [m.elems.length]).map (elAt m') = (S1 ++ [elAt m (topN st)]) ++ [m.nodes.length] := fun m' hm' => by
    rw [← hS1, List.map_append, List.map_singleton, hm' _ (by omega), e1]
    have : st.map (elAt m') = st.map (elAt m) := List.map_congr_left fun i hi => by have := (hlt i hi).2; rw [hm' i (by omega), e2 i this]
    rw [this]; rfl
  have nd' : (st ++ [m.elems.length]).Nodup := by
    refine List.nodup_append.2 ⟨hnd, by simp, fun a ha b hb e => ?_⟩
    obtain rfl := List.mem_singleton.1 hb
    have := (hlt a ha).2
    omega
  have lt' : ∀ i ∈ st ++ [m.elems.length], 0 < i ∧ i < m.elems.length + 1 := fun i hi => by
    rcases List.mem_append.1 hi with hi | hi
    · have := hlt i hi; exact ⟨this.1, by omega⟩
    · obtain rfl := List.mem_singleton.1 hi; exact ⟨hpos, by omega⟩
  have rd2 : ∀ {m' : AM}, (nodeAt m' m.nodes.length).name = name → foldW m' (if inK 3 name = true then [] else [m.nodes.length]) = (⟨#[]⟩, if inK 3 name = true then 0 else 1) := fun {m'} hm' => by
    by_cases hf : inK 3 name = true
    · rw [if_pos hf, if_pos hf]; rfl
    · rw [if_neg hf, if_neg hf]
      show radd (rdN m' m.nodes.length) r0 = _
      rw [radd_r0]
      unfold rdN
      rw [hm', if_neg hn, if_neg hf]
  by_cases hs : s = ⟨#[]⟩
  · subst hs
    unfold textM
    rw [if_pos rfl]
    refine ⟨_, _, ⟨hK2, ?_, nd', fun i hi => by show 0 < i ∧ i < (putM _ _ _).elems.length; rw [el2]; exact lt' i hi⟩, rd2 nx2, nt2, el2, by rw [nm2, n2]; rfl, fun q hq => ?_⟩
    · show Op (0 :: (st ++ [m.elems.length]).map (elAt (putM _ _ _))) none _
      rw [path _ fun i _ => ee2 i, List.append_assoc]
      rw [show [elAt m (topN st)] ++ [m.nodes.length] = [elAt m (topN st)] ++ m.nodes.length :: [] from rfl, ← List.append_assoc]
      exact hA.join rfl (Op.one (x := none) WF.nil)
    · split at hq
      · cases hq
      · obtain rfl := List.mem_singleton.1 hq; exact .inl nx2
  · -- and a text in it
    have hlast : lastText (putM (addEl m (elA name a)) (elAt m (topN st)) m.nodes.length) m.elems.length = false := by
      unfold lastText innerAt
      rw [ee2, e1, hin2]; rfl
    unfold textM
    rw [if_neg hs, if_neg (by rw [hlast]; decide), ee2, e1, ln2]
    obtain ⟨m2, hm2⟩ : ∃ m2, m2 = putM (addEl m (elA name a)) (elAt m (topN st)) m.nodes.length := ⟨_, rfl⟩
    rw [← hm2] at hK2 hkp nt2 ln2 el2 ee2 nm2 nx2 hin2 ⊢
    have hk3 : TOk (c + 1 + 1) (newText m2 s) := hkp.newNode (n0 := ⟨⟨#[]⟩, [], s, -1, []⟩) ⟨rfl, rfl, Nat.zero_le _⟩ rfl (fun i q hq => .inl hq) (by show m2.elems.length ≤ _; have := hkp.elm; omega) (by show m2.copies ≤ _; have := hkp.cps; omega)
    have hK3 := hK2.node (m' := newText m2 s) (n0 := ⟨⟨#[]⟩, [], s, -1, []⟩) rfl rfl ⟨_, hk3⟩ (hK2.pl.newText hkp s) (hK2.ls.to (Nat.le_refl _) (newText_name hkp s))
    have ln3 : (newText m2 s).nodes.length = m.nodes.length + 2 := by unfold newText; simp [ln2]
    have nd3 := nodeAt_new (m := m2) (m' := newText m2 s) (n0 := ⟨⟨#[]⟩, [], s, -1, []⟩) rfl
    rw [ln2] at hK3 nd3
    have ee3 : ∀ i, elAt (newText m2 s) i = elAt (addEl m (elA name a)) i := fun i => ee2 i
    have hf3 : [m.nodes.length + 1].filter (plainN (newText m2 s)) = [m.nodes.length + 1] := by
      rw [List.filter_cons, if_pos (by unfold plainN; rw [nd3.1]; show (!inK 3 ⟨#[]⟩) = true; rw [inK3_nil]; rfl)]; rfl
    rw [hf3] at hK3
    have hK4 := hK3.put (p := m.elems.length) (q := m.nodes.length + 1) (by show m.elems.length < m2.elems.length; omega) (by omega)
    rw [ee3, e1] at hK4
    have hids : ids (app (elAt m (topN st)) m.nodes.length E) = ids E := app_ids _ _ _
    have eE4 : app m.nodes.length (m.nodes.length + 1) (fil (m.nodes.length + 1) (app (elAt m (topN st)) m.nodes.length E ++ [(m.nodes.length, [])] ++ [(m.nodes.length + 1, [])])) = app (elAt m (topN st)) m.nodes.length E ++ [(m.nodes.length, [m.nodes.length + 1]), (m.nodes.length + 1, [])] := by
      have hkA : ∀ e ∈ app (elAt m (topN st)) m.nodes.length E, m.nodes.length + 1 ∉ e.2 := fun e he hy => by
        obtain ⟨d, hd, rfl⟩ := List.mem_map.1 he
        rcases List.mem_append.1 (show m.nodes.length + 1 ∈ d.2 ++ _ from hy) with hy | hy
        · have := hK.kid hd hy; omega
        · split at hy
          · have := List.mem_singleton.1 hy; omega
          · cases hy
      rw [List.append_assoc, fil_append, fil_id hkA, app_append, app_id (by rw [hids]; exact hx)]
      show _ ++ ((m.nodes.length, [] ++ if m.nodes.length = m.nodes.length then [m.nodes.length + 1] else []) :: [(m.nodes.length + 1, [] ++ if m.nodes.length + 1 = m.nodes.length then [m.nodes.length + 1] else [])]) = _
      rw [if_pos rfl, if_neg (by omega)]; rfl
    rw [eE4] at hK4
    have pa := put_at hk3 (p := m.nodes.length) (q := m.nodes.length + 1)
    have hx4 : (nodeAt (putM (newText m2 s) m.nodes.length (m.nodes.length + 1)) m.nodes.length).name = name := by
      rw [(pa _ (by omega)).2.1, nd3.2 _ (by omega)]; exact nx2
    have ht4 : (nodeAt (putM (newText m2 s) m.nodes.length (m.nodes.length + 1)) (m.nodes.length + 1)).name = ⟨#[]⟩ ∧ (nodeAt (putM (newText m2 s) m.nodes.length (m.nodes.length + 1)) (m.nodes.length + 1)).text = s := by
      have := pa (m.nodes.length + 1) (by omega)
      rw [this.2.1, this.2.2, nd3.1]; exact ⟨rfl, rfl⟩
    have hel4 : (putM (newText m2 s) m.nodes.length (m.nodes.length + 1)).elems.length = m.elems.length + 1 := by rw [putM_elems]; exact el2
    refine ⟨_, (if inK 3 name = true then [] else [m.nodes.length]) ++ [m.nodes.length + 1], ⟨by rw [← List.append_assoc]; exact hK4, ?_, nd', fun i hi => by show 0 < i ∧ i < (putM _ _ _).elems.length; rw [hel4]; exact lt' i hi⟩, ?_, ?_, hel4, by rw [nameAt_put, newText_name hkp s _ (by omega), nm2, n2]; rfl, fun q hq => ?_⟩
    · show Op (0 :: (st ++ [m.elems.length]).map (elAt (putM _ _ _))) none _
      rw [path _ fun i _ => (elAt_put _ _ _ _).trans (ee3 i)]
      rw [show (S1 ++ [elAt m (topN st)]) ++ [m.nodes.length] = (S1 ++ [elAt m (topN st)]) ++ m.nodes.length :: [] from rfl]
      exact hA.join rfl (Op.one (x := none) (WF.cons WF.nil WF.nil))
    · rw [foldW_append, rd2 hx4]
      show radd _ (radd (rdN _ _) r0) = _
      rw [radd_r0]
      unfold rdN
      rw [if_pos ht4.1, ht4.2]
      unfold radd
      simp only
      rw [ba_nil, Nat.add_zero]
    · exact (nt2.then (NT.node (n0 := ⟨⟨#[]⟩, [], s, -1, []⟩) rfl)).then (NT.put hk3 _ _)
    · rcases List.mem_append.1 hq with hq | hq
      · split at hq
        · cases hq
        · obtain rfl := List.mem_singleton.1 hq; exact .inl hx4
      · obtain rfl := List.mem_singleton.1 hq; exact .inr ht4.1
/-! ### The list grows -/
theorem LsOk.push {i : Nat} (h : LsOk m ls) (hi : (i : Int) ∉ ls) (h0 : 0 < i) (hl : i < m.elems.length) (hf : inK 3 (nameAt m i) = true) : LsOk m (pushL m ls i) := by
  have g : ∀ l : List Int, LsOk m l → (i : Int) ∉ l → LsOk m (l ++ [(i : Int)]) := fun l hl' hn =>
    ⟨List.nodup_append.2 ⟨hl'.nd, by simp, fun a ha b hb e => by obtain rfl := List.mem_singleton.1 hb; exact hn (e ▸ ha)⟩, fun z hz => by
      rcases List.mem_append.1 hz with hz | hz
      · exact hl'.of z hz
      · exact ⟨i, List.mem_singleton.1 hz, h0, hl, hf⟩⟩
  unfold pushL
  split
  · exact g _ (h.sub (List.eraseIdx_sublist _ _)) fun hm => hi (List.mem_of_mem_eraseIdx hm)
  · exact g _ h hi
theorem pushL_len (m : AM) (ls : List Int) (i : Nat) : (pushL m ls i).length ≤ ls.length + 1 := by
  unfold pushL
  rw [List.length_append]
  split
  · have := (List.eraseIdx_sublist ls (pscan m (nameAt m i) (attrsAt m i) ls (markL ls) ls.length (0, 0)).1).length_le
    simp; omega
  · simp
end Go.Proofs
set_option linter.unusedVariables false
namespace Go.Proofs
open Go Go.Eng
/-! ### Reading a tree: the walk -/
def NmB : Nat → List TN → Prop
  | 0, _ => True
  | d + 1, l => ∀ t ∈ l, t.name.size ≤ 4611686018427387000 ∧ NmB d t.inner
def rdT (d : Nat) (t : TN) : ByteArray × Nat := if t.name = ⟨#[]⟩ then (t.text, 0) else radd (⟨#[]⟩, if inK 3 t.name = true then 0 else 1) (readN d t.inner)
theorem readN_rdT (d : Nat) (l : List TN) : readN (d + 1) l = isum (l.map (rdT d)) := rfl
theorem isum_take (f : TN → ByteArray × Nat) {l : List TN} {i : Nat} (hi : i < l.length) : isum ((l.take (i + 1)).map f) = radd (isum ((l.take i).map f)) (f l[i]) := by
  rw [List.take_succ_eq_append_getElem hi, List.map_append, isum_append]
  show radd _ (radd _ r0) = _
  rw [radd_r0]
theorem isum_le (f : TN → ByteArray × Nat) (l : List TN) (i : Nat) : (isum ((l.take i).map f)).1.size ≤ (isum (l.map f)).1.size ∧ (isum ((l.take i).map f)).2 ≤ (isum (l.map f)).2 := by
  have : isum (l.map f) = radd (isum ((l.take i).map f)) (isum ((l.drop i).map f)) := by rw [← isum_append, ← List.map_append, List.take_append_drop]
  rw [this]
  unfold radd
  simp only
  rw [ba_size]
  exact ⟨Nat.le_add_right _ _, Nat.le_add_right _ _⟩
set_option maxHeartbeats 1000000 in
theorem c_read : ∀ (d : Nat) {Q : Nat → Prop} {w : World} {v : Value} {l : List TN} (_ : RV Q d w v l) (_ : TB d l) (_ : NmB d l) (_ : (readN d l).1.size ≤ 9000000000000000000) (_ : (readN d l).2 ≤ 1000000000) {K : Value → World → Prop}
    (_ : ∀ w', Ext w w' → K (.tuple #[.string (readN d l).1, .int .i64 (readN d l).2]) w'), Cf Tryd.prog n_decanterlaw15_read #[v] w K := by
  intro d
  induction d with
  | zero => intro Q w v l h; exact h.elim
  | succ d ih =>
  intro Q w v l h hB hN hS hC K k
  obtain ⟨a, c, rfl⟩ := h.val
  obtain ⟨ph, hph, hrow, _, hnode⟩ := h
  rw [readN_rdT] at hS hC k
  refine L_decanterlaw15_read _ _ _ ?_
  unfold S_decanterlaw15_read
  have hB1 := hB.1
  refine Vl.len ⟨fun gg ds w' => ∃ i : Nat, gg = [.string (isum ((l.take i).map (rdT d))).1, .int .i64 (isum ((l.take i).map (rdT d))).2, .int .i64 i] ∧ ds = [] ∧ i ≤ l.length ∧ Ext w w', fun gg _ => (l.length - intAt gg 2).toNat, ⟨0, rfl, rfl, Nat.zero_le _, Chg.refl _ _⟩, ?_⟩
  rintro gg ds wa ⟨i, hgg, rfl, hi, hE⟩
  have e4 : gg 4 = .string (isum ((l.take i).map (rdT d))).1 := (List.cons.inj hgg).1
  have e5 : gg 5 = .int .i64 (isum ((l.take i).map (rdT d))).2 := (List.cons.inj (List.cons.inj hgg).2).1
  have e12 : gg 12 = .int .i64 i := (List.cons.inj (List.cons.inj (List.cons.inj hgg).2).2).1
  rw [e4, e5, e12]
  refine Vl.lss (Cond_bool (fun hl => ?_) (fun hl => ?_))
  · have hl : i < l.length := by have := of_decide_eq_true hl; omega
    have hs := isum_take (rdT d) hl
    have hle := isum_le (rdT d) l (i + 1)
    obtain ⟨t, ht⟩ : ∃ t, l[i]? = some t := ⟨_, List.getElem?_eq_getElem hl⟩
    have htl : l[i] = t := (List.getElem?_eq_some_iff.1 ht).2
    rw [htl] at hs
    obtain ⟨p, hp⟩ : ∃ p, ph[i]? = some p := ⟨_, List.getElem?_eq_getElem (by omega)⟩
    obtain ⟨g, rfl, hcell⟩ := TV.cellRow hrow ht hp
    obtain ⟨hra, hqa, hin⟩ := hnode i t p ht hp
    have hBt := hB.2 t (List.mem_of_getElem? ht)
    have hNt := hN t (List.mem_of_getElem? ht)
    refine Vl.ix 4 (by omega) (by omega) ?_
    have ei : ((i : Int)).toNat = i := by omega
    rw [ei]
    refine Vl.ldC (tnCell t p) (fun jj v hj => cell_same hE (hcell jj v hj) id) ?_
    refine Vl.alloc (z := .agg (tnCell (.mk ⟨#[]⟩ [] ⟨#[]⟩ []) (.slice none 0 0, .slice none 0 0)).toArray) (by intro w; kernel_rfl) fun wb hNb => ?_
    have c8 : Cl wb wa.heap.size T_decanterref12_Node (tnCell (.mk ⟨#[]⟩ [] ⟨#[]⟩ []) (.slice none 0 0, .slice none 0 0)) := hNb.new
    obtain ⟨b8, hb8⟩ : ∃ b, b = wa.heap.size := ⟨_, rfl⟩
    rw [← hb8] at c8 ⊢
    obtain ⟨a1, c1, eq1, _⟩ := hra.val
    obtain ⟨a2, c2, eq2⟩ := hin.val
    have o1 : One p.1 := by rw [eq1]; trivial
    have o2 : One p.2 := by rw [eq2]; trivial
    refine Ef.setA (n := 4) c8 rfl (by simp [tnCell]) (by intro v hv; simp [tnCell] at hv; rcases hv with rfl | rfl | rfl | rfl <;> first | trivial | exact o1 | exact o2) fun wc huc => ?_
    have c8c : Cl wc b8 T_decanterref12_Node (tnCell t p) := huc.cl
    have hEc : Ext wa wc := hNb.ext.newer (S' := (· = b8)) huc.chg (fun x hx e => by omega)
    have hEw := hE.then hEc
    refine Vl.fa (Vl.ld c8c rfl (Vl.seql (Cond_bool (fun hn => ?_) fun hn => ?_)))
    · have hn : t.name = ⟨#[]⟩ := of_decide_eq_true hn
      have er : rdT d t = (t.text, 0) := by unfold rdT; rw [if_pos hn]
      have hsz : (isum ((l.take i).map (rdT d))).1.size + t.text.size ≤ 9000000000000000000 := by
        rw [hs, er] at hle
        unfold radd at hle
        simp only at hle
        rw [ba_size] at hle
        omega
      refine Vl.fa (Vl.ld c8c rfl (Vl.addS (by omega) (Vl.add ⟨⟨i + 1, ?_, rfl, by omega, hEw⟩, ?_⟩)))
      · rw [hs, er]; rfl
      · show ((l.length : Int) - ((i : Int) + 1)).toNat < ((l.length : Int) - (i : Int)).toNat; omega
    · have hn : t.name ≠ ⟨#[]⟩ := of_decide_eq_false hn
      have er : rdT d t = radd (⟨#[]⟩, if inK 3 t.name = true then 0 else 1) (readN d t.inner) := by unfold rdT; rw [if_neg hn]
      have hsz : (isum ((l.take i).map (rdT d))).1.size + (readN d t.inner).1.size ≤ 9000000000000000000 ∧ (isum ((l.take i).map (rdT d))).2 + ((if inK 3 t.name = true then 0 else 1) + (readN d t.inner).2) ≤ 1000000000 := by
        rw [hs, er] at hle
        unfold radd at hle
        simp only at hle
        rw [ba_size, ba_nil] at hle
        exact ⟨by omega, by omega⟩
      refine ⟨fun vs ds w' => ds = [] ∧ vs = [.int .i64 ((isum ((l.take i).map (rdT d))).2 + (if inK 3 t.name = true then 0 else 1) : Nat)] ∧ Ext wc w', ?_, ?_⟩
      · refine Vl.fa (Vl.ld c8c rfl (c_ref_Is (by decide) hNt.1 fun wd hEd => Vl.not (Cond_bool (fun hf => ?_) fun hf => ?_)))
        · have hf : inK 3 t.name = false := by simpa using hf
          rw [if_neg (by rw [hf]; decide)] at hsz
          refine Vl.add ⟨rfl, ?_, hEd⟩
          rw [if_neg (by rw [hf]; decide)]; rfl
        · have hf : inK 3 t.name = true := by simpa using hf
          refine ⟨rfl, ?_, hEd⟩
          rw [if_pos hf]; rfl
      · rintro ga dsa wo ⟨rfl, hga, hEo⟩
        have e5 : ga 5 = _ := (List.cons.inj hga).1
        rw [e5]
        refine Vl.fa (Vl.ld (c8c.ext hEo) rfl (ih (hin.chg d (hEw.then hEo) (fun _ _ _ => id) fun b hb _ => hb) hBt.2 hNt.2 (by omega) (by omega) fun wp hEp => ?_))
        refine Vl.extr (v := .string (readN d t.inner).1) (Vl.extr (v := .int .i64 (readN d t.inner).2) (Vl.addS (by omega) (Vl.add (Vl.add ⟨⟨i + 1, ?_, rfl, by omega, (hEw.then hEo).then hEp⟩, ?_⟩))))
        · rw [hs, er]
          unfold radd
          simp only
          rw [ba_nil, ← Nat.add_assoc]
          rfl
        · show ((l.length : Int) - ((i : Int) + 1)).toNat < ((l.length : Int) - (i : Int)).toNat; omega
  · have : i = l.length := by have := of_decide_eq_false hl; omega
    subst this
    rw [List.take_length]
    exact Lv.nil (k wa hE)
end Go.Proofs
set_option linter.unusedVariables false
namespace Go.Proofs
open Go Go.Eng
/-! ### What is opened -/
structure OpenM where
  name : ByteArray
  av : Value
  attrs : List (ByteArray × ByteArray)
  text : ByteArray
  lv : Value
  mv : Value
def OpenOk (x : OpenM) : Prop := x.name.size ≤ 140737488351232 ∧ x.text.size ≤ 140737488351232 ∧ One x.lv ∧ One x.mv
def OpensV (w : World) (v : Value) (l : List OpenM) : Prop :=
  ∃ a c, v = .slice a l.length c ∧ ∀ i (h : i < l.length), ∃ b o, a = some ⟨b, o, none⟩ ∧ (∀ j v, [Value.string l[i].name, l[i].av, .string l[i].text, l[i].lv, l[i].mv][j]? = some v → w.cell? ⟨b, o + i * 5 + j, none⟩ = some v) ∧ AtV w l[i].av l[i].attrs ∧ OpenOk l[i]
theorem OpensV.ext {w w' : World} {v : Value} {l : List OpenM} (h : OpensV w v l) (c : Ext w w') : OpensV w' v l := by
  obtain ⟨a, cp, e, h⟩ := h
  refine ⟨a, cp, e, fun i hi => ?_⟩
  obtain ⟨b, o, ha, h0, h1, h2⟩ := h i hi
  exact ⟨b, o, ha, fun j v hj => cell_same c (h0 j v hj) id, h1.ext c, h2⟩
/-! ### The state that grows -/
variable {m m' : AM} {W : List Nat} {E E1 E2 : En} {ls ls' : List Int} {st : List Nat} {txt : ByteArray} {pl k : Nat}
structure KA (k : Nat) (m : AM) (st : List Nat) (ls : List Int) (E : En) (W : List Nat) (txt : ByteArray) (pl : Nat) : Prop where
  ki : KI W ⟨m, st, ls, 0⟩ E
  ok : TOk (2 * k + 1) m
  tx : Tx (k * 140737488351232) m
  sl : st.length = k
  ll : ls.length ≤ k
  cp : m.copies = 0
  rt : (nodeAt m 0).name = ⟨#[]⟩
  fw : foldW m W.tail = (txt, pl)
  w0 : ∃ W', W = 0 :: W'
  nm : ∀ q ∈ W, (nodeAt m q).name.size ≤ 140737488351232
  ts : txt.size ≤ k * 140737488351232
  ps : pl ≤ k
theorem KA.zero : KA 0 m0 [] [] [(0, [])] [0] ⟨#[]⟩ 0 := by
  have at_ : ∀ q : Nat, nodeAt m0 q = rootN := fun q => by
    match q with
    | 0 => rfl
    | q + 1 => rfl
  refine ⟨⟨⟨⟨1, TOk.m0⟩, ⟨fun i h0 h1 => ?_, fun q h0 h1 => ?_, rfl, by decide⟩, ⟨List.nodup_nil, fun z hz => (by cases hz)⟩, fun e he => ?_, by decide, ?_, fun q hq => ?_⟩, Op.one (x := none) WF.nil, List.nodup_nil, fun i hi => (by cases hi)⟩, TOk.m0, fun q n hn => ?_, rfl, Nat.le_refl _, rfl, rfl, rfl, ⟨[], rfl⟩, fun q _ => by rw [at_]; exact Nat.zero_le _, Nat.zero_le _, Nat.le_refl _⟩
  · have h1 : i < 1 := h1
    omega
  · have h1 : q < 1 := h1
    omega
  · obtain rfl := List.mem_singleton.1 he
    exact ⟨by decide, rfl⟩
  · show [0].filter (plainN m0) = [0]
    rw [List.filter_cons, if_pos (by unfold plainN; rw [at_]; show (!inK 3 ⟨#[]⟩) = true; rw [inK3_nil]; rfl)]; rfl
  · have hq : q < 1 := hq
    have : q = 0 := by omega
    subst this; exact List.mem_singleton.2 rfl
  · match q, hn with
    | 0, hn => have : rootN = n := by simpa [Go.Proofs.m0] using hn
               rw [← this]; exact Nat.zero_le _
    | q + 1, hn => simp [Go.Proofs.m0] at hn
theorem elA_tx {B : Nat} (h : Tx B m) (name : ByteArray) (a : List (ByteArray × ByteArray)) (p : Nat) : Tx B (appendM (addEl m (elA name a)) p m.elems.length) :=
  Tx.put (h.node (n0 := elA name a) rfl (Nat.zero_le _)) _ _
theorem enterA_ok {c : Nat} (h : TOk c m) {p : Nat} (hp : p < m.elems.length) (name : ByteArray) {a : List (ByteArray × ByteArray)} (ha : a.length ≤ 1000000) (s : ByteArray) :
    TOk (c + 1) (addEl m (elA name a)) ∧ TOk (c + 1) (appendM (addEl m (elA name a)) p m.elems.length) ∧ TOk (c + 2) (enterA m p name a s) ∧ (addEl m (elA name a)).elems.length = m.elems.length + 1 ∧ (appendM (addEl m (elA name a)) p m.elems.length).elems.length = m.elems.length + 1 ∧ (enterA m p name a s).elems.length = m.elems.length + 1 ∧ (enterA m p name a s).copies = m.copies := by
  have h1 := h.elem (n0 := elA name a) ⟨rfl, rfl, ha⟩
  have e1 := addEl_elems m (elA name a)
  have h2 : TOk (c + 1) (appendM (addEl m (elA name a)) p m.elems.length) := h1.append (by omega) (by omega)
  have e2 : (appendM (addEl m (elA name a)) p m.elems.length).elems.length = m.elems.length + 1 := by rw [appendM_elemsL, e1]
  refine ⟨h1, h2, h2.text (by omega) s, e1, e2, by unfold enterA; rw [textM_elems, e2], ?_⟩
  have c2 : (appendM (addEl m (elA name a)) p m.elems.length).copies = m.copies := putM_copies _ _ _
  unfold enterA textM
  split
  · exact c2
  · split
    · rw [modN_copies]; exact c2
    · rw [putM_copies]; exact c2
theorem topN_snoc (st : List Nat) (x : Nat) : topN (st ++ [x]) = x := by
  unfold topN
  rw [if_pos (by simp), List.getD_eq_getElem?_getD]; simp
theorem KA.top (h : KA k m st ls E W txt pl) : topN st < m.elems.length := by
  unfold topN
  split
  · rename_i hp
    have e : st.getD (st.length - 1) 0 = st[st.length - 1] := by simp [List.getD, (show st.length - 1 < st.length by omega)]
    rw [e]; exact (h.ki.lt _ (List.getElem_mem _)).2
  · exact h.ki.kb.pl.pos
theorem KA.enter (h : KA k m st ls E W txt pl) {name : ByteArray} (hn : name ≠ ⟨#[]⟩) {a : List (ByteArray × ByteArray)} (ha : a.length ≤ 1000000) {s : ByteArray} (hs1 : name.size ≤ 140737488351232) (hs2 : s.size ≤ 140737488351232) :
    ∃ E' W', KA (k + 1) (enterA m (topN st) name a s) (st ++ [m.elems.length]) ls E' W' (txt ++ s) (pl + if inK 3 name = true then 0 else 1) ∧
      (inK 3 name = true → KA (k + 1) (enterA m (topN st) name a s) (st ++ [m.elems.length]) (pushL (enterA m (topN st) name a s) ls m.elems.length) E' W' (txt ++ s) (pl + if inK 3 name = true then 0 else 1)) := by
  obtain ⟨E', W2, h1, h2, h3, h4, h5, h6⟩ := h.ki.enter hn ha s
  simp only at h1 h2 h3 h4 h5 h6
  obtain ⟨_, _, t3, _, _, e3, cp⟩ := enterA_ok h.ok h.top name ha s
  obtain ⟨W', rfl⟩ := h.w0
  have hlt : ∀ q ∈ (0 :: W'), q < m.nodes.length := fun q hq => by
    have hw := h.ki.kb.w
    rw [← hw] at hq
    exact h.ki.kb.lt (List.mem_filter.1 hq).1
  have tx : Tx ((k + 1) * 140737488351232) (enterA m (topN st) name a s) := Tx.wide (Tx.text (elA_tx h.tx name a (topN st)) _ _) (by rw [Nat.add_mul]; omega)
  have base : ∀ ls', LsOk (enterA m (topN st) name a s) ls' → ls'.length ≤ k + 1 → KA (k + 1) (enterA m (topN st) name a s) (st ++ [m.elems.length]) ls' E' (0 :: W' ++ W2) (txt ++ s) (pl + if inK 3 name = true then 0 else 1) := fun ls' hl' hlen => by
    refine ⟨⟨⟨h1.kb.ok, h1.kb.pl, hl', h1.kb.real, h1.kb.nd, h1.kb.w, h1.kb.all⟩, h1.op, h1.nd, h1.lt⟩, t3.wide (by omega), tx, by simp [h.sl], hlen, by rw [cp]; exact h.cp, ?_, ?_, ⟨W' ++ W2, rfl⟩, fun q hq => ?_, ?_, ?_⟩
    · rw [(h3.nt 0 (hlt 0 (by simp))).1]; exact h.rt
    · show foldW _ (W' ++ W2) = _
      rw [foldW_append, h2, foldW_nt h3 fun q hq => hlt q (by simp [hq])]
      have := h.fw
      simp only [List.tail_cons] at this
      rw [this]; rfl
    · rcases List.mem_append.1 hq with hq | hq
      · rw [(h3.nt q (hlt q hq)).1]; exact h.nm q hq
      · rcases h6 q hq with e | e
        · rw [e]; exact hs1
        · rw [e]; exact Nat.zero_le _
    · rw [ba_size, Nat.add_mul]; have := h.ts; omega
    · have := h.ps; split <;> omega
  have hls : LsOk (enterA m (topN st) name a s) ls := h1.kb.ls
  refine ⟨E', _, base ls hls (by have := h.ll; omega), fun hf => base _ (hls.push (fun hx => ?_) h.ki.kb.pl.pos (by omega) (by rw [h5]; exact hf)) ?_⟩
  · obtain ⟨i, e, _, hi, _⟩ := h.ki.kb.ls.of _ hx
    have hi : i < m.elems.length := hi
    omega
  · have := pushL_len (enterA m (topN st) name a s) ls m.elems.length
    have := h.ll
    omega
theorem KA.gok (h : KA k m st ls E W txt pl) : GOk k (2 * k + 1) ⟨m, st, ls, 0⟩ :=
  ⟨h.ok, fun i hi => .of_lt h.ok.aok (h.ki.lt i hi).2, h.ki.nd, h.ki.kb.ls.live h.ok.aok, by show st.length ≤ _; rw [h.sl]; exact Nat.le_refl _, by have := h.ll; show ls.length ≤ _; omega, Int.le_refl _, by show (0 : Int) ≤ _; omega⟩
theorem inK3_all : ((words (klist.getD 3 ⟨#[]⟩)).all fun x => decide (x.size ≤ 100)) = true := by kernel_rfl
theorem inK3_small {x : ByteArray} (h : inK 3 x = true) : x.size ≤ 100 := by
  unfold inK at h
  exact of_decide_eq_true (List.all_eq_true.1 inK3_all x ((among_iff _ _).1 h))
theorem export_NmB (h : ∀ q, (nodeAt m q).name.size ≤ 4611686018427387000) : ∀ (d q : Nat), NmB d (exportM m d q)
  | 0, _ => trivial
  | d + 1, q => fun t ht => by
    rw [exportM_succ] at ht
    obtain ⟨y, _, rfl⟩ := List.mem_map.1 ht
    exact ⟨h y, export_NmB h d y⟩
structure Nn (ρ : Roles) (w : World) (b T : Nat) (cs : List Value) : Prop where
  cl : Cl w b T cs
  ro : ρ b = none
variable {ρ ρ' : Roles} {w w' : World} {b T : Nat} {cs : List Value}
theorem Nn.go {X : Nat → Prop} (h : Nn ρ w b T cs) (hr : RExt ρ ρ' w) (hC : Chg X w w') (hX : ∀ b, X b → ∃ r, ρ b = some r) : Nn ρ' w' b T cs :=
  ⟨h.cl.chg hC (fun e => by obtain ⟨r, e2⟩ := hX _ e; rw [h.ro] at e2; cases e2), (hr b h.cl.lt).trans h.ro⟩
theorem Nn.e (h : Nn ρ w b T cs) (hE : Ext w w') : Nn ρ w' b T cs := ⟨h.cl.ext hE, h.ro⟩
theorem Nn.cut (h : Nn ρ w b T cs) : Nn (cutR ρ w) w b T cs := ⟨h.cl, (cutR_ext ρ w b h.cl.lt).trans h.ro⟩
end Go.Proofs
set_option linter.unusedVariables false
namespace Go.Proofs
open Go Go.Eng
variable {m m' : AM} {W : List Nat} {E E1 E2 : En} {ls ls' : List Int} {st : List Nat} {txt : ByteArray} {pl k : Nat}
variable {ρ ρ' : Roles} {w w' : World} {b T : Nat} {cs : List Value}
def openCells (x : OpenM) : List Value := [.string x.name, x.av, .string x.text, x.lv, x.mv]
set_option maxHeartbeats 4000000 in
theorem c_AdoptKeeps {w : World} (hG : Glob w) {v0 : Value} {l : List OpenM} (h0 : OpensV w v0 l) {name : ByteArray} {K : Value → World → Prop} (k : ∀ w', Ext w w' → K (.bool true) w') :
    Cf Tryd.prog n_decanterlaw15_AdoptKeeps #[v0, .string name] w K := by
  obtain ⟨a0, c0, rfl, _⟩ := id h0
  refine L_decanterlaw15_AdoptKeeps _ _ _ _ ?_
  unfold S_decanterlaw15_AdoptKeeps
  refine c_speaks15 hG fun wa hEa => Vl.not (Cond_bool (fun h => by cases h) fun _ => ?_)
  have sp : ∀ {wx : World}, Ext w wx → Cf Tryd.prog n_decanterlaw15_speaks #[] wx K := fun hx => c_speaks15 (hG.ext hx) fun w2 hE2 => k w2 (hx.then hE2)
  refine Vl.len (Vl.gtr (Cond_bool (fun _ => sp hEa) fun hx => ?_))
  have hx : l.length ≤ 30 := by have := of_decide_eq_false hx; omega
  have hGa := hG.ext hEa
  have h0 := h0.ext hEa
  have k : ∀ w', Ext wa w' → K (.bool true) w' := fun w' hE => k w' (hEa.then hE)
  clear sp
  refine c_arena_New (fresh0 0 wa) fun ρ1 w1 A hR1 hE1 hA1 => ?_
  refine Vl.i (w' := w1) (v := .bool false) (by kernel_rfl) (Cond_bool (fun h => by cases h) fun _ => ?_)
  refine c_stack_New (ρ := ρ1) (j := 0) fun ρ2 w2 S hR2 hE2 hS2 => ?_
  refine c_list_New (ρ := ρ2) (j := 0) fun ρ3 w3 L hR3 hE3 _ hL3 => ?_
  refine Vl.i (w' := w3) (v := .bool false) (by kernel_rfl) (Cond_bool (fun h => by cases h) fun _ => ?_)
  refine Vl.i (w' := w3) (v := .bool false) (by kernel_rfl) (Cond_bool (fun h => by cases h) fun _ => ?_)
  have hR02 := hR1.1.trans hR2.1 hE1.size
  have hR03 := hR02.trans hR3.1 (hE1.then hE2).size
  have h3 : SL wa ρ3 w3 A S L m0 [] [] := ⟨(hE1.then hE2).then hE3, fun q hq => hR03 q hq, (hA1.chg hR2.1 hE2 (fun _ _ => id) (fun _ _ => id)).chg hR3.1 hE3 (fun _ _ => id) (fun _ _ => id), hS2.chg hR3.1 hE3 (fun _ _ => id), hL3⟩
  refine Vl.len ⟨fun gg ds wx => ∃ (i : Nat) (ρ : Roles) (m : AM) (st : List Nat) (ls : List Int) (E : En) (W : List Nat) (txt : ByteArray) (pl : Nat), gg = [.int .i64 (topN st : Nat), .string txt, .int .i64 pl, .int .i64 i] ∧ ds = [] ∧ i ≤ l.length ∧ SL wa ρ wx A S L m st ls ∧ KA i m st ls E W txt pl,
    fun gg _ => (l.length - intAt gg 3).toNat, ⟨0, ρ3, m0, [], [], _, _, _, _, rfl, rfl, Nat.zero_le _, h3, KA.zero⟩, ?_⟩
  rintro gg ds wx ⟨i, ρ, m, st, ls, E, W, txt, pl, hgg, rfl, hi, hsl, hka⟩
  have e8 : gg 8 = .int .i64 (topN st : Nat) := (List.cons.inj hgg).1
  have e9 : gg 9 = .string txt := (List.cons.inj (List.cons.inj hgg).2).1
  have e10 : gg 10 = .int .i64 pl := (List.cons.inj (List.cons.inj (List.cons.inj hgg).2).2).1
  have e39 : gg 39 = .int .i64 i := (List.cons.inj (List.cons.inj (List.cons.inj (List.cons.inj hgg).2).2).2).1
  rw [e8, e9, e10, e39]
  refine Vl.lss (Cond_bool (fun hl => ?_) (fun hl => ?_))
  · have hl : i < l.length := by have := of_decide_eq_true hl; omega
    have hsl := hsl.cut
    have hcut := cut_none ρ wx
    generalize cutR ρ wx = ρ at hsl hcut
    obtain ⟨a1, c1, eq, hel⟩ := h0.ext hsl.ext
    obtain ⟨b, o, ha, hcell, hat, hok⟩ := hel i hl
    obtain rfl : a0 = a1 := by injection eq
    subst ha
    generalize l[i] = x at hcell hat hok
    refine Vl.ix 5 (by omega) (by omega) ?_
    rw [Int.toNat_natCast]
    refine Vl.ldC (openCells x) (fun jj v hj => hcell jj v hj) ?_
    refine Vl.alloc (z := .agg #[.string ⟨#[]⟩, .slice none 0 0, .string ⟨#[]⟩, .bool false, .bool false]) (by intro w; kernel_rfl) fun wb hNb => ?_
    have c12 : Cl wb wx.heap.size T_decanterlaw15_Open [.string ⟨#[]⟩, .slice none 0 0, .string ⟨#[]⟩, .bool false, .bool false] := hNb.new
    obtain ⟨b12, hb12⟩ : ∃ b, b = wx.heap.size := ⟨_, rfl⟩
    rw [← hb12] at c12 ⊢
    obtain ⟨aa, ca, eav, _⟩ := id hat
    refine Ef.setA (n := 5) c12 rfl (by simp [openCells]) (by intro v hv; simp [openCells] at hv; rcases hv with rfl | rfl | rfl | rfl | rfl <;> first | trivial | (rw [eav]; trivial) | exact hok.2.2.1 | exact hok.2.2.2) fun wc huc => ?_
    have huc : Upd wb wc b12 T_decanterlaw15_Open (openCells x) := huc
    have hEc : Ext wx wc := hNb.ext.newer (S' := (· = b12)) huc.chg (fun y hy e => by omega)
    have hsl := hsl.e hEc
    have hN : Nn ρ wc b12 T_decanterlaw15_Open (openCells x) := ⟨huc.cl, hcut b12 (by omega)⟩
    have hat := hat.ext hEc
    clear hcell hNb huc c12 hel
    refine Vl.fa (Vl.ld hN.cl rfl (Vl.seql (Cond_bool (fun _ => Lv.nil (k wc hsl.ext)) fun hn => ?_)))
    have hn : x.name ≠ ⟨#[]⟩ := of_decide_eq_false hn
    refine Vl.fa (Vl.ld hN.cl rfl ?_)
    rw [eav]
    refine Vl.len (Vl.gtr (Cond_bool (fun _ => Lv.nil (k wc hsl.ext)) fun h6 => ?_))
    have h6 : x.attrs.length ≤ 6 := by have := of_decide_eq_false h6; omega
    rw [eav] at hat
    have hEd := dr_ext wc
    have hsl := hsl.e hEd
    have hN := hN.e hEd
    have hat := hat.ext hEd
    refine ⟨fun y => Cl y b12 T_decanterlaw15_Open (openCells x), hN.cl, Pv.fa (VQ.ld (fun y hy => hy.cell rfl) (Pv.fa (VQ.ld (fun y hy => hy.cell rfl) ?_)))⟩
    rw [eav]
    refine c_AttrOf hat (by omega) fun v57 w4 hr4 hE4 _ => ⟨_, fun _ h => h, hN.cl.ext hE4, ?_⟩
    have hsl := hsl.e hE4
    have hN := hN.e hE4
    have htop := hka.top
    obtain ⟨t1, t2, t3, e1, e2, e3, _⟩ := enterA_ok hka.ok htop x.name (a := x.attrs) (by omega) x.text
    refine c_Element hsl.hA hr4 (by omega) (Nat.le_trans hka.ok.many (by omega)) (Nat.le_trans hka.ok.elm (by omega)) fun ρ5 w5 hR5 hC5 hA5 => ?_
    have hN5 : Nn ρ5 w5 b12 _ _ := hN.go hR5.1 hC5 fun b ⟨r, e, _⟩ => ⟨_, e⟩
    have h5 : SL wa ρ5 w5 A S L (addEl m (elA x.name x.attrs)) st ls := hsl.a hR5.1 hC5 hA5
    refine ⟨_, fun _ h => h, hN5.cl, ?_⟩
    refine c_Append (p := topN st) (i := m.elems.length) h5.hA t1.aok (by omega) (by omega) (by omega) fun ρ6 w6 hR6 hC6 hA6 => ?_
    have hC6 := Chg.ar hC6
    have hN6 : Nn ρ6 w6 b12 _ _ := hN5.go hR6.1 hC6 fun b ⟨r, e, _⟩ => ⟨_, e⟩
    have h6 := h5.a hR6.1 hC6 hA6
    refine Vl.fa (Vl.ld hN6.cl rfl ?_)
    have hz1 := hok.1
    have hz2 := hok.2.1
    have htx := elA_tx hka.tx x.name x.attrs (topN st)
    refine c_Text (p := m.elems.length) (s := x.text) h6.hA t2.aok (by omega) (by omega) (fun q n hq => by have := htx q n hq; omega) fun ρ7 w7 hR7 hC7 hA7 => ?_
    have hN7 : Nn ρ7 w7 b12 _ _ := hN6.go hR7.1 hC7 fun b ⟨r, e, _⟩ => ⟨_, e⟩
    have h7 : SL wa ρ7 w7 A S L (enterA m (topN st) x.name x.attrs x.text) st ls := h6.a hR7.1 hC7 hA7
    have hts := hka.ts
    refine Vl.fa (Vl.ld hN7.cl rfl (Vl.addS (by omega) ?_))
    refine c_Push (i := m.elems.length) h7.hS (by rw [hka.sl]; omega) fun ρ8 w8 hR8 hC8 hS8 => ?_
    have hN8 : Nn ρ8 w8 b12 _ _ := hN7.go hR8.1 hC8 fun b e => by rcases e with e | e <;> exact ⟨_, e⟩
    have h8 := h7.s hR8.1 hC8 hS8
    obtain ⟨E', W', ka, kb⟩ := hka.enter hn (a := x.attrs) (by omega) hz1 hz2
    have hps := hka.ps
    refine Vl.fa (Vl.ld hN8.cl rfl (c_ref_Is (by decide) (by omega) fun w9 hE9 => Cond_bool (fun hf => ?_) fun hf => ?_))
    · have h9 := h8.e hE9
      have kb := kb hf
      rw [if_pos hf] at kb
      refine c_LPush (i := m.elems.length) h9.hA t3.aok h9.hL (ka.ki.kb.ls.live t3.aok) (by have := hka.ll; omega) (.of_lt t3.aok (by omega)) fun ρ10 w10 hR10 hC10 hL10 => ?_
      refine Vl.add ⟨⟨i + 1, ρ10, _, _, _, E', W', _, _, ?_, rfl, by omega, h9.l hR10.1 hC10 hL10, kb⟩, ?_⟩
      · rw [topN_snoc]; rfl
      · show ((l.length : Int) - ((i : Int) + 1)).toNat < ((l.length : Int) - (i : Int)).toNat; omega
    · rw [if_neg (by rw [hf]; decide)] at ka
      refine Vl.add (Vl.add ⟨⟨i + 1, ρ8, _, _, _, E', W', _, _, ?_, rfl, by omega, h8.e hE9, ka⟩, ?_⟩)
      · rw [topN_snoc]; rfl
      · show ((l.length : Int) - ((i : Int) + 1)).toNat < ((l.length : Int) - (i : Int)).toNat; omega
  · have hge : i = l.length := by have := of_decide_eq_false hl; omega
    have hi30 : i ≤ 30 := by omega
    have gok := hka.gok
    refine hsl.again hGa gok (by omega) (by omega) fun ρ4 w4 h4 => ?_
    obtain ⟨E', kt, kc, kn⟩ := hka.ki.again name
    simp only at kc kn
    have gm := gok.again_m name
    generalize (againG ⟨m, st, ls, 0⟩ name).1.ls = ls4 at h4
    generalize (againG ⟨m, st, ls, 0⟩ name).1.st = st4 at h4
    generalize (againG ⟨m, st, ls, 0⟩ name).1.m = m4 at h4 kt kc kn gm
    have hw := hka.ki.kb.w
    have hlt : ∀ q ∈ W, q < m.nodes.length := fun q hq => by
      rw [← hw] at hq
      exact hka.ki.kb.lt (List.mem_filter.1 hq).1
    obtain ⟨W', hW⟩ := hka.w0
    have e0 := kt.pl.e0
    have hrk := rk_le E' 0
    refine c_Nodes (i := 0) (d := E'.length + 1) h4.hA gm.aok (by omega) kt.ranked kt.pl.pos (by rw [e0]; omega) fun v5 w5 hv5 hE5 => ?_
    rw [e0] at hv5
    have tb := export_TB gm (by omega) (E'.length + 1) 0
    refine c_To12 _ hv5 tb fun v6 w6 hv6 hE6 => ?_
    have hnm : ∀ q, (nodeAt m4 q).name.size ≤ 4611686018427387000 := fun q => by
      by_cases hq : q < m4.nodes.length
      · have hq' := kt.all q hq
        by_cases hp : plainN m4 q = true
        · have hqW : q ∈ W := by rw [← kt.w]; exact List.mem_filter.2 ⟨hq', hp⟩
          rw [(kn.nt q (hlt q hqW)).1]
          have := hka.nm q hqW
          omega
        · have : inK 3 (nodeAt m4 q).name = true := by unfold plainN at hp; simpa using hp
          have := inK3_small this
          omega
      · have : nodeAt m4 q = rootN := by unfold nodeAt; rw [List.getD_eq_getElem?_getD, List.getElem?_eq_none (by omega)]; rfl
        rw [this]; exact Nat.zero_le _
    have hrt : (nodeAt m4 0).name = ⟨#[]⟩ := by rw [(kn.nt 0 (hlt 0 (by rw [hW]; simp))).1]; exact hka.rt
    have hrd := (kt.read hrt).1
    rw [foldW_nt kn (fun q hq => hlt q (List.mem_of_mem_tail hq)), hka.fw] at hrd
    have hts := hka.ts
    have hps := hka.ps
    refine c_read _ hv6 tb (export_NmB hnm _ _) (by rw [hrd]; show txt.size ≤ _; omega) (by rw [hrd]; show pl ≤ _; omega) fun w7 hE7 => ?_
    rw [hrd]
    refine Vl.extr (v := .string txt) (Vl.extr (v := .int .i64 pl) (Vl.seql (Cond_bool (fun _ => ?_) fun h => by simp at h)))
    refine Vl.eql (Cond_bool (fun _ => ?_) fun h => by simp at h)
    have h7 := h4.e ((hE5.then hE6).then hE7)
    refine c_Copies h7.hA (Vl.leq (Lv.nil ?_))
    have hcp := hka.cp
    rw [decide_eq_true (by omega)]
    exact k w7 h7.ext
end Go.Proofs
