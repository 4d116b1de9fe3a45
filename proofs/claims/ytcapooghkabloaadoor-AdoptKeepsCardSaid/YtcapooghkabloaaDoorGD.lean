/- Part of the proof of a law of this seat: facts that it uses, each proved here. No conditions. -/
import Derived.Laws.CopyRow
import Derived.Lib.AppendZerosOnto
import Derived.Lib.Overlaps
import Derived.Test.YtcapooghkabloaaDoorGMem
import Derived.Test.YtcapooghkabloaaDoorGL
namespace Go.Eng
open Go
section
variable {P : Program} {w : World} {K : Value → World → Prop} {T : Nat}
/-- append where there is room -/
theorem Vl.appendFit {E sz ty g n m cap c : Nat} {full news : List Value} {a : Addr} (hT : slB P T E sz = true) (hcl : Cl w g E full) (hfl : full.length = cap * sz) (hroom : n + m ≤ cap) (hl : news.length = m * sz)
    (hnews : ∀ j u, news[j]? = some u → w.cell? (a.add j) = some u) (h1 : ∀ u ∈ news, u.oneCell' = true)
    (k : ∀ w', Upd w w' g E (full.take (n * sz) ++ news ++ full.drop (n * sz + news.length)) → K (.slice (some ⟨g, 0, none⟩) (n + m) cap) w') :
    Vl P (Builtin.append_ #[T, T] ty #[.slice (some ⟨g, 0, none⟩) n cap, .slice (some a) m c]) w K := by
  obtain ⟨by_, i, z, hs, _⟩ := SlT.of hT
  have hi := hs.size
  have hle : n * sz + news.length ≤ full.toArray.size := by
    rw [hl, ← Nat.add_mul]; simp only [List.size_toArray, hfl]; exact Nat.mul_le_mul_right _ hroom
  have hr := run_append_room (P := P) w T ty E i hs.under hs.info g n cap full.toArray hcl a m c news (by rw [hi]; exact hl) hnews h1 hroom (by rw [hi]; exact hle)
  rw [hi] at hr
  refine Vl.i hr (k _ ⟨rfl, rfl, rfl, by simp, ?_, fun x hx => setRow_other w g x _ fun e => hx e⟩)
  exact setRow_heap w g full.toArray (full.take (n * sz) ++ news ++ full.drop (n * sz + news.length)).toArray E (0, 0) hcl
end
end Go.Eng
namespace Go.Proofs
open Go Go.Eng
theorem zeroCells1 : (Builtin.zeroCells (Value.int .i64 0).cells 1).toList = [.int .i64 0] := by kernel_rfl
theorem run_clear1 {w : World} {g o c : Nat} {full : List Value} (hcl : Cl w g T_int full) (hle : o + 1 ≤ full.length) :
    ∃ w', (Builtin.clear_ #[T_sl_int] 0 #[.slice (some ⟨g, o, none⟩) 1 c]).run Tryd.prog w = .ok (.tuple #[]) w' ∧ Upd w w' g T_int (full.take o ++ [.int .i64 0] ++ full.drop (o + 1)) := by
  obtain ⟨w', hr, hu⟩ := run_storeCells (P := Tryd.prog) (o := o) [.int .i64 0] 0 w full hcl (by simpa using hle) (by intro v hv; simp at hv; subst hv; trivial)
  refine ⟨w', ?_, by simpa using hu⟩
  have hz : ∀ w, (zeroValue T_int).run Tryd.prog w = .ok (.int .i64 0) w := by intro w; kernel_rfl
  have hun : ∀ w, (underlying T_sl_int).run Tryd.prog w = .ok (.slice T_int) w := by intro w; kernel_rfl
  unfold Builtin.clear_
  simp only [List.getElem?_toArray, List.getElem?_cons_zero, Sem.run_bind, hun, Result.andThen, hz, zeroCells1, hr, Sem.run_pure]
end Go.Proofs
namespace Go.Eng
open Go
theorem run_slc3 {P : Program} {T E sz n c : Nat} {a : Option Addr} {l h m : Nat} (hT : slB P T E sz = true) (h1 : l ≤ h) (h2 : h ≤ m) (h3 : m ≤ c) (w : World) :
    (Instr.sliceAt T (.slice a n c) (some (.int .i64 l)) (some (.int .i64 h)) (some (.int .i64 m))).run P w = .ok (.slice (if m = l then a else a.map (·.add (l * sz))) (h - l) (m - l)) w := by
  obtain ⟨by_, i, z, hs, _⟩ := SlT.of hT
  have hu := run_underlying' hs.under
  have hsz : ∀ w, (sizeOf E).run P w = .ok sz w := run_sizeOf (by unfold szT; rw [hs.info]; show Nat.beq i.size sz = true; rw [hs.size]; exact Nat.beq_refl sz)
  have b1 : ∀ (x y : Nat) (c : BoundsCode), x ≤ y → ∀ w, (Instr.sliceBound (.int .i64 x) y c).run P w = .ok x w := fun x y c hxy w => by
    unfold Instr.sliceBound asIntOf
    simp only [Sem.run_bind, Sem.run_pure, Result.andThen]
    rw [if_pos ⟨by omega, by omega⟩]; rfl
  unfold Instr.sliceAt
  rw [Sem.run_bind, hu]
  simp only [Result.andThen]
  unfold Instr.slice
  rw [Sem.run_bind, hu]
  simp only [Result.andThen, Instr.sliceBounds]
  simp [Sem.run_bind, Result.andThen, b1, h1, h2, h3, hsz]
end Go.Eng
namespace Go.Proofs
open Go Go.Eng

theorem slB31 : slB Tryd.prog T_sl_int T_int 1 = true := by kernel_rfl
theorem c_Delete1 {w : World} {g cap n : Nat} {cs : List Value} (h : Row w T_int 1 (.slice (some ⟨g, 0, none⟩) n cap) n cs) (h1 : ∀ u ∈ cs, u.oneCell' = true) {i : Nat} (hi : i < n) (hb : n ≤ 1000000) {K : Value → World → Prop}
    (k : ∀ w', Row w' T_int 1 (.slice (some ⟨g, 0, none⟩) (n - 1) cap) (n - 1) (cs.eraseIdx i) → Chg (· = g) w w' → K (.slice (some ⟨g, 0, none⟩) (n - 1) cap) w') :
    Cf Tryd.prog n_slices_Delete_ints #[.slice (some ⟨g, 0, none⟩) n cap, .int .i64 i, .int .i64 ((i : Int) + 1)] w K := by
  refine L_slices_Delete_ints _ _ _ _ _ ?_
  unfold S_slices_Delete_ints
  have hcs : cs.length = n := by have := h.1; omega
  rcases h.2 with ⟨a, e, h0⟩ | ⟨g', cap', full, e, hcl, hnc, hc0, hcm, hfl, hft⟩
  · omega
  cases e
  have ei : (i : Int) + 1 = ((i + 1 : Nat) : Int) := by omega
  rw [Nat.mul_one] at hft hfl
  refine Vl.len ?_
  rw [ei]
  refine Vl.i (run_slc3 slB31 (by omega) (by omega) hnc w) (Vl.eql (Cond_bool (fun h => by have := of_decide_eq_true h; omega) fun _ => Vl.len ⟨fun _ => True, trivial, ?_⟩))
  refine Pv.i (v := .slice (some ⟨g, 0, none⟩) i cap) (run_slcTake slB31 (by omega) (fun x hx => by cases hx; exact ⟨_, rfl⟩)) ?_
  refine Pv.i (run_slc (l := i + 1) (h := n) slB31 (.inr rfl) (.inl ⟨rfl, rfl⟩) (by omega) hnc) ?_
  -- the source
  have hsrc : ∃ a' : Addr, (if cap = i + 1 then (some (⟨g, 0, none⟩ : Addr)) else (some (⟨g, 0, none⟩ : Addr)).map (·.add ((i + 1) * 1))) = some a' ∧ ∀ j u, (cs.drop (i + 1))[j]? = some u → (dr w).cell? (a'.add j) = some u := by
    by_cases hc : cap = i + 1
    · refine ⟨_, if_pos hc, fun j u hu => ?_⟩
      have : cs.drop (i + 1) = [] := List.drop_eq_nil_of_le (by omega)
      rw [this] at hu; cases hu
    · refine ⟨⟨g, i + 1, none⟩, ?_, fun j u hu => ?_⟩
      · rw [if_neg hc]
        show some ((⟨g, 0, none⟩ : Addr).add ((i + 1) * 1)) = _
        rw [add_off]; congr 2; omega
      · rw [add_off]
        rw [List.getElem?_drop] at hu
        exact (h.ext (dr_ext w)).cell hu
  obtain ⟨a', ea, hcell⟩ := hsrc
  rw [ea]
  have hdl : (cs.drop (i + 1)).length = n - (i + 1) := by rw [List.length_drop, hcs]
  refine Vl.appendFit (E := T_int) (sz := 1) (news := cs.drop (i + 1)) slB31 hcl.dr (by omega) (by omega) (by omega) hcell (fun u hu => h1 u (List.mem_of_mem_drop hu)) fun w2 h2 => ⟨fun _ => True, trivial, ?_⟩
  have en : i + (n - (i + 1)) = n - 1 := by omega
  rw [en]
  rw [hdl] at h2
  have en' : i * 1 + (n - (i + 1)) = n - 1 := by omega
  rw [en', Nat.mul_one] at h2
  have ef1 : (full.take i ++ cs.drop (i + 1) ++ full.drop (n - 1)).length = cap := by simp [hcs]; omega
  refine Vl.len (Vl.slc (E := T_int) (sz := 1) (n - 1) n (.inr rfl) (.inr rfl) (by omega) hnc ?_)
  rw [if_neg (by omega)]
  have e1 : n - (n - 1) = 1 := by omega
  have e2 : (some (⟨g, 0, none⟩ : Addr)).map (·.add ((n - 1) * 1)) = some ⟨g, n - 1, none⟩ := by
    show some ((⟨g, 0, none⟩ : Addr).add ((n - 1) * 1)) = _
    rw [add_off]; congr 2; omega
  rw [e1, e2]
  obtain ⟨w3, hr3, h3⟩ := run_clear1 (c := cap - (n - 1)) h2.cl (o := n - 1) (by omega)
  refine Vl.i hr3 (k w3 ⟨?_, .inr ⟨g, cap, _, rfl, h3.cl, by omega, hc0, hcm, ?_, ?_⟩⟩ ?_)
  · rw [List.length_eraseIdx]; simp [hcs, hi]
  · simp [hcs]; omega
  · have el2 : (full.take i ++ cs.drop (i + 1)).length = n - 1 := by simp [hcs]; omega
    rw [Nat.mul_one, List.append_assoc, List.take_append_of_le_length (by rw [List.length_take, ef1]; omega), List.take_take, Nat.min_self, List.take_append_of_le_length (by rw [el2]; omega), List.take_of_length_le (by rw [el2]; omega), List.eraseIdx_eq_take_drop_succ]
    have ecs : cs.take i = full.take i := by
      exact (congrArg (List.take i) hft.symm).trans ((List.take_take ..).trans (congrArg (fun k => full.take k) (Nat.min_eq_left (Nat.le_of_lt hi))))
    rw [ecs]
  · exact ((dr_ext w).to (S := (· = g))).then h2.chg |>.then h3.chg
end Go.Proofs
namespace Go.Proofs
open Go Go.Eng

theorem idx_lt {α : Type} [DecidableEq α] (a : α) : ∀ (l : List α) (k : Nat), idx a l k < (k + l.length : Nat) ∧ -1 ≤ idx a l k
  | [], k => ⟨by show (-1 : Int) < _; omega, Int.le_refl _⟩
  | x :: l, k => by
    have := idx_lt a l (k + 1)
    unfold idx
    simp only [List.length_cons]
    split <;> constructor <;> omega
/-- What is left when an element is taken out. -/
def remF (i : Nat) (xs : List Nat) : List Nat := if 0 ≤ idx i xs 0 then xs.eraseIdx (idx i xs 0).toNat else xs
theorem c_Remove {ρ : Roles} {j : Nat} {w : World} {S A : Nat} {xs : List Nat} (h : SInv ρ j w S A xs) (hb : xs.length ≤ 1000000) {i : Nat} {K : Value → World → Prop}
    (k : ∀ w', Chg (StB j ρ) w w' → SInv ρ j w' S A (remF i xs) → K (.tuple #[]) w') : Cf Tryd.prog n_stack_Stack_Remove #[.pointer (some ⟨S, 0, none⟩), .int .i64 i] w K := by
  refine L_stack_Stack_Remove _ _ _ _ ?_
  unfold S_stack_Stack_Remove
  have hlt := idx_lt i xs 0
  refine c_Find h hb (Vl.geq (Cond_bool (fun h0 => ?_) (fun h0 => ?_)))
  · have h0 := of_decide_eq_true h0
    have hr : remF i xs = xs.eraseIdx (idx i xs 0).toNat := by unfold remF; rw [if_pos h0]
    rw [hr] at k
    obtain ⟨n, hn⟩ : ∃ n : Nat, idx i xs 0 = n := ⟨(idx i xs 0).toNat, by omega⟩
    rw [hn] at hlt k ⊢
    have e : ((n : Int)).toNat = n := by omega
    rw [e] at k
    obtain ⟨ov, h⟩ := h
    obtain ⟨oa, oc, rfl, hoa⟩ := h.row.val
    obtain ⟨g, rfl⟩ := hoa (by omega)
    refine ⟨trivial, Vl.fa (Vl.ld h.cl rfl (Vl.add ?_))⟩
    have hg : ρ g = some (j, .opn) := by
      refine h.rowRole g ?_
      have : 0 < oc := by have := h.row.le; omega
      exact blk_some this
    have hgS : g ≠ S := fun e => by rw [e, h.role] at hg; cases hg
    refine c_Delete1 h.row (by intro u hu; unfold nats at hu; obtain ⟨x, _, rfl⟩ := List.mem_map.1 hu; rfl) (by omega) hb fun w1 hr1 hC1 => ?_
    have hS1 : Cl w1 S T_stack_Stack [.pointer (some ⟨A, 0, none⟩), .slice (some ⟨g, 0, none⟩) xs.length oc] := h.cl.chg hC1 fun e => hgS e.symm
    refine ⟨trivial, Vl.fa (Ef.set hS1 (by simp) fun w2 h2 => ?_)⟩
    have hlen : (xs.eraseIdx n).length = xs.length - 1 := by rw [List.length_eraseIdx]; rw [if_pos (by omega)]
    refine k w2 ((hC1.trans h2.chg).mono fun x _ e => ?_) ⟨.slice (some ⟨g, 0, none⟩) (xs.length - 1) oc, h2.cl, h.role, ?_, fun b hb => ?_⟩
    · rcases e with e | e
      · have e : x = g := e
        exact .inr (e ▸ hg)
      · have e : x = S := e
        exact .inl (e ▸ h.role)
    · rw [hlen]
      have := hr1.chg h2.chg fun b hb e => by
        have e : b = S := e
        rw [e, blk_take (m := xs.length)] at hb
        have := h.rowRole S hb
        rw [h.role] at this; cases this
      have e2 : nats (xs.eraseIdx n) = (nats xs).eraseIdx n := by unfold nats; simp [List.eraseIdx_eq_take_drop_succ]
      rw [e2]; exact this
    · refine h.rowRole b ?_
      rw [blk_take (m := xs.length - 1)]; exact hb
  · have h0 := of_decide_eq_false h0
    have hr : remF i xs = xs := by unfold remF; rw [if_neg h0]
    rw [hr] at k
    exact k w (Chg.refl _ _) h
end Go.Proofs
namespace Go.Proofs
open Go Go.Eng
theorem run_call_overlaps (a b : Value) (w : World) : (callFunc n_slices_overlaps_int #[a, b]).run Tryd.prog w = ((do pure (.value (← Extern.SlicesOverlaps.overlaps #[T_sl_int, T_sl_int] #[T_bool] #[a, b])) : Sem Next)).run Tryd.prog w := by kernel_rfl
theorem c_overlaps {w : World} {b g o lb ca cb : Nat} {x : Value} {full : List Value} (h1 : Cl w b T_int [x]) (h2 : Cl w g T_int full) (hne : b ≠ g) (hf : full ≠ []) {K : Value → World → Prop} (k : K (.bool false) w) :
    Cf Tryd.prog n_slices_overlaps_int #[.slice (some ⟨b, 0, none⟩) 1 ca, .slice (some ⟨g, o, none⟩) lb cb] w K := by
  refine CallF.value_ (.bool false) w ?_ k
  rw [run_call_overlaps, Sem.run_bind]
  have hz : ∀ w, (Go.sizeOf T_int).run Tryd.prog w = .ok 1 w := by intro w; kernel_rfl
  rw [Go.Lib.run_overlaps_apart w T_sl_int T_bool T_int (by kernel_rfl) 1 hz ⟨b, 0, none⟩ ⟨g, o, none⟩ 1 ca lb cb hne T_int T_int 1 full.length
    (by unfold World.shape?; unfold Cl at h1; rw [h1]; rfl) (by unfold World.shape?; unfold Cl at h2; rw [h2]; simp) (by intro e; exact hf (List.eq_nil_of_length_eq_zero e)) (h1.frozen 0) (h1.frozen 1)]
  rfl
end Go.Proofs
namespace Go.Eng
open Go
theorem Vl.copy {P : Program} {w : World} {K : Value → World → Prop} {T T' ty E g o dLen dCap sLen sCap : Nat} {a : Addr} {full cs : List Value} (hcl : Cl w g E full) (hn : cs.length = Nat.min sLen dLen) (hsrc : ∀ j v, cs[j]? = some v → w.cell? (a.add j) = some v)
    (hfit : o + cs.length ≤ full.length) (h1 : ∀ v ∈ cs, v.oneCell' = true) (k : ∀ w', Upd w w' g E (full.take o ++ cs ++ full.drop (o + cs.length)) → K (.int .i64 cs.length) w') (hu : P.underlying T = some (.slice E) := by kernel_rfl) (hs : (P.info? E).map (·.size) = some 1 := by kernel_rfl) :
    Vl P (Builtin.copy_ #[T, T'] ty #[.slice (some ⟨g, o, none⟩) dLen dCap, .slice (some a) sLen sCap]) w K := by
  have hr := run_copy_row (P := P) w T T' ty E g o dLen dCap a sLen sCap full.toArray E cs hu hs hcl hn hsrc (by simpa using hfit) h1
  refine Vl.i hr (k _ ⟨rfl, rfl, rfl, by simp, ?_, fun x hx => setRow_other w g x _ fun e => hx e⟩)
  have := setRow_heap w g full.toArray (full.take o ++ cs ++ full.drop (o + cs.length)).toArray E (0, 0) hcl
  exact this
theorem run_cap {P : Program} {T t n c : Nat} {a : Option Addr} (hT : slT P T = true) (w : World) : (Builtin.cap_ #[T] t #[.slice a n c]).run P w = .ok (.int .i64 c) w := by
  unfold slT at hT
  split at hT
  · rename_i E hu
    have hu := run_underlying' hu
    unfold Builtin.cap_
    simp only [List.getElem?_toArray, List.getElem?_cons_zero, Sem.run_bind, hu, Result.andThen]
    rfl
  · cases hT
theorem Vl.cap {P : Program} {w : World} {K : Value → World → Prop} {T t n c : Nat} {a : Option Addr} (k : K (.int .i64 c) w) (hT : slT P T = true := by kernel_rfl) : Vl P (Builtin.cap_ #[T] t #[.slice a n c]) w K := Vl.i (run_cap hT w) k
end Go.Eng
namespace Go.Proofs
open Go Go.Eng

theorem insert_pure {α : Type} (full cs : List α) (x : α) (i n : Nat) (hcs : full.take n = cs) (hi : i < n) (hn : n + 1 ≤ full.length) :
    let mid := (full.drop i).take (n - i)
    let f1 := full.take (i + 1) ++ mid ++ full.drop (i + 1 + mid.length)
    let f2 := f1.take i ++ [x] ++ f1.drop (i + [x].length)
    f2.length = full.length ∧ f2.take (n + 1) = cs.take i ++ [x] ++ cs.drop i := by
  intro mid f1 f2
  have hm : mid.length = n - i := by simp [mid]; omega
  have hf1 : f1.length = full.length := by simp [f1, hm]; omega
  have e1 : f1.take i = full.take i := by
    simp only [f1, List.append_assoc]
    rw [List.take_append_of_le_length (by simp; omega), List.take_take, Nat.min_eq_left (by omega)]
  have e2 : f1.drop (i + 1) = mid ++ full.drop (i + 1 + mid.length) := by
    simp only [f1, List.append_assoc]
    have : (full.take (i + 1)).length = i + 1 := by simp; omega
    exact List.drop_left' this
  have hf2 : f2 = full.take i ++ [x] ++ (mid ++ full.drop (i + 1 + mid.length)) := by
    show f1.take i ++ [x] ++ f1.drop (i + 1) = _
    rw [e1, e2]
  have hti : (full.take i).length = i := by simp; omega
  refine ⟨by rw [hf2]; simp [hm]; omega, ?_⟩
  have ec : cs.take i = full.take i := by rw [← hcs, List.take_take, Nat.min_eq_left (by omega)]
  have ed : cs.drop i = mid := by rw [← hcs, List.drop_take]
  rw [hf2, ec, ed]
  have hl : (full.take i ++ [x] ++ mid).length = n + 1 := by simp [hm]; omega
  rw [← List.append_assoc]
  exact List.take_left' hl
end Go.Proofs
namespace Go.Proofs
open Go Go.Eng

theorem c_Insert_room {w : World} {g b cap n : Nat} {cs : List Value} {x : Value} (h : Row w T_int 1 (.slice (some ⟨g, 0, none⟩) n cap) n cs) (h1 : ∀ u ∈ cs, u.oneCell' = true) (hx : Cl w b T_int [x]) (hx1 : x.oneCell' = true) (hbg : b ≠ g) {i : Nat} (hi : i < n) (hroom : n + 1 ≤ cap) (hb : n ≤ 1000000) {K : Value → World → Prop}
    (k : ∀ w', Row w' T_int 1 (.slice (some ⟨g, 0, none⟩) (n + 1) cap) (n + 1) (cs.take i ++ [x] ++ cs.drop i) → Chg (· = g) w w' → K (.slice (some ⟨g, 0, none⟩) (n + 1) cap) w') :
    Cf Tryd.prog n_slices_Insert_ints #[.slice (some ⟨g, 0, none⟩) n cap, .int .i64 i, .slice (some ⟨b, 0, none⟩) 1 1] w K := by
  refine L_slices_Insert_ints _ _ _ _ _ ?_
  unfold S_slices_Insert_ints
  have hcs : cs.length = n := by have := h.1; omega
  rcases h.2 with ⟨a, e, h0⟩ | ⟨g', cap', full, e, hcl, hnc, hc0, hcm, hfl, hft⟩
  · omega
  cases e
  rw [Nat.mul_one] at hft hfl
  refine Vl.i (run_slc (l := i) (h := n) slB31 (.inr rfl) (.inl ⟨rfl, rfl⟩) (by omega) hnc w) ?_
  refine Vl.len (Vl.eql (Cond_bool (fun h => by have := of_decide_eq_true h; omega) fun _ => ?_))
  refine Vl.len (Vl.eql (Cond_bool (fun h => by have := of_decide_eq_true h; omega) fun _ => ?_))
  have en1 : (n : Int) + ((1 : Nat) : Int) = ((n + 1 : Nat) : Int) := by omega
  have ei1 : (i : Int) + ((1 : Nat) : Int) = ((i + 1 : Nat) : Int) := by omega
  refine Vl.add (Vl.cap (Vl.gtr (Cond_bool (fun h => by have := of_decide_eq_true h; omega) fun _ => ?_)))
  refine Vl.add ?_
  rw [en1]
  refine Vl.i (run_slcTake slB31 hroom (fun x hx => by cases hx; exact ⟨_, rfl⟩) w) ?_
  refine Vl.add ?_
  rw [ei1]
  have sl : ∀ l : Nat, 0 < cap - l → l ≤ n + 1 → ∀ w, (Instr.sliceAt T_sl_int (.slice (some ⟨g, 0, none⟩) (n + 1) cap) (some (.int .i64 (l : Nat))) none none).run Tryd.prog w = .ok (.slice (some ⟨g, l, none⟩) (n + 1 - l) (cap - l)) w := fun l hl hl2 w => by
    rw [run_slc (l := l) (h := n + 1) slB31 (.inr rfl) (.inl ⟨rfl, rfl⟩) hl2 hroom w, if_neg (by omega)]
    have : (some (⟨g, 0, none⟩ : Addr)).map (·.add (l * 1)) = some ⟨g, l, none⟩ := by
      show some ((⟨g, 0, none⟩ : Addr).add (l * 1)) = _
      rw [add_off]; congr 2; omega
    rw [this]
  have sl0 : ∀ l : Nat, 0 < cap - l → l ≤ n → ∀ w, (Instr.sliceAt T_sl_int (.slice (some ⟨g, 0, none⟩) n cap) (some (.int .i64 (l : Nat))) none none).run Tryd.prog w = .ok (.slice (some ⟨g, l, none⟩) (n - l) (cap - l)) w := fun l hl hl2 w => by
    rw [run_slc (l := l) (h := n) slB31 (.inr rfl) (.inl ⟨rfl, rfl⟩) hl2 hnc w, if_neg (by omega)]
    have : (some (⟨g, 0, none⟩ : Addr)).map (·.add (l * 1)) = some ⟨g, l, none⟩ := by
      show some ((⟨g, 0, none⟩ : Addr).add (l * 1)) = _
      rw [add_off]; congr 2; omega
    rw [this]
  refine Vl.i (sl (i + 1) (by omega) (by omega) w) ?_
  have hfne : full ≠ [] := by intro e; rw [e] at hfl; simp at hfl; omega
  refine c_overlaps hx hcl hbg hfne (Vl.not (Cond_bool (fun _ => ?_) fun h => by cases h))
  refine ⟨fun _ => True, trivial, Pv.add ?_⟩
  rw [ei1]
  refine Pv.i (sl (i + 1) (by omega) (by omega)) (Pv.i (sl i (by omega) (by omega)) ?_)
  have hmid : ((full.drop i).take (n - i)).length = n - i := by simp; omega
  have hp := insert_pure full cs x i n hft hi (by omega)
  have hall : ∀ u ∈ (full.drop i).take (n - i), u.oneCell' = true := fun u hu => by
    refine h1 u ?_
    have : (full.drop i).take (n - i) = cs.drop i := by rw [← hft, List.drop_take]
    rw [this] at hu
    exact List.mem_of_mem_drop hu
  refine Vl.copy (cs := (full.drop i).take (n - i)) hcl.dr (by rw [hmid]; have e : Nat.min (n + 1 - i) (n + 1 - (i + 1)) = n + 1 - (i + 1) := Nat.min_eq_right (by omega); rw [e]; omega) (fun j v hv => ?_) (by rw [hmid]; omega) hall fun w2 h2 => ⟨fun _ => True, trivial, ?_⟩
  · rw [add_off]
    refine hcl.dr.cell ?_
    rw [List.getElem?_take] at hv
    split at hv
    · rw [List.getElem?_drop] at hv; exact hv
    · cases hv
  refine Vl.i (sl i (by omega) (by omega) w2) ?_
  have hx2 : Cl w2 b T_int [x] := (hx.ext (dr_ext w)).chg h2.chg hbg
  refine Vl.copy (cs := [x]) h2.cl (Nat.min_eq_left (show 1 ≤ n + 1 - i by omega)).symm (fun j v hv => ?_) ?_ (fun u hu => by simp at hu; subst hu; exact hx1) fun w3 h3 => ?_
  · rw [add_off, Nat.zero_add]; exact hx2.cell hv
  · simp [hmid]; omega
  · refine k w3 ⟨?_, .inr ⟨g, cap, _, rfl, h3.cl, hroom, hc0, hcm, ?_, ?_⟩⟩ ?_
    · simp [hcs]; omega
    · rw [Nat.mul_one, ← hfl]; exact hp.1
    · rw [Nat.mul_one]; exact hp.2
    · exact ((dr_ext w).to (S := (· = g))).then h2.chg |>.then h3.chg
end Go.Proofs
namespace Go.Eng
open Go
/-- append of k zero values onto a row that has no room. -/
theorem Vl.appZeros {P : Program} {w : World} {K : Value → World → Prop} {T E sz ty tn g cap n k : Nat} {cs : List Value} (hT : slB P T E sz = true) (htn : P.underlying tn = some (.int .i64)) (h : Row w E sz (.slice (some ⟨g, 0, none⟩) n cap) n cs) (hk : 0 < k) (hc : cap < n + k) (hb : n + k ≤ 100000000)
    (kk : ∀ w' full cap', Nw w w' (.cells (cs ++ full).toArray E) → n + k ≤ cap' → cap' ≤ maxLen → (cs ++ full).length = cap' * sz → K (.slice (some ⟨w.heap.size, 0, none⟩) (n + k) cap') w') :
    Vl P (Builtin.append_ #[T, tn] ty #[.slice (some ⟨g, 0, none⟩) n cap, .int .i64 (k : Nat)]) w K := by
  obtain ⟨by_, i, z, hs, hb1, hb2⟩ := SlT.of hT
  have hi := hs.size
  have hmul : (n + k) * by_ ≤ 140737488355328 := by
    calc (n + k) * by_ ≤ 100000000 * 1000 := Nat.mul_le_mul hb hb1
      _ ≤ 140737488355328 := by omega
  have hmul2 : k * by_ ≤ (n + k) * by_ := Nat.mul_le_mul_right _ (by omega)
  have hmax : n + k ≤ maxLen := by simp only [maxLen]; omega
  have hfit : Builtin.nextslicecap (n + k) cap * i.bytes ≤ 281474976710656 := by
    rw [hs.bytes]
    have hle : Builtin.nextslicecap (n + k) cap ≤ 2 * (n + k) := nextslicecap_le hc
    calc Builtin.nextslicecap (n + k) cap * by_ ≤ 2 * (n + k) * by_ := Nat.mul_le_mul_right _ hle
      _ = 2 * ((n + k) * by_) := by rw [Nat.mul_assoc]
      _ ≤ 281474976710656 := by omega
  have hold : (Builtin.firstCells i.size n (.slice (some ⟨g, 0, none⟩) n cap)).run P w.drew = .ok cs.toArray w.drew := by
    rw [hi]
    exact run_firstCells_some (w := w.drew) sz n ⟨g, 0, none⟩ n cap cs h.1 (fun j v hj => by
      rw [add_off, Nat.zero_add]; exact (h.ext (dr_ext w)).cell hj)
  have hr := Lib.run_append_grow_zeros w T tn ty E i z .i64 .i64 hs.under htn hs.info hs.zero (some ⟨g, 0, none⟩) n cap cs hold k hk (by rw [hi]; exact hs.pos) hc (by simp only [maxLen] at hmax; omega) (by rw [hs.bytes]; omega) hfit
  have hge := grownCap_ge w (n + k) cap E
  have hcm := grownCap_le_maxLen w (n + k) cap E hmax
  refine Vl.i hr ?_
  have hz : ∀ m, (Builtin.zeroCells z.cells m).toList.length = m * sz := fun m => by rw [Array.length_toList, size_zeroCells, hs.zsz]
  refine kk _ ((Builtin.zeroCells z.cells k).toList ++ (Builtin.zeroCells z.cells (grownCap w (n + k) cap E - (n + k))).toList) _ ?_ hge hcm ?_
  · have e : (cs ++ ((Builtin.zeroCells z.cells k).toList ++ (Builtin.zeroCells z.cells (grownCap w (n + k) cap E - (n + k))).toList)).toArray = cs.toArray ++ Builtin.zeroCells z.cells k ++ Builtin.zeroCells z.cells (grownCap w (n + k) cap E - (n + k)) := by
      apply Array.ext'; simp
    rw [e]
    have hn := nw_alloc (dr w) (.cells (cs.toArray ++ Builtin.zeroCells z.cells k ++ Builtin.zeroCells z.cells (grownCap w (n + k) cap E - (n + k))) E)
    exact ⟨hn.os, hn.tape, hn.output, hn.size, hn.new, hn.same⟩
  · rw [List.length_append, List.length_append, hz, hz, h.1, ← Nat.add_mul, ← Nat.add_mul]
    congr 1; omega
end Go.Eng
namespace Go.Proofs
open Go Go.Eng
theorem c_Insert_grow {w : World} {g b cap n : Nat} {cs : List Value} {x : Value} (h : Row w T_int 1 (.slice (some ⟨g, 0, none⟩) n cap) n cs) (h1 : ∀ u ∈ cs, u.oneCell' = true) (hx : Cl w b T_int [x]) (hx1 : x.oneCell' = true) {i : Nat} (hi : i < n) (hroom : ¬ n + 1 ≤ cap) (hb : n ≤ 1000000) {K : Value → World → Prop}
    (k : ∀ cap' w', Row w' T_int 1 (.slice (some ⟨w.heap.size, 0, none⟩) (n + 1) cap') (n + 1) (cs.take i ++ [x] ++ cs.drop i) → 0 < cap' → Ext w w' → w.heap.size < w'.heap.size → K (.slice (some ⟨w.heap.size, 0, none⟩) (n + 1) cap') w') :
    Cf Tryd.prog n_slices_Insert_ints #[.slice (some ⟨g, 0, none⟩) n cap, .int .i64 i, .slice (some ⟨b, 0, none⟩) 1 1] w K := by
  refine L_slices_Insert_ints _ _ _ _ _ ?_
  unfold S_slices_Insert_ints
  have hcs : cs.length = n := by have := h.1; omega
  have hnc : n ≤ cap := h.le
  have hgb : b < w.heap.size := hx.lt
  refine Vl.i (run_slc (l := i) (h := n) slB31 (.inr rfl) (.inl ⟨rfl, rfl⟩) (by omega) hnc w) ?_
  refine Vl.len (Vl.eql (Cond_bool (fun h => by have := of_decide_eq_true h; omega) fun _ => ?_))
  refine Vl.len (Vl.eql (Cond_bool (fun h => by have := of_decide_eq_true h; omega) fun _ => ?_))
  refine Vl.add (Vl.cap (Vl.gtr (Cond_bool (fun _ => ?_) fun h => by have := of_decide_eq_false h; omega)))
  refine Vl.take h (by omega) (Vl.add (Vl.sub ?_))
  have en1 : (n : Int) + ((1 : Nat) : Int) - (i : Int) = ((n + 1 - i : Nat) : Int) := by omega
  rw [en1]
  have ht := h.take (show i ≤ n by omega) rfl
  rw [Nat.mul_one] at ht
  refine Vl.appZeros slB31 (by kernel_rfl) ht (by omega) (by omega) (by omega) fun w1 full cap' hN hc hcm hfl => ?_
  have e2 : i + (n + 1 - i) = n + 1 := by omega
  rw [e2] at hc ⊢
  rw [Nat.mul_one] at hfl
  have hE1 := hN.ext
  have hcl1 := hN.cl
  have hf : (cs.take i).length = i := by simp; omega
  have sl : ∀ l : Nat, l ≤ n + 1 → 0 < cap' - l → ∀ w', (Instr.sliceAt T_sl_int (.slice (some ⟨w.heap.size, 0, none⟩) (n + 1) cap') (some (.int .i64 (l : Nat))) none none).run Tryd.prog w' = .ok (.slice (some ⟨w.heap.size, l, none⟩) (n + 1 - l) (cap' - l)) w' := fun l hl2 hl w' => by
    rw [run_slc (l := l) (h := n + 1) slB31 (.inr rfl) (.inl ⟨rfl, rfl⟩) hl2 hc w', if_neg (by omega)]
    have : (some (⟨w.heap.size, 0, none⟩ : Addr)).map (·.add (l * 1)) = some ⟨w.heap.size, l, none⟩ := by
      show some ((⟨w.heap.size, 0, none⟩ : Addr).add (l * 1)) = _
      rw [add_off]; congr 2; omega
    rw [this]
  have sl0 : ∀ w', (Instr.sliceAt T_sl_int (.slice (some ⟨g, 0, none⟩) n cap) (some (.int .i64 (i : Nat))) none none).run Tryd.prog w' = .ok (.slice (some ⟨g, i, none⟩) (n - i) (cap - i)) w' := fun w' => by
    rw [run_slc (l := i) (h := n) slB31 (.inr rfl) (.inl ⟨rfl, rfl⟩) (by omega) hnc w', if_neg (by omega)]
    have : (some (⟨g, 0, none⟩ : Addr)).map (·.add (i * 1)) = some ⟨g, i, none⟩ := by
      show some ((⟨g, 0, none⟩ : Addr).add (i * 1)) = _
      rw [add_off]; congr 2; omega
    rw [this]
  refine Vl.i (sl i (by omega) (by omega) w1) ?_
  refine Vl.copy (cs := [x]) hcl1 (Nat.min_eq_left (show 1 ≤ n + 1 - i by omega)).symm (fun j v hv => ?_) (by show i + 1 ≤ _; omega) (fun u hu => by simp at hu; subst hu; exact hx1) fun w2 h2 => ?_
  · rw [add_off, Nat.zero_add]; exact (hx.ext hE1).cell hv
  have ei1 : (i : Int) + ((1 : Nat) : Int) = ((i + 1 : Nat) : Int) := by omega
  refine ⟨fun _ => True, trivial, Pv.add ?_⟩
  rw [ei1]
  refine Pv.i (sl (i + 1) (by omega) (by omega)) (Pv.i sl0 ?_)
  have hne : g ≠ w.heap.size := by
    have : g < w.heap.size := h.lt g (blk_some (by omega))
    omega
  have h2' : Row (dr w2) T_int 1 (.slice (some ⟨g, 0, none⟩) n cap) n cs := ((h.ext hE1).chg h2.chg fun b' hb' e => by
    have e : b' = w.heap.size := e
    rw [blk_some (by omega)] at hb'; cases hb'; exact hne e).ext (dr_ext w2)
  have hdl : (cs.drop i).length = n - i := by simp [hcs]
  refine Vl.copy (cs := cs.drop i) h2.cl.dr ?_ (fun j v hv => ?_) ?_ (fun u hu => h1 u (List.mem_of_mem_drop hu)) fun w3 h3 => ⟨fun _ => True, trivial, ?_⟩
  · rw [hdl]
    have e : Nat.min (n - i) (n + 1 - (i + 1)) = n - i := Nat.min_eq_left (by omega)
    exact e.symm
  · rw [add_off]
    rw [List.getElem?_drop] at hv
    exact h2'.cell hv
  · simp [hdl] at hfl ⊢; omega
  · refine k cap' w3 ⟨?_, .inr ⟨w.heap.size, cap', _, rfl, h3.cl, hc, by omega, hcm, ?_, ?_⟩⟩ (by omega) ?_ ?_
    · simp [hcs]; omega
    · rw [Nat.mul_one, ← hfl]; simp [hcs] at hfl ⊢; omega
    · rw [Nat.mul_one]
      have ea : (cs.take i ++ full).take i = cs.take i := List.take_left' hf
      rw [ea]
      have eb : (cs.take i ++ [x] ++ (cs.take i ++ full).drop (i + [x].length)).take (i + 1) = cs.take i ++ [x] := List.take_left' (by simp; omega)
      rw [eb]
      exact List.take_left' (by simp [hcs]; omega)
    · have hd : Ext w (dr w2) := ((hE1.newer (S' := (· = w.heap.size)) h2.chg (fun x hx e => by omega))).then (dr_ext w2)
      exact hd.newer (S' := (· = w.heap.size)) h3.chg (fun x hx e => by omega)
    · have a := hN.size
      have b1 := h2.size
      have c := h3.size
      have : (dr w2).heap.size = w2.heap.size := rfl
      omega
end Go.Proofs
namespace Go.Proofs
open Go Go.Eng
/-- slices.Insert of one value at a place of a row. -/
theorem c_SlIns {w : World} {v : Value} {b n : Nat} {cs : List Value} {x : Value} (h : Row w T_int 1 v n cs) (h1 : ∀ u ∈ cs, u.oneCell' = true) (hx : Cl w b T_int [x]) (hx1 : x.oneCell' = true) (hbg : blk v ≠ some b) {i : Nat} (hi : i ≤ n) (hb : n ≤ 1000000) {K : Value → World → Prop}
    (k : ∀ v' w', Row w' T_int 1 v' (n + 1) (cs.take i ++ [x] ++ cs.drop i) → Chg (fun k => blk v = some k) w w' → (∀ k, blk v' = some k → blk v = some k ∨ (w.heap.size ≤ k ∧ k < w'.heap.size)) → K v' w') :
    Cf Tryd.prog n_slices_Insert_ints #[v, .int .i64 i, .slice (some ⟨b, 0, none⟩) 1 1] w K := by
  have hcs : cs.length = n := by have := h.1; omega
  obtain ⟨a, c, rfl, ha⟩ := h.val
  have hnc := h.le
  by_cases hlt : i < n
  · obtain ⟨g, rfl⟩ := ha (by omega)
    have hbv : blk (.slice (some ⟨g, 0, none⟩) n c) = some g := blk_some (by omega)
    rw [hbv] at hbg k
    have hne : b ≠ g := fun e => hbg (by rw [e])
    by_cases hroom : n + 1 ≤ c
    · refine c_Insert_room h h1 hx hx1 hne hlt hroom hb fun w' hr hC => k _ w' hr (hC.mono fun x _ e => ?_) fun x hx => .inl ?_
      · have e : x = g := e
        rw [e]
      · rw [blk_some (by omega)] at hx; exact hx
    · refine c_Insert_grow h h1 hx hx1 hlt hroom hb fun cap' w' hr hc hE hs => k _ w' hr (Ext.to hE) fun x hx => .inr ?_
      rw [blk_some hc] at hx; cases hx
      exact ⟨Nat.le_refl _, hs⟩
  · have e : i = n := by omega
    subst e
    refine L_slices_Insert_ints _ _ _ _ _ ?_
    unfold S_slices_Insert_ints
    refine Vl.i (run_slc (l := i) (h := i) slB31 (.inr rfl) (.inl ⟨rfl, rfl⟩) (Nat.le_refl _) hnc w) ?_
    refine Vl.len (Vl.eql (Cond_bool (fun h => by have := of_decide_eq_true h; omega) fun _ => ?_))
    refine Vl.len (Vl.eql (Cond_bool (fun _ => ?_) fun h => by have := of_decide_eq_false h; omega))
    refine Vl.app (m := 1) h hx rfl (by intro u hu; simp at hu; subst hu; exact hx1) (by omega) fun v' w' hr hc hbk => ?_
    refine k v' w' ?_ hc hbk
    rw [List.take_of_length_le (by omega), List.drop_of_length_le (by omega), List.append_nil]
    exact hr

theorem c_Insert {ρ : Roles} {j : Nat} {w : World} {S A : Nat} {xs : List Nat} (h : SInv ρ j w S A xs) {p i : Nat} (hp : p ≤ xs.length) (hb : xs.length ≤ 1000000) {K : Value → World → Prop}
    (k : ∀ ρ' w', RGrow j ρ ρ' w → Chg (StB j ρ) w w' → SInv ρ' j w' S A (xs.take p ++ [i] ++ xs.drop p) → K (.tuple #[]) w') : Cf Tryd.prog n_stack_Stack_Insert #[.pointer (some ⟨S, 0, none⟩), .int .i64 p, .int .i64 i] w K := by
  obtain ⟨ov, h⟩ := h
  refine L_stack_Stack_Insert _ _ _ _ _ ?_
  unfold S_stack_Stack_Insert
  refine ⟨trivial, Vl.fa (Vl.ld h.cl rfl (Vl.bs1 (E := T_int) (sz := 1) rfl fun w1 h1 => ?_))⟩
  refine c_SlIns (h.row.ext h1.ext) (by intro u hu; unfold nats at hu; obtain ⟨x, _, rfl⟩ := List.mem_map.1 hu; rfl) h1.cl rfl (fun e => by have := h.row.lt _ e; omega) hp hb fun v' w2 hr hc hbk => ?_
  have hne : ∀ b, blk ov = some b → b ≠ S := fun b hb e => by have := h.rowRole b hb; rw [e, h.role] at this; cases this
  have hS := h.cl
  have hSlt := hS.lt
  have hs1 : w1.heap.size = w.heap.size + 1 := h1.size
  have hS2 : Cl w2 S T_stack_Stack [.pointer (some ⟨A, 0, none⟩), ov] := (hS.nw h1).chg hc fun e => hne S e rfl
  refine ⟨trivial, Vl.fa ?_⟩
  have hone : One v' := by obtain ⟨a, c, rfl, _⟩ := hr.val; trivial
  refine Ef.set hS2 (by simp) (fun w3 h3 => ?_) hone
  have hC : Chg (fun b => blk ov = some b ∨ b = S) w w3 := (h1.ext.to.then hc).trans h3.chg |>.mono fun x _ e => e
  refine k (grow ρ w v' (j, .opn)) w3 (grow_grow _ _ _ _ _) (hC.mono fun x _ e => e.elim (fun e => .inr (h.rowRole x e)) fun e => .inl (e ▸ h.role)) ⟨v', h3.cl, (grow_ext _ _ _ _ S hSlt).trans h.role, ?_, fun b hb => grow_role hb fun hlt => ?_⟩
  · have := hr.chg h3.chg fun b hb => fun e => by
      subst e
      rcases hbk b hb with h6 | h6
      · exact hne b h6 rfl
      · omega
    have e1 : (xs.take p ++ [i] ++ xs.drop p).length = xs.length + 1 := by simp; omega
    have e2 : nats (xs.take p ++ [i] ++ xs.drop p) = (nats xs).take p ++ [Value.int .i64 i] ++ (nats xs).drop p := by unfold nats; simp
    rw [e1, e2]; exact this
  · rcases hbk b hb with h6 | h6
    · exact h.rowRole b h6
    · omega
end Go.Proofs
namespace Go.Eng
open Go
theorem bo_rem {P : Program} {w : World} {T} {x y : Operand} {a b : Nat} (hb : 0 < b) : (binop .rem T x y (.int .i64 a) (.int .i64 b)).run P w = .ok (.int .i64 ((a % b : Nat) : Int)) w := by
  have h1 : (binop .rem T x y (.int .i64 a) (.int .i64 b)).run P w = (Op.intDiv .rem .i64 a b).run P w := rfl
  rw [h1]
  unfold Op.intDiv
  have : ¬ ((b : Int) = 0) := by omega
  rw [if_neg this]
  rfl
theorem Vl.rem {P : Program} {w : World} {K : Value → World → Prop} {T} {x y : Operand} {a b : Nat} (hb : 0 < b) (k : K (.int .i64 ((a % b : Nat) : Int)) w) : Vl P (binop .rem T x y (.int .i64 a) (.int .i64 b)) w K := Vl.i (bo_rem hb) k
theorem run_extr {P : Program} {vs : Array Value} {i : Nat} {v : Value} (h : vs[i]? = some v) (w : World) : (Instr.extract (.tuple vs) i).run P w = .ok v w := by
  unfold Instr.extract
  simp [h]
theorem Vl.extr {P : Program} {w : World} {K : Value → World → Prop} {vs : Array Value} {i : Nat} {v : Value} (k : K v w) (h : vs[i]? = some v := by rfl) : Vl P (Instr.extract (.tuple vs) i) w K := Vl.i (run_extr h w) k
end Go.Eng
namespace Go.Proofs
open Go Go.Eng

theorem idx_off {α : Type} [DecidableEq α] (a : α) : ∀ (l : List α) (k d : Nat), idx a l (k + d) = if idx a l k < 0 then -1 else idx a l k + d
  | [], k, d => rfl
  | x :: l, k, d => by
    unfold idx
    by_cases h : a = x
    · rw [if_pos h, if_pos h, if_neg (by omega)]; omega
    · rw [if_neg h, if_neg h]
      have := idx_off a l (k + 1) d
      rw [← this]; congr 1; omega
theorem idx_none {α : Type} [DecidableEq α] {a : α} {l : List α} (h : a ∉ l) (k : Nat) : idx a l k = -1 := by
  have h1 : ¬ (0 : Int) ≤ idx a l k := fun h' => h ((idx_mem a l k).1 h')
  have h2 := idx_lt a l k
  omega
theorem remF_filter (a : Nat) : ∀ l : List Nat, l.Nodup → remF a l = l.filter (fun x => decide (x ≠ a))
  | [], _ => rfl
  | x :: l, h => by
    obtain ⟨h1, h2⟩ := List.nodup_cons.1 h
    have ih := remF_filter a l h2
    unfold remF at ih ⊢
    have ho := idx_off a l 0 1
    have hlt := idx_lt a l 0
    unfold idx
    by_cases hx : a = x
    · subst hx
      rw [if_pos rfl]
      have : (a :: l).filter (fun x => decide (x ≠ a)) = l := by
        rw [List.filter_cons_of_neg (by simp), List.filter_eq_self]
        intro b hb
        have : b ≠ a := fun e => h1 (e ▸ hb)
        simpa using this
      rw [this]; rfl
    · rw [if_neg hx, List.filter_cons_of_pos (by simpa using fun e => hx e.symm), ← ih, ho]
      by_cases h0 : idx a l 0 < 0
      · rw [if_pos h0, if_neg (by omega), if_neg (by omega)]
      · rw [if_neg h0, if_pos (by omega), if_pos (by omega)]
        have : (idx a l 0 + ((1 : Nat) : Int)).toNat = (idx a l 0).toNat + 1 := by omega
        rw [this]; rfl
theorem xsOf_nodup (n : Nat) : (xsOf n).Nodup := by
  unfold xsOf
  unfold List.Nodup
  rw [List.pairwise_map]
  exact List.Pairwise.imp (fun h => by omega) (List.nodup_range (n := n))
theorem xsOf_at {n i : Nat} (h : i < n) : (nats (xsOf n))[i]? = some (.int .i64 ((i : Int) + 1)) := by
  unfold nats xsOf
  simp [h]
theorem mem_xsOf {n x : Nat} : x ∈ xsOf n ↔ 0 < x ∧ x ≤ n := by
  unfold xsOf
  rw [List.mem_map]
  constructor
  · rintro ⟨a, ha, rfl⟩; have := List.mem_range.1 ha; omega
  · rintro ⟨h1, h2⟩; exact ⟨x - 1, List.mem_range.2 (by omega), by omega⟩

/-- What stands when the first i of the rest are left. -/
def turnF (k i : Nat) : List Nat := (k + 1) :: (xsOf i).filter (fun x => decide (x ≠ k + 1))
theorem turnF_succ (k i : Nat) : turnF k (i + 1) = if i = k then turnF k i else turnF k i ++ [i + 1] := by
  unfold turnF
  rw [xsOf_succ, List.filter_append]
  by_cases h : i = k
  · rw [if_pos h, List.filter_cons_of_neg (by simpa using h)]; simp
  · rw [if_neg h, List.filter_cons_of_pos (by simpa using h)]; simp
theorem turnF_len (k i : Nat) : (turnF k i).length = if k < i then i else i + 1 := by
  induction i with
  | zero => rfl
  | succ i ih =>
    rw [turnF_succ]
    by_cases h : i = k
    · rw [if_pos h, ih]; subst h; rw [if_neg (by omega), if_pos (by omega)]
    · rw [if_neg h, List.length_append, ih]
      simp only [List.length_singleton]
      split <;> split <;> omega
theorem topOf_snoc (l : List Nat) (x : Nat) : topOf (l ++ [x]) = x := by
  unfold topOf
  simp
def cutR (ρ : Roles) (w : World) : Roles := fun k => if k < w.heap.size then ρ k else none
theorem cutR_ext (ρ : Roles) (w : World) : RExt ρ (cutR ρ w) w := fun k hk => by unfold cutR; rw [if_pos hk]

theorem c_StackTurns {w : World} (hG : Glob w) {v0 : Value} {names : List ByteArray} {out : Nat} (h0 : Strs w v0 names) (b0 : names.length ≤ 9223372036854775807) (hout : out < 256)
    {K : Value → World → Prop} (k : ∀ w', Ext w w' → K (.bool true) w') : Cf Tryd.prog n_decanterlaw13_StackTurns #[v0, .int .u8 out] w K := by
  refine L_decanterlaw13_StackTurns _ _ _ _ ?_
  unfold S_decanterlaw13_StackTurns
  refine c_speaks hG fun w1 hE1 => Vl.not (Cond_bool (fun h => by cases h) fun _ => ?_)
  have sp : ∀ {wx : World}, Ext w wx → Cf Tryd.prog n_decanterlaw13_speaks #[] wx K := fun hx => c_speaks (hG.ext hx) fun w2 hE2 => k w2 (hx.then hE2)
  refine c_right (h0.ext hE1) b0 (Vl.not (Cond_bool (fun _ => sp hE1) fun hr0 => ?_))
  have l0 : names.length ≤ 40 := by
    have h : rightF names = true := by simpa using hr0
    unfold rightF at h; simp at h; exact h.2
  obtain ⟨a', c', rfl⟩ := h0.val
  refine Vl.len (Vl.eql (Cond_bool (fun _ => sp hE1) fun hn0 => ?_))
  have hn : 0 < names.length := by have := of_decide_eq_false hn0; omega
  refine c_laid (j := 0) (fresh0 _ _) (h0.ext hE1) (by omega) fun ρ2 w2 S A hR2 hE2 hA2 hS2 => ?_
  refine Vl.i (w' := w2) (v := .bool false) (by kernel_rfl) (Cond_bool (fun h => by cases h) fun _ => ?_)
  obtain ⟨n, hnn⟩ : ∃ n, n = names.length := ⟨_, rfl⟩
  rw [← hnn] at l0 hn hS2 b0 ⊢
  have hlen := xsOf_len n
  refine c_All hS2 (by omega) fun v w3 hrow hE3 hvn => ?_
  rw [hlen] at hrow
  obtain ⟨a, c, rfl, ha⟩ := hrow.val
  obtain ⟨g, rfl⟩ := ha hn
  have hg : blk (.slice (some ⟨g, 0, none⟩) n c) = some g := blk_some (by have := hrow.le; omega)
  have hgn : w2.heap.size ≤ g := hvn g hg
  have hR3 : RExt ρ2 (cutR ρ2 w2) w2 := cutR_ext _ _
  have hS3 : SInv (cutR ρ2 w2) 0 w3 S A (xsOf n) := hS2.chg hR3 hE3 (fun _ _ => id)
  have hR03 : RExt ρ0 (cutR ρ2 w2) w1 := hR2.1.trans hR3 hE2.size
  have hg3 : cutR ρ2 w2 g = none := by unfold cutR; rw [if_neg (by omega)]
  have hEa : Ext w1 w3 := hE2.then hE3
  generalize cutR ρ2 w2 = ρ3 at hS3 hR03 hg3
  refine Vl.len (Vl.len (Vl.neq (Cond_bool (fun h => by simp at h) fun _ => Vl.conv .i64 (Vl.len ?_))))
  have eo : IntKind.i64.wrap (out : Int) = ((out : Nat) : Int) := wrap_in (by omega) (by omega)
  rw [eo]
  refine Vl.rem hn ?_
  have hkn : out % n < n := Nat.mod_lt _ hn
  generalize out % n = kk at hkn
  have rd : ∀ {i : Nat} {wx : World} {K : Value → World → Prop}, i < n → Row wx T_int 1 (.slice (some ⟨g, 0, none⟩) n c) n (nats (xsOf n)) → K (.int .i64 ((i + 1 : Nat) : Int)) wx →
      Vl Tryd.prog (Instr.indexAt T_sl_int (.slice (some ⟨g, 0, none⟩) n c) (.int .i64 (i : Nat))) wx fun v47 ws => Vl Tryd.prog (Instr.loadAt T_int v47) ws K := fun {i} {wx} {K} hi hr hk =>
    Vl.ix 1 (by omega) (by omega) (Vl.lda (v := .int .i64 ((i + 1 : Nat) : Int)) (by
      rw [Nat.mul_one, Nat.zero_add]
      refine hr.cell ?_
      have e : ((i : Int)).toNat = i := by omega
      rw [e, xsOf_at hi]; congr 2) hk)
  have mv : ∀ {wx wy : World} {ρ : Roles}, ρ g = none → Chg (StB 0 ρ) wx wy → Row wx T_int 1 (.slice (some ⟨g, 0, none⟩) n c) n (nats (xsOf n)) → Row wy T_int 1 (.slice (some ⟨g, 0, none⟩) n c) n (nats (xsOf n)) := fun {wx wy ρ} hr hC h =>
    h.chg hC fun b hb e => by
      rw [hg] at hb; cases hb
      rcases e with e | e <;> · rw [hr] at e; cases e
  refine rd hkn hrow ?_
  refine c_Remove hS3 (by omega) fun w4 hC4 hS4 => ?_
  have hr4 := mv hg3 hC4 hrow
  have hE4 : Ext w1 w4 := new_only (fresh0 0 w1) hR03 hEa (fun b hb => by rcases hb with h | h <;> exact ⟨_, h⟩) hC4
  rw [remF_filter _ _ (xsOf_nodup n)] at hS4
  have hfl : ((xsOf n).filter (fun x => decide (x ≠ kk + 1))).length = n - 1 := by
    have := turnF_len kk n
    unfold turnF at this
    rw [if_pos hkn, List.length_cons] at this
    omega
  refine rd hkn hr4 ?_
  refine c_Find hS4 (by omega) ?_
  rw [idx_none (by simp)]
  refine Vl.neq (Cond_bool (fun h => by simp at h) fun _ => ?_)
  refine rd hkn hr4 ?_
  refine c_Insert (p := 0) hS4 (by omega) (by omega) fun ρ5 w5 hR5 hC5 hS5 => ?_
  have hg4 : g < w4.heap.size := hr4.lt g hg
  have hg5 : ρ5 g = none := (hR5.1 g hg4).trans hg3
  have hr5 := mv hg3 hC5 hr4
  have hR05 : RExt ρ0 ρ5 w1 := hR03.trans hR5.1 hE4.size
  have hE5 : Ext w1 w5 := new_only (fresh0 0 w1) hR03 hE4 (fun b hb => by rcases hb with h | h <;> exact ⟨_, h⟩) hC5
  have eS5 : ((xsOf n).filter (fun x => decide (x ≠ kk + 1))).take 0 ++ [kk + 1] ++ ((xsOf n).filter (fun x => decide (x ≠ kk + 1))).drop 0 = turnF kk n := by simp [turnF]
  rw [eS5] at hS5
  have hl5 := turnF_len kk n
  rw [if_pos hkn] at hl5
  refine rd hkn hr5 ?_
  refine c_Find hS5 (by omega) ?_
  have ei : idx (kk + 1) (turnF kk n) 0 = 0 := by unfold turnF idx; rw [if_pos rfl]; rfl
  rw [ei]
  refine Vl.neq (Cond_bool (fun h => by simp at h) fun _ => ?_)
  refine c_All hS5 (by omega) fun v6 w6 hrow6 hE6 _ => ?_
  rw [hl5] at hrow6
  obtain ⟨a6, c6, rfl, _⟩ := hrow6.val
  refine Vl.len (Vl.len (Vl.neq (Cond_bool (fun h => by simp at h) fun _ => Vl.len (Vl.sub ?_))))
  have hr6 := hr5.ext hE6
  have hS6 := hS5.ext hE6
  have hE16 := hE5.then hE6
  refine ⟨fun g' ds w' => ∃ i : Nat, g' = [.int .i64 ((i : Int) - 1)] ∧ ds = [] ∧ Ext w1 w' ∧ i ≤ n ∧ Row w' T_int 1 (.slice (some ⟨g, 0, none⟩) n c) n (nats (xsOf n)) ∧ SInv ρ5 0 w' S A (turnF kk i), fun g' _ => (intAt g' 0 + 1).toNat, ⟨n, rfl, rfl, hE16, Nat.le_refl _, hr6, hS6⟩, ?_⟩
  rintro g' ds wj ⟨i, hgi, rfl, hEj, hi, hrj, hSj⟩
  have e8 : g' 8 = .int .i64 ((i : Int) - 1) := by injection hgi
  rw [e8]
  have pop : ∀ {wx wy : World}, Ext w1 wx → SInv ρ5 0 wx S A (turnF kk i) → Chg (· = S) wx wy → Ext w1 wy := fun {wx wy} hx hS hC => new_only (fresh0 0 w1) hR05 hx (X := (· = S)) (fun b hb => by
    obtain ⟨ov, hS⟩ := hS
    exact ⟨_, hb ▸ hS.role⟩) hC
  refine Vl.geq (Cond_bool (fun hge => ?_) (fun hge => ?_))
  · have hge := of_decide_eq_true hge
    obtain ⟨i, rfl⟩ : ∃ j, i = j + 1 := ⟨i - 1, by omega⟩
    have ej : ((i + 1 : Nat) : Int) - 1 = (i : Nat) := by omega
    rw [ej]
    have hlt : i < n := by omega
    refine Vl.eql (Cond_bool (fun he => ?_) (fun he => ?_))
    · have he : i = kk := by have := of_decide_eq_true he; omega
      rw [turnF_succ, if_pos he] at hSj
      refine Vl.sub ⟨⟨i, rfl, rfl, hEj, by omega, hrj, hSj⟩, ?_⟩
      show ((i : Int) - 1 + 1).toNat < ((i : Int) + 1).toNat; omega
    · have he : i ≠ kk := by have := of_decide_eq_false he; omega
      have hSj' := hSj
      rw [turnF_succ, if_neg he] at hSj
      have hlj : (turnF kk i ++ [i + 1]).length = (turnF kk i).length + 1 := by simp
      have hlb := turnF_len kk i
      refine c_Pop hSj (by rw [hlj, hlb]; split <;> omega) (fun h => by simp at h) fun _ w7 hC7 hS7 => ?_
      rw [topOf_snoc]
      have et : (turnF kk i ++ [i + 1]).take ((turnF kk i ++ [i + 1]).length - 1) = turnF kk i := by rw [hlj, Nat.add_sub_cancel]; exact List.take_left
      rw [et] at hS7
      refine Vl.extr (v := .int .i64 ((i + 1 : Nat) : Int)) (Vl.extr (v := .bool true) (Vl.not (Cond_bool (fun h => by cases h) fun _ => ?_)))
      have hr7 : Row w7 T_int 1 (.slice (some ⟨g, 0, none⟩) n c) n (nats (xsOf n)) := hrj.chg hC7 fun b hb e => by
        have e : b = S := e
        rw [hg] at hb; cases hb
        obtain ⟨ov, hS⟩ := hS7
        have := hS.role
        rw [← e, hg5] at this; cases this
      refine rd hlt hr7 ?_
      refine Vl.neq (Cond_bool (fun h => by simp at h) fun _ => ?_)
      refine Vl.sub ⟨⟨i, rfl, rfl, pop hEj hSj' hC7, by omega, hr7, hS7⟩, ?_⟩
      show ((i : Int) - 1 + 1).toNat < ((i : Int) + 1).toNat; omega
  · have : i = 0 := by have := of_decide_eq_false hge; omega
    subst this
    have e0 : turnF kk 0 = [kk + 1] := rfl
    refine c_Pop hSj (by rw [e0]; show 1 ≤ _; omega) (fun h => by cases h) fun _ w7 hC7 hS7 => ?_
    have hE7 := pop hEj hSj hC7
    have e1 : (turnF kk 0).take ((turnF kk 0).length - 1) = [] := rfl
    rw [e1] at hS7
    have et : topOf (turnF kk 0) = kk + 1 := rfl
    rw [et]
    have hr7 : Row w7 T_int 1 (.slice (some ⟨g, 0, none⟩) n c) n (nats (xsOf n)) := hrj.chg hC7 fun b hb e => by
      have e : b = S := e
      rw [hg] at hb; cases hb
      obtain ⟨ov, hS⟩ := hS7
      have := hS.role
      rw [← e, hg5] at this; cases this
    refine Vl.extr (Vl.extr ?_)
    refine c_Pop hS7 (by decide) (fun _ => ?_) (fun h => by cases h)
    refine Vl.extr (Vl.extr (Cond_bool (fun _ => ?_) fun h => by cases h))
    refine rd hkn hr7 (Vl.eql (Cond_bool (fun _ => ?_) fun h => by simp at h))
    refine Vl.not (Cond_bool (fun _ => ?_) fun h => by cases h)
    refine c_Top hS7 (by decide) fun w8 _ hE8 => Vl.eql (Lv.nil ?_)
    exact k w8 (hE1.then (hE7.then hE8))
end Go.Proofs
