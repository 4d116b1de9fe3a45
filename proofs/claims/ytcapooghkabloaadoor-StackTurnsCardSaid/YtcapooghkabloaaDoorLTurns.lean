/- Part of the proof of a law of this seat: facts that it uses, each proved here. No conditions. -/
import Derived.Test.YtcapooghkabloaaDoorIns4
import Derived.Test.YtcapooghkabloaaDoorLImp
namespace Go.Eng
open Go
theorem bo_rem {P : Program} {w : World} {T} {x y : Operand} {a b : Nat} (hb : 0 < b) : (binop .rem T x y (.int .i64 a) (.int .i64 b)).run P w = .ok (.int .i64 ((a % b : Nat) : Int)) w := by
  have h1 : (binop .rem T x y (.int .i64 a) (.int .i64 b)).run P w = (Op.intDiv .rem .i64 a b).run P w := rfl
  rw [h1]
  unfold Op.intDiv
  have : ¬ ((b : Int) = 0) := by omega
  rw [if_neg this]
  rfl
theorem Vl.rem {P : Program} {w : World} {K : Value → World → Prop} {T} {x y : Operand} {a b : Nat} (hb : 0 < b) (k : K (.int .i64 ((a % b : Nat) : Int)) w) : Vl P (binop .rem T x y (.int .i64 a) (.int .i64 b)) w K := Vl.i (bo_rem hb) k
theorem run_extr {P : Program} {vs : Array Value} {i : Nat} {v : Value} (h : vs[i]? = some v) (w : World) : (Instr.extract (.tuple vs) i).run P w = .ok v w := by
  unfold Instr.extract
  simp [h]
theorem Vl.extr {P : Program} {w : World} {K : Value → World → Prop} {vs : Array Value} {i : Nat} {v : Value} (k : K v w) (h : vs[i]? = some v := by rfl) : Vl P (Instr.extract (.tuple vs) i) w K := Vl.i (run_extr h w) k
end Go.Eng
namespace Go.Proofs
open Go Go.Eng

theorem idx_off {α : Type} [DecidableEq α] (a : α) : ∀ (l : List α) (k d : Nat), idx a l (k + d) = if idx a l k < 0 then -1 else idx a l k + d
  | [], k, d => rfl
  | x :: l, k, d => by
    unfold idx
    by_cases h : a = x
    · rw [if_pos h, if_pos h, if_neg (by omega)]; omega
    · rw [if_neg h, if_neg h]
      have := idx_off a l (k + 1) d
      rw [← this]; congr 1; omega
theorem idx_none {α : Type} [DecidableEq α] {a : α} {l : List α} (h : a ∉ l) (k : Nat) : idx a l k = -1 := by
  have h1 : ¬ (0 : Int) ≤ idx a l k := fun h' => h ((idx_mem a l k).1 h')
  have h2 := idx_lt a l k
  omega
theorem remF_filter (a : Nat) : ∀ l : List Nat, l.Nodup → remF a l = l.filter (fun x => decide (x ≠ a))
  | [], _ => rfl
  | x :: l, h => by
    obtain ⟨h1, h2⟩ := List.nodup_cons.1 h
    have ih := remF_filter a l h2
    unfold remF at ih ⊢
    have ho := idx_off a l 0 1
    have hlt := idx_lt a l 0
    unfold idx
    by_cases hx : a = x
    · subst hx
      rw [if_pos rfl]
      have : (a :: l).filter (fun x => decide (x ≠ a)) = l := by
        rw [List.filter_cons_of_neg (by simp), List.filter_eq_self]
        intro b hb
        have : b ≠ a := fun e => h1 (e ▸ hb)
        simpa using this
      rw [this]; rfl
    · rw [if_neg hx, List.filter_cons_of_pos (by simpa using fun e => hx e.symm), ← ih, ho]
      by_cases h0 : idx a l 0 < 0
      · rw [if_pos h0, if_neg (by omega), if_neg (by omega)]
      · rw [if_neg h0, if_pos (by omega), if_pos (by omega)]
        have : (idx a l 0 + ((1 : Nat) : Int)).toNat = (idx a l 0).toNat + 1 := by omega
        rw [this]; rfl
theorem xsOf_nodup (n : Nat) : (xsOf n).Nodup := by
  unfold xsOf
  unfold List.Nodup
  rw [List.pairwise_map]
  exact List.Pairwise.imp (fun h => by omega) (List.nodup_range (n := n))
theorem xsOf_at {n i : Nat} (h : i < n) : (nats (xsOf n))[i]? = some (.int .i64 ((i : Int) + 1)) := by
  unfold nats xsOf
  simp [h]
theorem mem_xsOf {n x : Nat} : x ∈ xsOf n ↔ 0 < x ∧ x ≤ n := by
  unfold xsOf
  rw [List.mem_map]
  constructor
  · rintro ⟨a, ha, rfl⟩; have := List.mem_range.1 ha; omega
  · rintro ⟨h1, h2⟩; exact ⟨x - 1, List.mem_range.2 (by omega), by omega⟩

/-- What stands when the first i of the rest are left. -/
def turnF (k i : Nat) : List Nat := (k + 1) :: (xsOf i).filter (fun x => decide (x ≠ k + 1))
theorem turnF_succ (k i : Nat) : turnF k (i + 1) = if i = k then turnF k i else turnF k i ++ [i + 1] := by
  unfold turnF
  rw [xsOf_succ, List.filter_append]
  by_cases h : i = k
  · rw [if_pos h, List.filter_cons_of_neg (by simpa using h)]; simp
  · rw [if_neg h, List.filter_cons_of_pos (by simpa using h)]; simp
theorem turnF_len (k i : Nat) : (turnF k i).length = if k < i then i else i + 1 := by
  induction i with
  | zero => rfl
  | succ i ih =>
    rw [turnF_succ]
    by_cases h : i = k
    · rw [if_pos h, ih]; subst h; rw [if_neg (by omega), if_pos (by omega)]
    · rw [if_neg h, List.length_append, ih]
      simp only [List.length_singleton]
      split <;> split <;> omega
theorem topOf_snoc (l : List Nat) (x : Nat) : topOf (l ++ [x]) = x := by
  unfold topOf
  simp
def cutR (ρ : Roles) (w : World) : Roles := fun k => if k < w.heap.size then ρ k else none
theorem cutR_ext (ρ : Roles) (w : World) : RExt ρ (cutR ρ w) w := fun k hk => by unfold cutR; rw [if_pos hk]

theorem c_StackTurns {w : World} (hG : Glob w) {v0 : Value} {names : List ByteArray} {out : Nat} (h0 : Strs w v0 names) (b0 : names.length ≤ 9223372036854775807) (hout : out < 256)
    {K : Value → World → Prop} (k : ∀ w', Ext w w' → K (.bool true) w') : Cf Tryd.prog n_decanterlaw13_StackTurns #[v0, .int .u8 out] w K := by
  refine L_decanterlaw13_StackTurns _ _ _ _ ?_
  unfold S_decanterlaw13_StackTurns
  refine c_speaks hG fun w1 hE1 => Vl.not (Cond_bool (fun h => by cases h) fun _ => ?_)
  have sp : ∀ {wx : World}, Ext w wx → Cf Tryd.prog n_decanterlaw13_speaks #[] wx K := fun hx => c_speaks (hG.ext hx) fun w2 hE2 => k w2 (hx.then hE2)
  refine c_right (h0.ext hE1) b0 (Vl.not (Cond_bool (fun _ => sp hE1) fun hr0 => ?_))
  have l0 : names.length ≤ 40 := by
    have h : rightF names = true := by simpa using hr0
    unfold rightF at h; simp at h; exact h.2
  obtain ⟨a', c', rfl⟩ := h0.val
  refine Vl.len (Vl.eql (Cond_bool (fun _ => sp hE1) fun hn0 => ?_))
  have hn : 0 < names.length := by have := of_decide_eq_false hn0; omega
  refine c_laid (j := 0) (fresh0 _ _) (h0.ext hE1) (by omega) fun ρ2 w2 S A hR2 hE2 hA2 hS2 => ?_
  refine Vl.i (w' := w2) (v := .bool false) (by kernel_rfl) (Cond_bool (fun h => by cases h) fun _ => ?_)
  obtain ⟨n, hnn⟩ : ∃ n, n = names.length := ⟨_, rfl⟩
  rw [← hnn] at l0 hn hS2 b0 ⊢
  have hlen := xsOf_len n
  refine c_All hS2 (by omega) fun v w3 hrow hE3 hvn => ?_
  rw [hlen] at hrow
  obtain ⟨a, c, rfl, ha⟩ := hrow.val
  obtain ⟨g, rfl⟩ := ha hn
  have hg : blk (.slice (some ⟨g, 0, none⟩) n c) = some g := blk_some (by have := hrow.le; omega)
  have hgn : w2.heap.size ≤ g := hvn g hg
  have hR3 : RExt ρ2 (cutR ρ2 w2) w2 := cutR_ext _ _
  have hS3 : SInv (cutR ρ2 w2) 0 w3 S A (xsOf n) := hS2.chg hR3 hE3 (fun _ _ => id)
  have hR03 : RExt ρ0 (cutR ρ2 w2) w1 := hR2.1.trans hR3 hE2.size
  have hg3 : cutR ρ2 w2 g = none := by unfold cutR; rw [if_neg (by omega)]
  have hEa : Ext w1 w3 := hE2.then hE3
  generalize cutR ρ2 w2 = ρ3 at hS3 hR03 hg3
  refine Vl.len (Vl.len (Vl.neq (Cond_bool (fun h => by simp at h) fun _ => Vl.conv .i64 (Vl.len ?_))))
  have eo : IntKind.i64.wrap (out : Int) = ((out : Nat) : Int) := wrap_in (by omega) (by omega)
  rw [eo]
  refine Vl.rem hn ?_
  have hkn : out % n < n := Nat.mod_lt _ hn
  generalize out % n = kk at hkn
  have rd : ∀ {i : Nat} {wx : World} {K : Value → World → Prop}, i < n → Row wx T_int 1 (.slice (some ⟨g, 0, none⟩) n c) n (nats (xsOf n)) → K (.int .i64 ((i + 1 : Nat) : Int)) wx →
      Vl Tryd.prog (Instr.indexAt T_sl_int (.slice (some ⟨g, 0, none⟩) n c) (.int .i64 (i : Nat))) wx fun v47 ws => Vl Tryd.prog (Instr.loadAt T_int v47) ws K := fun {i} {wx} {K} hi hr hk =>
    Vl.ix 1 (by omega) (by omega) (Vl.lda (v := .int .i64 ((i + 1 : Nat) : Int)) (by
      rw [Nat.mul_one, Nat.zero_add]
      refine hr.cell ?_
      have e : ((i : Int)).toNat = i := by omega
      rw [e, xsOf_at hi]; congr 2) hk)
  have mv : ∀ {wx wy : World} {ρ : Roles}, ρ g = none → Chg (StB 0 ρ) wx wy → Row wx T_int 1 (.slice (some ⟨g, 0, none⟩) n c) n (nats (xsOf n)) → Row wy T_int 1 (.slice (some ⟨g, 0, none⟩) n c) n (nats (xsOf n)) := fun {wx wy ρ} hr hC h =>
    h.chg hC fun b hb e => by
      rw [hg] at hb; cases hb
      rcases e with e | e <;> · rw [hr] at e; cases e
  refine rd hkn hrow ?_
  refine c_Remove hS3 (by omega) fun w4 hC4 hS4 => ?_
  have hr4 := mv hg3 hC4 hrow
  have hE4 : Ext w1 w4 := new_only (fresh0 0 w1) hR03 hEa (fun b hb => by rcases hb with h | h <;> exact ⟨_, h⟩) hC4
  rw [remF_filter _ _ (xsOf_nodup n)] at hS4
  have hfl : ((xsOf n).filter (fun x => decide (x ≠ kk + 1))).length = n - 1 := by
    have := turnF_len kk n
    unfold turnF at this
    rw [if_pos hkn, List.length_cons] at this
    omega
  refine rd hkn hr4 ?_
  refine c_Find hS4 (by omega) ?_
  rw [idx_none (by simp)]
  refine Vl.neq (Cond_bool (fun h => by simp at h) fun _ => ?_)
  refine rd hkn hr4 ?_
  refine c_Insert (p := 0) hS4 (by omega) (by omega) fun ρ5 w5 hR5 hC5 hS5 => ?_
  have hg4 : g < w4.heap.size := hr4.lt g hg
  have hg5 : ρ5 g = none := (hR5.1 g hg4).trans hg3
  have hr5 := mv hg3 hC5 hr4
  have hR05 : RExt ρ0 ρ5 w1 := hR03.trans hR5.1 hE4.size
  have hE5 : Ext w1 w5 := new_only (fresh0 0 w1) hR03 hE4 (fun b hb => by rcases hb with h | h <;> exact ⟨_, h⟩) hC5
  have eS5 : ((xsOf n).filter (fun x => decide (x ≠ kk + 1))).take 0 ++ [kk + 1] ++ ((xsOf n).filter (fun x => decide (x ≠ kk + 1))).drop 0 = turnF kk n := by simp [turnF]
  rw [eS5] at hS5
  have hl5 := turnF_len kk n
  rw [if_pos hkn] at hl5
  refine rd hkn hr5 ?_
  refine c_Find hS5 (by omega) ?_
  have ei : idx (kk + 1) (turnF kk n) 0 = 0 := by unfold turnF idx; rw [if_pos rfl]; rfl
  rw [ei]
  refine Vl.neq (Cond_bool (fun h => by simp at h) fun _ => ?_)
  refine c_All hS5 (by omega) fun v6 w6 hrow6 hE6 _ => ?_
  rw [hl5] at hrow6
  obtain ⟨a6, c6, rfl, _⟩ := hrow6.val
  refine Vl.len (Vl.len (Vl.neq (Cond_bool (fun h => by simp at h) fun _ => Vl.len (Vl.sub ?_))))
  have hr6 := hr5.ext hE6
  have hS6 := hS5.ext hE6
  have hE16 := hE5.then hE6
  refine ⟨fun g' ds w' => ∃ i : Nat, g' = [.int .i64 ((i : Int) - 1)] ∧ ds = [] ∧ Ext w1 w' ∧ i ≤ n ∧ Row w' T_int 1 (.slice (some ⟨g, 0, none⟩) n c) n (nats (xsOf n)) ∧ SInv ρ5 0 w' S A (turnF kk i), fun g' _ => (intAt g' 0 + 1).toNat, ⟨n, rfl, rfl, hE16, Nat.le_refl _, hr6, hS6⟩, ?_⟩
  rintro g' ds wj ⟨i, hgi, rfl, hEj, hi, hrj, hSj⟩
  have e8 : g' 8 = .int .i64 ((i : Int) - 1) := by injection hgi
  rw [e8]
  have pop : ∀ {wx wy : World}, Ext w1 wx → SInv ρ5 0 wx S A (turnF kk i) → Chg (· = S) wx wy → Ext w1 wy := fun {wx wy} hx hS hC => new_only (fresh0 0 w1) hR05 hx (X := (· = S)) (fun b hb => by
    obtain ⟨ov, hS⟩ := hS
    exact ⟨_, hb ▸ hS.role⟩) hC
  refine Vl.geq (Cond_bool (fun hge => ?_) (fun hge => ?_))
  · have hge := of_decide_eq_true hge
    obtain ⟨i, rfl⟩ : ∃ j, i = j + 1 := ⟨i - 1, by omega⟩
    have ej : ((i + 1 : Nat) : Int) - 1 = (i : Nat) := by omega
    rw [ej]
    have hlt : i < n := by omega
    refine Vl.eql (Cond_bool (fun he => ?_) (fun he => ?_))
    · have he : i = kk := by have := of_decide_eq_true he; omega
      rw [turnF_succ, if_pos he] at hSj
      refine Vl.sub ⟨⟨i, rfl, rfl, hEj, by omega, hrj, hSj⟩, ?_⟩
      show ((i : Int) - 1 + 1).toNat < ((i : Int) + 1).toNat; omega
    · have he : i ≠ kk := by have := of_decide_eq_false he; omega
      have hSj' := hSj
      rw [turnF_succ, if_neg he] at hSj
      have hlj : (turnF kk i ++ [i + 1]).length = (turnF kk i).length + 1 := by simp
      have hlb := turnF_len kk i
      refine c_Pop hSj (by rw [hlj, hlb]; split <;> omega) (fun h => by simp at h) fun _ w7 hC7 hS7 => ?_
      rw [topOf_snoc]
      have et : (turnF kk i ++ [i + 1]).take ((turnF kk i ++ [i + 1]).length - 1) = turnF kk i := by rw [hlj, Nat.add_sub_cancel]; exact List.take_left
      rw [et] at hS7
      refine Vl.extr (v := .int .i64 ((i + 1 : Nat) : Int)) (Vl.extr (v := .bool true) (Vl.not (Cond_bool (fun h => by cases h) fun _ => ?_)))
      have hr7 : Row w7 T_int 1 (.slice (some ⟨g, 0, none⟩) n c) n (nats (xsOf n)) := hrj.chg hC7 fun b hb e => by
        have e : b = S := e
        rw [hg] at hb; cases hb
        obtain ⟨ov, hS⟩ := hS7
        have := hS.role
        rw [← e, hg5] at this; cases this
      refine rd hlt hr7 ?_
      refine Vl.neq (Cond_bool (fun h => by simp at h) fun _ => ?_)
      refine Vl.sub ⟨⟨i, rfl, rfl, pop hEj hSj' hC7, by omega, hr7, hS7⟩, ?_⟩
      show ((i : Int) - 1 + 1).toNat < ((i : Int) + 1).toNat; omega
  · have : i = 0 := by have := of_decide_eq_false hge; omega
    subst this
    have e0 : turnF kk 0 = [kk + 1] := rfl
    refine c_Pop hSj (by rw [e0]; show 1 ≤ _; omega) (fun h => by cases h) fun _ w7 hC7 hS7 => ?_
    have hE7 := pop hEj hSj hC7
    have e1 : (turnF kk 0).take ((turnF kk 0).length - 1) = [] := rfl
    rw [e1] at hS7
    have et : topOf (turnF kk 0) = kk + 1 := rfl
    rw [et]
    have hr7 : Row w7 T_int 1 (.slice (some ⟨g, 0, none⟩) n c) n (nats (xsOf n)) := hrj.chg hC7 fun b hb e => by
      have e : b = S := e
      rw [hg] at hb; cases hb
      obtain ⟨ov, hS⟩ := hS7
      have := hS.role
      rw [← e, hg5] at this; cases this
    refine Vl.extr (Vl.extr ?_)
    refine c_Pop hS7 (by decide) (fun _ => ?_) (fun h => by cases h)
    refine Vl.extr (Vl.extr (Cond_bool (fun _ => ?_) fun h => by cases h))
    refine rd hkn hr7 (Vl.eql (Cond_bool (fun _ => ?_) fun h => by simp at h))
    refine Vl.not (Cond_bool (fun _ => ?_) fun h => by cases h)
    refine c_Top hS7 (by decide) fun w8 _ hE8 => Vl.eql (Lv.nil ?_)
    exact k w8 (hE1.then (hE7.then hE8))
end Go.Proofs
