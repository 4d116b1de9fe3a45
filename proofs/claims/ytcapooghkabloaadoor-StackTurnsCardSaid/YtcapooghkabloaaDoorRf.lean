/- Part of the proof of a law of this seat: facts that it uses, each proved here. No conditions. -/
import Derived.Test.YtcapooghkabloaaDoorKF
namespace Go.Eng
open Go
theorem bs_add {P : Program} {w : World} {T : Nat} {x y : Operand} {a b : ByteArray} (h : a.size + b.size ≤ 9223372036854775807) : (binop .add T x y (.string a) (.string b)).run P w = .ok (.string (a ++ b)) w := by
  have : (binop .add T x y (.string a) (.string b)).run P w = (Op.stringOp .add a b).run P w := rfl
  rw [this]
  unfold Op.stringOp
  have hm : IntKind.i64.max = 9223372036854775807 := by decide
  simp only [hm]
  rw [if_neg (by omega)]
  rfl
theorem Vl.addS {P : Program} {w : World} {T : Nat} {x y : Operand} {a b : ByteArray} {K : Value → World → Prop} (h : a.size + b.size ≤ 9223372036854775807) (k : K (.string (a ++ b)) w) : Vl P (binop .add T x y (.string a) (.string b)) w K := Vl.i (bs_add h) k
end Go.Eng
namespace Go.Proofs
open Go Go.Eng

def oneF (s : ByteArray) : Prop := (∀ i (h : i < s.size), s[i] ≠ 32) ∧ 0 < s.size
theorem c_ref_one {w : World} {s : ByteArray} (hs : s.size ≤ 9223372036854775806) {K : Value → World → Prop} (kt : oneF s → K (.bool true) w) (kf : ¬ oneF s → K (.bool false) w) : Cf Tryd.prog n_decanterref11_one #[.string s] w K := by
  refine L_decanterref11_one _ _ _ ?_
  unfold S_decanterref11_one
  refine ⟨fun g ds w' => ∃ i : Nat, g = [.int .i64 i] ∧ ds = [] ∧ w' = w ∧ i ≤ s.size ∧ ∀ k (h : k < s.size), k < i → s[k] ≠ 32, fun g _ => (s.size - intAt g 0).toNat, ⟨0, rfl, rfl, rfl, by omega, fun _ _ h => by omega⟩, ?_⟩
  rintro g ds _ ⟨i, hg, rfl, rfl, hi, hn⟩
  have e3 : g 3 = .int .i64 i := by injection hg
  rw [e3]
  refine Vl.lenS (Vl.lss (Cond_bool (fun h => ?_) (fun h => ?_)))
  · have hlt : i < s.size := by have := of_decide_eq_true h; omega
    refine Vl.ixS hlt (Vl.eql (Cond_bool (fun h => ?_) (fun h => ?_)))
    · have h := of_decide_eq_true h
      have e : s[i] = 32 := by apply UInt8.toNat_inj.1; have : (32 : UInt8).toNat = 32 := rfl; omega
      exact Lv.nil (kf fun ho => ho.1 i hlt e)
    · have h := of_decide_eq_false h
      refine Vl.add ⟨⟨i + 1, rfl, rfl, rfl, by omega, fun k hk hki => ?_⟩, ?_⟩
      · by_cases e : k = i
        · subst e; intro e; rw [e] at h; exact h rfl
        · exact hn k hk (by omega)
      · show ((s.size : Int) - ((i : Int) + 1)).toNat < ((s.size : Int) - (i : Int)).toNat; omega
  · have : i = s.size := by have := of_decide_eq_false h; omega
    subst this
    refine Vl.lenS (Vl.gtr (Lv.nil ?_))
    by_cases h0 : 0 < s.size
    · have e : decide ((0 : Int) < s.size) = true := decide_eq_true (by omega)
      rw [e]; exact kt ⟨fun k hk => hn k hk hk, h0⟩
    · have e : decide ((0 : Int) < s.size) = false := decide_eq_false (by omega)
      rw [e]; exact kf fun ho => h0 ho.2

def subF (s t : ByteArray) : Prop := ∃ p, p + t.size ≤ s.size ∧ s.extract p (p + t.size) = t
theorem c_ref_in {w : World} {s t : ByteArray} (hs : s.size ≤ 1000000) (ht : t.size ≤ 4611686018427387904) {K : Value → World → Prop} (kt : subF s t → K (.bool true) w) (kf : ¬ subF s t → K (.bool false) w) : Cf Tryd.prog n_decanterref11_in #[.string s, .string t] w K := by
  refine L_decanterref11_in _ _ _ _ ?_
  unfold S_decanterref11_in
  refine ⟨fun g ds w' => ∃ i : Nat, g = [.int .i64 i] ∧ ds = [] ∧ w' = w ∧ i ≤ s.size + 1 ∧ ∀ p, p < i → p + t.size ≤ s.size → s.extract p (p + t.size) ≠ t, fun g _ => (s.size + 1 - intAt g 0).toNat, ⟨0, rfl, rfl, rfl, by omega, fun _ h => by omega⟩, ?_⟩
  rintro g ds _ ⟨i, hg, rfl, rfl, hi, hn⟩
  have e5 : g 5 = .int .i64 i := by injection hg
  rw [e5]
  refine Vl.lenS (Vl.add (Vl.lenS (Vl.leq (Cond_bool (fun h => ?_) (fun h => ?_)))))
  · have hle : i + t.size ≤ s.size := by have := of_decide_eq_true h; omega
    refine Vl.lenS (Vl.add (Vl.sliceS i (i + t.size) (.inr rfl) (.inr (by simp)) (by omega) hle (Vl.seql (Cond_bool (fun h => ?_) (fun h => ?_)))))
    · exact Lv.nil (kt ⟨i, hle, of_decide_eq_true h⟩)
    · have h := of_decide_eq_false h
      refine Vl.add ⟨⟨i + 1, rfl, rfl, rfl, by omega, fun p hp hps => ?_⟩, ?_⟩
      · by_cases e : p = i
        · subst e; exact h
        · exact hn p (by omega) hps
      · show ((s.size : Int) + 1 - ((i : Int) + 1)).toNat < ((s.size : Int) + 1 - (i : Int)).toNat; omega
  · have hgt : s.size < i + t.size := by have := of_decide_eq_false h; omega
    refine Lv.nil (kf ?_)
    rintro ⟨p, hp, he⟩
    exact hn p (by omega) hp he

theorem sub_infix (s t : ByteArray) : subF s t ↔ t.data.toList <:+: s.data.toList := by
  have hsz : ∀ b : ByteArray, b.data.toList.length = b.size := fun b => by rw [Array.length_toList]; rfl
  constructor
  · rintro ⟨p, hp, he⟩
    have h1 : (s.extract p (p + t.size)).data.toList = (s.data.toList.drop p).take t.size := by
      rw [ByteArray.data_extract, Array.toList_extract]
      simp [List.extract]
    rw [← he, h1]
    exact (List.take_prefix _ _).isInfix.trans (List.drop_suffix _ _).isInfix
  · rintro ⟨a, c, he⟩
    refine ⟨a.length, ?_, ?_⟩
    · rw [← hsz s, ← he, List.length_append, List.length_append, hsz t]; omega
    · have h1 : (s.extract a.length (a.length + t.size)).data.toList = (s.data.toList.drop a.length).take t.size := by
        rw [ByteArray.data_extract, Array.toList_extract]
        simp [List.extract]
      have h2 : (s.extract a.length (a.length + t.size)).data.toList = t.data.toList := by
        rw [h1, ← he, List.append_assoc, List.drop_left, ← hsz t, List.take_left]
      cases hx : s.extract a.length (a.length + t.size) with
      | mk d => rw [hx] at h2; cases t with
        | mk d' => congr 1; exact Array.toList_inj.1 h2

theorem c_ref_Lists {w : World} {K : Value → World → Prop} (k : ∀ w', Nw w w' (.cells (strs rlist).toArray T_string) → K (.slice (some ⟨w.heap.size, 0, none⟩) 10 10) w') : Cf Tryd.prog n_decanterref11_Lists #[] w K := by
  refine L_decanterref11_Lists _ _ ?_
  unfold S_decanterref11_Lists
  refine Vl.i (w' := w.alloc (.cells (strs rlist).toArray T_string)) (v := .slice (some ⟨w.heap.size, 0, none⟩) 10 10) (by kernel_rfl) (k _ (nw_alloc w _))

theorem inK_one {i : Nat} (hi : i < 10) {x : ByteArray} (h : inK i x = true) : oneF x := by
  have hg := List.all_eq_true.1 words_good i (List.mem_range.2 hi)
  have hx := List.all_eq_true.1 hg x ((among_iff _ _).1 h)
  simp only [Bool.and_eq_true, decide_eq_true_eq] at hx
  refine ⟨fun k hk e => ?_, hx.2⟩
  have := List.all_eq_true.1 hx.1 x[k] (by show x.data[k] ∈ x.data.toList; exact Array.getElem_mem_toList ..)
  rw [e] at this; exact absurd this (by decide)
theorem c_ref_Is {w : World} {i : Nat} (hi : i < 10) {x : ByteArray} (hx : x.size ≤ 4611686018427387000) {K : Value → World → Prop} (k : ∀ w', Ext w w' → K (.bool (inK i x)) w') : Cf Tryd.prog n_decanterref11_Is #[.string x, .int .i64 i] w K := by
  refine L_decanterref11_Is _ _ _ _ ?_
  unfold S_decanterref11_Is
  refine c_ref_one (by omega) (fun ho => ?_) (fun ho => ?_)
  · refine c_ref_Lists fun w1 h1 => ?_
    have hlen : rlist.length = 10 := by unfold rlist klist; rfl
    refine Vl.ix 1 (by omega) (by omega) (Vl.lda (v := .string (rlist.getD i ⟨#[]⟩)) ?_ ?_)
    · have hc : Cl w1 w.heap.size T_string (strs rlist) := h1.new
      have := hc.cell (i := i) (v := .string (rlist.getD i ⟨#[]⟩)) (by unfold strs; simp [List.getD, hlen, hi])
      simpa using this
    have h32 : (⟨#[32]⟩ : ByteArray).size = 1 := rfl
    have hs1 : (((⟨#[32]⟩ : ByteArray) ++ x)).size = 1 + x.size := by rw [ByteArray.size_append]; rfl
    refine Vl.addS (by rw [h32]; omega) (Vl.addS (by rw [hs1, h32]; omega) ?_)
    have hs2 : (((⟨#[32]⟩ : ByteArray) ++ x) ++ (⟨#[32]⟩ : ByteArray)).size = 1 + x.size + 1 := by rw [ByteArray.size_append, hs1]; rfl
    have hsl : (rlist.getD i ⟨#[]⟩).size ≤ 1000000 := by
      have hall : (List.range 10).all (fun i => decide ((rlist.getD i ⟨#[]⟩).size ≤ 1000000)) = true := by decide +kernel
      exact of_decide_eq_true (List.all_eq_true.1 hall i (List.mem_range.2 hi))
    have key : subF (rlist.getD i ⟨#[]⟩) (((⟨#[32]⟩ : ByteArray) ++ x) ++ (⟨#[32]⟩ : ByteArray)) ↔ inK i x = true := by
      rw [sub_infix]
      have e : (((⟨#[32]⟩ : ByteArray) ++ x) ++ (⟨#[32]⟩ : ByteArray)).data.toList = 32 :: (x.data.toList ++ [32]) := by
        rw [ByteArray.data_append, ByteArray.data_append]; simp
      have hn : ∀ c ∈ x.data.toList, c ≠ 32 := by
        intro c hc
        obtain ⟨k, hk, rfl⟩ := List.getElem_of_mem hc
        exact ho.1 k (by simpa using hk)
      rw [e, infix_cands _ hn]
      have hcw := of_decide_eq_true (List.all_eq_true.1 cands_words i (List.mem_range.2 hi))
      rw [hcw]
      unfold inK
      rw [among_iff, List.mem_map]
      constructor
      · rintro ⟨y, hy, he⟩
        have : y = x := by
          cases x; cases y; congr 1; exact Array.toList_inj.1 he
        rwa [this] at hy
      · exact fun h => ⟨x, h, rfl⟩
    refine c_ref_in hsl (by rw [hs2]; omega) (fun hsub => ?_) (fun hsub => ?_)
    · have := k w1 h1.ext
      rw [key.1 hsub] at this; exact this
    · have := k w1 h1.ext
      have hf : inK i x = false := by
        cases h : inK i x with
        | false => rfl
        | true => exact absurd (key.2 h) hsub
      rw [hf] at this; exact this
  · have := k w (Chg.refl _ _)
    have hf : inK i x = false := by
      cases h : inK i x with
      | false => rfl
      | true => exact absurd (inK_one hi h) ho
    rw [hf] at this; exact this
end Go.Proofs
