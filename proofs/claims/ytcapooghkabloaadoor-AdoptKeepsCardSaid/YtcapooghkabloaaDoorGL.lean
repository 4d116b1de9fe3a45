/- Part of the proof of a law of this seat: facts that it uses, each proved here. No conditions. -/
import Derived.Test.YtcapooghkabloaaDoorGAr
namespace Go.Proofs
open Go Go.Eng

def nmL (l : List ByteArray) (k : Nat) : ByteArray := l.getD k emp
theorem seesF_congr {far : Int} {ns : List ByteArray} {nm nm' : Nat → ByteArray} : ∀ (n : Nat), (∀ k, k < n → nm k = nm' k) → seesF far ns nm n = seesF far ns nm' n
  | 0, _ => rfl
  | n + 1, h => by rw [seesF_succ, seesF_succ, h n (by omega), seesF_congr n fun k hk => h k (by omega)]
theorem toF_congr {ns : List ByteArray} {nm nm' : Nat → ByteArray} : ∀ (n : Nat), (∀ k, k < n → nm k = nm' k) → toF ns nm n = toF ns nm' n
  | 0, _ => rfl
  | n + 1, h => by rw [toF_succ, toF_succ, h n (by omega), toF_congr n fun k hk => h k (by omega)]
theorem nm_mOf' (l : List ByteArray) (k : Nat) (hk : k < l.length) : nmOf (mOf l) (xsOf l.length) k = nmL l k := by rw [nm_mOf l k hk]; unfold nmL; simp [hk]
theorem sees_mOf {far : Int} {ns l : List ByteArray} : seesF far ns (nmOf (mOf l) (xsOf l.length)) (xsOf l.length).length = seesF far ns (nmL l) l.length := by rw [xsOf_len]; exact seesF_congr _ (nm_mOf' l)
theorem to_mOf {ns l : List ByteArray} : toF ns (nmOf (mOf l) (xsOf l.length)) (xsOf l.length).length = toF ns (nmL l) l.length := by rw [xsOf_len]; exact toF_congr _ (nm_mOf' l)

theorem sees_item {ns : List ByteArray} {nm : Nat → ByteArray} : ∀ n, seesF 1 ns nm n = true → seesF 0 ns nm n = true
  | 0, h => h
  | n + 1, h => by
    rw [seesF_succ] at h ⊢
    split
    · rfl
    · rename_i h1
      rw [if_neg h1] at h
      split at h
      · cases h
      · rename_i h2
        have : ¬ bnd 0 (nm n) = true := fun e => h2 (by
          have e : isKind (nm n) 32 = true := e
          unfold bnd; rw [if_pos rfl]; split; rfl; split; rfl; exact e)
        rw [if_neg this]; exact sees_item n h
theorem sees_button {ns : List ByteArray} {nm : Nat → ByteArray} : ∀ n, seesF 2 ns nm n = true → seesF 0 ns nm n = true
  | 0, h => h
  | n + 1, h => by
    rw [seesF_succ] at h ⊢
    split
    · rfl
    · rename_i h1
      rw [if_neg h1] at h
      split at h
      · cases h
      · rename_i h2
        have : ¬ bnd 0 (nm n) = true := fun e => h2 (by
          have e : isKind (nm n) 32 = true := e
          unfold bnd; rw [if_neg (by decide), if_neg (by decide), if_pos e])
        rw [if_neg this]; exact sees_button n h
theorem sees_to {far : Int} {ns : List ByteArray} {nm : Nat → ByteArray} : ∀ n, seesF far ns nm n = true → 0 ≤ toF ns nm n
  | 0, h => by cases h
  | n + 1, h => by
    rw [seesF_succ] at h
    rw [toF_succ]
    split
    · omega
    · rename_i h1
      rw [if_neg h1] at h
      split at h
      · cases h
      · exact sees_to n h

def ρ0 : Roles := fun _ => none
theorem fresh0 (j : Nat) (w : World) : Fresh ρ0 j w := fun b r _ e => by cases e
theorem nw_strs {w w' : World} {l : List ByteArray} (h : Nw w w' (.cells (strs l).toArray T_string)) (hb : l.length ≤ 1000) (h0 : 0 < l.length) : Strs w' (.slice (some ⟨w.heap.size, 0, none⟩) l.length l.length) l := by
  refine Strs.of_row ⟨by unfold strs; simp, .inr ⟨w.heap.size, l.length, strs l, rfl, h.new, by omega, h0, ?_, by unfold strs; simp, ?_⟩⟩
  · unfold maxLen; omega
  · rw [List.take_of_length_le]; unfold strs; simp

def nDiv : ByteArray := ⟨#[100, 105, 118]⟩
def nP : ByteArray := ⟨#[112]⟩
def nB : ByteArray := ⟨#[98]⟩
def nTable : ByteArray := ⟨#[116, 97, 98, 108, 101]⟩
theorem see1 : seesF 0 [nP] (nmL [nDiv, nP, nB]) [nDiv, nP, nB].length = true := by decide +kernel
theorem see2 : seesF 0 [nP] (nmL [nP, nTable, nB]) [nP, nTable, nB].length = false := by decide +kernel

theorem c_speaks {w : World} (hG : Glob w) {K : Value → World → Prop} (k : ∀ w', Ext w w' → K (.bool true) w') : Cf Tryd.prog n_decanterlaw13_speaks #[] w K := by
  refine L_decanterlaw13_speaks _ _ ?_
  unfold S_decanterlaw13_speaks
  refine Vl.i (w' := w.alloc (.cells (strs [nDiv, nP, nB]).toArray T_string)) (v := .slice (some ⟨w.heap.size, 0, none⟩) 3 3) (by kernel_rfl) ?_
  have n1 := nw_alloc w (.cells (strs [nDiv, nP, nB]).toArray T_string)
  generalize w.alloc (.cells (strs [nDiv, nP, nB]).toArray T_string) = w1 at n1 ⊢
  have hv1 : Strs w1 _ _ := nw_strs n1 (by decide) (by decide)
  refine c_laid (j := 0) (fresh0 _ _) hv1 (by decide) fun ρ2 w2 S1 A1 hR2 hE2 hA2 hS2 => ?_
  refine Vl.i (w' := w2.alloc (.cells (strs [nP, nTable, nB]).toArray T_string)) (v := .slice (some ⟨w2.heap.size, 0, none⟩) 3 3) (by kernel_rfl) ?_
  have n3 := nw_alloc w2 (.cells (strs [nP, nTable, nB]).toArray T_string)
  generalize w2.alloc (.cells (strs [nP, nTable, nB]).toArray T_string) = w3 at n3 ⊢
  have hv3 : Strs w3 _ _ := nw_strs n3 (by decide) (by decide)
  refine c_laid (j := 1) ((fresh0 1 _).grow hR2 (by decide)) hv3 (by decide) fun ρ4 w4 S2 A2 hR4 hE4 hA4 hS4 => ?_
  have hA3 := (hA2.ext n3.ext).chg hR4.1 hE4 (fun _ _ => id) (fun _ _ => id)
  have hS3 := (hS2.ext n3.ext).chg hR4.1 hE4 (fun _ _ => id)
  have hE04 : Ext w w4 := ((n1.ext.then hE2).then n3.ext).then hE4
  refine Vl.i (w' := w4) (v := .bool true) (by kernel_rfl) (Cond_bool (fun _ => ?_) fun h => by cases h)
  refine Vl.i (w' := w4) (v := .bool true) (by kernel_rfl) (Cond_bool (fun _ => ?_) fun h => by cases h)
  refine Vl.i (w' := w4.alloc (.cells (strs [nP]).toArray T_string)) (v := .slice (some ⟨w4.heap.size, 0, none⟩) 1 1) (by kernel_rfl) ?_
  have n5 := nw_alloc w4 (.cells (strs [nP]).toArray T_string)
  generalize w4.alloc (.cells (strs [nP]).toArray T_string) = w5 at n5 ⊢
  have hv5 : Strs w5 _ _ := nw_strs n5 (by decide) (by decide)
  have hE05 := hE04.then n5.ext
  refine c_In (hA3.ext n5.ext) (hS3.ext n5.ext) (live_mOf [nDiv, nP, nB]) (by simp [xsOf_len]) (hG.ext hE05) hv5 (by simp) fun w6 hE6 => ?_
  rw [sees_mOf]
  rw [see1]
  refine Cond_bool (fun _ => ?_) (fun h => by cases h)
  refine Vl.i (w' := w6.alloc (.cells (strs [nP]).toArray T_string)) (v := .slice (some ⟨w6.heap.size, 0, none⟩) 1 1) (by kernel_rfl) ?_
  have n7 := nw_alloc w6 (.cells (strs [nP]).toArray T_string)
  generalize w6.alloc (.cells (strs [nP]).toArray T_string) = w7 at n7 ⊢
  have hv7 : Strs w7 _ _ := nw_strs n7 (by decide) (by decide)
  have hE47 : Ext w4 w7 := (n5.ext.then hE6).then n7.ext
  have hE07 := hE04.then hE47
  refine c_In (hA4.ext hE47) (hS4.ext hE47) (live_mOf [nP, nTable, nB]) (by simp [xsOf_len]) (hG.ext hE07) hv7 (by simp) fun w8 hE8 => ?_
  rw [sees_mOf, see2]
  refine Vl.not (Cond_bool (fun _ => ?_) fun h => by cases h)
  refine c_All (hS3.ext (hE47.then hE8)) (by simp [xsOf_len]) fun v w9 hr hE9 _ => ?_
  obtain ⟨a, c, rfl, _⟩ := hr.val
  exact Vl.len (Vl.eql (k w9 ((hE07.then hE8).then hE9)))

theorem c_StackFar {w : World} (hG : Glob w) {v0 v1 : Value} {open_ names : List ByteArray} (h0 : Strs w v0 open_) (h1 : Strs w v1 names) (b0 : open_.length ≤ 9223372036854775807) (b1 : names.length ≤ 9223372036854775807)
    {K : Value → World → Prop} (k : ∀ w', Ext w w' → K (.bool true) w') : Cf Tryd.prog n_decanterlaw13_StackFar #[v0, v1] w K := by
  refine L_decanterlaw13_StackFar _ _ _ _ ?_
  unfold S_decanterlaw13_StackFar
  refine c_speaks hG fun w1 hE1 => Vl.not (Cond_bool (fun h => by cases h) fun _ => ?_)
  have sp : ∀ {wx : World}, Ext w wx → Cf Tryd.prog n_decanterlaw13_speaks #[] wx K := fun hx => c_speaks (hG.ext hx) fun w2 hE2 => k w2 (hx.then hE2)
  refine c_right (h0.ext hE1) b0 (Vl.not (Cond_bool (fun _ => sp hE1) fun hr0 => ?_))
  refine c_right (h1.ext hE1) b1 (Vl.not (Cond_bool (fun _ => sp hE1) fun hr1 => ?_))
  have l0 : open_.length ≤ 40 := by
    have h : rightF open_ = true := by simpa using hr0
    unfold rightF at h; simp at h; exact h.2
  have l1 : names.length ≤ 40 := by
    have h : rightF names = true := by simpa using hr1
    unfold rightF at h; simp at h; exact h.2
  refine c_laid (j := 0) (fresh0 _ _) (h0.ext hE1) (by omega) fun ρ2 w2 S A hR2 hE2 hA2 hS2 => ?_
  have hE02 := hE1.then hE2
  refine Vl.i (w' := w2) (v := .bool false) (by kernel_rfl) (Cond_bool (fun h => by cases h) fun _ => ?_)
  refine c_In hA2 hS2 (live_mOf _) (by rw [xsOf_len]; omega) (hG.ext hE02) (h1.ext hE02) (by omega) fun w3 hE3 => ?_
  refine c_In (hA2.ext hE3) (hS2.ext hE3) (live_mOf _) (by rw [xsOf_len]; omega) (hG.ext (hE02.then hE3)) (h1.ext (hE02.then hE3)) (by omega) fun w4 hE4 => ?_
  have hE24 := hE3.then hE4
  refine c_In (hA2.ext hE24) (hS2.ext hE24) (live_mOf _) (by rw [xsOf_len]; omega) (hG.ext (hE02.then hE24)) (h1.ext (hE02.then hE24)) (by omega) fun w5 hE5 => ?_
  have hE25 := hE24.then hE5
  have hE05 := hE02.then hE25
  rw [sees_mOf, sees_mOf, sees_mOf]
  have i1 := sees_item (ns := names) (nm := nmL open_) open_.length
  have i2 := sees_button (ns := names) (nm := nmL open_) open_.length
  have i3 := sees_to (far := 0) (ns := names) (nm := nmL open_) open_.length
  generalize seesF 0 names (nmL open_) open_.length = g at *
  generalize seesF 1 names (nmL open_) open_.length = i at *
  generalize seesF 2 names (nmL open_) open_.length = b at *
  refine ⟨fun a ds w' => a = [] ∧ ds = [] ∧ w' = w5, ?_, ?_⟩
  · refine Cond_bool (fun hi => Vl.not (Cond_bool (fun hg => ?_) fun _ => ⟨rfl, rfl, rfl⟩)) fun _ => Cond_bool (fun hb => Vl.not (Cond_bool (fun hg => ?_) fun _ => ⟨rfl, rfl, rfl⟩)) fun _ => ⟨rfl, rfl, rfl⟩
    · rw [i1 hi] at hg; cases hg
    · rw [i2 hb] at hg; cases hg
  · rintro gg ds wo ⟨_, rfl, rfl⟩
    refine c_PopTo (hA2.ext hE25) (hS2.ext hE25) (live_mOf _) (by rw [xsOf_len]; omega) (h1.ext hE05) (by omega) fun w6 hC6 hS6 => ?_
    have hE6 : Ext w w6 := new_only (fresh0 0 w1) hR2.1 hE2 (X := (· = S)) (fun b hb => by
      obtain ⟨ov, hS⟩ := hS2
      exact ⟨_, hb ▸ hS.role⟩) ((Ext.to (S := (· = S)) hE25).then hC6) |> hE1.then
    rw [to_mOf]
    refine Cond_bool (fun _ => Lv.nil (k w6 hE6)) fun hf => Vl.not (Lv.nil ?_)
    cases hg : g
    · exact k w6 hE6
    · have := i3 hg
      rw [decide_eq_true this] at hf; cases hf
end Go.Proofs
namespace Go.Proofs
open Go Go.Eng

/-! ### Which kinds a name is of -/
def inK (i : Nat) (x : ByteArray) : Bool := among (words (klist.getD i ⟨#[]⟩)) x
theorem ofInt_wrap (b : BitVec 64) : BitVec.ofInt 64 (IntKind.i64.wrap (b.toNat : Nat)) = b := by
  apply BitVec.eq_of_toNat_eq
  have := b.isLt
  simp only [IntKind.wrap, IntKind.bits, IntKind.signed, BitVec.toNat_ofInt]
  simp only [Bool.true_and]
  split <;> omega
theorem bor_idem (a s : Int) : bor (bor a s) s = bor a s := by
  unfold bor
  rw [ofInt_wrap]
  rw [BitVec.or_assoc, BitVec.or_self]
def accB (b : Nat → Bool) : Nat → Int
  | 0 => 0
  | i + 1 => if b i = true then bor (accB b i) (shl1 i) else accB b i
theorem kfold (i : Nat) (x : ByteArray) : ∀ (ws : List ByteArray) (acc : Int), ws.foldl (kstep i x) acc = if among ws x = true then bor acc (shl1 i) else acc
  | [], acc => by simp [among]
  | wd :: ws, acc => by
    rw [List.foldl_cons, kfold i x ws]
    unfold kstep
    by_cases h : x = wd
    · subst h
      have : among (x :: ws) x = true := by simp [among]
      rw [if_pos rfl, if_pos this, bor_idem]
      split <;> rfl
    · have : among (wd :: ws) x = among ws x := by simp [among, h]
      rw [if_neg h, this]
theorem kacc_accB (x : ByteArray) : ∀ n, kacc n x = accB (fun i => inK i x) n
  | 0 => rfl
  | n + 1 => by
    show (words (klist.getD n ⟨#[]⟩)).foldl (kstep n x) (kacc n x) = _
    rw [kfold, kacc_accB x n]; rfl
theorem acc10 (b : Nat → Bool) : accB b 10 = accB (fun i => [b 0, b 1, b 2, b 3, b 4, b 5, b 6, b 7, b 8, b 9].getD i false) 10 := rfl
theorem tbl32 : ∀ b0 b1 b2 b3 b4 b5 b6 b7 b8 b9 : Bool, (!decide (band (band (accB (fun i => [b0, b1, b2, b3, b4, b5, b6, b7, b8, b9].getD i false) 10) 32) 1023 = 0)) = b5 := by decide +kernel
theorem tbl128 : ∀ b0 b1 b2 b3 b4 b5 b6 b7 b8 b9 : Bool, (!decide (band (band (accB (fun i => [b0, b1, b2, b3, b4, b5, b6, b7, b8, b9].getD i false) 10) 128) 1023 = 0)) = b7 := by decide +kernel
theorem isKind_scope (x : ByteArray) : isKind x 32 = inK 5 x := by
  unfold isKind
  rw [kacc_accB, acc10]
  exact tbl32 (inK 0 x) (inK 1 x) (inK 2 x) (inK 3 x) (inK 4 x) (inK 5 x) (inK 6 x) (inK 7 x) (inK 8 x) (inK 9 x)
theorem isKind_implied (x : ByteArray) : isKind x 128 = inK 7 x := by
  unfold isKind
  rw [kacc_accB, acc10]
  exact tbl128 (inK 0 x) (inK 1 x) (inK 2 x) (inK 3 x) (inK 4 x) (inK 5 x) (inK 6 x) (inK 7 x) (inK 8 x) (inK 9 x)

/-! ### A word in a list of words -/
def cands : List UInt8 → List (List UInt8)
  | [] => []
  | c :: l => if (c == 32 && l.any (· == 32)) = true then l.takeWhile (· != 32) :: cands l else cands l
theorem cands_cons (c : UInt8) (l : List UInt8) : cands (c :: l) = if (c == 32 && l.any (· == 32)) = true then l.takeWhile (· != 32) :: cands l else cands l := rfl
theorem pre_iff : ∀ (name l : List UInt8), (∀ c ∈ name, c ≠ 32) → (name ++ [32] <+: l ↔ l.takeWhile (· != 32) = name ∧ l.any (· == 32) = true)
  | [], [], _ => by simp
  | [], c :: l, _ => by
    by_cases h : c = 32
    · subst h; simp
    · simp [h]
      intro e; exact absurd e.symm h
  | n :: name, [], _ => by simp
  | n :: name, c :: l, hn => by
    have ih := pre_iff name l fun c hc => hn c (List.mem_cons_of_mem _ hc)
    have h32 : n ≠ 32 := hn n (List.mem_cons_self ..)
    rw [List.cons_append, List.cons_prefix_cons, ih]
    by_cases h : c = 32
    · subst h; simp [h32]
    · simp only [List.takeWhile_cons, List.any_cons]
      simp [h]
      constructor
      · rintro ⟨rfl, rfl, h2⟩; exact ⟨⟨rfl, rfl⟩, h2⟩
      · rintro ⟨⟨rfl, rfl⟩, h2⟩; exact ⟨rfl, rfl, h2⟩
theorem infix_cands (name : List UInt8) (hn : ∀ c ∈ name, c ≠ 32) : ∀ L : List UInt8, (32 :: (name ++ [32])) <:+: L ↔ name ∈ cands L
  | [] => by simp [cands]
  | c :: L => by
    rw [List.infix_cons_iff, infix_cands name hn L, List.cons_prefix_cons, pre_iff name L hn]
    rw [cands_cons]
    by_cases h : (c == 32 && L.any (· == 32)) = true
    · rw [if_pos h]
      simp at h
      obtain ⟨rfl, h2⟩ := h
      rw [List.mem_cons]
      constructor
      · rintro (⟨_, rfl, _⟩ | h)
        · exact .inl rfl
        · exact .inr h
      · rintro (rfl | h)
        · exact .inl ⟨rfl, rfl, by simpa using h2⟩
        · exact .inr h
    · rw [if_neg h]
      constructor
      · rintro (⟨rfl, _, h2⟩ | h3)
        · exact absurd (by simp only [h2]; rfl) h
        · exact h3
      · exact fun h => .inr h
def rl (k : ByteArray) : ByteArray := ⟨(32 :: (k.data.toList ++ [32])).toArray⟩
def rlist : List ByteArray := klist.map rl
theorem cands_words : (List.range 10).all (fun i => decide (cands (rlist.getD i ⟨#[]⟩).data.toList = (words (klist.getD i ⟨#[]⟩)).map fun x => x.data.toList)) = true := by decide +kernel
theorem words_good : (List.range 10).all (fun i => (words (klist.getD i ⟨#[]⟩)).all fun x => x.data.toList.all (· != 32) && decide (0 < x.size)) = true := by decide +kernel
end Go.Proofs
namespace Go.Eng
open Go
theorem bs_add {P : Program} {w : World} {T : Nat} {x y : Operand} {a b : ByteArray} (h : a.size + b.size ≤ 9223372036854775807) : (binop .add T x y (.string a) (.string b)).run P w = .ok (.string (a ++ b)) w := by
  have : (binop .add T x y (.string a) (.string b)).run P w = (Op.stringOp .add a b).run P w := rfl
  rw [this]
  unfold Op.stringOp
  have hm : IntKind.i64.max = 9223372036854775807 := by decide
  simp only [hm]
  rw [if_neg (by omega)]
  rfl
theorem Vl.addS {P : Program} {w : World} {T : Nat} {x y : Operand} {a b : ByteArray} {K : Value → World → Prop} (h : a.size + b.size ≤ 9223372036854775807) (k : K (.string (a ++ b)) w) : Vl P (binop .add T x y (.string a) (.string b)) w K := Vl.i (bs_add h) k
end Go.Eng
namespace Go.Proofs
open Go Go.Eng

def oneF (s : ByteArray) : Prop := (∀ i (h : i < s.size), s[i] ≠ 32) ∧ 0 < s.size
theorem c_ref_one {w : World} {s : ByteArray} (hs : s.size ≤ 9223372036854775806) {K : Value → World → Prop} (kt : oneF s → K (.bool true) w) (kf : ¬ oneF s → K (.bool false) w) : Cf Tryd.prog n_decanterref11_one #[.string s] w K := by
  refine L_decanterref11_one _ _ _ ?_
  unfold S_decanterref11_one
  refine ⟨fun g ds w' => ∃ i : Nat, g = [.int .i64 i] ∧ ds = [] ∧ w' = w ∧ i ≤ s.size ∧ ∀ k (h : k < s.size), k < i → s[k] ≠ 32, fun g _ => (s.size - intAt g 0).toNat, ⟨0, rfl, rfl, rfl, by omega, fun _ _ h => by omega⟩, ?_⟩
  rintro g ds _ ⟨i, hg, rfl, rfl, hi, hn⟩
  have e3 : g 3 = .int .i64 i := by injection hg
  rw [e3]
  refine Vl.lenS (Vl.lss (Cond_bool (fun h => ?_) (fun h => ?_)))
  · have hlt : i < s.size := by have := of_decide_eq_true h; omega
    refine Vl.ixS hlt (Vl.eql (Cond_bool (fun h => ?_) (fun h => ?_)))
    · have h := of_decide_eq_true h
      have e : s[i] = 32 := by apply UInt8.toNat_inj.1; have : (32 : UInt8).toNat = 32 := rfl; omega
      exact Lv.nil (kf fun ho => ho.1 i hlt e)
    · have h := of_decide_eq_false h
      refine Vl.add ⟨⟨i + 1, rfl, rfl, rfl, by omega, fun k hk hki => ?_⟩, ?_⟩
      · by_cases e : k = i
        · subst e; intro e; rw [e] at h; exact h rfl
        · exact hn k hk (by omega)
      · show ((s.size : Int) - ((i : Int) + 1)).toNat < ((s.size : Int) - (i : Int)).toNat; omega
  · have : i = s.size := by have := of_decide_eq_false h; omega
    subst this
    refine Vl.lenS (Vl.gtr (Lv.nil ?_))
    by_cases h0 : 0 < s.size
    · have e : decide ((0 : Int) < s.size) = true := decide_eq_true (by omega)
      rw [e]; exact kt ⟨fun k hk => hn k hk hk, h0⟩
    · have e : decide ((0 : Int) < s.size) = false := decide_eq_false (by omega)
      rw [e]; exact kf fun ho => h0 ho.2

def subF (s t : ByteArray) : Prop := ∃ p, p + t.size ≤ s.size ∧ s.extract p (p + t.size) = t
theorem c_ref_in {w : World} {s t : ByteArray} (hs : s.size ≤ 1000000) (ht : t.size ≤ 4611686018427387904) {K : Value → World → Prop} (kt : subF s t → K (.bool true) w) (kf : ¬ subF s t → K (.bool false) w) : Cf Tryd.prog n_decanterref11_in #[.string s, .string t] w K := by
  refine L_decanterref11_in _ _ _ _ ?_
  unfold S_decanterref11_in
  refine ⟨fun g ds w' => ∃ i : Nat, g = [.int .i64 i] ∧ ds = [] ∧ w' = w ∧ i ≤ s.size + 1 ∧ ∀ p, p < i → p + t.size ≤ s.size → s.extract p (p + t.size) ≠ t, fun g _ => (s.size + 1 - intAt g 0).toNat, ⟨0, rfl, rfl, rfl, by omega, fun _ h => by omega⟩, ?_⟩
  rintro g ds _ ⟨i, hg, rfl, rfl, hi, hn⟩
  have e5 : g 5 = .int .i64 i := by injection hg
  rw [e5]
  refine Vl.lenS (Vl.add (Vl.lenS (Vl.leq (Cond_bool (fun h => ?_) (fun h => ?_)))))
  · have hle : i + t.size ≤ s.size := by have := of_decide_eq_true h; omega
    refine Vl.lenS (Vl.add (Vl.sliceS i (i + t.size) (.inr rfl) (.inr (by simp)) (by omega) hle (Vl.seql (Cond_bool (fun h => ?_) (fun h => ?_)))))
    · exact Lv.nil (kt ⟨i, hle, of_decide_eq_true h⟩)
    · have h := of_decide_eq_false h
      refine Vl.add ⟨⟨i + 1, rfl, rfl, rfl, by omega, fun p hp hps => ?_⟩, ?_⟩
      · by_cases e : p = i
        · subst e; exact h
        · exact hn p (by omega) hps
      · show ((s.size : Int) + 1 - ((i : Int) + 1)).toNat < ((s.size : Int) + 1 - (i : Int)).toNat; omega
  · have hgt : s.size < i + t.size := by have := of_decide_eq_false h; omega
    refine Lv.nil (kf ?_)
    rintro ⟨p, hp, he⟩
    exact hn p (by omega) hp he

theorem sub_infix (s t : ByteArray) : subF s t ↔ t.data.toList <:+: s.data.toList := by
  have hsz : ∀ b : ByteArray, b.data.toList.length = b.size := fun b => by rw [Array.length_toList]; rfl
  constructor
  · rintro ⟨p, hp, he⟩
    have h1 : (s.extract p (p + t.size)).data.toList = (s.data.toList.drop p).take t.size := by
      rw [ByteArray.data_extract, Array.toList_extract]
      simp [List.extract]
    rw [← he, h1]
    exact (List.take_prefix _ _).isInfix.trans (List.drop_suffix _ _).isInfix
  · rintro ⟨a, c, he⟩
    refine ⟨a.length, ?_, ?_⟩
    · rw [← hsz s, ← he, List.length_append, List.length_append, hsz t]; omega
    · have h1 : (s.extract a.length (a.length + t.size)).data.toList = (s.data.toList.drop a.length).take t.size := by
        rw [ByteArray.data_extract, Array.toList_extract]
        simp [List.extract]
      have h2 : (s.extract a.length (a.length + t.size)).data.toList = t.data.toList := by
        rw [h1, ← he, List.append_assoc, List.drop_left, ← hsz t, List.take_left]
      cases hx : s.extract a.length (a.length + t.size) with
      | mk d => rw [hx] at h2; cases t with
        | mk d' => congr 1; exact Array.toList_inj.1 h2

theorem c_ref_Lists {w : World} {K : Value → World → Prop} (k : ∀ w', Nw w w' (.cells (strs rlist).toArray T_string) → K (.slice (some ⟨w.heap.size, 0, none⟩) 10 10) w') : Cf Tryd.prog n_decanterref11_Lists #[] w K := by
  refine L_decanterref11_Lists _ _ ?_
  unfold S_decanterref11_Lists
  refine Vl.i (w' := w.alloc (.cells (strs rlist).toArray T_string)) (v := .slice (some ⟨w.heap.size, 0, none⟩) 10 10) (by kernel_rfl) (k _ (nw_alloc w _))

theorem inK_one {i : Nat} (hi : i < 10) {x : ByteArray} (h : inK i x = true) : oneF x := by
  have hg := List.all_eq_true.1 words_good i (List.mem_range.2 hi)
  have hx := List.all_eq_true.1 hg x ((among_iff _ _).1 h)
  simp only [Bool.and_eq_true, decide_eq_true_eq] at hx
  refine ⟨fun k hk e => ?_, hx.2⟩
  have := List.all_eq_true.1 hx.1 x[k] (by show x.data[k] ∈ x.data.toList; exact Array.getElem_mem_toList ..)
  rw [e] at this; exact absurd this (by decide)
theorem c_ref_Is {w : World} {i : Nat} (hi : i < 10) {x : ByteArray} (hx : x.size ≤ 4611686018427387000) {K : Value → World → Prop} (k : ∀ w', Ext w w' → K (.bool (inK i x)) w') : Cf Tryd.prog n_decanterref11_Is #[.string x, .int .i64 i] w K := by
  refine L_decanterref11_Is _ _ _ _ ?_
  unfold S_decanterref11_Is
  refine c_ref_one (by omega) (fun ho => ?_) (fun ho => ?_)
  · refine c_ref_Lists fun w1 h1 => ?_
    have hlen : rlist.length = 10 := by unfold rlist klist; rfl
    refine Vl.ix 1 (by omega) (by omega) (Vl.lda (v := .string (rlist.getD i ⟨#[]⟩)) ?_ ?_)
    · have hc : Cl w1 w.heap.size T_string (strs rlist) := h1.new
      have := hc.cell (i := i) (v := .string (rlist.getD i ⟨#[]⟩)) (by unfold strs; simp [List.getD, hlen, hi])
      simpa using this
    have h32 : (⟨#[32]⟩ : ByteArray).size = 1 := rfl
    have hs1 : (((⟨#[32]⟩ : ByteArray) ++ x)).size = 1 + x.size := by rw [ByteArray.size_append]; rfl
    refine Vl.addS (by rw [h32]; omega) (Vl.addS (by rw [hs1, h32]; omega) ?_)
    have hs2 : (((⟨#[32]⟩ : ByteArray) ++ x) ++ (⟨#[32]⟩ : ByteArray)).size = 1 + x.size + 1 := by rw [ByteArray.size_append, hs1]; rfl
    have hsl : (rlist.getD i ⟨#[]⟩).size ≤ 1000000 := by
      have hall : (List.range 10).all (fun i => decide ((rlist.getD i ⟨#[]⟩).size ≤ 1000000)) = true := by decide +kernel
      exact of_decide_eq_true (List.all_eq_true.1 hall i (List.mem_range.2 hi))
    have key : subF (rlist.getD i ⟨#[]⟩) (((⟨#[32]⟩ : ByteArray) ++ x) ++ (⟨#[32]⟩ : ByteArray)) ↔ inK i x = true := by
      rw [sub_infix]
      have e : (((⟨#[32]⟩ : ByteArray) ++ x) ++ (⟨#[32]⟩ : ByteArray)).data.toList = 32 :: (x.data.toList ++ [32]) := by
        rw [ByteArray.data_append, ByteArray.data_append]; simp
      have hn : ∀ c ∈ x.data.toList, c ≠ 32 := by
        intro c hc
        obtain ⟨k, hk, rfl⟩ := List.getElem_of_mem hc
        exact ho.1 k (by simpa using hk)
      rw [e, infix_cands _ hn]
      have hcw := of_decide_eq_true (List.all_eq_true.1 cands_words i (List.mem_range.2 hi))
      rw [hcw]
      unfold inK
      rw [among_iff, List.mem_map]
      constructor
      · rintro ⟨y, hy, he⟩
        have : y = x := by
          cases x; cases y; congr 1; exact Array.toList_inj.1 he
        rwa [this] at hy
      · exact fun h => ⟨x, h, rfl⟩
    refine c_ref_in hsl (by rw [hs2]; omega) (fun hsub => ?_) (fun hsub => ?_)
    · have := k w1 h1.ext
      rw [key.1 hsub] at this; exact this
    · have := k w1 h1.ext
      have hf : inK i x = false := by
        cases h : inK i x with
        | false => rfl
        | true => exact absurd (key.2 h) hsub
      rw [hf] at this; exact this
  · have := k w (Chg.refl _ _)
    have hf : inK i x = false := by
      cases h : inK i x with
      | false => rfl
      | true => exact absurd (inK_one hi h) ho
    rw [hf] at this; exact this
end Go.Proofs
namespace Go.Proofs
open Go Go.Eng

theorem nmL_get (l : List ByteArray) {i : Nat} (hi : i < l.length) : nmL l i = l[i] := by unfold nmL; simp [hi]
theorem Strs.get {w : World} {a : Option Addr} {c : Nat} {l : List ByteArray} (h : Strs w (.slice a l.length c) l) {i : Nat} (hi : i < l.length) : ∃ b o, a = some ⟨b, o, none⟩ ∧ w.cell? ⟨b, o + i * 1, none⟩ = some (.string (nmL l i)) := by
  obtain ⟨b, o, e, hc⟩ := h.at_ hi
  exact ⟨b, o, e, by rw [Nat.mul_one, nmL_get l hi]; exact hc⟩
/-- Reading an element of a slice of strings, whatever else is made of it. -/
theorem Vl.strAt {w : World} {a : Option Addr} {c : Nat} {l : List ByteArray} (h : Strs w (.slice a l.length c) l) {i : Nat} (hi : i < l.length) {K : Value → World → Prop} (k : K (.string (nmL l i)) w) :
    Vl Tryd.prog (Instr.indexAt T_sl_string (.slice a l.length c) (.int .i64 i)) w fun p w' => Vl Tryd.prog (Instr.loadAt T_string p) w' K := by
  obtain ⟨b, o, rfl, hc⟩ := h.get hi
  exact Vl.ix 1 (by omega) (by omega) (Vl.lda (by simpa using hc) k)

theorem c_Among {w : World} {v : Value} {l : List ByteArray} (h : Strs w v l) (hb : l.length ≤ 1000000) {x : ByteArray} {K : Value → World → Prop} (k : K (.bool (among l x)) w) : Cf Tryd.prog n_decanterref13_Among #[.string x, v] w K := by
  refine L_decanterref13_Among _ _ _ _ ?_
  unfold S_decanterref13_Among
  obtain ⟨a, c, rfl⟩ := h.val
  refine ⟨fun g ds w' => ∃ i : Nat, g = [.int .i64 i] ∧ ds = [] ∧ w' = w ∧ i ≤ l.length ∧ among (l.take i) x = false, fun g _ => (l.length - intAt g 0).toNat, ⟨0, rfl, rfl, rfl, by omega, rfl⟩, ?_⟩
  rintro g ds _ ⟨i, hg, rfl, rfl, hi, hn⟩
  have e5 : g 5 = .int .i64 i := by injection hg
  rw [e5]
  refine Vl.len (Vl.lss (Cond_bool (fun h0 => ?_) (fun h0 => ?_)))
  · have hlt : i < l.length := by have := of_decide_eq_true h0; omega
    refine Vl.strAt h hlt (Vl.seql (Cond_bool (fun h1 => ?_) (fun h1 => ?_)))
    · have h1 := of_decide_eq_true h1
      have : among l x = true := by rw [among_iff, ← h1, nmL_get l hlt]; exact List.getElem_mem hlt
      rw [this] at k; exact Lv.nil k
    · have h1 := of_decide_eq_false h1
      refine Vl.add ⟨⟨i + 1, rfl, rfl, rfl, by omega, ?_⟩, ?_⟩
      · rw [List.take_succ_eq_append_getElem hlt]
        unfold among at *
        rw [List.any_append, hn]
        rw [nmL_get l hlt] at h1
        have : x ≠ l[i] := fun e => h1 e.symm
        simp [this]
      · show ((l.length : Int) - ((i : Int) + 1)).toNat < ((l.length : Int) - (i : Int)).toNat; omega
  · have : i = l.length := by have := of_decide_eq_false h0; omega
    subst this
    rw [List.take_length] at hn
    rw [hn] at k; exact Lv.nil k

theorem c_ref_To {w : World} {v u : Value} {l ns : List ByteArray} (h : Strs w v l) (hu : Strs w u ns) (hb : l.length ≤ 1000000) (hbn : ns.length ≤ 1000000) {K : Value → World → Prop} (k : K (.int .i64 (toF ns (nmL l) l.length)) w) :
    Cf Tryd.prog n_decanterref13_To #[v, u] w K := by
  refine L_decanterref13_To _ _ _ _ ?_
  unfold S_decanterref13_To
  obtain ⟨a, c, rfl⟩ := h.val
  refine Vl.len (Vl.sub ⟨fun g ds w' => ∃ i : Nat, g = [.int .i64 ((i : Int) - 1)] ∧ ds = [] ∧ w' = w ∧ i ≤ l.length ∧ toF ns (nmL l) l.length = toF ns (nmL l) i, fun g _ => (intAt g 0 + 1).toNat, ⟨l.length, rfl, rfl, rfl, by omega, rfl⟩, ?_⟩)
  rintro g ds _ ⟨i, hg, rfl, rfl, hi, hx⟩
  have e5 : g 5 = .int .i64 ((i : Int) - 1) := by injection hg
  rw [e5]
  refine Vl.geq (Cond_bool (fun h0 => ?_) (fun h0 => ?_))
  · have h0 := of_decide_eq_true h0
    obtain ⟨i, rfl⟩ : ∃ j, i = j + 1 := ⟨i - 1, by omega⟩
    have e : ((i + 1 : Nat) : Int) - 1 = (i : Nat) := by omega
    rw [e]
    rw [toF_succ] at hx
    refine Vl.strAt h (by omega) (c_Among hu hbn (Cond_bool (fun h1 => ?_) (fun h1 => ?_)))
    · rw [if_pos h1] at hx; rw [hx] at k; exact Lv.nil k
    · rw [if_neg (by rw [h1]; decide)] at hx
      refine Vl.sub ⟨⟨i, rfl, rfl, rfl, by omega, hx⟩, ?_⟩
      show ((i : Int) - 1 + 1).toNat < ((i : Int) + 1).toNat; omega
  · have : i = 0 := by have := of_decide_eq_false h0; omega
    subst this
    rw [hx] at k; exact Lv.nil k

def impF (but : ByteArray) (nm : Nat → ByteArray) : Nat → Nat
  | 0 => 0
  | k + 1 => if nm k = but then k + 1 else if inK 7 (nm k) = true then impF but nm k else k + 1
theorem impF_succ (but : ByteArray) (nm : Nat → ByteArray) (k : Nat) : impF but nm (k + 1) = if nm k = but then k + 1 else if inK 7 (nm k) = true then impF but nm k else k + 1 := rfl
theorem impF_congr {but : ByteArray} {nm nm' : Nat → ByteArray} : ∀ (n : Nat), (∀ k, k < n → nm k = nm' k) → impF but nm n = impF but nm' n
  | 0, _ => rfl
  | n + 1, h => by rw [impF_succ, impF_succ, h n (by omega), impF_congr n fun k hk => h k (by omega)]
theorem impF_le (but : ByteArray) (nm : Nat → ByteArray) : ∀ n, impF but nm n ≤ n
  | 0 => Nat.le_refl _
  | n + 1 => by
    rw [impF_succ]
    have := impF_le but nm n
    split
    · omega
    · split <;> omega
def okSizes (l : List ByteArray) : Prop := ∀ s ∈ l, s.size ≤ 140737488351232
theorem okSizes.nm {l : List ByteArray} (h : okSizes l) {i : Nat} (hi : i < l.length) : (nmL l i).size ≤ 4611686018427387000 := by
  rw [nmL_get l hi]
  have := h _ (List.getElem_mem hi)
  omega

theorem c_ref_Implied {w : World} {v : Value} {l : List ByteArray} (h : Strs w v l) (hb : l.length ≤ 1000000) (hz : okSizes l) {but : ByteArray} {K : Value → World → Prop} (k : ∀ w', Ext w w' → K (.int .i64 (impF but (nmL l) l.length)) w') :
    Cf Tryd.prog n_decanterref13_Implied #[v, .string but] w K := by
  refine L_decanterref13_Implied _ _ _ _ ?_
  unfold S_decanterref13_Implied
  obtain ⟨a, c, rfl⟩ := h.val
  refine Vl.len ⟨fun g ds w' => ∃ i : Nat, g = [.int .i64 i] ∧ ds = [] ∧ Ext w w' ∧ i ≤ l.length ∧ impF but (nmL l) l.length = impF but (nmL l) i, fun g _ => (intAt g 0).toNat, ⟨l.length, rfl, rfl, Chg.refl _ _, by omega, rfl⟩, ?_⟩
  rintro g ds wa ⟨i, hg, rfl, hE, hi, hx⟩
  have e5 : g 5 = .int .i64 i := by injection hg
  rw [e5]
  refine Vl.gtr (Cond_bool (fun h0 => ?_) (fun h0 => ?_))
  · have h0 := of_decide_eq_true h0
    obtain ⟨i, rfl⟩ : ∃ j, i = j + 1 := ⟨i - 1, by omega⟩
    have e : ((i + 1 : Nat) : Int) - 1 = (i : Nat) := by omega
    rw [impF_succ] at hx
    refine Vl.sub ?_
    rw [e]
    refine Vl.strAt (h.ext hE) (by omega) (Vl.sneq (Cond_bool (fun h1 => ?_) (fun h1 => ?_)))
    · have h1 : ¬ nmL l i = but := by simpa using h1
      rw [if_neg h1] at hx
      refine Vl.sub ?_
      rw [e]
      refine Vl.strAt (h.ext hE) (by omega) (c_ref_Is (i := 7) (by omega) (hz.nm (by omega)) fun w' hE' => Cond_bool (fun h2 => ?_) (fun h2 => ?_))
      · rw [if_pos h2] at hx
        refine Vl.sub ?_
        rw [e]
        refine ⟨⟨i, rfl, rfl, hE.then hE', by omega, hx⟩, ?_⟩
        show ((i : Int)).toNat < ((i : Int) + 1).toNat; omega
      · rw [if_neg (by rw [h2]; decide)] at hx
        have := k w' (hE.then hE')
        rw [hx] at this; exact Lv.nil this
    · have h1 : nmL l i = but := by simpa using h1
      rw [if_pos h1] at hx
      have := k wa hE
      rw [hx] at this; exact Lv.nil this
  · have : i = 0 := by have := of_decide_eq_false h0; omega
    subst this
    have := k wa hE
    rw [hx] at this; exact Lv.nil this

/-! ### The stack's own -/
def topOf (xs : List Nat) : Nat := xs.getD (xs.length - 1) 0
theorem SPh.cell {ρ : Roles} {j : Nat} {w : World} {S A : Nat} {xs : List Nat} {a : Option Addr} {c : Nat} (h : SPh ρ j w S A xs (.slice a xs.length c)) {i : Nat} (hi : i < xs.length) : ∃ g, a = some ⟨g, 0, none⟩ ∧ w.cell? ⟨g, i, none⟩ = some (.int .i64 (xs.getD i 0 : Nat)) := by
  have hr := h.row
  obtain ⟨a', c', e, ha⟩ := hr.val
  cases e
  obtain ⟨g, rfl⟩ := ha (by omega)
  exact ⟨g, rfl, hr.cell (by unfold nats; simp [hi])⟩
theorem c_Top {ρ : Roles} {j : Nat} {w : World} {S A : Nat} {xs : List Nat} (h : SInv ρ j w S A xs) (hb : xs.length ≤ 1000000) {K : Value → World → Prop}
    (k : ∀ w', w'.heap = w.heap → Ext w w' → K (.int .i64 (topOf xs)) w') : Cf Tryd.prog n_stack_Stack_Top #[.pointer (some ⟨S, 0, none⟩)] w K := by
  obtain ⟨ov, h⟩ := h
  obtain ⟨oa, oc, rfl, _⟩ := h.row.val
  refine L_stack_Stack_Top _ _ _ ?_
  unfold S_stack_Stack_Top
  refine ⟨trivial, Vl.fa (Vl.ld h.cl rfl (Vl.len (Vl.eql (Cond_bool (fun h0 => ?_) (fun h0 => ?_)))))⟩
  · have h0 := of_decide_eq_true h0
    have : topOf xs = 0 := by
      have : xs = [] := List.eq_nil_of_length_eq_zero (by omega)
      rw [this]; rfl
    have := k w rfl (Chg.refl _ _)
    rwa [‹topOf xs = 0›] at this
  · have h0 := of_decide_eq_false h0
    have hlt : xs.length - 1 < xs.length := by omega
    obtain ⟨g, rfl, hc⟩ := h.cell hlt
    have sc : ∀ x : World, x.heap = w.heap → ∀ a v, w.cell? a = some v → x.cell? a = some v := fun x hx a v hv => by unfold World.cell? at *; rw [hx]; exact hv
    refine ⟨fun x => x.heap = w.heap, rfl, trivial, Pv.fa (VQ.ld (fun x hx => sc x hx _ _ (h.cl.cell rfl)) ⟨trivial, Pv.fa (VQ.ld (fun x hx => sc x hx _ _ (h.cl.cell rfl)) (VQ.len (Pv.sub (Pv.ix 1 (by omega) (by omega) ?_))))⟩)⟩
    have en : ((xs.length : Int) - 1).toNat = xs.length - 1 := by omega
    rw [en]
    exact VQ.ld (v := .int .i64 (topOf xs)) (fun x hx => sc x hx _ _ (by rw [Nat.mul_one, Nat.zero_add]; exact hc)) (k (dr w) rfl (dr_ext w))

theorem nmOf_take (m : AM) (xs : List Nat) {n k : Nat} (hk : k < n) (hn : n ≤ xs.length) : nmOf m (xs.take n) k = nmOf m xs k := by
  unfold nmOf
  congr 1
  have h1 : k < (xs.take n).length := by simp; omega
  have h2 : k < xs.length := by omega
  simp [List.getD, h2, hk]
theorem c_Implied {ρ : Roles} {j : Nat} {w : World} {S A : Nat} {xs : List Nat} {m : AM} (hA : AInv ρ j w A m) (h : SInv ρ j w S A xs) (hl : ∀ i ∈ xs, Live m i) (hb : xs.length ≤ 1000000) (hG : Glob w) (hG0 : S ≠ 0) {but : ByteArray} {K : Value → World → Prop}
    (k : ∀ w', Chg (· = S) w w' → SInv ρ j w' S A (xs.take (impF but (nmOf m xs) xs.length)) → K (.tuple #[]) w') : Cf Tryd.prog n_stack_Stack_Implied #[.pointer (some ⟨S, 0, none⟩), .string but] w K := by
  refine L_stack_Stack_Implied _ _ _ _ ?_
  unfold S_stack_Stack_Implied
  refine ⟨fun g ds w' => ∃ n : Nat, g = [] ∧ ds = [] ∧ n ≤ xs.length ∧ Chg (· = S) w w' ∧ AInv ρ j w' A m ∧ SInv ρ j w' S A (xs.take n) ∧ impF but (nmOf m xs) xs.length = impF but (nmOf m xs) n,
    fun _ w' => match w'.cell? ⟨S, 1, none⟩ with | some (.slice _ n _) => n | _ => 0, ⟨xs.length, rfl, rfl, by omega, Chg.refl _ _, hA, by rw [List.take_length]; exact h, rfl⟩, ?_⟩
  rintro g ds wa ⟨n, _, rfl, hn, hC, hA', ⟨ov, h'⟩, hx⟩
  have hlen : (xs.take n).length = n := by simp; omega
  obtain ⟨oa, oc, rfl, _⟩ := h'.row.val
  rw [hlen] at h'
  refine ⟨trivial, Vl.fa (Vl.ld h'.cl rfl (Vl.len (Vl.gtr (Cond_bool (fun h0 => ?_) (fun h0 => ?_)))))⟩
  · have h0 := of_decide_eq_true h0
    obtain ⟨n, rfl⟩ : ∃ j, n = j + 1 := ⟨n - 1, by omega⟩
    rw [impF_succ] at hx
    refine ⟨fun x => Ext wa x, dr_ext wa, trivial, Pv.fa (VQ.ld (fun x hx => (h'.cl.ext hx).cell rfl) ?_)⟩
    have hS' : SInv ρ j (dr wa) S A (xs.take (n + 1)) := SInv.ext ⟨_, h'⟩ (dr_ext wa)
    refine c_Top hS' (by omega) fun wb hwb hEb => ⟨fun x => Ext wa x, fun _ h => h, (dr_ext wa).then hEb, ?_⟩
    have hEab := (dr_ext wa).then hEb
    have ht : topOf (xs.take (n + 1)) = xs.getD n 0 := by
      unfold topOf
      rw [hlen]
      have : n < xs.length := by omega
      simp [List.getD, this]
    rw [ht]
    have hin : xs.getD n 0 ∈ xs := by
      have hlt : n < xs.length := by omega
      simp [hlt]
    refine c_Name' (hA'.ext hEab) (hl _ hin) fun wc hwc hEc => ⟨fun x => Ext wa x, hEab.then hEc, ?_⟩
    have hEac := hEab.then hEc
    have hfin : ∀ w', Ext wa w' → impF but (nmOf m xs) xs.length = n + 1 → Lv [] w' fun wl => K (.tuple #[]) wl := fun w' hE he => by
      refine Lv.nil (k w' (hC.ext hE) ?_)
      rw [he]
      exact SInv.ext ⟨_, h'⟩ hE
    refine Vl.seql (Cond_bool (fun h1 => ?_) (fun h1 => ?_))
    · rw [if_pos (show nmOf m xs n = but from of_decide_eq_true h1)] at hx
      exact hfin wc hEac hx
    · rw [if_neg (show ¬ nmOf m xs n = but from of_decide_eq_false h1)] at hx
      refine c_kind_Is ((hG.chg hC fun e => hG0 e.symm).ext hEac) fun wd hEd => ?_
      rw [isKind_implied]
      have hEad := hEac.then hEd
      refine Vl.not (Cond_bool (fun h2 => ?_) (fun h2 => ?_))
      · have h2 : inK 7 (nmOf m xs n) = false := by
          have h2 : (!inK 7 (nmOf m xs n)) = true := h2
          cases hh : inK 7 (nmOf m xs n)
          · rfl
          · rw [hh] at h2; cases h2
        rw [h2] at hx
        exact hfin wd hEad hx
      · have h2 : inK 7 (nmOf m xs n) = true := by
          have h2 : (!inK 7 (nmOf m xs n)) = false := h2
          cases hh : inK 7 (nmOf m xs n)
          · rw [hh] at h2; cases h2
          · rfl
        rw [if_pos h2] at hx
        have cS : ∀ x, Ext wa x → Cl x S T_stack_Stack [.pointer (some ⟨A, 0, none⟩), .slice oa (n + 1) oc] := fun x hx => h'.cl.ext hx
        refine ⟨fun x => Ext wa x, hEad.then (dr_ext wd), trivial, Pv.fa (VQ.ld (fun x hx => (cS x hx).cell rfl) ⟨trivial, Pv.fa (VQ.ld (fun x hx => (cS x hx).cell rfl) (VQ.len (Pv.sub ?_)))⟩)⟩
        have e : ((n + 1 : Nat) : Int) - 1 = (n : Nat) := by omega
        rw [e]
        have hrow := h'.row
        rw [hlen] at hrow
        refine Pv.take hrow (by omega) ⟨trivial, Pv.fa (Ef.set (cS _ (hEad.then (dr_ext wd))) (by simp) fun we he => ⟨fun _ => True, trivial, ?_⟩)⟩
        have hEa := hEad.then (dr_ext wd)
        have hCe : Chg (· = S) wa we := (Ext.to hEa).then he.chg
        refine ⟨⟨n, rfl, rfl, by omega, hC.then hCe, hA'.chg (RExt.refl _ _) hCe (fun b hb e => by
          have e : b = S := e
          rw [e, h'.role] at hb; cases hb) (fun b hb e => by
          have e : b = S := e
          obtain ⟨r, h1, h2⟩ := hb
          rw [e, h'.role] at h1; cases h1; cases h2), ⟨.slice oa n oc, he.cl, h'.role, ?_, ?_⟩, hx⟩, ?_⟩
        · have := (hrow.take (m := n) (by omega) rfl).chg hCe fun b hb e => by
            have e : b = S := e
            rw [e, blk_take (m := n + 1)] at hb
            have := h'.rowRole S hb
            rw [h'.role] at this; cases this
          have e3 : (xs.take n).length = n := by simp; omega
          have e2 : nats (xs.take n) = (nats (xs.take (n + 1))).take (n * 1) := by
            unfold nats
            rw [← List.map_take, List.take_take]; congr 2; omega
          rw [e3, e2]; exact this
        · intro b hb
          refine h'.rowRole b ?_
          rw [blk_take (m := n)]; exact hb
        · show (match we.cell? ⟨S, 1, none⟩ with | some (.slice _ n _) => n | _ => 0) < (match wa.cell? ⟨S, 1, none⟩ with | some (.slice _ n _) => n | _ => 0)
          rw [he.cl.cell (i := 1) (v := .slice oa n oc) rfl, (cS wa (Chg.refl _ _)).cell (i := 1) (v := .slice oa (n + 1) oc) rfl]
          show n < n + 1; omega
  · have : n = 0 := by have := of_decide_eq_false h0; omega
    subst this
    refine Lv.nil (k wa hC ?_)
    rw [hx]
    exact ⟨_, h'⟩
end Go.Proofs
namespace Go.Proofs
open Go Go.Eng

theorem AInv.chgOne {ρ : Roles} {i j : Nat} {w w' : World} {A S : Nat} {m : AM} {r : RK} (h : AInv ρ j w A m) (hS : ρ S = some (i, r)) (hr : isAr r = false) (hC : Chg (· = S) w w') : AInv ρ j w' A m :=
  h.chg (RExt.refl _ _) hC (fun b hb e => by
    have e : b = S := e
    rw [e, hS] at hb; cases hb) (fun b hb e => by
    have e : b = S := e
    obtain ⟨r', h1, h2⟩ := hb
    rw [e, hS] at h1; cases h1; rw [hr] at h2; cases h2)
theorem SInv.take {ρ : Roles} {j : Nat} {w w' : World} {S A : Nat} {xs : List Nat} {a : Option Addr} {c : Nat} (h : SPh ρ j w S A xs (.slice a xs.length c)) {n : Nat} (hn : n ≤ xs.length) (hC : Chg (· = S) w w')
    (hcl : Cl w' S T_stack_Stack [.pointer (some ⟨A, 0, none⟩), .slice a n c]) : SInv ρ j w' S A (xs.take n) := by
  refine ⟨.slice a n c, hcl, h.role, ?_, fun b hb => ?_⟩
  · have := (h.row.take hn rfl).chg hC fun b hb e => by
      have e : b = S := e
      rw [e, blk_take (m := xs.length)] at hb
      have := h.rowRole S hb
      rw [h.role] at this; cases this
    have e3 : (xs.take n).length = n := by simp; omega
    have e2 : nats (xs.take n) = (nats xs).take (n * 1) := by unfold nats; simp
    rw [e3, e2]; exact this
  · refine h.rowRole b ?_
    rw [blk_take (m := n)]; exact hb

theorem c_Pop {ρ : Roles} {j : Nat} {w : World} {S A : Nat} {xs : List Nat} (h : SInv ρ j w S A xs) (hb : xs.length ≤ 1000000) {K : Value → World → Prop}
    (k0 : xs = [] → K (.tuple #[.int .i64 0, .bool false]) w)
    (k : 0 < xs.length → ∀ w', Chg (· = S) w w' → SInv ρ j w' S A (xs.take (xs.length - 1)) → K (.tuple #[.int .i64 (topOf xs), .bool true]) w') : Cf Tryd.prog n_stack_Stack_Pop #[.pointer (some ⟨S, 0, none⟩)] w K := by
  obtain ⟨ov, h⟩ := h
  obtain ⟨oa, oc, rfl, _⟩ := h.row.val
  refine L_stack_Stack_Pop _ _ _ ?_
  unfold S_stack_Stack_Pop
  refine ⟨trivial, Vl.fa (Vl.ld h.cl rfl (Vl.len (Vl.sub (Vl.lss (Cond_bool (fun h0 => ?_) (fun h0 => ?_))))))⟩
  · have h0 := of_decide_eq_true h0
    exact k0 (List.eq_nil_of_length_eq_zero (by omega))
  · have h0 := of_decide_eq_false h0
    have hlt : xs.length - 1 < xs.length := by omega
    obtain ⟨g, rfl, hc⟩ := h.cell hlt
    have e : (xs.length : Int) - 1 = (xs.length - 1 : Nat) := by omega
    rw [e]
    refine ⟨trivial, Vl.fa (Vl.ld h.cl rfl (Vl.ix 1 (by omega) (by omega) (Vl.lda (v := .int .i64 (topOf xs)) (by rw [Nat.mul_one, Nat.zero_add]; exact hc) ⟨trivial, Vl.fa (Vl.ld h.cl rfl (Vl.take h.row (by omega) ⟨trivial, Vl.fa (Ef.set h.cl (by simp) fun w1 h1 => ?_)⟩))⟩)))⟩
    exact k (by omega) w1 h1.chg (SInv.take h (by omega) h1.chg h1.cl)
end Go.Proofs
namespace Go.Proofs
open Go Go.Eng

theorem Strs.drop {w : World} {a : Option Addr} {c : Nat} {l : List ByteArray} (h : Strs w (.slice a l.length c) l) {n : Nat} (hn : n ≤ l.length) : Strs w (.slice (if c = n then a else a.map (·.add (n * 1))) (l.length - n) (c - n)) (l.drop n) := by
  obtain ⟨a', c', e, hle, h⟩ := h
  cases e
  refine ⟨_, _, by rw [List.length_drop], by rw [List.length_drop]; omega, fun i hi => ?_⟩
  rw [List.length_drop] at hi
  obtain ⟨b, o, rfl, hc⟩ := h (n + i) (by omega)
  refine ⟨b, o + n, ?_, ?_⟩
  · rw [if_neg (by omega)]
    show some ((⟨b, o, none⟩ : Addr).add (n * 1)) = _
    rw [add_off, Nat.mul_one]
  · rw [Nat.add_assoc, hc]; simp
theorem Glob.pos {w : World} (h : Glob w) : 0 < w.heap.size := by
  have := h 0
  unfold World.cell? at this
  cases hx : w.heap[0]? with
  | none => simp only [hx] at this; cases this
  | some o => exact (Array.getElem?_eq_some_iff.1 hx).1
theorem SInv.new {ρ ρ' : Roles} {j : Nat} {w w' : World} {S A : Nat} {xs : List Nat} (hF : Fresh ρ j w) (hR : RExt ρ ρ' w) (h : SInv ρ' j w' S A xs) : w.heap.size ≤ S := by
  obtain ⟨ov, h⟩ := h
  by_cases hlt : S < w.heap.size
  · have := h.role
    rw [hR S hlt] at this
    exact absurd this (hF S _ hlt)
  · omega
theorem imp_mOf {but : ByteArray} {l : List ByteArray} : impF but (nmOf (mOf l) (xsOf l.length)) (xsOf l.length).length = impF but (nmL l) l.length := by rw [xsOf_len]; exact impF_congr _ (nm_mOf' l)
theorem impF_fix (but : ByteArray) (nm : Nat → ByteArray) : ∀ n, impF but nm (impF but nm n) = impF but nm n
  | 0 => rfl
  | n + 1 => by
    rw [impF_succ]
    split
    · rename_i h; rw [impF_succ, if_pos h]
    · rename_i h
      split
      · exact impF_fix but nm n
      · rename_i h2; rw [impF_succ, if_neg h, if_neg h2]
theorem impF_gone (but : ByteArray) (nm : Nat → ByteArray) : ∀ n k, impF but nm n ≤ k → k < n → nm k ≠ but ∧ inK 7 (nm k) = true
  | 0, k, _, h => by omega
  | n + 1, k, h1, h2 => by
    rw [impF_succ] at h1
    split at h1
    · omega
    · rename_i hb
      split at h1
      · rename_i hk
        by_cases e : k = n
        · subst e; exact ⟨hb, hk⟩
        · exact impF_gone but nm n k h1 (by omega)
      · omega
theorem impF_last (but : ByteArray) (nm : Nat → ByteArray) : ∀ n k, impF but nm n = k + 1 → nm k = but ∨ inK 7 (nm k) = false
  | 0, k, h => by cases h
  | n + 1, k, h => by
    rw [impF_succ] at h
    split at h
    · rename_i hb; have : n = k := by omega
      subst this; exact .inl hb
    · rename_i hb
      split at h
      · exact impF_last but nm n k h
      · rename_i hk
        have : n = k := by omega
        subst this
        exact .inr (by simpa using hk)

theorem c_StackImplied {w : World} (hG : Glob w) {v0 : Value} {names : List ByteArray} {but : ByteArray} (h0 : Strs w v0 names) (b0 : names.length ≤ 9223372036854775807) (hz : okSizes names)
    {K : Value → World → Prop} (k : ∀ w', Ext w w' → K (.bool true) w') : Cf Tryd.prog n_decanterlaw13_StackImplied #[v0, .string but] w K := by
  refine L_decanterlaw13_StackImplied _ _ _ _ ?_
  unfold S_decanterlaw13_StackImplied
  refine c_speaks hG fun w1 hE1 => Vl.not (Cond_bool (fun h => by cases h) fun _ => ?_)
  have sp : ∀ {wx : World}, Ext w wx → Cf Tryd.prog n_decanterlaw13_speaks #[] wx K := fun hx => c_speaks (hG.ext hx) fun w2 hE2 => k w2 (hx.then hE2)
  refine c_right (h0.ext hE1) b0 (Vl.not (Cond_bool (fun _ => sp hE1) fun hr0 => ?_))
  have l0 : names.length ≤ 40 := by
    have h : rightF names = true := by simpa using hr0
    unfold rightF at h; simp at h; exact h.2
  refine c_laid (j := 0) (fresh0 _ _) (h0.ext hE1) (by omega) fun ρ2 w2 S A hR2 hE2 hA2 hS2 => ?_
  have hE02 := hE1.then hE2
  have hSn : S ≠ 0 := by
    have := SInv.new (fresh0 0 w1) hR2.1 hS2
    have := (hG.ext hE1).pos
    omega
  have hnew : ∀ w', Chg (· = S) w2 w' → Ext w w' := fun w' hC => hE1.then (new_only (fresh0 0 w1) hR2.1 hE2 (X := (· = S)) (fun b hb => by
    obtain ⟨ov, hS⟩ := hS2
    exact ⟨_, hb ▸ hS.role⟩) hC)
  refine Vl.i (w' := w2) (v := .bool false) (by kernel_rfl) (Cond_bool (fun h => by cases h) fun _ => ?_)
  refine c_Implied hA2 hS2 (live_mOf _) (by rw [xsOf_len]; omega) (hG.ext hE02) hSn fun w3 hC3 hS3 => ?_
  rw [imp_mOf] at hS3
  have hle := impF_le but (nmL names) names.length
  have hlast := impF_last but (nmL names) names.length
  have hgone := impF_gone but (nmL names) names.length
  have hfix := impF_fix but (nmL names) names.length
  generalize hn : impF but (nmL names) names.length = n at *
  have hxl : ((xsOf names.length).take n).length = n := by simp [xsOf_len]; omega
  have hA3 : AInv ρ2 0 w3 A (mOf names) := hA2.chg (RExt.refl _ _) hC3 (fun b hb e => by
      have e : b = S := e
      obtain ⟨ov, hS⟩ := hS2
      rw [e, hS.role] at hb; cases hb) (fun b hb e => by
      have e : b = S := e
      obtain ⟨ov, hS⟩ := hS2
      obtain ⟨r, h1, h2⟩ := hb
      rw [e, hS.role] at h1; cases h1; cases h2)
  refine c_All hS3 (by rw [hxl]; omega) fun va w4 hr4 hE4 _ => ?_
  rw [hxl] at hr4
  obtain ⟨aa, ac, rfl, _⟩ := hr4.val
  refine Vl.len ?_
  have hS4 := hS3.ext hE4
  have hE04 : Ext w w4 := (hnew w3 hC3).then hE4
  refine c_Implied (hA3.ext hE4) hS4 (fun i hi => live_mOf names i (List.mem_of_mem_take hi)) (by rw [hxl]; omega) (hG.ext hE04) hSn fun w5 hC5 hS5 => ?_
  have e5 : impF but (nmOf (mOf names) ((xsOf names.length).take n)) ((xsOf names.length).take n).length = n := by
    rw [hxl]
    rw [impF_congr (nm' := nmL names) n fun k hk => by
      rw [nmOf_take _ _ hk (by rw [xsOf_len]; exact hle)]
      exact nm_mOf' names k (by omega)]
    exact hfix
  rw [e5, List.take_take, Nat.min_self] at hS5
  refine c_All hS5 (by rw [hxl]; omega) fun vb w6 hr6 hE6 _ => ?_
  rw [hxl] at hr6
  obtain ⟨ba, bc, rfl, _⟩ := hr6.val
  have hC25 : Chg (· = S) w2 w5 := (hC3.ext hE4).then hC5
  have hE06 : Ext w w6 := (hnew w5 hC25).then hE6
  have h06 := h0.ext hE06
  obtain ⟨a, c, rfl⟩ := h0.val
  have hlc : names.length ≤ c := by obtain ⟨_, _, e, hle, _⟩ := h06; cases e; exact hle
  refine Vl.len (Vl.neq (Cond_bool (fun h => by simp at h) fun _ => ?_))
  refine Vl.len (Vl.gtr (Cond_bool (fun h => by have := of_decide_eq_true h; omega) fun _ => ?_))
  refine Vl.slc (E := T_string) (sz := 1) n names.length (.inr rfl) (.inl ⟨rfl, rfl⟩) hle hlc ?_
  have hd := h06.drop hle
  have hdl : (names.drop n).length = names.length - n := by rw [List.length_drop]
  generalize (if c = n then a else a.map (·.add (n * 1))) = da at hd ⊢
  rw [← hdl] at hd ⊢
  refine Vl.len ⟨fun g ds w' => ∃ i : Nat, g = [.int .i64 i] ∧ ds = [] ∧ Ext w6 w' ∧ i ≤ (names.drop n).length, fun g _ => ((names.drop n).length - intAt g 0).toNat, ⟨0, rfl, rfl, Chg.refl _ _, by omega⟩, ?_⟩
  rintro g ds wt ⟨i, hg, rfl, hEt, hi⟩
  have e45 : g 45 = .int .i64 i := by injection hg
  rw [e45]
  refine Vl.lss (Cond_bool (fun h => ?_) (fun h => ?_))
  · have hlt : i < (names.drop n).length := by have := of_decide_eq_true h; omega
    have hlt' : n + i < names.length := by omega
    have en : nmL (names.drop n) i = nmL names (n + i) := by rw [nmL_get _ hlt, nmL_get _ hlt']; simp
    obtain ⟨hg1, hg2⟩ := hgone (n + i) (by omega) hlt'
    refine Vl.strAt (hd.ext hEt) hlt ?_
    rw [en]
    refine Vl.seql (Cond_bool (fun h1 => absurd (of_decide_eq_true h1) hg1) fun _ => ?_)
    refine c_ref_Is (i := 7) (by omega) (hz.nm hlt') fun w' hE' => ?_
    rw [hg2]
    refine Vl.not (Cond_bool (fun h => by cases h) fun _ => Vl.add ⟨⟨i + 1, rfl, rfl, hEt.then hE', by omega⟩, ?_⟩)
    show (((names.drop n).length : Int) - ((i : Int) + 1)).toNat < (((names.drop n).length : Int) - (i : Int)).toNat; omega
  · refine Vl.eql (Cond_bool (fun _ => Lv.nil (k wt (hE06.then hEt))) fun h1 => ?_)
    have h1 := of_decide_eq_false h1
    obtain ⟨m, rfl⟩ : ∃ j, n = j + 1 := ⟨n - 1, by omega⟩
    have e : ((m + 1 : Nat) : Int) - 1 = (m : Nat) := by omega
    refine Vl.sub ?_
    rw [e]
    refine Vl.strAt (h06.ext hEt) (by omega) (Vl.seql (Cond_bool (fun _ => Lv.nil (k wt (hE06.then hEt))) fun h2 => ?_))
    have h2 := of_decide_eq_false h2
    refine Vl.sub ?_
    rw [e]
    refine Vl.strAt (h06.ext hEt) (by omega) (c_ref_Is (i := 7) (by omega) (hz.nm (by omega)) fun w' hE' => ?_)
    rcases hlast m rfl with h3 | h3
    · exact absurd h3 h2
    · rw [h3]
      exact Vl.not (Lv.nil (k w' ((hE06.then hEt).then hE')))
end Go.Proofs
namespace Go.Proofs
open Go Go.Eng

theorem isRefBnd {far : Int} {x : ByteArray} (h0 : far = 0 ∨ far = 1 ∨ far = 2) : bnd far x = (inK 5 x || (decide (far = 1) && (decide (x = nOl) || decide (x = nUl))) || (decide (far = 2) && decide (x = nButton))) := by
  unfold bnd
  rw [isKind_scope]
  rcases h0 with rfl | rfl | rfl
  · simp
  · by_cases h1 : x = nOl
    · simp [h1]
    · by_cases h2 : x = nUl <;> simp [h1, h2]
  · cases inK 5 x <;> simp

theorem c_ref_In {w : World} {v u : Value} {l ns : List ByteArray} (h : Strs w v l) (hu : Strs w u ns) (hb : l.length ≤ 1000000) (hbn : ns.length ≤ 1000000) (hz : okSizes l) {far : Int} (hf : far = 0 ∨ far = 1 ∨ far = 2) {K : Value → World → Prop}
    (k : ∀ w', Ext w w' → K (.bool (seesF far ns (nmL l) l.length)) w') : Cf Tryd.prog n_decanterref13_In #[v, .int .i64 far, u] w K := by
  refine L_decanterref13_In _ _ _ _ _ ?_
  unfold S_decanterref13_In
  obtain ⟨a, c, rfl⟩ := h.val
  refine Vl.len (Vl.sub ⟨fun g ds w' => ∃ i : Nat, g = [.int .i64 ((i : Int) - 1)] ∧ ds = [] ∧ Ext w w' ∧ i ≤ l.length ∧ seesF far ns (nmL l) l.length = seesF far ns (nmL l) i, fun g _ => (intAt g 0 + 1).toNat, ⟨l.length, rfl, rfl, Chg.refl _ _, by omega, rfl⟩, ?_⟩)
  rintro g ds wa ⟨i, hg, rfl, hE, hi, hx⟩
  have e7 : g 7 = .int .i64 ((i : Int) - 1) := by injection hg
  rw [e7]
  refine Vl.geq (Cond_bool (fun h0 => ?_) (fun h0 => ?_))
  · have h0 := of_decide_eq_true h0
    obtain ⟨i, rfl⟩ : ∃ j, i = j + 1 := ⟨i - 1, by omega⟩
    have e : ((i + 1 : Nat) : Int) - 1 = (i : Nat) := by omega
    rw [e]
    rw [seesF_succ] at hx
    have hlt : i < l.length := by omega
    refine Vl.strAt (h.ext hE) hlt (c_Among (hu.ext hE) hbn (Cond_bool (fun h1 => ?_) (fun h1 => ?_)))
    · rw [if_pos h1] at hx
      have := k wa hE
      rw [hx] at this; exact Lv.nil this
    · rw [if_neg (by rw [h1]; decide)] at hx
      rw [isRefBnd hf] at hx
      refine Vl.strAt (h.ext hE) hlt (c_ref_Is (i := 5) (by omega) (hz.nm hlt) fun w' hE' => ?_)
      have hEw := hE.then hE'
      have stop : seesF far ns (nmL l) l.length = false → Lv [] w' fun wz => K (.bool false) wz := fun he => by
        have := k w' hEw
        rw [he] at this; exact Lv.nil this
      refine Cond_bool (fun h2 => stop ?_) (fun h2 => ?_)
      · rw [hx, h2]; simp
      rw [h2, Bool.false_or] at hx
      have next : seesF far ns (nmL l) l.length = seesF far ns (nmL l) i → Vl Tryd.prog (binop BinOp.sub 3 (Operand.tmp 13) (Operand.const ((Value.int IntKind.i64 1))) (.int .i64 (i : Nat)) (Value.int IntKind.i64 1)) w' fun v14 wz =>
          (∃ i : Nat, [v14] = [.int .i64 ((i : Int) - 1)] ∧ ([] : List Deferred) = [] ∧ Ext w wz ∧ i ≤ l.length ∧ seesF far ns (nmL l) l.length = seesF far ns (nmL l) i) ∧ (intAt [v14] 0 + 1).toNat < (intAt [.int .i64 (i : Nat)] 0 + 1).toNat := fun he =>
        Vl.sub ⟨⟨i, rfl, rfl, hEw, by omega, he⟩, by show ((i : Int) - 1 + 1).toNat < ((i : Int) + 1).toNat; omega⟩
      -- the way behind the item's test
      have tail : seesF far ns (nmL l) l.length = (if (decide (far = 2) && decide (nmL l i = nButton)) = true then false else seesF far ns (nmL l) i) →
          Vl Tryd.prog (binop BinOp.eql 3 (Operand.tmp 45) (Operand.const ((Value.int IntKind.i64 2))) (.int .i64 far) (Value.int IntKind.i64 2)) w' fun v46 wv => Cond v46
            (Vl Tryd.prog (Instr.indexAt 22 (.slice a l.length c) (.int .i64 (i : Nat))) wv fun v50 ww => Vl Tryd.prog (Instr.loadAt 9 v50) ww fun v51 wx =>
              Vl Tryd.prog (binop BinOp.eql 9 (Operand.tmp 51) (Operand.const ((Value.string nButton))) v51 (Value.string nButton)) wx fun v52 wy => Cond v52 (Lv [] wy fun wz => K (Value.bool false) wz)
                (Vl Tryd.prog (binop BinOp.sub 3 (Operand.tmp 13) (Operand.const ((Value.int IntKind.i64 1))) (.int .i64 (i : Nat)) (Value.int IntKind.i64 1)) wy fun v14 wz =>
                  (∃ i : Nat, [v14] = [.int .i64 ((i : Int) - 1)] ∧ ([] : List Deferred) = [] ∧ Ext w wz ∧ i ≤ l.length ∧ seesF far ns (nmL l) l.length = seesF far ns (nmL l) i) ∧ (intAt [v14] 0 + 1).toNat < (intAt [.int .i64 (i : Nat)] 0 + 1).toNat))
            (Vl Tryd.prog (binop BinOp.sub 3 (Operand.tmp 13) (Operand.const ((Value.int IntKind.i64 1))) (.int .i64 (i : Nat)) (Value.int IntKind.i64 1)) wv fun v14 wz =>
                  (∃ i : Nat, [v14] = [.int .i64 ((i : Int) - 1)] ∧ ([] : List Deferred) = [] ∧ Ext w wz ∧ i ≤ l.length ∧ seesF far ns (nmL l) l.length = seesF far ns (nmL l) i) ∧ (intAt [v14] 0 + 1).toNat < (intAt [.int .i64 (i : Nat)] 0 + 1).toNat) := fun hx => by
        refine Vl.eql (Cond_bool (fun h5 => ?_) (fun h5 => ?_))
        · rw [h5, Bool.true_and] at hx
          refine Vl.strAt (h.ext hEw) hlt (Vl.seql (Cond_bool (fun h6 => ?_) (fun h6 => ?_)))
          · rw [if_pos h6] at hx; exact stop hx
          · rw [if_neg (by rw [h6]; decide)] at hx; exact next hx
        · rw [h5, Bool.false_and, if_neg (by decide)] at hx
          exact next hx
      refine Vl.eql (Cond_bool (fun h3 => ?_) (fun h3 => ?_))
      · rw [h3, Bool.true_and] at hx
        refine Vl.strAt (h.ext hEw) hlt (Vl.seql (Cond_bool (fun h4 => ?_) (fun h4 => ?_)))
        · have h4 : decide (nmL l i = nOl) = true := h4
          rw [h4, Bool.true_or, Bool.true_or, if_pos rfl] at hx
          exact stop hx
        · have h4 : decide (nmL l i = nOl) = false := h4
          rw [h4, Bool.false_or] at hx
          refine Vl.strAt (h.ext hEw) hlt (Vl.seql (Cond_bool (fun h5 => ?_) (fun h5 => ?_)))
          · have h5 : decide (nmL l i = nUl) = true := h5
            rw [h5, Bool.true_or, if_pos rfl] at hx
            exact stop hx
          · have h5 : decide (nmL l i = nUl) = false := h5
            rw [h5, Bool.false_or] at hx
            exact tail hx
      · rw [h3, Bool.false_and, Bool.false_or] at hx
        exact tail hx
  · have : i = 0 := by have := of_decide_eq_false h0; omega
    subst this
    have := k wa hE
    rw [hx] at this; exact Lv.nil this
end Go.Proofs
namespace Go.Proofs
open Go Go.Eng
theorem toF_lt (ns : List ByteArray) (nm : Nat → ByteArray) : ∀ n, toF ns nm n < n ∧ -1 ≤ toF ns nm n
  | 0 => ⟨by show (-1 : Int) < 0; omega, Int.le_refl _⟩
  | n + 1 => by
    have := toF_lt ns nm n
    rw [toF_succ]
    split <;> constructor <;> omega
theorem bneq_same {w : World} {x y : Operand} (a : Bool) : (binop .neq T_bool x y (.bool a) (.bool a)).run Tryd.prog w = .ok (.bool false) w := by
  cases a <;> kernel_rfl
theorem Vl.bneqSame {w : World} {x y : Operand} {a : Bool} {K : Value → World → Prop} (k : K (.bool false) w) : Vl Tryd.prog (binop .neq T_bool x y (.bool a) (.bool a)) w K := Vl.i (bneq_same a) k

theorem c_StackLooks {w : World} (hG : Glob w) {v0 v1 : Value} {open_ names : List ByteArray} {but : ByteArray} (h0 : Strs w v0 open_) (h1 : Strs w v1 names) (b0 : open_.length ≤ 9223372036854775807) (b1 : names.length ≤ 9223372036854775807) (hz : okSizes open_)
    {K : Value → World → Prop} (k : ∀ w', Ext w w' → K (.bool true) w') : Cf Tryd.prog n_decanterlaw13_StackLooks #[v0, v1, .string but] w K := by
  refine L_decanterlaw13_StackLooks _ _ _ _ _ ?_
  unfold S_decanterlaw13_StackLooks
  refine c_speaks hG fun w1 hE1 => Vl.not (Cond_bool (fun h => by cases h) fun _ => ?_)
  have sp : ∀ {wx : World}, Ext w wx → Cf Tryd.prog n_decanterlaw13_speaks #[] wx K := fun hx => c_speaks (hG.ext hx) fun w2 hE2 => k w2 (hx.then hE2)
  refine c_right (h0.ext hE1) b0 (Vl.not (Cond_bool (fun _ => sp hE1) fun hr0 => ?_))
  refine c_right (h1.ext hE1) b1 (Vl.not (Cond_bool (fun _ => sp hE1) fun hr1 => ?_))
  have l0 : open_.length ≤ 40 := by
    have h : rightF open_ = true := by simpa using hr0
    unfold rightF at h; simp at h; exact h.2
  have l1 : names.length ≤ 40 := by
    have h : rightF names = true := by simpa using hr1
    unfold rightF at h; simp at h; exact h.2
  refine ⟨fun g ds w' => ∃ i : Nat, g = [.int .i64 i] ∧ ds = [] ∧ Ext w w' ∧ i ≤ 3, fun g _ => (3 - intAt g 0).toNat, ⟨0, rfl, rfl, hE1, by omega⟩, ?_⟩
  rintro g ds wj ⟨far, hg, rfl, hEj, hfar⟩
  have e7 : g 7 = .int .i64 far := by injection hg
  rw [e7]
  refine Vl.lss (Cond_bool (fun h => ?_) (fun h => ?_))
  · have hlt : far < 3 := by have := of_decide_eq_true h; omega
    have hf : (far : Int) = 0 ∨ (far : Int) = 1 ∨ (far : Int) = 2 := by omega
    refine c_laid (j := 0) (fresh0 _ _) (h0.ext hEj) (by omega) fun ρ2 w2 S A hR2 hE2 hA2 hS2 => ?_
    have hE02 := hEj.then hE2
    refine Vl.i (w' := w2) (v := .bool false) (by kernel_rfl) (Cond_bool (fun h => by cases h) fun _ => ?_)
    refine c_In hA2 hS2 (live_mOf _) (by rw [xsOf_len]; omega) (hG.ext hE02) (h1.ext hE02) (by omega) fun w3 hE3 => ?_
    have hE03 := hE02.then hE3
    refine c_ref_In (h0.ext hE03) (h1.ext hE03) (by omega) (by omega) hz hf fun w4 hE4 => ?_
    have hE24 := hE3.then hE4
    rw [sees_mOf]
    refine Vl.bneqSame (Cond_bool (fun h => by cases h) fun _ => ?_)
    refine c_All (hS2.ext hE24) (by rw [xsOf_len]; omega) fun v w5 hr hE5 _ => ?_
    rw [xsOf_len] at hr
    obtain ⟨a, c, rfl, _⟩ := hr.val
    obtain ⟨a', c', rfl⟩ := h0.val
    refine Vl.len (Vl.len (Vl.neq (Cond_bool (fun h => by simp at h) fun _ => Vl.add ⟨⟨far + 1, rfl, rfl, (hE02.then hE24).then hE5, by omega⟩, ?_⟩)))
    show ((3 : Int) - ((far : Int) + 1)).toNat < ((3 : Int) - (far : Int)).toNat; omega
  · refine c_laid (j := 0) (fresh0 _ _) (h0.ext hEj) (by omega) fun ρ2 w2 S1 A1 hR2 hE2 hA2 hS2 => ?_
    have hE02 := hEj.then hE2
    have hF1 : Fresh ρ2 1 w2 := (fresh0 1 _).grow hR2 (by decide)
    refine c_laid (j := 1) hF1 (h0.ext hE02) (by omega) fun ρ4 w4 S2 A2 hR4 hE4 hA4 hS4 => ?_
    have hE04 := hE02.then hE4
    have hA3 := hA2.chg hR4.1 hE4 (fun _ _ => id) (fun _ _ => id)
    have hS3 := hS2.chg hR4.1 hE4 (fun _ _ => id)
    have r1 : ρ4 S1 = some (0, .stk) := by obtain ⟨ov, hS⟩ := hS3; exact hS.role
    have r2 : ρ4 S2 = some (1, .stk) := by obtain ⟨ov, hS⟩ := hS4; exact hS.role
    have n1 : wj.heap.size ≤ S1 := SInv.new (fresh0 0 wj) hR2.1 hS2
    have n2 : w2.heap.size ≤ S2 := SInv.new hF1 hR4.1 hS4
    have z2 := hE2.size
    have zp := (hG.ext hEj).pos
    have hE24 : Ext wj w4 := hE2.then hE4
    refine Vl.i (w' := w4) (v := .bool false) (by kernel_rfl) (Cond_bool (fun h => by cases h) fun _ => ?_)
    refine Vl.i (w' := w4) (v := .bool false) (by kernel_rfl) (Cond_bool (fun h => by cases h) fun _ => ?_)
    refine c_ref_To (h0.ext hE04) (h1.ext hE04) (by omega) (by omega) ?_
    obtain ⟨a0, c0, rfl⟩ := h0.val
    refine ⟨fun g ds w' => g = [] ∧ ds = [] ∧ Ext wj w' ∧ AInv ρ4 1 w' A2 (mOf open_) ∧ SInv ρ4 1 w' S2 A2 (xsOf open_.length), ?_, ?_⟩
    · refine c_PopTo hA3 hS3 (live_mOf _) (by rw [xsOf_len]; omega) (h1.ext hE04) (by omega) fun w5 hC5 hS5 => ?_
      rw [to_mOf] at hS5 ⊢
      have ht := toF_lt names (nmL open_) open_.length
      generalize toF names (nmL open_) open_.length = n at hS5 ht ⊢
      have hEj5 : Ext wj w5 := Chg.newer hE24 hC5 fun x hx e => by have e : x = S1 := e; omega
      have hA5 : AInv ρ4 1 w5 A2 (mOf open_) := hA4.chg (RExt.refl _ _) hC5 (fun b hb e => by
        have e : b = S1 := e
        rw [e, r1] at hb; cases hb) (fun b hb e => by
        have e : b = S1 := e
        obtain ⟨r, h1, h2⟩ := hb
        rw [e, r1] at h1; cases h1)
      have hSt5 : SInv ρ4 1 w5 S2 A2 (xsOf open_.length) := hS4.chg (RExt.refl _ _) hC5 (fun b hb e => by
        have e : b = S1 := e
        rcases hb with hb | hb <;> (rw [e, r1] at hb; cases hb))
      have fin : ∀ w', Ext w5 w' → Ext wj w' ∧ AInv ρ4 1 w' A2 (mOf open_) ∧ SInv ρ4 1 w' S2 A2 (xsOf open_.length) := fun w' hE => ⟨hEj5.then hE, hA5.ext hE, hSt5.ext hE⟩
      refine Vl.geq (Vl.bneqSame (Cond_bool (fun h => by cases h) fun _ => Vl.geq (Cond_bool (fun h => ?_) (fun h => ?_))))
      · have h := of_decide_eq_true h
        have hp : popTo n (xsOf open_.length) = (xsOf open_.length).take n.toNat := by unfold popTo; rw [if_pos h]
        rw [hp] at hS5
        have hl : ((xsOf open_.length).take n.toNat).length = n.toNat := by simp [xsOf_len]; omega
        refine c_All hS5 (by rw [hl]; omega) fun v w6 hr hE6 _ => ?_
        rw [hl] at hr
        obtain ⟨a, c, rfl, _⟩ := hr.val
        refine Vl.len (Vl.neq (Cond_bool (fun h => ?_) fun _ => Vl.lss (Cond_bool (fun h => by have := of_decide_eq_true h; omega) fun _ => ⟨rfl, rfl, fin w6 hE6⟩)))
        have e : ((n.toNat : Nat) : Int) = n := by omega
        rw [e] at h; simp at h
      · have h := of_decide_eq_false h
        have hp : popTo n (xsOf open_.length) = xsOf open_.length := by unfold popTo; rw [if_neg h]
        rw [hp] at hS5
        refine Vl.lss (Cond_bool (fun _ => ?_) fun h => by have := of_decide_eq_false h; omega)
        refine c_All hS5 (by rw [xsOf_len]; omega) fun v w6 hr hE6 _ => ?_
        rw [xsOf_len] at hr
        obtain ⟨a, c, rfl, _⟩ := hr.val
        exact Vl.len (Vl.len (Vl.neq (Cond_bool (fun h => by simp at h) fun _ => ⟨rfl, rfl, fin w6 hE6⟩)))
    · rintro ga dsa w6 ⟨_, rfl, hEj6, hA6, hS6⟩
      have hE06 := hEj.then hEj6
      refine c_Implied hA6 hS6 (live_mOf _) (by rw [xsOf_len]; omega) (hG.ext hE06) (by omega) fun w7 hC7 hS7 => ?_
      rw [imp_mOf] at hS7
      have hle := impF_le but (nmL open_) open_.length
      have hl : ((xsOf open_.length).take (impF but (nmL open_) open_.length)).length = impF but (nmL open_) open_.length := by simp [xsOf_len]; omega
      refine c_All hS7 (by rw [hl]; omega) fun v w8 hr hE8 _ => ?_
      rw [hl] at hr
      obtain ⟨a, c, rfl, _⟩ := hr.val
      have hE78 : Ext wj w8 := Chg.newer hEj6 (hC7.ext hE8) fun x hx e => by have e : x = S2 := e; omega
      refine Vl.len (c_ref_Implied (h0.ext (hEj.then hE78)) (by omega) hz fun w9 hE9 => Vl.eql (Lv.nil ?_))
      have e : decide (((impF but (nmL open_) open_.length : Nat) : Int) = ((impF but (nmL open_) open_.length : Nat) : Int)) = true := decide_eq_true rfl
      rw [e]
      exact k w9 ((hEj.then hE78).then hE9)
end Go.Proofs
