/- Part of the proof of a law of this seat: facts that it uses, each proved here. No conditions. -/
import Derived.Test.YtcapooghkabloaaDoorAr7
namespace Go.Proofs
open Go Go.Eng

/-! ### Which kinds a name is of -/
def inK (i : Nat) (x : ByteArray) : Bool := among (words (klist.getD i ⟨#[]⟩)) x
theorem ofInt_wrap (b : BitVec 64) : BitVec.ofInt 64 (IntKind.i64.wrap (b.toNat : Nat)) = b := by
  apply BitVec.eq_of_toNat_eq
  have := b.isLt
  simp only [IntKind.wrap, IntKind.bits, IntKind.signed, BitVec.toNat_ofInt]
  simp only [Bool.true_and]
  split <;> omega
theorem bor_idem (a s : Int) : bor (bor a s) s = bor a s := by
  unfold bor
  rw [ofInt_wrap]
  rw [BitVec.or_assoc, BitVec.or_self]
def accB (b : Nat → Bool) : Nat → Int
  | 0 => 0
  | i + 1 => if b i = true then bor (accB b i) (shl1 i) else accB b i
theorem kfold (i : Nat) (x : ByteArray) : ∀ (ws : List ByteArray) (acc : Int), ws.foldl (kstep i x) acc = if among ws x = true then bor acc (shl1 i) else acc
  | [], acc => by simp [among]
  | wd :: ws, acc => by
    rw [List.foldl_cons, kfold i x ws]
    unfold kstep
    by_cases h : x = wd
    · subst h
      have : among (x :: ws) x = true := by simp [among]
      rw [if_pos rfl, if_pos this, bor_idem]
      split <;> rfl
    · have : among (wd :: ws) x = among ws x := by simp [among, h]
      rw [if_neg h, this]
theorem kacc_accB (x : ByteArray) : ∀ n, kacc n x = accB (fun i => inK i x) n
  | 0 => rfl
  | n + 1 => by
    show (words (klist.getD n ⟨#[]⟩)).foldl (kstep n x) (kacc n x) = _
    rw [kfold, kacc_accB x n]; rfl
theorem acc10 (b : Nat → Bool) : accB b 10 = accB (fun i => [b 0, b 1, b 2, b 3, b 4, b 5, b 6, b 7, b 8, b 9].getD i false) 10 := rfl
theorem tbl32 : ∀ b0 b1 b2 b3 b4 b5 b6 b7 b8 b9 : Bool, (!decide (band (band (accB (fun i => [b0, b1, b2, b3, b4, b5, b6, b7, b8, b9].getD i false) 10) 32) 1023 = 0)) = b5 := by decide +kernel
theorem tbl128 : ∀ b0 b1 b2 b3 b4 b5 b6 b7 b8 b9 : Bool, (!decide (band (band (accB (fun i => [b0, b1, b2, b3, b4, b5, b6, b7, b8, b9].getD i false) 10) 128) 1023 = 0)) = b7 := by decide +kernel
theorem isKind_scope (x : ByteArray) : isKind x 32 = inK 5 x := by
  unfold isKind
  rw [kacc_accB, acc10]
  exact tbl32 (inK 0 x) (inK 1 x) (inK 2 x) (inK 3 x) (inK 4 x) (inK 5 x) (inK 6 x) (inK 7 x) (inK 8 x) (inK 9 x)
theorem isKind_implied (x : ByteArray) : isKind x 128 = inK 7 x := by
  unfold isKind
  rw [kacc_accB, acc10]
  exact tbl128 (inK 0 x) (inK 1 x) (inK 2 x) (inK 3 x) (inK 4 x) (inK 5 x) (inK 6 x) (inK 7 x) (inK 8 x) (inK 9 x)

/-! ### A word in a list of words -/
def cands : List UInt8 → List (List UInt8)
  | [] => []
  | c :: l => if (c == 32 && l.any (· == 32)) = true then l.takeWhile (· != 32) :: cands l else cands l
theorem cands_cons (c : UInt8) (l : List UInt8) : cands (c :: l) = if (c == 32 && l.any (· == 32)) = true then l.takeWhile (· != 32) :: cands l else cands l := rfl
theorem pre_iff : ∀ (name l : List UInt8), (∀ c ∈ name, c ≠ 32) → (name ++ [32] <+: l ↔ l.takeWhile (· != 32) = name ∧ l.any (· == 32) = true)
  | [], [], _ => by simp
  | [], c :: l, _ => by
    by_cases h : c = 32
    · subst h; simp
    · simp [h]
      intro e; exact absurd e.symm h
  | n :: name, [], _ => by simp
  | n :: name, c :: l, hn => by
    have ih := pre_iff name l fun c hc => hn c (List.mem_cons_of_mem _ hc)
    have h32 : n ≠ 32 := hn n (List.mem_cons_self ..)
    rw [List.cons_append, List.cons_prefix_cons, ih]
    by_cases h : c = 32
    · subst h; simp [h32]
    · simp only [List.takeWhile_cons, List.any_cons]
      simp [h]
      constructor
      · rintro ⟨rfl, rfl, h2⟩; exact ⟨⟨rfl, rfl⟩, h2⟩
      · rintro ⟨⟨rfl, rfl⟩, h2⟩; exact ⟨rfl, rfl, h2⟩
theorem infix_cands (name : List UInt8) (hn : ∀ c ∈ name, c ≠ 32) : ∀ L : List UInt8, (32 :: (name ++ [32])) <:+: L ↔ name ∈ cands L
  | [] => by simp [cands]
  | c :: L => by
    rw [List.infix_cons_iff, infix_cands name hn L, List.cons_prefix_cons, pre_iff name L hn]
    rw [cands_cons]
    by_cases h : (c == 32 && L.any (· == 32)) = true
    · rw [if_pos h]
      simp at h
      obtain ⟨rfl, h2⟩ := h
      rw [List.mem_cons]
      constructor
      · rintro (⟨_, rfl, _⟩ | h)
        · exact .inl rfl
        · exact .inr h
      · rintro (rfl | h)
        · exact .inl ⟨rfl, rfl, by simpa using h2⟩
        · exact .inr h
    · rw [if_neg h]
      constructor
      · rintro (⟨rfl, _, h2⟩ | h3)
        · exact absurd (by simp only [h2]; rfl) h
        · exact h3
      · exact fun h => .inr h
def rl (k : ByteArray) : ByteArray := ⟨(32 :: (k.data.toList ++ [32])).toArray⟩
def rlist : List ByteArray := klist.map rl
theorem cands_words : (List.range 10).all (fun i => decide (cands (rlist.getD i ⟨#[]⟩).data.toList = (words (klist.getD i ⟨#[]⟩)).map fun x => x.data.toList)) = true := by decide +kernel
theorem words_good : (List.range 10).all (fun i => (words (klist.getD i ⟨#[]⟩)).all fun x => x.data.toList.all (· != 32) && decide (0 < x.size)) = true := by decide +kernel
end Go.Proofs
