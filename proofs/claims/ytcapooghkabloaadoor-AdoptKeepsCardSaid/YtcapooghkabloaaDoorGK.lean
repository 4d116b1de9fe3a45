/- Part of the proof of a law of this seat: facts that it uses, each proved here. No conditions. -/
import Derived.Test.YtcapooghkabloaaDoorGMem
import Derived.Test.YtcapooghkabloaaDoorGSh
namespace Go.Proofs
open Go Go.Eng

/-! ### strings.FieldsSeq, of texts of ASCII characters -/
/-- Is a byte a blank? -/
def spc (c : UInt8) : Bool := c == 9 || c == 10 || c == 11 || c == 12 || c == 13 || c == 32
/-- The table of blanks, in memory. -/
def Glob (w : World) : Prop := ∀ c : UInt8, w.cell? ⟨0, c.toNat, none⟩ = some (.int .u8 (if spc c then 1 else 0))
theorem Glob.chg {S : Nat → Prop} {w w' : World} (h : Glob w) (c : Chg S w w') (hn : ¬ S 0) : Glob w' := by
  intro x
  rw [← h x]
  have h0 : 0 < w.heap.size := World.block_lt_of_cell? w _ (h x)
  exact World.cell?_of_block (w := w) (c.same 0 h0 hn)
theorem Glob.ext {w w' : World} (h : Glob w) (c : Ext w w') : Glob w' := h.chg c id

def wordsFrom (s : ByteArray) : Nat → Int → Nat → List ByteArray
  | 0, st, _ => if 0 ≤ st then [s.extract st.toNat s.size] else []
  | n + 1, st, i => if spc (s.get! i) then (if 0 ≤ st then s.extract st.toNat i :: wordsFrom s n (-1) (i + 1) else wordsFrom s n (-1) (i + 1))
      else wordsFrom s n (if st < 0 then i else st) (i + 1)
def words (s : ByteArray) : List ByteArray := wordsFrom s s.size (-1) 0

def ascii (s : ByteArray) : Prop := ∀ i (h : i < s.size), s[i].toNat < 128

theorem wrap32_in {n : Int} (h0 : -2147483648 ≤ n) (h1 : n ≤ 2147483647) : IntKind.i32.wrap n = n := by
  simp [IntKind.wrap, IntKind.bits, IntKind.signed]; omega

theorem iter_FieldsSeq_1 {s : ByteArray} {bx : Nat} (hs : ascii s) (hsz : s.size < 1000000000) :
    Iter Tryd.prog n_strings_FieldsSeq_1 #[.pointer (some ⟨bx, 0, none⟩)] ((words s).map fun x => #[.string x]) (fun w => Cl w bx 9 [.string s] ∧ Glob w) := by
  intro l J Jx w h0 hpre hY
  refine CallF.enter (by intro a w; kernel_rfl) (L_strings_FieldsSeq_1 _ _ _ _ ?_)
  unfold S_strings_FieldsSeq_1
  refine ⟨fun a ds w => ∃ (st : Int) (i k : Nat), a = [.int .i64 st, .int .i64 i] ∧ ds = [] ∧ i ≤ s.size ∧ -1 ≤ st ∧ st ≤ i ∧ J k w ∧ k ≤ (words s).length ∧ wordsFrom s (s.size - i) st i = (words s).drop k,
    fun a _ => (s.size - intAt a 1).toNat, ⟨-1, 0, 0, rfl, rfl, by omega, by omega, by omega, h0, by omega, by simp [words]⟩, ?_⟩
  rintro g ds wa ⟨st, i, k, ha, rfl, hi, hst, hsti, hJ, hk, hw⟩
  have e3 : g 3 = .int .i64 st := by injection ha
  have e4 : g 4 = .int .i64 i := by injection ha with _ h; injection h
  rw [e3, e4]
  obtain ⟨hc, hG⟩ := hpre _ _ hJ
  refine Vl.ld hc rfl (Vl.lenS (Vl.lss (Cond_bool (fun hlt => ?_) (fun hge => ?_))))
  · have hlt : i < s.size := by simpa using hlt
    have hb : s.get! i = s[i] := by simp [ByteArray.get!, hlt]; rfl
    refine Vl.ld hc rfl (Vl.ixS hlt (Vl.conv .i32 (Vl.ld hc rfl (Vl.ixS hlt (Vl.ixA 256 1 (by omega) (by have := s[i].toNat_lt; omega) (Vl.lda (v := .int .u8 (if spc s[i] then 1 else 0)) ?_ (Vl.neq ?_)))))))
    · have := hG s[i]
      simpa using this
    · refine ⟨fun a ds w => a = [.int .i64 1, .bool (spc s[i])] ∧ ds = [] ∧ w = wa, ?_, ?_⟩
      · refine Vl.geq (Cond_bool (fun h => ?_) (fun _ => ⟨?_, rfl, rfl⟩))
        · have h := of_decide_eq_true h
          have h1 := hs i hlt
          rw [wrap32_in (by omega) (by omega)] at h
          omega
        · cases spc s[i] <;> rfl
      · rintro ga dsa wm ⟨hga, rfl, rfl⟩
        have e5 : ga 5 = .int .i64 1 := by injection hga
        have e7 : ga 7 = .bool (spc s[i]) := by injection hga with _ h; injection h
        rw [e5, e7]
        have hstep : s.size - i = (s.size - (i + 1)) + 1 := by omega
        rw [hstep, wordsFrom, hb] at hw
        -- the state behind this byte
        have fin : ∀ (st' : Int) (k' : Nat) (w' : World), -1 ≤ st' → st' ≤ i + 1 → J k' w' → k' ≤ (words s).length → wordsFrom s (s.size - (i + 1)) st' (i + 1) = (words s).drop k' →
            ∀ (gb : Nat → Value) (dsb : List Deferred), gb 3 = .int .i64 st' → dsb = [] →
            Vl Tryd.prog (binop BinOp.add 3 (Operand.tmp 46) (Operand.tmp 47) (.int .i64 i) (.int .i64 1)) w' fun v48 w_29 =>
              (∃ (st : Int) (i k : Nat), [gb 3, v48] = [.int .i64 st, .int .i64 i] ∧ dsb = [] ∧ i ≤ s.size ∧ -1 ≤ st ∧ st ≤ i ∧ J k w_29 ∧ k ≤ (words s).length ∧ wordsFrom s (s.size - i) st i = (words s).drop k) ∧
              ((s.size : Int) - intAt [gb 3, v48] 1).toNat < ((s.size : Int) - intAt [.int .i64 st, .int .i64 i] 1).toNat := by
          intro st' k' w' h1 h2 h3 h4 h5 gb dsb h6 h7
          subst h7
          rw [h6]
          exact Vl.add ⟨⟨st', i + 1, k', rfl, rfl, hlt, h1, by omega, h3, h4, h5⟩, by show ((s.size : Int) - ((i : Int) + 1)).toNat < ((s.size : Int) - (i : Int)).toNat; omega⟩
        cases hsp : spc s[i] with
        | true =>
          rw [hsp, if_pos rfl] at hw
          by_cases hst0 : 0 ≤ st
          · rw [if_pos hst0] at hw
            have hk' : k < (words s).length := by
              rw [← Nat.not_le]; intro hle; rw [List.drop_eq_nil_of_le hle] at hw; cases hw
            have hw1 : (words s)[k] = s.extract st.toNat i ∧ wordsFrom s (s.size - (i + 1)) (-1) (i + 1) = (words s).drop (k + 1) := by
              rw [List.drop_eq_getElem_cons hk'] at hw
              injection hw with h1 h2
              exact ⟨h1.symm, h2⟩
            refine ⟨fun a ds w => a = [.int .i64 (-1)] ∧ ds = [] ∧ J (k + 1) w, ?_, ?_⟩
            · refine Vl.geq (Cond_bool (fun _ => ?_) (fun h => absurd hst0 (of_decide_eq_false h)))
              refine Vl.ld hc rfl ?_
              obtain ⟨stn, rfl⟩ := Int.eq_ofNat_of_zero_le hst0
              refine Vl.sliceS stn i (.inr rfl) (.inr rfl) (by omega) (by omega) (Cv.yield ?_)
              have hy := hY k (by simpa using hk') wm hJ
              simp only [List.getElem_map, hw1.1, Int.toNat_natCast] at hy
              refine hy.mono ?_
              rintro v w' (⟨rfl, hJ'⟩ | ⟨rfl, hx⟩)
              · exact Vl.not ⟨rfl, rfl, hJ'⟩
              · exact Vl.not (Lv.nil (.inr hx))
            · rintro gb dsb wu ⟨hgb, rfl, hJ'⟩
              exact fin (-1) (k + 1) wu (by omega) (by omega) hJ' hk' hw1.2 gb [] (by injection hgb) rfl
          · rw [if_neg hst0] at hw
            refine ⟨fun a ds w => a = [.int .i64 st] ∧ ds = [] ∧ w = wm, ?_, ?_⟩
            · exact Vl.geq (Cond_bool (fun h => absurd (of_decide_eq_true h) hst0) (fun _ => ⟨rfl, rfl, rfl⟩))
            · rintro gb dsb wu ⟨hgb, rfl, rfl⟩
              have e : st = -1 := by omega
              refine fin (-1) k wu (by omega) (by omega) hJ hk hw gb [] (by rw [← e]; injection hgb) rfl
        | false =>
          rw [hsp, if_neg (by simp)] at hw
          refine ⟨fun a ds w => a = [.int .i64 (if st < 0 then i else st)] ∧ ds = [] ∧ w = wm, ?_, ?_⟩
          · refine Vl.lss (Cond_bool (fun h => ⟨?_, rfl, rfl⟩) (fun h => ⟨?_, rfl, rfl⟩))
            · rw [if_pos (of_decide_eq_true h)]
            · rw [if_neg (of_decide_eq_false h)]
          · rintro gb dsb wu ⟨hgb, rfl, rfl⟩
            refine fin _ k wu ?_ ?_ hJ hk hw gb [] (by injection hgb) rfl
            · split <;> omega
            · split <;> omega
  · have hge : ¬ i < s.size := by simpa using hge
    have hw0 : s.size - i = 0 := by omega
    rw [hw0, wordsFrom] at hw
    refine Vl.geq (Cond_bool (fun h => ?_) (fun h => Lv.nil (.inl ?_)))
    · have hst0 := of_decide_eq_true h
      rw [if_pos hst0] at hw
      have hk' : k < (words s).length := by
        rw [← Nat.not_le]; intro hle; rw [List.drop_eq_nil_of_le hle] at hw; cases hw
      have hw1 : (words s)[k] = s.extract st.toNat s.size ∧ (words s).length = k + 1 := by
        rw [List.drop_eq_getElem_cons hk'] at hw
        injection hw with h1 h2
        refine ⟨h1.symm, ?_⟩
        have := congrArg List.length h2
        simp at this; omega
      refine Vl.ld hc rfl ?_
      obtain ⟨stn, rfl⟩ := Int.eq_ofNat_of_zero_le hst0
      refine Vl.sliceS stn s.size (.inr rfl) (.inl ⟨rfl, rfl⟩) (by omega) (by omega) (Cv.yield ?_)
      have hy := hY k (by simpa using hk') wa hJ
      simp only [List.getElem_map, hw1.1, Int.toNat_natCast] at hy
      refine hy.mono ?_
      rintro v w' (⟨rfl, hJ'⟩ | ⟨rfl, hx⟩)
      · refine Lv.nil (.inl ?_); simpa [hw1.2] using hJ'
      · exact Lv.nil (.inr hx)
    · rw [if_neg (of_decide_eq_false h)] at hw
      have : (words s).length ≤ k := by
        have := congrArg List.length hw; simp at this; omega
      have e : k = (words s).length := by omega
      simpa [e] using hJ
end Go.Proofs
namespace Go.Proofs
open Go Go.Eng

/-! ### Package kind -/
def kl0 : ByteArray := ⟨#[97, 114, 101, 97, 32, 98, 97, 115, 101, 32, 98, 97, 115, 101, 102, 111, 110, 116, 32, 98, 103, 115, 111, 117, 110, 100, 32, 98, 114, 32, 101, 109, 98, 101, 100, 32, 104, 114, 32, 105, 109, 103, 32, 105, 110, 112, 117, 116, 32, 107, 101, 121, 103, 101, 110, 32, 108, 105, 110, 107, 32, 109, 101, 116, 97, 32, 112, 97, 114, 97, 109, 32, 115, 111, 117, 114, 99, 101, 32, 116, 114, 97, 99, 107, 32, 119, 98, 114]⟩
def kl1 : ByteArray := ⟨#[97, 100, 100, 114, 101, 115, 115, 32, 97, 114, 116, 105, 99, 108, 101, 32, 97, 115, 105, 100, 101, 32, 98, 108, 111, 99, 107, 113, 117, 111, 116, 101, 32, 99, 101, 110, 116, 101, 114, 32, 100, 100, 32, 100, 101, 116, 97, 105, 108, 115, 32, 100, 105, 97, 108, 111, 103, 32, 100, 105, 114, 32, 100, 105, 118, 32, 100, 108, 32, 100, 116, 32, 102, 105, 101, 108, 100, 115, 101, 116, 32, 102, 105, 103, 99, 97, 112, 116, 105, 111, 110, 32, 102, 105, 103, 117, 114, 101, 32, 102, 111, 111, 116, 101, 114, 32, 102, 111, 114, 109, 32, 104, 49, 32, 104, 50, 32, 104, 51, 32, 104, 52, 32, 104, 53, 32, 104, 54, 32, 104, 101, 97, 100, 101, 114, 32, 104, 103, 114, 111, 117, 112, 32, 104, 114, 32, 108, 105, 32, 108, 105, 115, 116, 105, 110, 103, 32, 109, 97, 105, 110, 32, 109, 101, 110, 117, 32, 110, 97, 118, 32, 111, 108, 32, 112, 32, 112, 108, 97, 105, 110, 116, 101, 120, 116, 32, 112, 114, 101, 32, 115, 101, 99, 116, 105, 111, 110, 32, 115, 117, 109, 109, 97, 114, 121, 32, 116, 97, 98, 108, 101, 32, 117, 108, 32, 120, 109, 112]⟩
def kl2 : ByteArray := ⟨#[104, 49, 32, 104, 50, 32, 104, 51, 32, 104, 52, 32, 104, 53, 32, 104, 54]⟩
def kl3 : ByteArray := ⟨#[97, 32, 98, 32, 98, 105, 103, 32, 99, 111, 100, 101, 32, 101, 109, 32, 102, 111, 110, 116, 32, 105, 32, 110, 111, 98, 114, 32, 115, 32, 115, 109, 97, 108, 108, 32, 115, 116, 114, 105, 107, 101, 32, 115, 116, 114, 111, 110, 103, 32, 116, 116, 32, 117]⟩
def kl4 : ByteArray := ⟨#[97, 100, 100, 114, 101, 115, 115, 32, 97, 112, 112, 108, 101, 116, 32, 97, 114, 101, 97, 32, 97, 114, 116, 105, 99, 108, 101, 32, 97, 115, 105, 100, 101, 32, 98, 97, 115, 101, 32, 98, 97, 115, 101, 102, 111, 110, 116, 32, 98, 103, 115, 111, 117, 110, 100, 32, 98, 108, 111, 99, 107, 113, 117, 111, 116, 101, 32, 98, 114, 32, 98, 117, 116, 116, 111, 110, 32, 99, 101, 110, 116, 101, 114, 32, 100, 100, 32, 100, 101, 116, 97, 105, 108, 115, 32, 100, 105, 114, 32, 100, 105, 118, 32, 100, 108, 32, 100, 116, 32, 101, 109, 98, 101, 100, 32, 102, 105, 101, 108, 100, 115, 101, 116, 32, 102, 105, 103, 99, 97, 112, 116, 105, 111, 110, 32, 102, 105, 103, 117, 114, 101, 32, 102, 111, 111, 116, 101, 114, 32, 102, 111, 114, 109, 32, 104, 49, 32, 104, 50, 32, 104, 51, 32, 104, 52, 32, 104, 53, 32, 104, 54, 32, 104, 101, 97, 100, 101, 114, 32, 104, 103, 114, 111, 117, 112, 32, 104, 114, 32, 105, 102, 114, 97, 109, 101, 32, 105, 109, 103, 32, 105, 110, 112, 117, 116, 32, 107, 101, 121, 103, 101, 110, 32, 108, 105, 32, 108, 105, 110, 107, 32, 108, 105, 115, 116, 105, 110, 103, 32, 109, 97, 105, 110, 32, 109, 97, 114, 113, 117, 101, 101, 32, 109, 101, 110, 117, 32, 109, 101, 116, 97, 32, 110, 97, 118, 32, 110, 111, 101, 109, 98, 101, 100, 32, 110, 111, 102, 114, 97, 109, 101, 115, 32, 111, 98, 106, 101, 99, 116, 32, 111, 108, 32, 112, 32, 112, 97, 114, 97, 109, 32, 112, 108, 97, 105, 110, 116, 101, 120, 116, 32, 112, 114, 101, 32, 115, 99, 114, 105, 112, 116, 32, 115, 101, 99, 116, 105, 111, 110, 32, 115, 101, 108, 101, 99, 116, 32, 115, 111, 117, 114, 99, 101, 32, 115, 116, 121, 108, 101, 32, 115, 117, 109, 109, 97, 114, 121, 32, 116, 97, 98, 108, 101, 32, 116, 101, 109, 112, 108, 97, 116, 101, 32, 116, 101, 120, 116, 97, 114, 101, 97, 32, 116, 105, 116, 108, 101, 32, 116, 114, 97, 99, 107, 32, 117, 108, 32, 119, 98, 114, 32, 120, 109, 112]⟩
def kl5 : ByteArray := ⟨#[97, 112, 112, 108, 101, 116, 32, 109, 97, 114, 113, 117, 101, 101, 32, 111, 98, 106, 101, 99, 116, 32, 116, 97, 98, 108, 101, 32, 116, 101, 109, 112, 108, 97, 116, 101]⟩
def kl6 : ByteArray := ⟨#[98, 111, 100, 121, 32, 99, 97, 112, 116, 105, 111, 110, 32, 99, 111, 108, 32, 99, 111, 108, 103, 114, 111, 117, 112, 32, 102, 114, 97, 109, 101, 32, 102, 114, 97, 109, 101, 115, 101, 116, 32, 104, 101, 97, 100, 32, 104, 116, 109, 108, 32, 116, 98, 111, 100, 121, 32, 116, 100, 32, 116, 102, 111, 111, 116, 32, 116, 104, 32, 116, 104, 101, 97, 100, 32, 116, 114]⟩
def kl7 : ByteArray := ⟨#[100, 100, 32, 100, 116, 32, 108, 105, 32, 111, 112, 116, 103, 114, 111, 117, 112, 32, 111, 112, 116, 105, 111, 110, 32, 112, 32, 114, 98, 32, 114, 112, 32, 114, 116, 32, 114, 116, 99]⟩
def kl8 : ByteArray := ⟨#[97, 112, 112, 108, 101, 116, 32, 109, 97, 114, 113, 117, 101, 101, 32, 111, 98, 106, 101, 99, 116]⟩
def kl9 : ByteArray := ⟨#[97, 32, 97, 98, 98, 114, 32, 97, 100, 100, 114, 101, 115, 115, 32, 97, 114, 116, 105, 99, 108, 101, 32, 97, 115, 105, 100, 101, 32, 98, 32, 98, 100, 105, 32, 98, 100, 111, 32, 98, 105, 103, 32, 98, 108, 111, 99, 107, 113, 117, 111, 116, 101, 32, 98, 114, 32, 99, 101, 110, 116, 101, 114, 32, 99, 105, 116, 101, 32, 99, 111, 100, 101, 32, 100, 100, 32, 100, 101, 108, 32, 100, 102, 110, 32, 100, 105, 114, 32, 100, 105, 118, 32, 100, 108, 32, 100, 116, 32, 101, 109, 32, 102, 105, 103, 99, 97, 112, 116, 105, 111, 110, 32, 102, 105, 103, 117, 114, 101, 32, 102, 111, 110, 116, 32, 102, 111, 111, 116, 101, 114, 32, 104, 49, 32, 104, 50, 32, 104, 51, 32, 104, 52, 32, 104, 53, 32, 104, 54, 32, 104, 101, 97, 100, 101, 114, 32, 104, 114, 32, 105, 32, 105, 109, 103, 32, 105, 110, 115, 32, 107, 98, 100, 32, 108, 105, 32, 109, 97, 105, 110, 32, 109, 97, 114, 107, 32, 110, 97, 118, 32, 111, 108, 32, 112, 32, 112, 114, 101, 32, 113, 32, 115, 32, 115, 97, 109, 112, 32, 115, 101, 99, 116, 105, 111, 110, 32, 115, 109, 97, 108, 108, 32, 115, 112, 97, 110, 32, 115, 116, 114, 105, 107, 101, 32, 115, 116, 114, 111, 110, 103, 32, 115, 117, 98, 32, 115, 117, 112, 32, 116, 105, 109, 101, 32, 116, 116, 32, 117, 32, 117, 108, 32, 118, 97, 114, 32, 119, 98, 114]⟩
def klist : List ByteArray := [kl0, kl1, kl2, kl3, kl4, kl5, kl6, kl7, kl8, kl9]
theorem c_kind_lists {w : World} {K : Value → World → Prop} (k : ∀ w', Ext w w' → K (.agg (klist.map Value.string).toArray) w') : Cf Tryd.prog n_kind_lists #[] w K := by
  refine L_kind_lists _ _ ?_
  unfold S_kind_lists
  refine Vl.alloc (z := .agg (Array.replicate 10 (.string ⟨#[]⟩))) (by intro w; kernel_rfl) fun w1 h1 => ?_
  refine Vl.i (w' := w1) (v := .agg (klist.map Value.string).toArray) (by kernel_rfl) ?_
  have hc : Cl w1 w.heap.size 134 (List.replicate 10 (.string ⟨#[]⟩)) := h1.new
  refine Ef.setA (n := 10) hc rfl (by simp) (by intro v hv; simp [klist] at hv; rcases hv with rfl | rfl | rfl | rfl | rfl | rfl | rfl | rfl | rfl | rfl <;> trivial) fun w2 h2 => ?_
  refine Rs.ldA 10 h2.cl (by simp [klist]) ?_
  exact k w2 (Chg.newer h1.ext h2.chg fun x hx e => by omega)
end Go.Proofs
namespace Go.Eng
open Go
def bor (a b : Int) : Int := IntKind.i64.wrap ((BitVec.ofInt 64 a ||| BitVec.ofInt 64 b).toNat : Nat)
def band (a b : Int) : Int := IntKind.i64.wrap ((BitVec.ofInt 64 a &&& BitVec.ofInt 64 b).toNat : Nat)
def shl1 (i : Nat) : Int := IntKind.i64.wrap (1 * 2 ^ (min i 64))
section
variable {P : Program} {w : World} {T : Nat} {x y : Operand} {K : Value → World → Prop}
theorem bo_or {a b : Int} : (binop .or T x y (.int .i64 a) (.int .i64 b)).run P w = .ok (.int .i64 (bor a b)) w := rfl
theorem bo_and {a b : Int} : (binop .and T x y (.int .i64 a) (.int .i64 b)).run P w = .ok (.int .i64 (band a b)) w := rfl
theorem bo_shl {i : Nat} : (binop .shl T x y (.int .i64 1) (.int .i64 i)).run P w = .ok (.int .i64 (shl1 i)) w := by
  show (Op.shift .shl .i64 1 .i64 (i : Int)).run P w = _
  unfold Op.shift
  rw [if_neg (by omega)]
  rfl

/-- What is no block of deferred calls stays. -/
structure DefStep (w w' : World) : Prop where
  os : w'.os = w.os
  tape : w'.tape = w.tape
  output : w'.output = w.output
  size : w'.heap.size = w.heap.size
  same : ∀ b : Nat, (∀ c : Option (List Deferred), w.heap[b]? ≠ some (.deferred c)) → w'.heap[b]? = w.heap[b]?
theorem DefStep.refl (w : World) : DefStep w w := ⟨rfl, rfl, rfl, rfl, fun _ _ => rfl⟩
theorem Cl.defStep {w w' : World} {b T : Nat} {cs : List Value} (h : Cl w b T cs) (s : DefStep w w') : Cl w' b T cs :=
  (s.same b fun c e => by unfold Cl at h; rw [h] at e; cases e).trans h
theorem Mp.defStep {w w' : World} {b : Nat} {f : ByteArray → Option Int} (h : Mp w b f) (s : DefStep w w') : Mp w' b f := by
  obtain ⟨es, c, hb, hr⟩ := h
  exact ⟨es, c, (s.same b fun c e => by rw [hb] at e; cases e).trans hb, hr⟩
/-- The marks of a function's range statements, laid since w0. -/
def Marks (w0 : World) (ds : List Deferred) (w : World) : Prop :=
  ∃ Ds : List Nat, ds = Ds.map mark ∧ Ds.Nodup ∧ ∀ D ∈ Ds, w0.heap.size ≤ D ∧ w.heap[D]? = some (.deferred (some []))
theorem Marks.nil (w0 w : World) : Marks w0 [] w := ⟨[], rfl, List.nodup_nil, fun _ h => by cases h⟩
theorem Marks.cons {w0 : World} {ds : List Deferred} {w1 w2 : World} (h : Marks w0 ds w1) (hs : w0.heap.size ≤ w1.heap.size) (hk : ∀ b : Nat, w1.heap[b]? = some (.deferred (some [])) → w2.heap[b]? = some (.deferred (some [])))
    (hd : w2.heap[w1.heap.size]? = some (.deferred (some []))) : Marks w0 (mark w1.heap.size :: ds) w2 := by
  obtain ⟨Ds, rfl, hn, ha⟩ := h
  refine ⟨w1.heap.size :: Ds, rfl, List.nodup_cons.2 ⟨fun hm => ?_, hn⟩, fun D hD => ?_⟩
  · have := (Array.getElem?_eq_some_iff.1 (ha _ hm).2).1; omega
  · rcases List.mem_cons.1 hD with rfl | hD
    · exact ⟨hs, hd⟩
    · exact ⟨(ha D hD).1, hk D (ha D hD).2⟩
theorem Marks.keep {w0 : World} {ds : List Deferred} {w1 w2 : World} (h : Marks w0 ds w1) (hk : ∀ b : Nat, w1.heap[b]? = some (.deferred (some [])) → w2.heap[b]? = some (.deferred (some []))) : Marks w0 ds w2 := by
  obtain ⟨Ds, e, hn, ha⟩ := h
  exact ⟨Ds, e, hn, fun D hD => ⟨(ha D hD).1, hk D (ha D hD).2⟩⟩
theorem Lv.marks {w0 : World} {K : World → Prop} : ∀ {ds : List Deferred} {w : World}, Marks w0 ds w → (∀ w', DefStep w w' → Chg (fun k => w0.heap.size ≤ k) w w' → K w') → Lv ds w K := by
  intro ds w ⟨Ds, e, hn, ha⟩
  subst e
  induction Ds generalizing w with
  | nil => exact fun k => Lv.nil (k w (DefStep.refl w) (Chg.refl _ _))
  | cons D Ds ih =>
    intro k
    have hD := ha D (by simp)
    refine Lv.cons hD.2 fun w' hc hsz hsame => ih (List.nodup_cons.1 hn).2 (fun D' hD' => ?_) fun w2 hs2 hc2 => k w2 ?_ ?_
    · have hne : D' ≠ D := fun e => (List.nodup_cons.1 hn).1 (e ▸ hD')
      exact ⟨(ha D' (List.mem_cons_of_mem _ hD')).1, (hsame D' hne).trans (ha D' (List.mem_cons_of_mem _ hD')).2⟩
    · refine ⟨hs2.os.trans hc.os, hs2.tape.trans hc.tape, hs2.output.trans hc.output, hs2.size.trans hsz, fun b hb => ?_⟩
      have hne : b ≠ D := fun e => hb _ (e ▸ hD.2)
      rw [hs2.same b (fun c => by rw [hsame b hne]; exact hb c), hsame b hne]
    · exact (hc.trans hc2).mono fun x _ e => e.elim (fun h => h ▸ hD.1) id
end
end Go.Eng
namespace Go.Proofs
open Go Go.Eng

def kstep (i : Nat) (x : ByteArray) (acc : Int) (wd : ByteArray) : Int := if x = wd then bor acc (shl1 i) else acc
def kacc : Nat → ByteArray → Int
  | 0, _ => 0
  | n + 1, x => (words (klist.getD n ⟨#[]⟩)).foldl (kstep n x) (kacc n x)

theorem c_strings_FieldsSeq {w : World} {s : ByteArray} {K : Value → World → Prop} (k : ∀ w', Nw w w' (.cells [Value.string s].toArray 9) → K (.func (.func n_strings_FieldsSeq_1) #[] #[.pointer (some ⟨w.heap.size, 0, none⟩)]) w') :
    Cf Tryd.prog n_strings_FieldsSeq #[.string s] w K := by
  refine L_strings_FieldsSeq _ _ _ ?_
  unfold S_strings_FieldsSeq
  exact Vl.box1 trivial fun w1 h1 => Vl.i (w' := w1) rfl (k w1 h1)

theorem klist_ascii : ∀ s ∈ klist, ascii s ∧ s.size < 1000000000 := by
  have : ∀ s ∈ klist, (s.data.all fun c => decide (c.toNat < 128)) = true ∧ decide (s.size < 1000000000) = true := by decide +kernel
  intro s hs
  obtain ⟨h1, h2⟩ := this s hs
  refine ⟨fun i hi => ?_, of_decide_eq_true h2⟩
  have := (Array.all_eq_true.1 h1) i hi
  exact of_decide_eq_true this

theorem c_kind_kinds {w : World} {K : Value → World → Prop} (hG : Glob w)
    (k : ∀ w' b f, Ext w w' → w.heap.size ≤ b → Mp w' b f → (∀ x, (f x).getD 0 = kacc 10 x) → K (.map (some b)) w') : Cf Tryd.prog n_kind_kinds #[] w K := by
  refine L_kind_kinds _ _ ?_
  unfold S_kind_kinds
  refine Vl.i (v := .map (some w.heap.size)) (w' := w.alloc (.map #[] 0)) rfl ?_
  have hn0 := nw_alloc w (.map #[] 0)
  generalize w.alloc (.map #[] 0) = w0 at hn0
  have hM0 : Mp w0 w.heap.size (fun _ => none) := ⟨#[], 0, hn0.new, fun e he => by simp at he, fun s => rfl⟩
  refine Vl.alloc (z := .map none) (by intro w; kernel_rfl) fun w1 h1 => ?_
  have hc1 : Cl w1 w0.heap.size 122 [.map none] := h1.new
  refine Ef.set hc1 (by simp) fun w2 h2 => ?_
  have hs0 : w0.heap.size = w.heap.size + 1 := hn0.size
  have hc2 : Cl w2 w0.heap.size 122 [.map (some w.heap.size)] := h2.cl
  have hM2 : Mp w2 w.heap.size (fun _ => none) := (hM0.ext h1.ext).chg h2.chg (by omega)
  have hE2 : Ext w w2 := Chg.newer (hn0.ext.then h1.ext) h2.chg fun x hx e => by omega
  refine c_kind_lists fun w3 h3 => ?_
  refine ⟨fun a ds w' => ∃ (i : Nat) (f : ByteArray → Option Int), a = [.int .i64 i] ∧ i ≤ 10 ∧ Cl w' w0.heap.size 122 [.map (some w.heap.size)] ∧ Mp w' w.heap.size f ∧ (∀ x, (f x).getD 0 = kacc i x) ∧ Ext w w' ∧ Marks w ds w',
    fun a _ => (10 - intAt a 0).toNat, ⟨0, _, rfl, by omega, hc2.ext h3, hM2.ext h3, fun x => rfl, hE2.then h3, Marks.nil _ _⟩, ?_⟩
  rintro g ds wa ⟨i, f, ha, hi, hc, hM, hf, hE, hMk⟩
  have e7 : g 7 = .int .i64 i := by injection ha
  rw [e7]
  refine Vl.lss (Cond_bool (fun h => ?_) (fun h => ?_))
  · have hlt : i < 10 := by have := of_decide_eq_true h; omega
    have hG' := hG.ext hE
    -- the list of this kind
    refine Vl.ixV 10 (v := .string (klist.getD i ⟨#[]⟩)) hlt ?_ ?_
    · have : i < klist.length := hlt
      simp [List.getD, List.getElem?_eq_getElem this]
    have hin : klist.getD i ⟨#[]⟩ ∈ klist := by
      have : i < klist.length := hlt
      simp [List.getD, List.getElem?_eq_getElem this]
    obtain ⟨hasc, hsz⟩ := klist_ascii _ hin
    have hka : kacc (i + 1) = fun x => (words (klist.getD i ⟨#[]⟩)).foldl (kstep i x) (kacc i x) := rfl
    generalize klist.getD i ⟨#[]⟩ = s at *
    refine Vl.alloc (z := .int .i64 0) (by intro w; kernel_rfl) fun wb hb => ?_
    have hcb : Cl wb wa.heap.size 3 [.int .i64 0] := hb.new
    refine Ef.set hcb (by simp) fun wc hwc => ?_
    have hEc : Ext wa wc := Chg.newer hb.ext hwc.chg fun x hx e => by omega
    refine c_strings_FieldsSeq fun wd hwd => ?_
    have hEd := hEc.then hwd.ext
    have hcd : Cl wd wa.heap.size 3 [.int .i64 i] := Cl.nw hwc.cl hwd
    have hcx : Cl wd wc.heap.size 9 [.string s] := hwd.cl
    have hltm := hM.lt
    have hltc := hc.lt
    have hszd : wd.heap.size = wa.heap.size + 2 := by rw [hwd.size, hwc.size, hb.size]
    have hszc : wc.heap.size = wa.heap.size + 1 := by rw [hwc.size, hb.size]
    have hwsz := hE.size
    refine Rf.iter (iter_FieldsSeq_1 hasc hsz) (by intro x hx; obtain ⟨y, _, rfl⟩ := List.mem_map.1 hx; rfl)
      (fun k w' => Cl w' w0.heap.size 122 [.map (some w.heap.size)] ∧ Cl w' wa.heap.size 3 [.int .i64 i] ∧ Cl w' wc.heap.size 9 [.string s] ∧ Ext w w' ∧ wd.heap.size + 2 ≤ w'.heap.size ∧
        (∀ b : Nat, wd.heap[b]? = some (.deferred (some [])) → w'.heap[b]? = some (.deferred (some []))) ∧
        ∃ f', Mp w' w.heap.size f' ∧ ∀ x, (f' x).getD 0 = ((words s).take k).foldl (kstep i x) (kacc i x))
      (fun _ _ => False) ?_ (fun _ _ _ h _ => h) ?_ ?_ ?_ ?_ (fun _ h => h.elim) (fun _ _ h => h.elim)
    · rintro k w1 w2 ⟨q1, q2, q3, q4, q5, q6, f', q7, q8⟩ hls
      refine ⟨q1.loopStep hls, q2.loopStep hls, q3.loopStep hls, Chg.newer q4 hls.chg fun x hx e => by omega, by rw [hls.size]; exact q5, fun b hb => ?_, f', q7.loopStep hls, q8⟩
      rw [hls.same b fun e => by
        have := (Array.getElem?_eq_some_iff.1 hb).1; omega]
      exact q6 b hb
    · rintro k w1 ⟨_, _, q3, q4, _⟩
      exact ⟨q3, hG.ext q4⟩
    · rintro w1 h1 hs1
      exact ⟨(hc.ext hEd).ext h1, hcd.ext h1, hcx.ext h1, (hE.then hEd).then h1, by omega, fun b hb => (h1.same b (Array.getElem?_eq_some_iff.1 hb).1 id).trans hb, f, (hM.ext hEd).ext h1, fun x => by rw [hf]; rfl⟩
    · rintro k hk w1 Bg Kn Kr Kx wz ⟨q1, q2, q3, q4, q5, q6, f', q7, q8⟩ hd hl hn _ _ hB
      refine hB _ ?_
      have hk' : k < (words s).length := by simpa using hk
      refine ⟨fun x => x.heap = w1.heap, rfl, ?_⟩
      have hsame : ∀ x : World, x.heap = w1.heap → Ext w1 { w1 with heap := x.heap } := fun x hx => by rw [hx]; exact Chg.refl _ _
      have hcl : ∀ {b T cs}, Cl w1 b T cs → ∀ x : World, x.heap = w1.heap → Cl x b T cs := fun h x hx => by unfold Cl at *; rw [hx]; exact h
      refine VQ.ld (v := .map (some w.heap.size)) (fun x hx => (hcl q1 x hx).cell rfl) ?_
      have ea : (fun i => (((words s).map fun x => #[Value.string x])[k]).toList.getD i undef) 0 = .string ((words s)[k]) := by simp
      rw [ea]
      refine VQ.lookM (fun x hx => q7.same hx) ?_
      refine VQ.ld (v := .int .i64 i) (fun x hx => (hcl q2 x hx).cell rfl) ?_
      refine Pv.i (fun _ => bo_shl) (Pv.i (fun _ => bo_or) ?_)
      refine Ef.updM (q7.same (dr_heap w1)) fun w2 hch hsz2 hsame2 hM2 => ⟨fun _ => True, trivial, ?_⟩
      have hch' : Chg (· = w.heap.size) w1 w2 := (dr_ext w1).trans hch |>.mono fun x _ e => e.elim False.elim id
      refine hn w2 ⟨q1.chg hch' (by omega), q2.chg hch' (by omega), q3.chg hch' (by omega), Chg.newer q4 hch' fun x hx e => by omega, by rw [hsz2]; exact q5, fun b hb => ?_, _, hM2, fun x => ?_⟩ (hch'.keep (by omega) (fun e => by have e : wd.heap.size = w.heap.size := e; omega) (fun e => by have e : wd.heap.size + 1 = w.heap.size := e; omega))
      · refine (hsame2 b fun e => ?_).trans (q6 b hb)
        obtain ⟨es, c, hmp, _⟩ := hM.ext hEd
        rw [e, hmp] at hb; cases hb
      · show (if x = (words s)[k] then some (bor ((f' (words s)[k]).getD 0) (shl1 i)) else f' x).getD 0 = _
        rw [List.take_succ_eq_append_getElem hk', List.foldl_append]
        simp only [List.foldl_cons, List.foldl_nil]
        rw [← q8 x]
        unfold kstep
        split
        · rename_i h; rw [h]; rfl
        · rfl
    · rintro w2 ⟨q1, q2, q3, q4, q5, q6, f', q7, q8⟩ hd
      refine Vl.add ⟨⟨i + 1, f', rfl, by omega, q1, q7, fun x => ?_, q4, ?_⟩, ?_⟩
      · rw [q8 x, hka]; simp
      · refine Marks.cons (hMk.keep fun b hb => (hEd.same b (Array.getElem?_eq_some_iff.1 hb).1 id).trans hb) (by omega) q6 hd
      · show ((10 : Int) - ((i : Int) + 1)).toNat < ((10 : Int) - (i : Int)).toNat; omega
  · have : i = 10 := by have := of_decide_eq_false h; omega
    subst this
    refine Vl.ld hc rfl (Lv.marks hMk fun w' hs hch => k w' w.heap.size f (Chg.newer hE hch fun x hx e => by omega) (Nat.le_refl _) (hM.defStep hs) hf)

theorem c_kind_table {w : World} {K : Value → World → Prop} (hG : Glob w)
    (k : ∀ w' b f, Ext w w' → w.heap.size ≤ b → Mp w' b f → (∀ x, (f x).getD 0 = kacc 10 x) → K (.map (some b)) w') : Cf Tryd.prog n_kind_table #[] w K := by
  refine L_kind_table _ _ ?_
  unfold S_kind_table
  exact c_kind_kinds hG k

/-- Is a name of one of some kinds? -/
def isKind (name : ByteArray) (kinds : Int) : Bool := !decide (band (band (kacc 10 name) kinds) 1023 = 0)
theorem c_kind_Is {w : World} {name : ByteArray} {kinds : Int} {K : Value → World → Prop} (hG : Glob w) (k : ∀ w', Ext w w' → K (.bool (isKind name kinds)) w') :
    Cf Tryd.prog n_kind_Is #[.string name, .int .i64 kinds] w K := by
  refine L_kind_Is _ _ _ _ ?_
  unfold S_kind_Is
  refine c_kind_table hG fun w' b f hE _ hM hf => Vl.lookM hM (Vl.i bo_and (Vl.i bo_and (Vl.neq ?_)))
  rw [hf]
  exact k w' hE
end Go.Proofs
