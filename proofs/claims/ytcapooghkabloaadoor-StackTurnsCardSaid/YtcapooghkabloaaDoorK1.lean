/- Part of the proof of a law of this seat: facts that it uses, each proved here. No conditions. -/
import Derived.Test.YtcapooghkabloaaDoorSh
namespace Go.Proofs
open Go Go.Eng

/-! ### strings.FieldsSeq, of texts of ASCII characters -/
/-- Is a byte a blank? -/
def spc (c : UInt8) : Bool := c == 9 || c == 10 || c == 11 || c == 12 || c == 13 || c == 32
/-- The table of blanks, in memory. -/
def Glob (w : World) : Prop := ∀ c : UInt8, w.cell? ⟨0, c.toNat, none⟩ = some (.int .u8 (if spc c then 1 else 0))
theorem Glob.chg {S : Nat → Prop} {w w' : World} (h : Glob w) (c : Chg S w w') (hn : ¬ S 0) : Glob w' := by
  intro x
  rw [← h x]
  have h0 : 0 < w.heap.size := World.block_lt_of_cell? w _ (h x)
  exact World.cell?_of_block (w := w) (c.same 0 h0 hn)
theorem Glob.ext {w w' : World} (h : Glob w) (c : Ext w w') : Glob w' := h.chg c id

def wordsFrom (s : ByteArray) : Nat → Int → Nat → List ByteArray
  | 0, st, _ => if 0 ≤ st then [s.extract st.toNat s.size] else []
  | n + 1, st, i => if spc (s.get! i) then (if 0 ≤ st then s.extract st.toNat i :: wordsFrom s n (-1) (i + 1) else wordsFrom s n (-1) (i + 1))
      else wordsFrom s n (if st < 0 then i else st) (i + 1)
def words (s : ByteArray) : List ByteArray := wordsFrom s s.size (-1) 0

def ascii (s : ByteArray) : Prop := ∀ i (h : i < s.size), s[i].toNat < 128

theorem wrap32_in {n : Int} (h0 : -2147483648 ≤ n) (h1 : n ≤ 2147483647) : IntKind.i32.wrap n = n := by
  simp [IntKind.wrap, IntKind.bits, IntKind.signed]; omega

theorem iter_FieldsSeq_1 {s : ByteArray} {bx : Nat} (hs : ascii s) (hsz : s.size < 1000000000) :
    Iter Tryd.prog n_strings_FieldsSeq_1 #[.pointer (some ⟨bx, 0, none⟩)] ((words s).map fun x => #[.string x]) (fun w => Cl w bx 9 [.string s] ∧ Glob w) := by
  intro l J Jx w h0 hpre hY
  refine CallF.enter (by intro a w; kernel_rfl) (L_strings_FieldsSeq_1 _ _ _ _ ?_)
  unfold S_strings_FieldsSeq_1
  refine ⟨fun a ds w => ∃ (st : Int) (i k : Nat), a = [.int .i64 st, .int .i64 i] ∧ ds = [] ∧ i ≤ s.size ∧ -1 ≤ st ∧ st ≤ i ∧ J k w ∧ k ≤ (words s).length ∧ wordsFrom s (s.size - i) st i = (words s).drop k,
    fun a _ => (s.size - intAt a 1).toNat, ⟨-1, 0, 0, rfl, rfl, by omega, by omega, by omega, h0, by omega, by simp [words]⟩, ?_⟩
  rintro g ds wa ⟨st, i, k, ha, rfl, hi, hst, hsti, hJ, hk, hw⟩
  have e3 : g 3 = .int .i64 st := by injection ha
  have e4 : g 4 = .int .i64 i := by injection ha with _ h; injection h
  rw [e3, e4]
  obtain ⟨hc, hG⟩ := hpre _ _ hJ
  refine Vl.ld hc rfl (Vl.lenS (Vl.lss (Cond_bool (fun hlt => ?_) (fun hge => ?_))))
  · have hlt : i < s.size := by simpa using hlt
    have hb : s.get! i = s[i] := by simp [ByteArray.get!, hlt]; rfl
    refine Vl.ld hc rfl (Vl.ixS hlt (Vl.conv .i32 (Vl.ld hc rfl (Vl.ixS hlt (Vl.ixA 256 1 (by omega) (by have := s[i].toNat_lt; omega) (Vl.lda (v := .int .u8 (if spc s[i] then 1 else 0)) ?_ (Vl.neq ?_)))))))
    · have := hG s[i]
      simpa using this
    · refine ⟨fun a ds w => a = [.int .i64 1, .bool (spc s[i])] ∧ ds = [] ∧ w = wa, ?_, ?_⟩
      · refine Vl.geq (Cond_bool (fun h => ?_) (fun _ => ⟨?_, rfl, rfl⟩))
        · have h := of_decide_eq_true h
          have h1 := hs i hlt
          rw [wrap32_in (by omega) (by omega)] at h
          omega
        · cases spc s[i] <;> rfl
      · rintro ga dsa wm ⟨hga, rfl, rfl⟩
        have e5 : ga 5 = .int .i64 1 := by injection hga
        have e7 : ga 7 = .bool (spc s[i]) := by injection hga with _ h; injection h
        rw [e5, e7]
        have hstep : s.size - i = (s.size - (i + 1)) + 1 := by omega
        rw [hstep, wordsFrom, hb] at hw
        -- the state behind this byte
        have fin : ∀ (st' : Int) (k' : Nat) (w' : World), -1 ≤ st' → st' ≤ i + 1 → J k' w' → k' ≤ (words s).length → wordsFrom s (s.size - (i + 1)) st' (i + 1) = (words s).drop k' →
            ∀ (gb : Nat → Value) (dsb : List Deferred), gb 3 = .int .i64 st' → dsb = [] →
            Vl Tryd.prog (binop BinOp.add 3 (Operand.tmp 46) (Operand.tmp 47) (.int .i64 i) (.int .i64 1)) w' fun v48 w_29 =>
              (∃ (st : Int) (i k : Nat), [gb 3, v48] = [.int .i64 st, .int .i64 i] ∧ dsb = [] ∧ i ≤ s.size ∧ -1 ≤ st ∧ st ≤ i ∧ J k w_29 ∧ k ≤ (words s).length ∧ wordsFrom s (s.size - i) st i = (words s).drop k) ∧
              ((s.size : Int) - intAt [gb 3, v48] 1).toNat < ((s.size : Int) - intAt [.int .i64 st, .int .i64 i] 1).toNat := by
          intro st' k' w' h1 h2 h3 h4 h5 gb dsb h6 h7
          subst h7
          rw [h6]
          exact Vl.add ⟨⟨st', i + 1, k', rfl, rfl, hlt, h1, by omega, h3, h4, h5⟩, by show ((s.size : Int) - ((i : Int) + 1)).toNat < ((s.size : Int) - (i : Int)).toNat; omega⟩
        cases hsp : spc s[i] with
        | true =>
          rw [hsp, if_pos rfl] at hw
          by_cases hst0 : 0 ≤ st
          · rw [if_pos hst0] at hw
            have hk' : k < (words s).length := by
              rw [← Nat.not_le]; intro hle; rw [List.drop_eq_nil_of_le hle] at hw; cases hw
            have hw1 : (words s)[k] = s.extract st.toNat i ∧ wordsFrom s (s.size - (i + 1)) (-1) (i + 1) = (words s).drop (k + 1) := by
              rw [List.drop_eq_getElem_cons hk'] at hw
              injection hw with h1 h2
              exact ⟨h1.symm, h2⟩
            refine ⟨fun a ds w => a = [.int .i64 (-1)] ∧ ds = [] ∧ J (k + 1) w, ?_, ?_⟩
            · refine Vl.geq (Cond_bool (fun _ => ?_) (fun h => absurd hst0 (of_decide_eq_false h)))
              refine Vl.ld hc rfl ?_
              obtain ⟨stn, rfl⟩ := Int.eq_ofNat_of_zero_le hst0
              refine Vl.sliceS stn i (.inr rfl) (.inr rfl) (by omega) (by omega) (Cv.yield ?_)
              have hy := hY k (by simpa using hk') wm hJ
              simp only [List.getElem_map, hw1.1, Int.toNat_natCast] at hy
              refine hy.mono ?_
              rintro v w' (⟨rfl, hJ'⟩ | ⟨rfl, hx⟩)
              · exact Vl.not ⟨rfl, rfl, hJ'⟩
              · exact Vl.not (Lv.nil (.inr hx))
            · rintro gb dsb wu ⟨hgb, rfl, hJ'⟩
              exact fin (-1) (k + 1) wu (by omega) (by omega) hJ' hk' hw1.2 gb [] (by injection hgb) rfl
          · rw [if_neg hst0] at hw
            refine ⟨fun a ds w => a = [.int .i64 st] ∧ ds = [] ∧ w = wm, ?_, ?_⟩
            · exact Vl.geq (Cond_bool (fun h => absurd (of_decide_eq_true h) hst0) (fun _ => ⟨rfl, rfl, rfl⟩))
            · rintro gb dsb wu ⟨hgb, rfl, rfl⟩
              have e : st = -1 := by omega
              refine fin (-1) k wu (by omega) (by omega) hJ hk hw gb [] (by rw [← e]; injection hgb) rfl
        | false =>
          rw [hsp, if_neg (by simp)] at hw
          refine ⟨fun a ds w => a = [.int .i64 (if st < 0 then i else st)] ∧ ds = [] ∧ w = wm, ?_, ?_⟩
          · refine Vl.lss (Cond_bool (fun h => ⟨?_, rfl, rfl⟩) (fun h => ⟨?_, rfl, rfl⟩))
            · rw [if_pos (of_decide_eq_true h)]
            · rw [if_neg (of_decide_eq_false h)]
          · rintro gb dsb wu ⟨hgb, rfl, rfl⟩
            refine fin _ k wu ?_ ?_ hJ hk hw gb [] (by injection hgb) rfl
            · split <;> omega
            · split <;> omega
  · have hge : ¬ i < s.size := by simpa using hge
    have hw0 : s.size - i = 0 := by omega
    rw [hw0, wordsFrom] at hw
    refine Vl.geq (Cond_bool (fun h => ?_) (fun h => Lv.nil (.inl ?_)))
    · have hst0 := of_decide_eq_true h
      rw [if_pos hst0] at hw
      have hk' : k < (words s).length := by
        rw [← Nat.not_le]; intro hle; rw [List.drop_eq_nil_of_le hle] at hw; cases hw
      have hw1 : (words s)[k] = s.extract st.toNat s.size ∧ (words s).length = k + 1 := by
        rw [List.drop_eq_getElem_cons hk'] at hw
        injection hw with h1 h2
        refine ⟨h1.symm, ?_⟩
        have := congrArg List.length h2
        simp at this; omega
      refine Vl.ld hc rfl ?_
      obtain ⟨stn, rfl⟩ := Int.eq_ofNat_of_zero_le hst0
      refine Vl.sliceS stn s.size (.inr rfl) (.inl ⟨rfl, rfl⟩) (by omega) (by omega) (Cv.yield ?_)
      have hy := hY k (by simpa using hk') wa hJ
      simp only [List.getElem_map, hw1.1, Int.toNat_natCast] at hy
      refine hy.mono ?_
      rintro v w' (⟨rfl, hJ'⟩ | ⟨rfl, hx⟩)
      · refine Lv.nil (.inl ?_); simpa [hw1.2] using hJ'
      · exact Lv.nil (.inr hx)
    · rw [if_neg (of_decide_eq_false h)] at hw
      have : (words s).length ≤ k := by
        have := congrArg List.length hw; simp at this; omega
      have e : k = (words s).length := by omega
      simpa [e] using hJ
end Go.Proofs
