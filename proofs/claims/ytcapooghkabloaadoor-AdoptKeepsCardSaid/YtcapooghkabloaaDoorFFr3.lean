/- Part of the proof of a law of this seat: facts that it uses, each proved here. No conditions. -/
import Derived.ChangeSame
import Derived.Deep.Slices
import Derived.Test.YtcapooghkabloaaDoorGV
import Derived.Test.YtcapooghkabloaaDoorFFr2
namespace Go.Proofs.YtcapooghkabloaaDoor
open Go Go.Eng
open Go.ChangeShapes hiding strs
open Go.WideShapes Go.ChangeAt Go.RowKit
def fA0 : Field := ⟨"Do", 3, 0, false, "", "", 0⟩
def fA1 : Field := ⟨"N", 3, 1, false, "", "", 8⟩
def fA2 : Field := ⟨"Names", 22, 2, false, "", "", 16⟩
theorem u51 : Tryd.prog.underlying T_decanterlaw13_Act = some (.struct #[fA0, fA1, fA2]) := by kernel_rfl
theorem u46 : Tryd.prog.underlying T_sl_decanterlaw13_Act = some (.slice T_decanterlaw13_Act) := by kernel_rfl
theorem u3 : Tryd.prog.underlying T_int = some (.int .i64) := by kernel_rfl
theorem c51 : Tryd.prog.cellsOf T_decanterlaw13_Act = 3 := by kernel_rfl
theorem c22' : Tryd.prog.cellsOf T_sl_string = 1 := by kernel_rfl
theorem c3' : Tryd.prog.cellsOf T_int = 1 := by kernel_rfl
theorem wf64 {n : Int} (h : (Lit.int .i64 n).wf = true) : -9223372036854775808 ≤ n ∧ n ≤ 9223372036854775807 := by
  have h2 : IntKind.i64.min ≤ n ∧ n ≤ IntKind.i64.max := by simpa [Lit.wf] using h
  have e1 : IntKind.i64.min = -9223372036854775808 := by kernel_rfl
  have e2 : IntKind.i64.max = 9223372036854775807 := by kernel_rfl
  omega
section
variable {H : Type} {enc : TypeId × Value → H}
theorem cell_spot {W : World} {a : Addr} {v : Value} (h : W.cell? a = some v) : a.spot = none := by
  unfold World.cell? at h
  split at h
  · split at h
    · cases h
    · rename_i hn; simpa using hn
  · cases h
theorem spot_none {W : World} {a : Addr} {v : Value} (h : W.cell? (a.add 0) = some v) : ∃ b o, a = ⟨b, o, none⟩ := by
  have h1 := cell_spot h
  have h2 : a.add 0 = a := by unfold Addr.add; rw [if_pos rfl]
  rw [h2] at h1
  obtain ⟨b, o, s⟩ := a
  cases h1
  exact ⟨b, o, rfl⟩
set_option maxRecDepth 100000 in
/-- A slice of strings, out of its one cell. -/
theorem strs_ofc {W : World} {v : Value} {d : DataW H} {p : List MemPlace} {fuel : Nat} (hf : DataW.trod enc Tryd.prog W 0 (fun _ => true) true fuel T_sl_string [v] = some (d, p))
    (hw : (d.weights Tryd.prog T_sl_string).all (· ≤ reachBytes) = true) : ∃ l : List ByteArray, Strs W v l ∧ l.length ≤ 9223372036854775807 ∧ okSizes l := by
  rcases open_strings u22 u9 c9 hf with ⟨hcs, hx⟩ | ⟨a, len, cap, ss, hcs, _, hl, hm, hz, hx, hcell, hsz⟩
  · have e : v = .slice none 0 0 := by injection hcs
    cases e
    exact ⟨[], ⟨none, 0, rfl, by simp, fun i hi => by simp at hi⟩, Nat.zero_le _, fun s hs => by cases hs⟩
  · have e : v = .slice (some a) len cap := by injection hcs
    cases e
    have hz : ss.length = cap := by simpa using hz
    have hlen : (ss.take len).length = len := by simp; omega
    have hd : d = .slice (Go.ChangeShapes.strs (ss.take len)) (Go.ChangeShapes.strs (ss.drop len)) := (Prod.mk.inj hx).1
    rw [hd] at hw
    have hw' : (((Go.ChangeShapes.strs (ss.take len) : List (DataW H)).length + (Go.ChangeShapes.strs (ss.drop len) : List (DataW H)).length) * Tryd.prog.bytesOf T_string :: (DataW.weightsAll Tryd.prog T_string (Go.ChangeShapes.strs (ss.take len) : List (DataW H)) ++ DataW.weightsAll Tryd.prog T_string (Go.ChangeShapes.strs (ss.drop len) : List (DataW H)))).all (· ≤ reachBytes) = true := by
      unfold DataW.weights at hw
      rw [u22] at hw
      exact hw
    rw [List.all_cons, List.all_append, Bool.and_eq_true, Bool.and_eq_true] at hw'
    have hok := weights_strs _ hw'.2.1
    refine ⟨ss.take len, ⟨some a, cap, by rw [hlen], by omega, fun i hi => ?_⟩, ?_, hok⟩
    · have hi' : i < ss.length := by omega
      obtain ⟨b, o, rfl⟩ := spot_none (hcell 0 (by omega))
      refine ⟨b, o, rfl, ?_⟩
      have hci := hcell i hi'
      rw [add_off] at hci
      rw [hci]
      simp [List.getD, hi']
    · rw [hlen]
      have : maxLen ≤ 9223372036854775807 := by unfold maxLen; exact Nat.le_of_ble_eq_true (by kernel_rfl)
      exact Nat.le_trans (Nat.le_trans hl hm) this
theorem weights_at {t : TypeId} : ∀ (l : List (DataW H)), (DataW.weightsAll Tryd.prog t l).all (· ≤ reachBytes) = true → ∀ d ∈ l, (d.weights Tryd.prog t).all (· ≤ reachBytes) = true
  | [], _, d, hd => by cases hd
  | x :: l, h, d, hd => by
    unfold DataW.weightsAll at h
    rw [List.all_append, Bool.and_eq_true] at h
    rcases List.mem_cons.1 hd with rfl | hd
    · exact h.1
    · exact weights_at l h.2 d hd
set_option maxRecDepth 100000 in
theorem acts_of {W : World} {v : Value} {d : DataW H} {p : List MemPlace} (hv : Value.okWide Tryd.prog W .any 0 T_sl_decanterlaw13_Act v) (h : DataW.Trod enc Tryd.prog W 0 (fun _ => true) true T_sl_decanterlaw13_Act v d p)
    (hw : (d.weights Tryd.prog T_sl_decanterlaw13_Act).all (· ≤ reachBytes) = true) : ∃ l : List ActM, ActsV W v l ∧ l.length ≤ 9223372036854775807 := by
  obtain ⟨a0, len, cap, rfl⟩ := okWide_slice u46 hv
  obtain ⟨fuel, hf⟩ := h
  rcases Go.Deep.open_slice u46 hf with ⟨hcs, hx⟩ | ⟨a, len', cap', m, n, D, Pl, hcs, _, hl, hm, hmm, hx, hel⟩
  · have e : Value.slice a0 len cap = .slice none 0 0 := by
      have : [Value.slice a0 len cap] = [Value.slice none 0 0] := hcs
      injection this
    cases e
    exact ⟨[], ⟨none, 0, rfl, fun i hi => by simp at hi⟩, Nat.zero_le _⟩
  · have e : Value.slice a0 len cap = .slice (some a) len' cap' := by
      have : [Value.slice a0 len cap] = [Value.slice (some a) len' cap'] := hcs
      injection this
    cases e
    have hmm : m = cap := by simpa using hmm
    have hd : d = .slice ((List.range len).map D) ((List.range (m - len)).map fun j => D (len + j)) := (Prod.mk.inj hx).1
    rw [hd] at hw
    have hw' : ((((List.range len).map D).length + ((List.range (m - len)).map fun j => D (len + j)).length) * Tryd.prog.bytesOf T_decanterlaw13_Act :: (DataW.weightsAll Tryd.prog T_decanterlaw13_Act ((List.range len).map D) ++ DataW.weightsAll Tryd.prog T_decanterlaw13_Act ((List.range (m - len)).map fun j => D (len + j)))).all (· ≤ reachBytes) = true := by
      unfold DataW.weights at hw
      rw [u46] at hw
      exact hw
    rw [List.all_cons, List.all_append, Bool.and_eq_true, Bool.and_eq_true] at hw'
    have hwa := weights_at _ hw'.2.1
    have each : ∀ i, i < len → ∃ x : ActM, ∃ b o, a = ⟨b, o, none⟩ ∧ W.cell? ⟨b, o + i * 3, none⟩ = some (.int .i64 x.do_) ∧ W.cell? ⟨b, o + i * 3 + 1, none⟩ = some (.int .i64 x.n) ∧ W.cell? ⟨b, o + i * 3 + 2, none⟩ = some x.nv ∧ Strs W x.nv x.names ∧ ActOk x := by
      intro i hi
      obtain ⟨cs', h1, h2⟩ := hel i (by omega)
      rw [c51] at h1
      obtain ⟨_, hlen, hcell⟩ := World.cells?_some h1
      obtain ⟨xs, k, hk, hxy, _, hxl, hfld⟩ := DataW.trod_struct u51 h2
      match xs, hxl, cs', hlen with
      | [y0, y1, y2], _, [v0, v1, v2], _ =>
        have g0 := hfld 0 fA0 rfl
        have g1 := hfld 1 fA1 rfl
        have g2 := hfld 2 fA2 rfl
        have g0 : DataW.trod enc Tryd.prog W 0 (fun _ => true) true k T_int [v0] = some y0 := by simpa [fA0, c3'] using g0
        have g1 : DataW.trod enc Tryd.prog W 0 (fun _ => true) true k T_int [v1] = some y1 := by simpa [fA1, c3'] using g1
        have g2 : DataW.trod enc Tryd.prog W 0 (fun _ => true) true k T_sl_string [v2] = some y2 := by simpa [fA2, c22'] using g2
        obtain ⟨n0, e0, _, _⟩ := DataW.trod_int u3 g0
        obtain ⟨n1, e1, _, w1⟩ := DataW.trod_int u3 g1
        injection e0 with e0 _
        injection e1 with e1 _
        subst e0 e1
        have ed : D i = .agg [y0.1, y1.1, y2.1] := by
          have := (Prod.mk.inj hxy).1
          simpa using this
        have hwi := hwa (D i) (List.mem_map.2 ⟨i, List.mem_range.2 hi, rfl⟩)
        rw [ed] at hwi
        have hwi' : (y0.1.weights Tryd.prog T_int ++ (y1.1.weights Tryd.prog T_int ++ (y2.1.weights Tryd.prog T_sl_string ++ []))).all (· ≤ reachBytes) = true := by
          unfold DataW.weights at hwi
          rw [u51] at hwi
          exact hwi
        rw [List.all_append, List.all_append, List.append_nil, Bool.and_eq_true, Bool.and_eq_true] at hwi'
        obtain ⟨l, s, hl9, hok⟩ := strs_ofc (p := y2.2) g2 hwi'.2.2
        have k0 := hcell 0 (by omega)
        have k1 := hcell 1 (by omega)
        have k2 := hcell 2 (by omega)
        have ha : ∃ b o, a = ⟨b, o, none⟩ := by
          obtain ⟨cs0, h10, _⟩ := hel 0 (by omega)
          rw [c51] at h10
          obtain ⟨_, hl0, hc0⟩ := World.cells?_some h10
          have hc0 := hc0 0 (by omega)
          have e0 : a.add (0 * 3) = a := by unfold Addr.add; rw [if_pos rfl]
          rw [e0, List.getElem?_eq_getElem (by omega)] at hc0
          exact spot_none hc0
        obtain ⟨b, o, rfl⟩ := ha
        rw [add_off, add_off] at k0 k1 k2
        exact ⟨⟨n0, n1, v2, l⟩, b, o, rfl, by simpa using k0, by simpa using k1, by simpa using k2, s, wf64 w1, hl9, hok⟩
    haveI : Inhabited ActM := ⟨⟨0, 0, .slice none 0 0, []⟩⟩
    obtain ⟨q, hq⟩ := Go.Deep.choose_lt each
    refine ⟨(List.range len).map q, ⟨some a, cap, by simp, fun i hi => ?_⟩, ?_⟩
    · have hi' : i < len := by simpa using hi
      obtain ⟨b, o, ha, h0, h1, h2, h3, h4⟩ := hq i hi'
      refine ⟨b, o, by rw [ha], ?_⟩
      rw [List.getElem_map, List.getElem_range]
      exact ⟨h0, h1, h2, h3, h4⟩
    · have : maxLen ≤ 9223372036854775807 := by unfold maxLen; exact Nat.le_of_ble_eq_true (by kernel_rfl)
      simp
      exact Nat.le_trans (Nat.le_trans hl hm) this
end
end Go.Proofs.YtcapooghkabloaaDoor
