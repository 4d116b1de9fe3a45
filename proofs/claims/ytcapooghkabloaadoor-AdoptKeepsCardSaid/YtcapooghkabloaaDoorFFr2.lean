/- Part of the proof of a law of this seat: facts that it uses, each proved here. No conditions. -/
import Derived.Test.YtcapooghkabloaaDoorGL
import Derived.Test.YtcapooghkabloaaDoorFFr1
namespace Go.Proofs.YtcapooghkabloaaDoor
open Go Go.Eng
open Go.ChangeShapes hiding strs
open Go.WideShapes Go.ChangeAt Go.RowKit
section
variable {H : Type} {enc : TypeId × Value → H}
theorem weights_strs : ∀ (l : List ByteArray), (DataW.weightsAll Tryd.prog T_string (Go.ChangeShapes.strs l : List (DataW H))).all (· ≤ reachBytes) = true → okSizes l
  | [], _ => fun s hs => by cases hs
  | x :: l, h => by
    have h' : ([x.data.toList.length] ++ DataW.weightsAll Tryd.prog T_string (Go.ChangeShapes.strs l : List (DataW H))).all (· ≤ reachBytes) = true := h
    rw [List.all_append, Bool.and_eq_true] at h'
    have h1 : x.data.toList.length ≤ reachBytes := by
      have := h'.1
      simp only [List.all_cons, List.all_nil, Bool.and_true, decide_eq_true_eq] at this
      exact this
    have hx : x.size ≤ 140737488351232 := by
      have e : x.data.toList.length = x.size := by rw [Array.length_toList]; rfl
      have e2 : reachBytes = 140737488351232 := by unfold reachBytes; rfl
      omega
    have ih := weights_strs l h'.2
    intro s hs
    rcases List.mem_cons.1 hs with rfl | hs
    · exact hx
    · exact ih s hs
set_option maxRecDepth 100000 in
theorem strs_ofz {W : World} {v : Value} {d : DataW H} {p : List MemPlace} (hv : Value.okWide Tryd.prog W .any 0 T_sl_string v) (h : DataW.Trod enc Tryd.prog W 0 (fun _ => true) true T_sl_string v d p)
    (hw : (d.weights Tryd.prog T_sl_string).all (· ≤ reachBytes) = true) : ∃ l : List ByteArray, Strs W v l ∧ l.length ≤ 9223372036854775807 ∧ okSizes l := by
  obtain ⟨l, h1, h2⟩ := strs_of hv h
  obtain ⟨a0, len, cap, rfl⟩ := okWide_slice u22 hv
  obtain ⟨fuel, hf⟩ := h
  refine ⟨l, h1, h2, ?_⟩
  rcases open_strings u22 u9 c9 hf with ⟨hcs, hx⟩ | ⟨a, len', cap', ss, hcs, _, hl, hm, hz, hx, hcell, hsz⟩
  · have e : Value.slice a0 len cap = .slice none 0 0 := by
      have : [Value.slice a0 len cap] = [Value.slice none 0 0] := hcs
      injection this
    cases e
    obtain ⟨a, c, e, _⟩ := h1
    have : l.length = 0 := by injection e with _ e2 _; exact e2.symm
    have : l = [] := List.eq_nil_of_length_eq_zero this
    subst this
    exact fun s hs => by cases hs
  · have e : Value.slice a0 len cap = .slice (some a) len' cap' := by
      have : [Value.slice a0 len cap] = [Value.slice (some a) len' cap'] := hcs
      injection this
    cases e
    have hz : ss.length = cap := by simpa using hz
    have hd : d = .slice (Go.ChangeShapes.strs (ss.take len)) (Go.ChangeShapes.strs (ss.drop len)) := (Prod.mk.inj hx).1
    rw [hd] at hw
    have hw' : (((Go.ChangeShapes.strs (ss.take len) : List (DataW H)).length + (Go.ChangeShapes.strs (ss.drop len) : List (DataW H)).length) * Tryd.prog.bytesOf T_string :: (DataW.weightsAll Tryd.prog T_string (Go.ChangeShapes.strs (ss.take len) : List (DataW H)) ++ DataW.weightsAll Tryd.prog T_string (Go.ChangeShapes.strs (ss.drop len) : List (DataW H)))).all (· ≤ reachBytes) = true := by
      unfold DataW.weights at hw
      rw [u22] at hw
      exact hw
    rw [List.all_cons, List.all_append, Bool.and_eq_true, Bool.and_eq_true] at hw'
    have hok := weights_strs _ hw'.2.1
    -- l is the same list
    obtain ⟨a', c', e, _, hcl⟩ := h1
    have hlen : l.length = len := by injection e with _ e2 _; exact e2.symm
    intro s hs
    obtain ⟨i, hi, rfl⟩ := List.getElem_of_mem hs
    obtain ⟨b, o, ea, hc⟩ := hcl i hi
    have ea' : a = ⟨b, o, none⟩ := by injection e with e1 _ _; rw [ea] at e1; injection e1
    subst ea'
    have := hcell i (by omega)
    rw [add_off, hc] at this
    have hs' : l[i] = ss.getD i ByteArray.empty := by injection this with this; injection this
    rw [hs']
    refine hok _ ?_
    have hi' : i < ss.length := by omega
    have : ss.getD i ByteArray.empty = (ss.take len)[i]'(by simp; omega) := by simp [List.getD, hi']
    rw [this]; exact List.getElem_mem _
end
end Go.Proofs.YtcapooghkabloaaDoor
