/- Part of the proof of a law of this seat: facts that it uses, each proved here. No conditions. -/
import Derived.ChangeArms
import Derived.Test.YtcapooghkabloaaDoorGQ
import Derived.Test.YtcapooghkabloaaDoorFFr3
namespace Go.Proofs.YtcapooghkabloaaDoor
open Go Go.Eng
open Go.ChangeShapes hiding strs
open Go.WideShapes Go.ChangeAt Go.RowKit
def fO0 : Field := ⟨"Name", 9, 0, false, "", "", 0⟩
def fO1 : Field := ⟨"Attrs", 57, 1, false, "", "", 16⟩
def fO2 : Field := ⟨"Text", 9, 2, false, "", "", 40⟩
def fO3 : Field := ⟨"Listed", 4, 3, false, "", "", 56⟩
def fO4 : Field := ⟨"Mark", 4, 4, false, "", "", 57⟩
def fT0 : Field := ⟨"Name", 9, 0, false, "", "", 0⟩
def fT1 : Field := ⟨"Value", 9, 1, false, "", "", 16⟩
theorem u59 : Tryd.prog.underlying T_decanterlaw15_Open = some (.struct #[fO0, fO1, fO2, fO3, fO4]) := by kernel_rfl
theorem u54 : Tryd.prog.underlying T_sl_decanterlaw15_Open = some (.slice T_decanterlaw15_Open) := by kernel_rfl
theorem u57 : Tryd.prog.underlying T_sl_decanterref06_Attr = some (.slice T_decanterref06_Attr) := by kernel_rfl
theorem u108 : Tryd.prog.underlying T_decanterref06_Attr = some (.struct #[fT0, fT1]) := by kernel_rfl
theorem u4b : Tryd.prog.underlying T_bool = some .bool := by kernel_rfl
theorem c59 : Tryd.prog.cellsOf T_decanterlaw15_Open = 5 := by kernel_rfl
theorem c57 : Tryd.prog.cellsOf T_sl_decanterref06_Attr = 1 := by kernel_rfl
theorem c108 : Tryd.prog.cellsOf T_decanterref06_Attr = 2 := by kernel_rfl
theorem c4b : Tryd.prog.cellsOf T_bool = 1 := by kernel_rfl
section
variable {H : Type} {enc : TypeId × Value → H}
theorem addr_none {W : World} {a : Addr} {n : Nat} {cs : List Value} (hn : 0 < n) (h : W.cells? 0 (a.add 0) n = some cs) : ∃ b o, a = ⟨b, o, none⟩ := by
  obtain ⟨_, hl, hc⟩ := World.cells?_some h
  have h0 := hc 0 hn
  have e0 : (a.add 0) = a := by unfold Addr.add; rw [if_pos rfl]
  rw [e0, List.getElem?_eq_getElem (by omega)] at h0
  exact spot_none h0
set_option maxRecDepth 100000 in
/-- A slice of attributes, out of its one cell. -/
theorem attrs_ofc {W : World} {v : Value} {d : DataW H} {p : List MemPlace} {fuel : Nat} (hf : DataW.trod enc Tryd.prog W 0 (fun _ => true) true fuel T_sl_decanterref06_Attr [v] = some (d, p)) : ∃ l : List (ByteArray × ByteArray), AtV W v l := by
  rcases Go.Deep.open_slice u57 hf with ⟨hcs, hx⟩ | ⟨a, len, cap, m, n, D, Pl, hcs, _, hl, hm, hmm, hx, hel⟩
  · have e : v = .slice none 0 0 := by injection hcs
    cases e
    exact ⟨[], none, 0, rfl, rfl, fun j x hx => by simp [attrCells] at hx⟩
  · have e : v = .slice (some a) len cap := by injection hcs
    cases e
    have hmm : m = cap := by simpa using hmm
    rw [c108] at hel
    have each : ∀ i, i < len → ∃ x : ByteArray × ByteArray, ∃ b o, a = ⟨b, o, none⟩ ∧ W.cell? ⟨b, o + i * 2, none⟩ = some (.string x.1) ∧ W.cell? ⟨b, o + i * 2 + 1, none⟩ = some (.string x.2) := by
      intro i hi
      obtain ⟨cs', h1, h2⟩ := hel i (by omega)
      obtain ⟨_, hlen, hcell⟩ := World.cells?_some h1
      obtain ⟨xs, k, hk, hxy, _, hxl, hfld⟩ := DataW.trod_struct u108 h2
      match xs, hxl, cs', hlen with
      | [y0, y1], _, [v0, v1], _ =>
        have g0 : DataW.trod enc Tryd.prog W 0 (fun _ => true) true k T_string [v0] = some y0 := by simpa [fT0, c9] using hfld 0 fT0 rfl
        have g1 : DataW.trod enc Tryd.prog W 0 (fun _ => true) true k T_string [v1] = some y1 := by simpa [fT1, c9] using hfld 1 fT1 rfl
        obtain ⟨s0, e0, _, _⟩ := DataW.trod_string u9 g0
        obtain ⟨s1, e1, _, _⟩ := DataW.trod_string u9 g1
        injection e0 with e0 _
        injection e1 with e1 _
        subst e0 e1
        have k0 := hcell 0 (by omega)
        have k1 := hcell 1 (by omega)
        obtain ⟨cs0, h10, _⟩ := hel 0 (by omega)
        rw [Nat.zero_mul] at h10
        obtain ⟨b, o, rfl⟩ := addr_none (by decide) h10
        rw [add_off, add_off] at k0 k1
        exact ⟨(s0, s1), b, o, rfl, by simpa using k0, by simpa using k1⟩
    haveI : Inhabited (ByteArray × ByteArray) := ⟨(⟨#[]⟩, ⟨#[]⟩)⟩
    obtain ⟨q, hq⟩ := Go.Deep.choose_lt each
    have hql : ((List.range len).map q).length = len := by simp
    refine ⟨(List.range len).map q, some a, cap, by rw [hql], attrCells_len _, fun j x hx => ?_⟩
    have hj := (List.getElem?_eq_some_iff.1 hx).1
    rw [attrCells_len, hql] at hj
    have hi : j / 2 < len := by omega
    have hat := attrCells_get ((List.range len).map q) (j / 2) (j % 2) (q (j / 2)) (by rw [List.getElem?_map, List.getElem?_range hi]; rfl) (Nat.mod_lt _ (by decide))
    have ej : j / 2 * 2 + j % 2 = j := by omega
    rw [ej, hx] at hat
    obtain ⟨b, o, ha, h0, h1⟩ := hq _ hi
    refine ⟨b, o, by rw [ha], ?_⟩
    rcases Nat.mod_two_eq_zero_or_one j with e | e
    · rw [e] at hat
      have hat : x = .string (q (j / 2)).1 := by simpa using hat
      rw [hat, ← h0]; congr 2; omega
    · rw [e] at hat
      have hat : x = .string (q (j / 2)).2 := by simpa using hat
      rw [hat, ← h1]; congr 2; omega
theorem lit_le {s : ByteArray} (h : ((DataW.lit (.string s.data.toList) : DataW H).weights Tryd.prog T_string).all (· ≤ reachBytes) = true) : s.size ≤ 140737488351232 := by
  have := weights_strs (H := H) [s] (by
    show ((DataW.lit (.string s.data.toList) : DataW H).weights Tryd.prog T_string ++ []).all (· ≤ reachBytes) = true
    rw [List.append_nil]; exact h)
  exact this s (by simp)
set_option maxRecDepth 100000 in
theorem opens_of {W : World} {v : Value} {d : DataW H} {p : List MemPlace} (hv : Value.okWide Tryd.prog W .any 0 T_sl_decanterlaw15_Open v) (h : DataW.Trod enc Tryd.prog W 0 (fun _ => true) true T_sl_decanterlaw15_Open v d p)
    (hw : (d.weights Tryd.prog T_sl_decanterlaw15_Open).all (· ≤ reachBytes) = true) : ∃ l : List OpenM, OpensV W v l := by
  obtain ⟨a0, len, cap, rfl⟩ := okWide_slice u54 hv
  obtain ⟨fuel, hf⟩ := h
  rcases Go.Deep.open_slice u54 hf with ⟨hcs, hx⟩ | ⟨a, len', cap', m, n, D, Pl, hcs, _, hl, hm, hmm, hx, hel⟩
  · have e : Value.slice a0 len cap = .slice none 0 0 := by
      have : [Value.slice a0 len cap] = [Value.slice none 0 0] := hcs
      injection this
    cases e
    exact ⟨[], none, 0, rfl, fun i hi => by simp at hi⟩
  · have e : Value.slice a0 len cap = .slice (some a) len' cap' := by
      have : [Value.slice a0 len cap] = [Value.slice (some a) len' cap'] := hcs
      injection this
    cases e
    have hmm : m = cap := by simpa using hmm
    have hd : d = .slice ((List.range len).map D) ((List.range (m - len)).map fun j => D (len + j)) := (Prod.mk.inj hx).1
    rw [hd] at hw
    have hw' : ((((List.range len).map D).length + ((List.range (m - len)).map fun j => D (len + j)).length) * Tryd.prog.bytesOf T_decanterlaw15_Open :: (DataW.weightsAll Tryd.prog T_decanterlaw15_Open ((List.range len).map D) ++ DataW.weightsAll Tryd.prog T_decanterlaw15_Open ((List.range (m - len)).map fun j => D (len + j)))).all (· ≤ reachBytes) = true := by
      unfold DataW.weights at hw
      rw [u54] at hw
      exact hw
    rw [List.all_cons, List.all_append, Bool.and_eq_true, Bool.and_eq_true] at hw'
    have hwa := weights_at _ hw'.2.1
    rw [c59] at hel
    have each : ∀ i, i < len → ∃ x : OpenM, ∃ b o, a = ⟨b, o, none⟩ ∧ (∀ j v, [Value.string x.name, x.av, .string x.text, x.lv, x.mv][j]? = some v → W.cell? ⟨b, o + i * 5 + j, none⟩ = some v) ∧ AtV W x.av x.attrs ∧ OpenOk x := by
      intro i hi
      obtain ⟨cs', h1, h2⟩ := hel i (by omega)
      obtain ⟨_, hlen, hcell⟩ := World.cells?_some h1
      obtain ⟨xs, k, hk, hxy, _, hxl, hfld⟩ := DataW.trod_struct u59 h2
      match xs, hxl, cs', hlen with
      | [y0, y1, y2, y3, y4], _, [v0, v1, v2, v3, v4], _ =>
        have g0 : DataW.trod enc Tryd.prog W 0 (fun _ => true) true k T_string [v0] = some y0 := by simpa [fO0, c9] using hfld 0 fO0 rfl
        have g1 : DataW.trod enc Tryd.prog W 0 (fun _ => true) true k T_sl_decanterref06_Attr [v1] = some y1 := by simpa [fO1, c57] using hfld 1 fO1 rfl
        have g2 : DataW.trod enc Tryd.prog W 0 (fun _ => true) true k T_string [v2] = some y2 := by simpa [fO2, c9] using hfld 2 fO2 rfl
        have g3 : DataW.trod enc Tryd.prog W 0 (fun _ => true) true k T_bool [v3] = some y3 := by simpa [fO3, c4b] using hfld 3 fO3 rfl
        have g4 : DataW.trod enc Tryd.prog W 0 (fun _ => true) true k T_bool [v4] = some y4 := by simpa [fO4, c4b] using hfld 4 fO4 rfl
        obtain ⟨s0, e0, z0, _⟩ := DataW.trod_string u9 g0
        obtain ⟨s2, e2, z2, _⟩ := DataW.trod_string u9 g2
        obtain ⟨b3, e3, _⟩ := DataW.trod_bool u4b g3
        obtain ⟨b4, e4, _⟩ := DataW.trod_bool u4b g4
        injection e0 with e0 _
        injection e2 with e2 _
        injection e3 with e3 _
        injection e4 with e4 _
        subst e0 e2 e3 e4
        obtain ⟨at_, hat⟩ := attrs_ofc (p := y1.2) (d := y1.1) g1
        have ed : D i = .agg [y0.1, y1.1, y2.1, y3.1, y4.1] := by
          have := (Prod.mk.inj hxy).1
          simpa using this
        have hwi := hwa (D i) (List.mem_map.2 ⟨i, List.mem_range.2 hi, rfl⟩)
        rw [ed] at hwi
        have hwi' : (y0.1.weights Tryd.prog T_string ++ (y1.1.weights Tryd.prog T_sl_decanterref06_Attr ++ (y2.1.weights Tryd.prog T_string ++ (y3.1.weights Tryd.prog T_bool ++ (y4.1.weights Tryd.prog T_bool ++ []))))).all (· ≤ reachBytes) = true := by
          unfold DataW.weights at hwi
          rw [u59] at hwi
          exact hwi
        rw [List.all_append, List.all_append, List.all_append, Bool.and_eq_true, Bool.and_eq_true, Bool.and_eq_true] at hwi'
        have n0 := hwi'.1
        have n2 := hwi'.2.2.1
        rw [z0] at n0
        rw [z2] at n2
        have k0 := hcell 0 (by omega)
        have k1 := hcell 1 (by omega)
        have k2 := hcell 2 (by omega)
        have k3 := hcell 3 (by omega)
        have k4 := hcell 4 (by omega)
        obtain ⟨cs0, h10, _⟩ := hel 0 (by omega)
        rw [Nat.zero_mul] at h10
        obtain ⟨b, o, rfl⟩ := addr_none (by decide) h10
        rw [add_off, add_off] at k0 k1 k2 k3 k4
        refine ⟨⟨s0, v1, at_, s2, .bool b3, .bool b4⟩, b, o, rfl, fun j u hj => ?_, hat, lit_le n0, lit_le n2, trivial, trivial⟩
        match j, hj with
        | 0, hj => simp at hj; rw [← hj]; simpa using k0
        | 1, hj => simp at hj; rw [← hj]; simpa using k1
        | 2, hj => simp at hj; rw [← hj]; simpa using k2
        | 3, hj => simp at hj; rw [← hj]; simpa using k3
        | 4, hj => simp at hj; rw [← hj]; simpa using k4
        | j + 5, hj => simp at hj
    haveI : Inhabited OpenM := ⟨⟨⟨#[]⟩, .slice none 0 0, [], ⟨#[]⟩, .bool false, .bool false⟩⟩
    obtain ⟨q, hq⟩ := Go.Deep.choose_lt each
    refine ⟨(List.range len).map q, some a, cap, by simp, fun i hi => ?_⟩
    have hi' : i < len := by simpa using hi
    obtain ⟨b, o, ha, h0, h1, h2⟩ := hq i hi'
    refine ⟨b, o, by rw [ha], ?_⟩
    rw [List.getElem_map, List.getElem_range]
    exact ⟨h0, h1, h2⟩
end
theorem reads8 : ∀ t ∈ ([T_sl_decanterlaw15_Open, T_string] : List TypeId), Tryd.prog.readableRec t = true ∧ t < Tryd.prog.types.size := by
  intro t ht
  have hall : (([T_sl_decanterlaw15_Open, T_string] : List TypeId).all fun t => Tryd.prog.readableRec t && decide (t < Tryd.prog.types.size)) = true := by kernel_rfl
  have := List.all_eq_true.1 hall t ht
  simpa using this

set_option maxRecDepth 100000 in
theorem keeps_lifted (os : Os) (started : os.Started) (H : Type) (enc : TypeId × Value → H) :
    ReturnsInHanded {} Tryd.checked os n_decanterlaw15_AdoptKeeps .any (fun w args => (Rows.adoptKeepsSpec.pre enc Tryd.prog Tryd.f8 Rows.adoptKeepsRow.domain false w args ∧ laidMetH Tryd.prog Rows.adoptKeepsRow.laid w) ∧ sizedMet enc Tryd.prog Tryd.f8 (OpenSpec.ofChange Rows.adoptKeepsSpec) false w args)
      (Rows.adoptKeepsSpec.post enc Tryd.prog Tryd.f8 false true false false) := by
  refine returnsInHanded_of_change_and (C := Tryd.checked) (X := fun w _ => laidMetH Tryd.prog Rows.adoptKeepsRow.laid w) (fun _ _ _ hh h => h.of_heap hh) own started (by kernel_rfl) Tryd.func8
    (ChangeSpec.witness_shaped (enc := enc) (C := Tryd.checked) (os := os) (X := fun w _ => laidMetH Tryd.prog Rows.adoptKeepsRow.laid w) false (World.laidAll Tryd.prog os Rows.adoptKeepsRow.laid) #[.slice none 0 0, .string ⟨#[]⟩] 8 (World.laidAll_os _ _ _)
      (World.shaped_of_ZipB (by kernel_rfl) (by kernel_rfl)) (by kernel_rfl) (by kernel_rfl) (by kernel_rfl)
      (by rw [MakeChecks.laidMetH_plain _ _ _ (by kernel_rfl)]; exact laidMet_laidAll _ (by kernel_rfl) (by kernel_rfl))) ?_
  intro W base args ds gs before hval0 hW hc hwt hL _
  have hval : ∀ (j : Nat) t v, Tryd.f8.params[j]? = some t → args[j]? = some v → Value.okWide Tryd.prog W .any base t v := hval0
  have hW' := hW
  obtain ⟨p, q, hA0, hV, rfl, _, _⟩ := hW
  have hA : DataW.TrodAll enc Tryd.prog W 0 (fun _ => true) true Tryd.f8.params.toList args.toList ds p := hA0
  have hp : Tryd.f8.params = #[T_sl_decanterlaw15_Open, T_string] := by kernel_rfl
  rw [hp] at hA hval
  obtain ⟨v0, v1, d0, d1, p0, p1, rfl, rfl, rfl, h0, h1⟩ := trodAll_two hA
  obtain ⟨rfl, rfl⟩ := trodVars_none hV
  have hwt' : (d0.weights Tryd.prog T_sl_decanterlaw15_Open ++ DataW.weightsEach Tryd.prog ([T_string] ++ Rows.adoptKeepsSpec.plain.varTypes Tryd.prog) [d1]).all (· ≤ reachBytes) = true := by
    have := hwt
    rw [hp] at this
    exact this
  rw [List.all_append, Bool.and_eq_true] at hwt'
  obtain ⟨l0, s0⟩ := opens_of (hval 0 _ v0 rfl rfl) h0 hwt'.1
  obtain ⟨name, rfl, _⟩ := Go.ChangeMaps.open_string u9 (hval 1 _ v1 rfl rfl) h1
  have hcall := c_AdoptKeeps (K := fun v w' => v = .bool true ∧ Ext W w') (glob hL) s0 (name := name) fun w' hE => ⟨rfl, hE⟩
  refine (CallsIn.calls (CallF.enter (by intro a w; kernel_rfl) hcall).2 (Fr_room none)).mono fun e W' he => ?_
  cases e with
  | returned v =>
    obtain ⟨rfl, hE⟩ := he
    exact ⟨_, rfl, law_post hW' rfl (by kernel_rfl) (fun _ => rfl) (by rw [hp]; exact reads8) hE.below⟩
  | _ => exact he.elim

theorem keeps_holds : Rows.AdoptKeepsSaid :=
  OpenClaim.holds_of_wide n_decanterlaw15_AdoptKeeps Tryd.f8 rfl rfl rfl rfl rfl rfl rfl ⟨rfl, rfl, rfl, rfl, rfl⟩ rfl rfl rfl rfl rfl (by kernel_rfl) Tryd.func8 (by kernel_rfl)
    (of_decide_eq_true (by kernel_rfl)) (by unfold Func.isWrapper; first | (rw [if_pos (by decide +kernel)]; kernel_rfl) | (rw [if_neg (by decide +kernel)]; exact ⟨rfl, rfl⟩))
    (fun os started H enc _ => keeps_lifted os started H enc)
theorem adoptKeeps_card : Rows.AdoptKeepsCardSaid :=
  Claim7.holds_tied_plain_at .later [] _ _ _ _ keeps_holds (fun _ h => by cases h) (by kernel_rfl) (fun _ h => by cases h) adoptKeeps_row_tie rfl ⟨rfl, rfl⟩ (by kernel_rfl) rfl
    (fun f fn hf hfn => by
      obtain rfl : f = n_decanterlaw15_AdoptKeeps := Option.some.inj ((show Tryd.prog.funcNamed "decanter/decanterlaw15.AdoptKeeps" = some n_decanterlaw15_AdoptKeeps by kernel_rfl).symm.trans hf) |>.symm
      obtain rfl : fn = Tryd.f8 := (Option.some.inj (Tryd.func8.symm.trans hfn)).symm
      exact ⟨by kernel_rfl, fun j t ht => by
        rw [show Tryd.f8.params = #[T_sl_decanterlaw15_Open, T_string] by kernel_rfl] at ht
        have hm : t ∈ [T_sl_decanterlaw15_Open, T_string] := by simpa using Array.mem_of_getElem? ht
        have hall : ([T_sl_decanterlaw15_Open, T_string].all fun u => !Tryd.prog.wantsStandIn u) = true := by kernel_rfl
        exact (show Tryd.prog.wantsStandIn t = false by simpa using List.all_eq_true.1 hall t hm)⟩)
    (by kernel_rfl)
end Go.Proofs.YtcapooghkabloaaDoor
