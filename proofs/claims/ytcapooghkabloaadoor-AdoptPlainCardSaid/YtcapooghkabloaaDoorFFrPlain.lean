/- Part of the proof of a law of this seat: facts that it uses, each proved here. No conditions. -/
import Derived.ChangeSlices
import Derived.Test.YtcapooghkabloaaDoorGP
import Derived.Test.YtcapooghkabloaaDoorFFr3
namespace Go.Proofs.YtcapooghkabloaaDoor
open Go Go.Eng
open Go.ChangeShapes hiding strs
open Go.WideShapes Go.ChangeAt Go.RowKit
theorem wf8' {n : Int} (h : (Lit.int .u8 n).wf = true) : 0 ≤ n ∧ n < 256 := by
  have h2 : IntKind.u8.min ≤ n ∧ n ≤ IntKind.u8.max := by simpa [Lit.wf] using h
  have e1 : IntKind.u8.min = 0 := by kernel_rfl
  have e2 : IntKind.u8.max = 255 := by kernel_rfl
  omega
theorem u71 : Tryd.prog.underlying T_sl_uint8 = some (.slice T_uint8) := by kernel_rfl
theorem u5p : Tryd.prog.underlying T_uint8 = some (.int .u8) := by kernel_rfl
theorem c5p : Tryd.prog.cellsOf T_uint8 = 1 := by kernel_rfl
set_option maxRecDepth 100000 in
theorem u8s_of {H : Type} {enc : TypeId × Value → H} {W : World} {v : Value} {d : DataW H} {p : List MemPlace} (hv : Value.okWide Tryd.prog W .any 0 T_sl_uint8 v) (h : DataW.Trod enc Tryd.prog W 0 (fun _ => true) true T_sl_uint8 v d p) : ∃ l : List Nat, U8s W v l := by
  obtain ⟨a0, len, cap, rfl⟩ := okWide_slice u71 hv
  obtain ⟨fuel, hf⟩ := h
  rcases Go.ChangeShapes.open_ints u71 u5p c5p hf with ⟨hcs, hx⟩ | ⟨a, len', cap', zs, hcs, _, hl, hm, hz, hx, hcell, hwf⟩
  · have e : Value.slice a0 len cap = .slice none 0 0 := by
      have : [Value.slice a0 len cap] = [Value.slice none 0 0] := hcs
      injection this
    cases e
    exact ⟨[], none, 0, rfl, fun i hi => by simp at hi⟩
  · have e : Value.slice a0 len cap = .slice (some a) len' cap' := by
      have : [Value.slice a0 len cap] = [Value.slice (some a) len' cap'] := hcs
      injection this
    cases e
    have hz : zs.length = cap := by simpa using hz
    have hlen : ((zs.take len).map Int.toNat).length = len := by simp; omega
    refine ⟨(zs.take len).map Int.toNat, some a, cap, by rw [hlen], fun i hi => ?_⟩
    have hi' : i < zs.length := by omega
    obtain ⟨b, o, rfl⟩ := spot_none (hcell 0 (by omega))
    refine ⟨b, o, rfl, ?_⟩
    have hci := hcell i hi'
    have hw := wf8' (hwf zs[i] (List.getElem_mem hi'))
    rw [add_off] at hci
    rw [hci]
    have e2 : ((((zs.take len).map Int.toNat)[i] : Nat) : Int) = zs[i] := by
      rw [List.getElem_map, List.getElem_take]; omega
    rw [e2]
    simp [List.getD, hi']
theorem reads9 : ∀ t ∈ ([T_sl_uint8, T_sl_uint8] : List TypeId), Tryd.prog.readableRec t = true ∧ t < Tryd.prog.types.size := by
  intro t ht
  have hall : (([T_sl_uint8, T_sl_uint8] : List TypeId).all fun t => Tryd.prog.readableRec t && decide (t < Tryd.prog.types.size)) = true := by kernel_rfl
  have := List.all_eq_true.1 hall t ht
  simpa using this

set_option maxRecDepth 100000 in
theorem plain_lifted (os : Os) (started : os.Started) (H : Type) (enc : TypeId × Value → H) :
    ReturnsInHanded {} Tryd.checked os n_decanterlaw15_AdoptPlain .any (fun w args => (Rows.adoptPlainSpec.pre enc Tryd.prog Tryd.f9 Rows.adoptPlainRow.domain false w args ∧ laidMetH Tryd.prog Rows.adoptPlainRow.laid w) ∧ sizedMet enc Tryd.prog Tryd.f9 (OpenSpec.ofChange Rows.adoptPlainSpec) false w args)
      (Rows.adoptPlainSpec.post enc Tryd.prog Tryd.f9 false true false false) := by
  refine returnsInHanded_of_change_and (C := Tryd.checked) (X := fun w _ => laidMetH Tryd.prog Rows.adoptPlainRow.laid w) (fun _ _ _ hh h => h.of_heap hh) own started (by kernel_rfl) Tryd.func9
    (ChangeSpec.witness_shaped (enc := enc) (C := Tryd.checked) (os := os) (X := fun w _ => laidMetH Tryd.prog Rows.adoptPlainRow.laid w) false (World.laidAll Tryd.prog os Rows.adoptPlainRow.laid) #[.slice none 0 0, .slice none 0 0] 8 (World.laidAll_os _ _ _)
      (World.shaped_of_ZipB (by kernel_rfl) (by kernel_rfl)) (by kernel_rfl) (by kernel_rfl) (by kernel_rfl)
      (by rw [MakeChecks.laidMetH_plain _ _ _ (by kernel_rfl)]; exact laidMet_laidAll _ (by kernel_rfl) (by kernel_rfl))) ?_
  intro W base args ds gs before hval0 hW hc hwt hL _
  have hval : ∀ (j : Nat) t v, Tryd.f9.params[j]? = some t → args[j]? = some v → Value.okWide Tryd.prog W .any base t v := hval0
  have hW' := hW
  obtain ⟨p, q, hA0, hV, rfl, _, _⟩ := hW
  have hA : DataW.TrodAll enc Tryd.prog W 0 (fun _ => true) true Tryd.f9.params.toList args.toList ds p := hA0
  have hp : Tryd.f9.params = #[T_sl_uint8, T_sl_uint8] := by kernel_rfl
  rw [hp] at hA hval
  obtain ⟨v0, v1, d0, d1, p0, p1, rfl, rfl, rfl, h0, h1⟩ := trodAll_two hA
  obtain ⟨rfl, rfl⟩ := trodVars_none hV
  obtain ⟨l0, s0⟩ := u8s_of (hval 0 _ v0 rfl rfl) h0
  obtain ⟨l1, s1⟩ := u8s_of (hval 1 _ v1 rfl rfl) h1
  have hcall := c_AdoptPlain (K := fun v w' => v = .bool true ∧ Ext W w') (glob hL) s0 s1 fun w' hE => ⟨rfl, hE⟩
  refine (CallsIn.calls (CallF.enter (by intro a w; kernel_rfl) hcall).2 (Fr_room none)).mono fun e W' he => ?_
  cases e with
  | returned v =>
    obtain ⟨rfl, hE⟩ := he
    exact ⟨_, rfl, law_post hW' rfl (by kernel_rfl) (fun _ => rfl) (by rw [hp]; exact reads9) hE.below⟩
  | _ => exact he.elim

theorem plain_holds : Rows.AdoptPlainSaid :=
  OpenClaim.holds_of_wide n_decanterlaw15_AdoptPlain Tryd.f9 rfl rfl rfl rfl rfl rfl rfl ⟨rfl, rfl, rfl, rfl, rfl⟩ rfl rfl rfl rfl rfl (by kernel_rfl) Tryd.func9 (by kernel_rfl)
    (of_decide_eq_true (by kernel_rfl)) (by unfold Func.isWrapper; first | (rw [if_pos (by decide +kernel)]; kernel_rfl) | (rw [if_neg (by decide +kernel)]; exact ⟨rfl, rfl⟩))
    (fun os started H enc _ => plain_lifted os started H enc)
theorem adoptPlain_card : Rows.AdoptPlainCardSaid :=
  Claim7.holds_tied_plain_at .later [] _ _ _ _ plain_holds (fun _ h => by cases h) (by kernel_rfl) (fun _ h => by cases h) adoptPlain_row_tie rfl ⟨rfl, rfl⟩ (by kernel_rfl) rfl
    (fun f fn hf hfn => by
      obtain rfl : f = n_decanterlaw15_AdoptPlain := Option.some.inj ((show Tryd.prog.funcNamed "decanter/decanterlaw15.AdoptPlain" = some n_decanterlaw15_AdoptPlain by kernel_rfl).symm.trans hf) |>.symm
      obtain rfl : fn = Tryd.f9 := (Option.some.inj (Tryd.func9.symm.trans hfn)).symm
      exact ⟨by kernel_rfl, fun j t ht => by
        rw [show Tryd.f9.params = #[T_sl_uint8, T_sl_uint8] by kernel_rfl] at ht
        have hm : t ∈ [T_sl_uint8, T_sl_uint8] := by simpa using Array.mem_of_getElem? ht
        have hall : ([T_sl_uint8, T_sl_uint8].all fun u => !Tryd.prog.wantsStandIn u) = true := by kernel_rfl
        exact (show Tryd.prog.wantsStandIn t = false by simpa using List.all_eq_true.1 hall t hm)⟩)
    (by kernel_rfl)
end Go.Proofs.YtcapooghkabloaaDoor
