/- Part of the proof of a law of this seat: facts that it uses, each proved here. No conditions. -/
import Derived.Test.YtcapooghkabloaaDoorFr2
import Derived.Test.YtcapooghkabloaaDoorLLooks
namespace Go.Proofs.YtcapooghkabloaaDoor
open Go Go.Eng
open Go.ChangeShapes hiding strs
open Go.WideShapes Go.ChangeAt Go.RowKit

theorem reads229 : ∀ t ∈ ([T_sl_string, T_sl_string, T_string] : List TypeId), Tryd.prog.readableRec t = true ∧ t < Tryd.prog.types.size := by
  intro t ht
  have hall : (([T_sl_string, T_sl_string, T_string] : List TypeId).all fun t => Tryd.prog.readableRec t && decide (t < Tryd.prog.types.size)) = true := by kernel_rfl
  have := List.all_eq_true.1 hall t ht
  simpa using this

set_option maxRecDepth 100000 in
theorem looks_lifted (os : Os) (started : os.Started) (H : Type) (enc : TypeId × Value → H) :
    ReturnsInHanded {} Tryd.checked os n_decanterlaw13_StackLooks .any (fun w args => (Rows.stackLooksSpec.pre enc Tryd.prog Tryd.f5 Rows.stackLooksRow.domain false w args ∧ laidMetH Tryd.prog Rows.stackLooksRow.laid w) ∧ sizedMet enc Tryd.prog Tryd.f5 (OpenSpec.ofChange Rows.stackLooksSpec) false w args)
      (Rows.stackLooksSpec.post enc Tryd.prog Tryd.f5 false true false false) := by
  refine returnsInHanded_of_change_and (C := Tryd.checked) (X := fun w _ => laidMetH Tryd.prog Rows.stackLooksRow.laid w) (fun _ _ _ hh h => h.of_heap hh) own started (by kernel_rfl) Tryd.func5
    (ChangeSpec.witness_shaped (enc := enc) (C := Tryd.checked) (os := os) (X := fun w _ => laidMetH Tryd.prog Rows.stackLooksRow.laid w) false (World.laidAll Tryd.prog os Rows.stackLooksRow.laid) #[.slice none 0 0, .slice none 0 0, .string ⟨#[]⟩] 8 (World.laidAll_os _ _ _)
      (World.shaped_of_ZipB (by kernel_rfl) (by kernel_rfl)) (by kernel_rfl) (by kernel_rfl) (by kernel_rfl)
      (by rw [MakeChecks.laidMetH_plain _ _ _ (by kernel_rfl)]; exact laidMet_laidAll _ (by kernel_rfl) (by kernel_rfl))) ?_
  intro W base args ds gs before hval0 hW hc hwt hL _
  have hval : ∀ (j : Nat) t v, Tryd.f5.params[j]? = some t → args[j]? = some v → Value.okWide Tryd.prog W .any base t v := hval0
  have hW' := hW
  obtain ⟨p, q, hA0, hV, rfl, _, _⟩ := hW
  have hA : DataW.TrodAll enc Tryd.prog W 0 (fun _ => true) true Tryd.f5.params.toList args.toList ds p := hA0
  have hp : Tryd.f5.params = #[T_sl_string, T_sl_string, T_string] := by kernel_rfl
  rw [hp] at hA hval
  obtain ⟨v0, v1, v2, d0, d1, d2, p0, p1, p2, rfl, rfl, rfl, h0, h1, h2⟩ := trodAll_three hA
  obtain ⟨rfl, rfl⟩ := trodVars_none hV
  have hwt' : (d0.weights Tryd.prog T_sl_string ++ DataW.weightsEach Tryd.prog ([T_sl_string, T_string] ++ Rows.stackLooksSpec.plain.varTypes Tryd.prog) [d1, d2]).all (· ≤ reachBytes) = true := by
    have := hwt
    rw [hp] at this
    exact this
  rw [List.all_append, Bool.and_eq_true] at hwt'
  obtain ⟨l0, s0, b0, z0⟩ := strs_ofz (hval 0 _ v0 rfl rfl) h0 hwt'.1
  obtain ⟨l1, s1, b1⟩ := strs_of (hval 1 _ v1 rfl rfl) h1
  obtain ⟨s, rfl, _⟩ := Go.ChangeMaps.open_string u9 (hval 2 _ v2 rfl rfl) h2
  have hcall := c_StackLooks (but := s) (K := fun v w' => v = .bool true ∧ Ext W w') (glob hL) s0 s1 b0 b1 z0 fun w' hE => ⟨rfl, hE⟩
  refine (CallsIn.calls (CallF.enter (by intro a w; kernel_rfl) hcall).2 (Fr_room none)).mono fun e W' he => ?_
  cases e with
  | returned v =>
    obtain ⟨rfl, hE⟩ := he
    exact ⟨_, rfl, law_post hW' rfl (by kernel_rfl) (fun _ => rfl) (by rw [hp]; exact reads229) hE.below⟩
  | _ => exact he.elim

theorem looks_holds : Rows.StackLooksSaid :=
  OpenClaim.holds_of_wide n_decanterlaw13_StackLooks Tryd.f5 rfl rfl rfl rfl rfl rfl rfl ⟨rfl, rfl, rfl, rfl, rfl⟩ rfl rfl rfl rfl rfl (by kernel_rfl) Tryd.func5 (by kernel_rfl)
    (of_decide_eq_true (by kernel_rfl)) (by unfold Func.isWrapper; first | (rw [if_pos (by decide +kernel)]; kernel_rfl) | (rw [if_neg (by decide +kernel)]; exact ⟨rfl, rfl⟩))
    (fun os started H enc _ => looks_lifted os started H enc)
theorem stackLooks_card : Rows.StackLooksCardSaid :=
  Claim7.holds_tied_plain_at .later [] _ _ _ _ looks_holds (fun _ h => by cases h) (by kernel_rfl) (fun _ h => by cases h) stackLooks_row_tie rfl ⟨rfl, rfl⟩ (by kernel_rfl) rfl
    (fun f fn hf hfn => by
      obtain rfl : f = n_decanterlaw13_StackLooks := Option.some.inj ((show Tryd.prog.funcNamed "decanter/decanterlaw13.StackLooks" = some n_decanterlaw13_StackLooks by kernel_rfl).symm.trans hf) |>.symm
      obtain rfl : fn = Tryd.f5 := (Option.some.inj (Tryd.func5.symm.trans hfn)).symm
      exact ⟨by kernel_rfl, fun j t ht => by
        rw [show Tryd.f5.params = #[T_sl_string, T_sl_string, T_string] by kernel_rfl] at ht
        have hm : t ∈ [T_sl_string, T_sl_string, T_string] := by simpa using Array.mem_of_getElem? ht
        have hall : ([T_sl_string, T_sl_string, T_string].all fun u => !Tryd.prog.wantsStandIn u) = true := by kernel_rfl
        exact (show Tryd.prog.wantsStandIn t = false by simpa using List.all_eq_true.1 hall t hm)⟩)
    (by kernel_rfl)
end Go.Proofs.YtcapooghkabloaaDoor
