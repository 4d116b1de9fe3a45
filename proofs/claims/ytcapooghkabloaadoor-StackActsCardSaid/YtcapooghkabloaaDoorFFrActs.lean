/- Part of the proof of a law of this seat: facts that it uses, each proved here. No conditions. -/
import Derived.Test.YtcapooghkabloaaDoorFFr3
namespace Go.Proofs.YtcapooghkabloaaDoor
open Go Go.Eng
open Go.ChangeShapes hiding strs
open Go.WideShapes Go.ChangeAt Go.RowKit

theorem reads7 : ∀ t ∈ ([T_sl_decanterlaw13_Act] : List TypeId), Tryd.prog.readableRec t = true ∧ t < Tryd.prog.types.size := by
  intro t ht
  have hall : (([T_sl_decanterlaw13_Act] : List TypeId).all fun t => Tryd.prog.readableRec t && decide (t < Tryd.prog.types.size)) = true := by kernel_rfl
  have := List.all_eq_true.1 hall t ht
  simpa using this

set_option maxRecDepth 100000 in
theorem acts_lifted (os : Os) (started : os.Started) (H : Type) (enc : TypeId × Value → H) :
    ReturnsInHanded {} Tryd.checked os n_decanterlaw13_StackActs .any (fun w args => (Rows.stackActsSpec.pre enc Tryd.prog Tryd.f7 Rows.stackActsRow.domain false w args ∧ laidMetH Tryd.prog Rows.stackActsRow.laid w) ∧ sizedMet enc Tryd.prog Tryd.f7 (OpenSpec.ofChange Rows.stackActsSpec) false w args)
      (Rows.stackActsSpec.post enc Tryd.prog Tryd.f7 false true false false) := by
  refine returnsInHanded_of_change_and (C := Tryd.checked) (X := fun w _ => laidMetH Tryd.prog Rows.stackActsRow.laid w) (fun _ _ _ hh h => h.of_heap hh) own started (by kernel_rfl) Tryd.func7
    (ChangeSpec.witness_shaped (enc := enc) (C := Tryd.checked) (os := os) (X := fun w _ => laidMetH Tryd.prog Rows.stackActsRow.laid w) false (World.laidAll Tryd.prog os Rows.stackActsRow.laid) #[.slice none 0 0] 8 (World.laidAll_os _ _ _)
      (World.shaped_of_ZipB (by kernel_rfl) (by kernel_rfl)) (by kernel_rfl) (by kernel_rfl) (by kernel_rfl)
      (by rw [MakeChecks.laidMetH_plain _ _ _ (by kernel_rfl)]; exact laidMet_laidAll _ (by kernel_rfl) (by kernel_rfl))) ?_
  intro W base args ds gs before hval0 hW hc hwt hL _
  have hval : ∀ (j : Nat) t v, Tryd.f7.params[j]? = some t → args[j]? = some v → Value.okWide Tryd.prog W .any base t v := hval0
  have hW' := hW
  obtain ⟨p, q, hA0, hV, rfl, _, _⟩ := hW
  have hA : DataW.TrodAll enc Tryd.prog W 0 (fun _ => true) true Tryd.f7.params.toList args.toList ds p := hA0
  have hp : Tryd.f7.params = #[T_sl_decanterlaw13_Act] := by kernel_rfl
  rw [hp] at hA hval
  obtain ⟨v0, d0, rfl, rfl, h0⟩ := trodAll_one hA
  obtain ⟨rfl, rfl⟩ := trodVars_none hV
  have hwt' : (d0.weights Tryd.prog T_sl_decanterlaw13_Act ++ DataW.weightsEach Tryd.prog ([] ++ Rows.stackActsSpec.plain.varTypes Tryd.prog) ([] : List (DataW H))).all (· ≤ reachBytes) = true := by
    have := hwt
    rw [hp] at this
    exact this
  rw [List.all_append, Bool.and_eq_true] at hwt'
  obtain ⟨l0, s0, b0⟩ := acts_of (hval 0 _ v0 rfl rfl) h0 hwt'.1
  have hcall := c_StackActs (K := fun v w' => v = .bool true ∧ Ext W w') (glob hL) s0 b0 fun w' hE => ⟨rfl, hE⟩
  refine (CallsIn.calls (CallF.enter (by intro a w; kernel_rfl) hcall).2 (Fr_room none)).mono fun e W' he => ?_
  cases e with
  | returned v =>
    obtain ⟨rfl, hE⟩ := he
    exact ⟨_, rfl, law_post hW' rfl (by kernel_rfl) (fun _ => rfl) (by rw [hp]; exact reads7) hE.below⟩
  | _ => exact he.elim

theorem acts_holds : Rows.StackActsSaid :=
  OpenClaim.holds_of_wide n_decanterlaw13_StackActs Tryd.f7 rfl rfl rfl rfl rfl rfl rfl ⟨rfl, rfl, rfl, rfl, rfl⟩ rfl rfl rfl rfl rfl (by kernel_rfl) Tryd.func7 (by kernel_rfl)
    (of_decide_eq_true (by kernel_rfl)) (by unfold Func.isWrapper; first | (rw [if_pos (by decide +kernel)]; kernel_rfl) | (rw [if_neg (by decide +kernel)]; exact ⟨rfl, rfl⟩))
    (fun os started H enc _ => acts_lifted os started H enc)
theorem stackActs_card : Rows.StackActsCardSaid :=
  Claim7.holds_tied_plain_at .later [] _ _ _ _ acts_holds (fun _ h => by cases h) (by kernel_rfl) (fun _ h => by cases h) stackActs_row_tie rfl ⟨rfl, rfl⟩ (by kernel_rfl) rfl
    (fun f fn hf hfn => by
      obtain rfl : f = n_decanterlaw13_StackActs := Option.some.inj ((show Tryd.prog.funcNamed "decanter/decanterlaw13.StackActs" = some n_decanterlaw13_StackActs by kernel_rfl).symm.trans hf) |>.symm
      obtain rfl : fn = Tryd.f7 := (Option.some.inj (Tryd.func7.symm.trans hfn)).symm
      exact ⟨by kernel_rfl, fun j t ht => by
        rw [show Tryd.f7.params = #[T_sl_decanterlaw13_Act] by kernel_rfl] at ht
        have hm : t ∈ [T_sl_decanterlaw13_Act] := by simpa using Array.mem_of_getElem? ht
        have hall : ([T_sl_decanterlaw13_Act].all fun u => !Tryd.prog.wantsStandIn u) = true := by kernel_rfl
        exact (show Tryd.prog.wantsStandIn t = false by simpa using List.all_eq_true.1 hall t hm)⟩)
    (by kernel_rfl)
end Go.Proofs.YtcapooghkabloaaDoor
