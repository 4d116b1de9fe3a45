/- Part of the proof of a law of this seat: facts that it uses, each proved here. No conditions. -/
import Derived.Test.YtcapooghkabloaaDoorFr2
import Derived.Test.YtcapooghkabloaaDoorLTurns
namespace Go.Proofs.YtcapooghkabloaaDoor
open Go Go.Eng
open Go.ChangeShapes hiding strs
open Go.WideShapes Go.ChangeAt Go.RowKit

theorem reads6 : ∀ t ∈ ([T_sl_string, T_uint8] : List TypeId), Tryd.prog.readableRec t = true ∧ t < Tryd.prog.types.size := by
  intro t ht
  have hall : (([T_sl_string, T_uint8] : List TypeId).all fun t => Tryd.prog.readableRec t && decide (t < Tryd.prog.types.size)) = true := by kernel_rfl
  have := List.all_eq_true.1 hall t ht
  simpa using this

set_option maxRecDepth 100000 in
theorem turns_lifted (os : Os) (started : os.Started) (H : Type) (enc : TypeId × Value → H) :
    ReturnsInHanded {} Tryd.checked os n_decanterlaw13_StackTurns .any (fun w args => (Rows.stackTurnsSpec.pre enc Tryd.prog Tryd.f6 Rows.stackTurnsRow.domain false w args ∧ laidMetH Tryd.prog Rows.stackTurnsRow.laid w) ∧ sizedMet enc Tryd.prog Tryd.f6 (OpenSpec.ofChange Rows.stackTurnsSpec) false w args)
      (Rows.stackTurnsSpec.post enc Tryd.prog Tryd.f6 false true false false) := by
  refine returnsInHanded_of_change_and (C := Tryd.checked) (X := fun w _ => laidMetH Tryd.prog Rows.stackTurnsRow.laid w) (fun _ _ _ hh h => h.of_heap hh) own started (by kernel_rfl) Tryd.func6
    (ChangeSpec.witness_shaped (enc := enc) (C := Tryd.checked) (os := os) (X := fun w _ => laidMetH Tryd.prog Rows.stackTurnsRow.laid w) false (World.laidAll Tryd.prog os Rows.stackTurnsRow.laid) #[.slice none 0 0, .int .u8 0] 8 (World.laidAll_os _ _ _)
      (World.shaped_of_ZipB (by kernel_rfl) (by kernel_rfl)) (by kernel_rfl) (by kernel_rfl) (by kernel_rfl)
      (by rw [MakeChecks.laidMetH_plain _ _ _ (by kernel_rfl)]; exact laidMet_laidAll _ (by kernel_rfl) (by kernel_rfl))) ?_
  intro W base args ds gs before hval0 hW hc hwt hL _
  have hval : ∀ (j : Nat) t v, Tryd.f6.params[j]? = some t → args[j]? = some v → Value.okWide Tryd.prog W .any base t v := hval0
  have hW' := hW
  obtain ⟨p, q, hA0, hV, rfl, _, _⟩ := hW
  have hA : DataW.TrodAll enc Tryd.prog W 0 (fun _ => true) true Tryd.f6.params.toList args.toList ds p := hA0
  have hp : Tryd.f6.params = #[T_sl_string, T_uint8] := by kernel_rfl
  rw [hp] at hA hval
  obtain ⟨v0, v1, d0, d1, p0, p1, rfl, rfl, rfl, h0, h1⟩ := trodAll_two hA
  obtain ⟨rfl, rfl⟩ := trodVars_none hV
  have hwt' : (d0.weights Tryd.prog T_sl_string ++ DataW.weightsEach Tryd.prog ([T_uint8] ++ Rows.stackTurnsSpec.plain.varTypes Tryd.prog) [d1]).all (· ≤ reachBytes) = true := by
    have := hwt
    rw [hp] at this
    exact this
  rw [List.all_append, Bool.and_eq_true] at hwt'
  obtain ⟨l0, s0, b0, z0⟩ := strs_ofz (hval 0 _ v0 rfl rfl) h0 hwt'.1
  obtain ⟨s, rfl, _, _, hwf⟩ := Go.ChangeShapes.open_int (k := .u8) (show Tryd.prog.underlying T_uint8 = some (.int .u8) by kernel_rfl) (hval 1 _ v1 rfl rfl) h1
  have hr : 0 ≤ s ∧ s < 256 := by
    have h2 : IntKind.u8.min ≤ s ∧ s ≤ IntKind.u8.max := by simpa [Lit.wf] using hwf
    have e1 : IntKind.u8.min = 0 := by kernel_rfl
    have e2 : IntKind.u8.max = 255 := by kernel_rfl
    omega
  obtain ⟨out, rfl⟩ : ∃ n : Nat, s = n := ⟨s.toNat, by omega⟩
  have hcall := c_StackTurns (out := out) (K := fun v w' => v = .bool true ∧ Ext W w') (glob hL) s0 b0 (by omega) fun w' hE => ⟨rfl, hE⟩
  refine (CallsIn.calls (CallF.enter (by intro a w; kernel_rfl) hcall).2 (Fr_room none)).mono fun e W' he => ?_
  cases e with
  | returned v =>
    obtain ⟨rfl, hE⟩ := he
    exact ⟨_, rfl, law_post hW' rfl (by kernel_rfl) (fun _ => rfl) (by rw [hp]; exact reads6) hE.below⟩
  | _ => exact he.elim

theorem turns_holds : Rows.StackTurnsSaid :=
  OpenClaim.holds_of_wide n_decanterlaw13_StackTurns Tryd.f6 rfl rfl rfl rfl rfl rfl rfl ⟨rfl, rfl, rfl, rfl, rfl⟩ rfl rfl rfl rfl rfl (by kernel_rfl) Tryd.func6 (by kernel_rfl)
    (of_decide_eq_true (by kernel_rfl)) (by unfold Func.isWrapper; first | (rw [if_pos (by decide +kernel)]; kernel_rfl) | (rw [if_neg (by decide +kernel)]; exact ⟨rfl, rfl⟩))
    (fun os started H enc _ => turns_lifted os started H enc)
theorem stackTurns_card : Rows.StackTurnsCardSaid :=
  Claim7.holds_tied_plain_at .later [] _ _ _ _ turns_holds (fun _ h => by cases h) (by kernel_rfl) (fun _ h => by cases h) stackTurns_row_tie rfl ⟨rfl, rfl⟩ (by kernel_rfl) rfl
    (fun f fn hf hfn => by
      obtain rfl : f = n_decanterlaw13_StackTurns := Option.some.inj ((show Tryd.prog.funcNamed "decanter/decanterlaw13.StackTurns" = some n_decanterlaw13_StackTurns by kernel_rfl).symm.trans hf) |>.symm
      obtain rfl : fn = Tryd.f6 := (Option.some.inj (Tryd.func6.symm.trans hfn)).symm
      exact ⟨by kernel_rfl, fun j t ht => by
        rw [show Tryd.f6.params = #[T_sl_string, T_uint8] by kernel_rfl] at ht
        have hm : t ∈ [T_sl_string, T_uint8] := by simpa using Array.mem_of_getElem? ht
        have hall : ([T_sl_string, T_uint8].all fun u => !Tryd.prog.wantsStandIn u) = true := by kernel_rfl
        exact (show Tryd.prog.wantsStandIn t = false by simpa using List.all_eq_true.1 hall t hm)⟩)
    (by kernel_rfl)
end Go.Proofs.YtcapooghkabloaaDoor
