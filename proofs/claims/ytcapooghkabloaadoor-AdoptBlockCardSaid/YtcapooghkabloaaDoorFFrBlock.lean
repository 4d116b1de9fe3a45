/- Part of the proof of a law of this seat: facts that it uses, each proved here. No conditions. -/
import Derived.Test.YtcapooghkabloaaDoorGN
import Derived.Test.YtcapooghkabloaaDoorFFr2
namespace Go.Proofs.YtcapooghkabloaaDoor
open Go Go.Eng
open Go.ChangeShapes hiding strs
open Go.WideShapes Go.ChangeAt Go.RowKit

theorem reads10 : ∀ t ∈ ([T_uint8, T_uint8, T_string, T_string] : List TypeId), Tryd.prog.readableRec t = true ∧ t < Tryd.prog.types.size := by
  intro t ht
  have hall : (([T_uint8, T_uint8, T_string, T_string] : List TypeId).all fun t => Tryd.prog.readableRec t && decide (t < Tryd.prog.types.size)) = true := by kernel_rfl
  have := List.all_eq_true.1 hall t ht
  simpa using this

theorem wf8 {n : Int} (h : (Lit.int .u8 n).wf = true) : 0 ≤ n ∧ n < 256 := by
  have h2 : IntKind.u8.min ≤ n ∧ n ≤ IntKind.u8.max := by simpa [Lit.wf] using h
  have e1 : IntKind.u8.min = 0 := by kernel_rfl
  have e2 : IntKind.u8.max = 255 := by kernel_rfl
  omega
theorem trodAll_four' {H : Type} {enc : TypeId × Value → H} {P : Program} {w : World} {base : Nat} {spare : Nat → Bool} {held : Bool} {t0 t1 t2 t3 : TypeId} {args : Array Value} {ds : List (DataW H)} {ps : List MemPlace} (h : DataW.TrodAll enc P w base spare held [t0, t1, t2, t3] args.toList ds ps) :
    ∃ v0 v1 v2 v3 d0 d1 d2 d3 p0 p1 p2 p3, args = #[v0, v1, v2, v3] ∧ ds = [d0, d1, d2, d3] ∧ DataW.Trod enc P w base spare held t0 v0 d0 p0 ∧ DataW.Trod enc P w base spare held t1 v1 d1 p1 ∧ DataW.Trod enc P w base spare held t2 v2 d2 p2 ∧ DataW.Trod enc P w base spare held t3 v3 d3 p3 := by
  obtain ⟨v0, vs, d0, ds', p0, q, hargs, rfl, rfl, h0, hrest⟩ := trodAll_cons h
  have hrest' : DataW.TrodAll enc P w base spare held [t1, t2, t3] (vs.toArray).toList ds' q := by simpa using hrest
  obtain ⟨v1, v2, v3, d1, d2, d3, p1, p2, p3, e1, e2, e3, h1, h2, h3⟩ := trodAll_three hrest'
  refine ⟨v0, v1, v2, v3, d0, d1, d2, d3, p0, p1, p2, p3, ?_, by rw [e2], h0, h1, h2, h3⟩
  have : vs = [v1, v2, v3] := by
    have := congrArg Array.toList e1
    simpa using this
  rw [this] at hargs
  apply Array.ext'
  simpa using hargs
set_option maxRecDepth 100000 in
theorem block_lifted (os : Os) (started : os.Started) (H : Type) (enc : TypeId × Value → H) :
    ReturnsInHanded {} Tryd.checked os n_decanterlaw15_AdoptBlock .any (fun w args => (Rows.adoptBlockSpec.pre enc Tryd.prog Tryd.f10 Rows.adoptBlockRow.domain false w args ∧ laidMetH Tryd.prog Rows.adoptBlockRow.laid w) ∧ sizedMet enc Tryd.prog Tryd.f10 (OpenSpec.ofChange Rows.adoptBlockSpec) false w args)
      (Rows.adoptBlockSpec.post enc Tryd.prog Tryd.f10 false true false false) := by
  refine returnsInHanded_of_change_and (C := Tryd.checked) (X := fun w _ => laidMetH Tryd.prog Rows.adoptBlockRow.laid w) (fun _ _ _ hh h => h.of_heap hh) own started (by kernel_rfl) Tryd.func10
    (ChangeSpec.witness_shaped (enc := enc) (C := Tryd.checked) (os := os) (X := fun w _ => laidMetH Tryd.prog Rows.adoptBlockRow.laid w) false (World.laidAll Tryd.prog os Rows.adoptBlockRow.laid) #[.int .u8 0, .int .u8 0, .string ⟨#[]⟩, .string ⟨#[]⟩] 8 (World.laidAll_os _ _ _)
      (World.shaped_of_ZipB (by kernel_rfl) (by kernel_rfl)) (by kernel_rfl) (by kernel_rfl) (by kernel_rfl)
      (by rw [MakeChecks.laidMetH_plain _ _ _ (by kernel_rfl)]; exact laidMet_laidAll _ (by kernel_rfl) (by kernel_rfl))) ?_
  intro W base args ds gs before hval0 hW hc hwt hL _
  have hval : ∀ (j : Nat) t v, Tryd.f10.params[j]? = some t → args[j]? = some v → Value.okWide Tryd.prog W .any base t v := hval0
  have hW' := hW
  obtain ⟨p, q, hA0, hV, rfl, _, _⟩ := hW
  have hA : DataW.TrodAll enc Tryd.prog W 0 (fun _ => true) true Tryd.f10.params.toList args.toList ds p := hA0
  have hp : Tryd.f10.params = #[T_uint8, T_uint8, T_string, T_string] := by kernel_rfl
  rw [hp] at hA hval
  obtain ⟨v0, v1, v2, v3, d0, d1, d2, d3, p0, p1, p2, p3, rfl, rfl, h0, h1, h2, h3⟩ := trodAll_four' hA
  obtain ⟨rfl, rfl⟩ := trodVars_none hV
  obtain ⟨s0, rfl, _, _, hwf0⟩ := Go.ChangeShapes.open_int (k := .u8) (show Tryd.prog.underlying T_uint8 = some (.int .u8) by kernel_rfl) (hval 0 _ v0 rfl rfl) h0
  obtain ⟨s1, rfl, _, _, hwf1⟩ := Go.ChangeShapes.open_int (k := .u8) (show Tryd.prog.underlying T_uint8 = some (.int .u8) by kernel_rfl) (hval 1 _ v1 rfl rfl) h1
  obtain ⟨s2, rfl, _⟩ := Go.ChangeMaps.open_string u9 (hval 2 _ v2 rfl rfl) h2
  obtain ⟨s3, rfl, _⟩ := Go.ChangeMaps.open_string u9 (hval 3 _ v3 rfl rfl) h3
  have hr0 := wf8 hwf0
  have hr1 := wf8 hwf1
  obtain ⟨n0, rfl⟩ : ∃ n : Nat, s0 = n := ⟨s0.toNat, by omega⟩
  obtain ⟨n1, rfl⟩ : ∃ n : Nat, s1 = n := ⟨s1.toNat, by omega⟩
  have hcall := c_AdoptBlock (which := n0) (block := n1) (x := s2) (y := s3) (K := fun v w' => v = .bool true ∧ Ext W w') (glob hL) fun w' hE => ⟨rfl, hE⟩
  refine (CallsIn.calls (CallF.enter (by intro a w; kernel_rfl) hcall).2 (Fr_room none)).mono fun e W' he => ?_
  cases e with
  | returned v =>
    obtain ⟨rfl, hE⟩ := he
    exact ⟨_, rfl, law_post hW' rfl (by kernel_rfl) (fun _ => rfl) (by rw [hp]; exact reads10) hE.below⟩
  | _ => exact he.elim

theorem block_holds : Rows.AdoptBlockSaid :=
  OpenClaim.holds_of_wide n_decanterlaw15_AdoptBlock Tryd.f10 rfl rfl rfl rfl rfl rfl rfl ⟨rfl, rfl, rfl, rfl, rfl⟩ rfl rfl rfl rfl rfl (by kernel_rfl) Tryd.func10 (by kernel_rfl)
    (of_decide_eq_true (by kernel_rfl)) (by unfold Func.isWrapper; first | (rw [if_pos (by decide +kernel)]; kernel_rfl) | (rw [if_neg (by decide +kernel)]; exact ⟨rfl, rfl⟩))
    (fun os started H enc _ => block_lifted os started H enc)
theorem adoptBlock_card : Rows.AdoptBlockCardSaid :=
  Claim7.holds_tied_plain_at .later [] _ _ _ _ block_holds (fun _ h => by cases h) (by kernel_rfl) (fun _ h => by cases h) adoptBlock_row_tie rfl ⟨rfl, rfl⟩ (by kernel_rfl) rfl
    (fun f fn hf hfn => by
      obtain rfl : f = n_decanterlaw15_AdoptBlock := Option.some.inj ((show Tryd.prog.funcNamed "decanter/decanterlaw15.AdoptBlock" = some n_decanterlaw15_AdoptBlock by kernel_rfl).symm.trans hf) |>.symm
      obtain rfl : fn = Tryd.f10 := (Option.some.inj (Tryd.func10.symm.trans hfn)).symm
      exact ⟨by kernel_rfl, fun j t ht => by
        rw [show Tryd.f10.params = #[T_uint8, T_uint8, T_string, T_string] by kernel_rfl] at ht
        have hm : t ∈ [T_uint8, T_uint8, T_string, T_string] := by simpa using Array.mem_of_getElem? ht
        have hall : ([T_uint8, T_uint8, T_string, T_string].all fun u => !Tryd.prog.wantsStandIn u) = true := by kernel_rfl
        exact (show Tryd.prog.wantsStandIn t = false by simpa using List.all_eq_true.1 hall t hm)⟩)
    (by kernel_rfl)
end Go.Proofs.YtcapooghkabloaaDoor
