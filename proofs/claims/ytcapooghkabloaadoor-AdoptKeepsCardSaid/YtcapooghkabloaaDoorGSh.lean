/- Part of the proof of a law of this seat: facts that it uses, each proved here. No conditions. -/
import Derived.KernelRfl
import Derived.Test.YtcapooghkabloaaDoorProg
import Derived.Test.YtcapooghkabloaaDoorGMem
namespace Go.Proofs
open Go Go.Eng
set_option linter.unusedVariables false
theorem Mx : Tryd.prog.follows .mixedOrders = true := by kernel_rfl

abbrev T_int64 : Nat := 2
abbrev T_int : Nat := 3
abbrev T_bool : Nat := 4
abbrev T_uint8 : Nat := 5
abbrev T_abi_BoundsErrorCode : Nat := 6
abbrev T_runtime_boundsError : Nat := 8
abbrev T_string : Nat := 9
abbrev T_runtime_errorString : Nat := 10
abbrev T_runtime_plainError : Nat := 11
abbrev T_uintptr : Nat := 12
abbrev T_runtime_errorAddressString : Nat := 14
abbrev T_p_runtime_TypeAssertionError : Nat := 15
abbrev T_p_runtime_PanicNilError : Nat := 16
abbrev T_p_abi_Type : Nat := 17
abbrev T_maps_unhashableTypeError : Nat := 19
abbrev T_int32 : Nat := 21
abbrev T_sl_string : Nat := 22
abbrev T_p_stack_Stack : Nat := 25
abbrev T_sl_int : Nat := 31
abbrev T_sl_decanterlaw13_Act : Nat := 46
abbrev T_p_arena_Arena : Nat := 47
abbrev T_decanterlaw13_Act : Nat := 51
abbrev T_sl_decanterlaw15_Open : Nat := 54
abbrev T_p_list_List : Nat := 55
abbrev T_sl_decanterref06_Attr : Nat := 57
abbrev T_decanterlaw15_Open : Nat := 59
abbrev T_sl_api_Attr : Nat := 60
abbrev T_sl_decanterref12_Node : Nat := 66
abbrev T_sl_api_Node : Nat := 68
abbrev T_sl_uint8 : Nat := 71
abbrev T_decanterref12_Node : Nat := 77
abbrev T_stack_Stack : Nat := 84
abbrev T_sl_arena_node : Nat := 95
abbrev T_arena_Arena : Nat := 97
abbrev T_arena_node : Nat := 100
abbrev T_api_Attr : Nat := 103
abbrev T_api_Node : Nat := 105
abbrev T_list_List : Nat := 107
abbrev T_decanterref06_Attr : Nat := 108
abbrev T_p_arena_node : Nat := 109
abbrev T_p_adopt_agency : Nat := 114
abbrev T_adopt_agency : Nat := 116
abbrev T_map_string_int : Nat := 122
abbrev T_a10_string : Nat := 134
abbrev T_a256_uint8 : Nat := 142
abbrev T_uint32 : Nat := 146
abbrev T_p_unicode_RangeTable : Nat := 148
abbrev T_uint : Nat := 149
abbrev T_utf8_acceptRange : Nat := 151
abbrev T_a16_utf8_acceptRange : Nat := 152
abbrev T_sl_unicode_Range16 : Nat := 153
abbrev T_sl_unicode_Range32 : Nat := 154
abbrev T_unicode_RangeTable : Nat := 156
abbrev T_uint16 : Nat := 157
abbrev T_unicode_Range16 : Nat := 159
abbrev T_unicode_Range32 : Nat := 162
abbrev T_p_unicode_Range16 : Nat := 164
abbrev T_p_unicode_Range32 : Nat := 165
abbrev T_runtime_TypeAssertionError : Nat := 168
abbrev T_a0_p_runtime_PanicNilError : Nat := 169
abbrev T_runtime_PanicNilError : Nat := 171
abbrev T_abi_TFlag : Nat := 172
abbrev T_abi_Kind : Nat := 173
abbrev T_p_uint8 : Nat := 175
abbrev T_abi_NameOff : Nat := 176
abbrev T_abi_TypeOff : Nat := 177
abbrev T_abi_Type : Nat := 179
abbrev T_unsafe_Pointer : Nat := 180
abbrev n_decanterlaw13_StackFar : Nat := 3
abbrev n_decanterlaw13_StackImplied : Nat := 4
abbrev n_decanterlaw13_StackLooks : Nat := 5
abbrev n_decanterlaw13_StackTurns : Nat := 6
abbrev n_decanterlaw13_StackActs : Nat := 7
abbrev n_decanterlaw15_AdoptKeeps : Nat := 8
abbrev n_decanterlaw15_AdoptPlain : Nat := 9
abbrev n_decanterlaw15_AdoptBlock : Nat := 10
abbrev n_decanterlaw13_speaks : Nat := 11
abbrev n_decanterlaw13_right : Nat := 12
abbrev n_decanterlaw13_laid : Nat := 13
abbrev n_stack_Stack_In : Nat := 14
abbrev n_stack_Stack_PopTo : Nat := 15
abbrev n_stack_Stack_Implied : Nat := 16
abbrev n_stack_Stack_All : Nat := 17
abbrev n_decanterref11_Is : Nat := 18
abbrev n_decanterref13_In : Nat := 19
abbrev n_decanterref13_To : Nat := 20
abbrev n_decanterref13_Implied : Nat := 21
abbrev n_stack_Stack_Remove : Nat := 22
abbrev n_stack_Stack_Find : Nat := 23
abbrev n_stack_Stack_Insert : Nat := 24
abbrev n_stack_Stack_Pop : Nat := 25
abbrev n_stack_Stack_Top : Nat := 26
abbrev n_arena_New : Nat := 27
abbrev n_stack_New : Nat := 28
abbrev n_decanterlaw13_StackActs_1 : Nat := 29
abbrev n_arena_Arena_Element : Nat := 30
abbrev n_stack_Stack_Push : Nat := 31
abbrev n_decanterlaw15_speaks : Nat := 32
abbrev n_list_New : Nat := 33
abbrev n_decanterlaw06_Of : Nat := 34
abbrev n_arena_Arena_Append : Nat := 35
abbrev n_arena_Arena_Text : Nat := 36
abbrev n_list_List_Push : Nat := 37
abbrev n_adopt_Again : Nat := 38
abbrev n_decanterlaw15_read : Nat := 39
abbrev n_decanterlaw12_To : Nat := 40
abbrev n_arena_Arena_Nodes : Nat := 41
abbrev n_arena_Arena_Copies : Nat := 42
abbrev n_decanterlaw15_AdoptPlain_1 : Nat := 43
abbrev n_list_List_Find : Nat := 44
abbrev n_decanterref12_Same : Nat := 45
abbrev n_decanterref14_Same : Nat := 46
abbrev n_list_List_All : Nat := 47
abbrev n_decanterlaw15_AdoptBlock_1 : Nat := 48
abbrev n_slices_Backward_ints : Nat := 49
abbrev n_arena_Arena_Name : Nat := 50
abbrev n_slices_Contains_strs : Nat := 51
abbrev n_stack_bound : Nat := 52
abbrev n_kind_Is : Nat := 53
abbrev n_slices_Clone_ints : Nat := 54
abbrev n_decanterref11_one : Nat := 55
abbrev n_decanterref11_in : Nat := 56
abbrev n_decanterref11_Lists : Nat := 57
abbrev n_decanterref13_Among : Nat := 58
abbrev n_slices_Delete_ints : Nat := 59
abbrev n_slices_Index_ints : Nat := 60
abbrev n_slices_Insert_ints : Nat := 61
abbrev n_arena_Arena_number : Nat := 62
abbrev n_slices_Clone_attrs : Nat := 63
abbrev n_arena_Arena_put : Nat := 64
abbrev n_arena_Arena_at : Nat := 65
abbrev n_arena_Arena_isText : Nat := 66
abbrev n_arena_Arena_add : Nat := 67
abbrev n_arena_Arena_Attrs : Nat := 68
abbrev n_list_List_mark : Nat := 69
abbrev n_attr_Same : Nat := 70
abbrev n_adopt_agency_once : Nat := 71
abbrev n_decanterlaw06_To : Nat := 72
abbrev n_arena_Arena_export : Nat := 73
abbrev n_decanterref06_Alike : Nat := 74
abbrev n_slices_Backward_ints_1 : Nat := 75
abbrev n_slices_Index_strs : Nat := 76
abbrev n_kind_table : Nat := 77
abbrev n_slices_overlaps_int : Nat := 78
abbrev n_slices_rotateRight_int : Nat := 79
abbrev n_arena_Arena_leave : Nat := 80
abbrev n_attr_within : Nat := 81
abbrev n_list_List_Last : Nat := 82
abbrev n_list_List_Remove : Nat := 83
abbrev n_slices_ContainsFunc_ints : Nat := 84
abbrev n_adopt_agency_is : Nat := 85
abbrev n_slices_IndexFunc_ints : Nat := 86
abbrev n_adopt_agency_close : Nat := 87
abbrev n_adopt_agency_lift : Nat := 88
abbrev n_arena_Arena_Copy : Nat := 89
abbrev n_arena_Arena_Move : Nat := 90
abbrev n_adopt_agency_unlist : Nat := 91
abbrev n_list_List_Insert : Nat := 92
abbrev n_kind_kinds : Nat := 93
abbrev n_slices_rotateLeft_int : Nat := 94
abbrev n_slices_DeleteFunc_ints : Nat := 95
abbrev n_arena_Arena_leave_1 : Nat := 96
abbrev n_slices_ContainsFunc_attrs : Nat := 97
abbrev n_attr_within_1 : Nat := 98
abbrev n_attr_Get : Nat := 99
abbrev n_adopt_agency_is_1 : Nat := 100
abbrev n_adopt_agency_instead : Nat := 101
abbrev n_kind_lists : Nat := 102
abbrev n_strings_FieldsSeq : Nat := 103
abbrev n_slices_Reverse_ints : Nat := 104
abbrev n_slices_IndexFunc_attrs : Nat := 105
abbrev n_attr_find : Nat := 106
abbrev n_list_List_Replace : Nat := 107
abbrev n_strings_FieldsSeq_1 : Nat := 108
abbrev n_unicode_utf8_DecodeRuneInString : Nat := 109
abbrev n_unicode_IsSpace : Nat := 110
abbrev n_attr_find_1 : Nat := 111
abbrev n_unicode_utf8_decodeRuneInStringSlow : Nat := 112
abbrev n_unicode_isExcludingLatin : Nat := 113
abbrev n_unicode_is16 : Nat := 114
abbrev n_unicode_is32 : Nat := 115
abbrev n_list_List_Clear : Nat := 131

-- "decanter/decanterlaw13.StackFar"
def S_decanterlaw13_StackFar (t0 t1 : Value) (K : Value → World → Prop) (w : World) : Prop :=
  Cf Tryd.prog n_decanterlaw13_speaks #[] w fun v9 wa =>
  Vl Tryd.prog (Op.unary UnOp.not v9) wa fun v10 wb =>
  Cond v10
  (Cf Tryd.prog n_decanterlaw13_speaks #[] wb fun v21 wc =>
  K v21 wc)
  (Cf Tryd.prog n_decanterlaw13_right #[t0] wb fun v13 wd =>
  Vl Tryd.prog (Op.unary UnOp.not v13) wd fun v14 we =>
  Cond v14
  (Cf Tryd.prog n_decanterlaw13_speaks #[] we fun v21a wf =>
  K v21a wf)
  (Cf Tryd.prog n_decanterlaw13_right #[t1] we fun v18 wg =>
  Vl Tryd.prog (Op.unary UnOp.not v18) wg fun v19 wh =>
  Cond v19
  (Cf Tryd.prog n_decanterlaw13_speaks #[] wh fun v21b wi =>
  K v21b wi)
  (Cf Tryd.prog n_decanterlaw13_laid #[t0] wh fun v23 wj =>
  Vl Tryd.prog (binop BinOp.eql 25 (Operand.tmp 24) (Operand.const ((Value.pointer none))) v23 (Value.pointer none)) wj fun v25 wk =>
  Cond v25
  (K (Value.bool false) wk)
  (Cf Tryd.prog n_stack_Stack_In #[v23, (Value.int IntKind.i64 0), t1] wk fun v28 wl =>
  Cf Tryd.prog n_stack_Stack_In #[v23, (Value.int IntKind.i64 1), t1] wl fun v31 wm =>
  Cf Tryd.prog n_stack_Stack_In #[v23, (Value.int IntKind.i64 2), t1] wm fun v34 wn =>
  ∃ J : List Value → List Deferred → World → Prop, (Cond v31
  (Vl Tryd.prog (Op.unary UnOp.not v28) wn fun v41 wp =>
  Cond v41
  (K (Value.bool false) wp)
  (J [] [] wp))
  (Cond v34
  (Vl Tryd.prog (Op.unary UnOp.not v28) wn fun v41a wq =>
  Cond v41a
  (K (Value.bool false) wq)
  (J [] [] wq))
  (J [] [] wn))) ∧
  ∀ (g : Nat → Value) (ds : List Deferred) (wo : World), J [] ds wo →
  Cf Tryd.prog n_stack_Stack_PopTo #[v23, t1] wo fun v45 wr =>
  Cond v45
  (Lv ds wr fun ws => K (Value.bool true) ws)
  (Vl Tryd.prog (Op.unary UnOp.not v28) wr fun v48 wt =>
  Lv ds wt fun wu => K v48 wu)))))
theorem L_decanterlaw13_StackFar (t0 t1 : Value) (K : Value → World → Prop) (w : World) (h : S_decanterlaw13_StackFar t0 t1 K w) : Cf Tryd.prog n_decanterlaw13_StackFar #[t0, t1] w K :=
  callF_of (args := [t0, t1]) (lv := fun _ => []) (jn := fun k => bif Nat.beq k 9 then some [] else none) Mx Tryd.func3 rfl Tryd.call3 rfl (by as_aux_lemma => kernel_rfl) (cast (by as_aux_lemma => kernel_rfl) h)

-- "decanter/decanterlaw13.StackImplied"
def S_decanterlaw13_StackImplied (t0 t1 : Value) (K : Value → World → Prop) (w : World) : Prop :=
  Cf Tryd.prog n_decanterlaw13_speaks #[] w fun v9 wa =>
  Vl Tryd.prog (Op.unary UnOp.not v9) wa fun v10 wb =>
  Cond v10
  (Cf Tryd.prog n_decanterlaw13_speaks #[] wb fun v16 wc =>
  K v16 wc)
  (Cf Tryd.prog n_decanterlaw13_right #[t0] wb fun v13 wd =>
  Vl Tryd.prog (Op.unary UnOp.not v13) wd fun v14 we =>
  Cond v14
  (Cf Tryd.prog n_decanterlaw13_speaks #[] we fun v16a wf =>
  K v16a wf)
  (Cf Tryd.prog n_decanterlaw13_laid #[t0] we fun v18 wg =>
  Vl Tryd.prog (binop BinOp.eql 25 (Operand.tmp 19) (Operand.const ((Value.pointer none))) v18 (Value.pointer none)) wg fun v20 wh =>
  Cond v20
  (K (Value.bool false) wh)
  (Cf Tryd.prog n_stack_Stack_Implied #[v18, t1] wh fun v23 wi =>
  Cf Tryd.prog n_stack_Stack_All #[v18] wi fun v25 wj =>
  Vl Tryd.prog (Builtin.len_ #[31] 3 #[v25]) wj fun v26 wk =>
  Cf Tryd.prog n_stack_Stack_Implied #[v18, t1] wk fun v29 wl =>
  Cf Tryd.prog n_stack_Stack_All #[v18] wl fun v31 wm =>
  Vl Tryd.prog (Builtin.len_ #[31] 3 #[v31]) wm fun v32 wn =>
  Vl Tryd.prog (binop BinOp.neq 3 (Operand.tmp 32) (Operand.tmp 33) v32 v26) wn fun v34 wo =>
  Cond v34
  (K (Value.bool false) wo)
  (Vl Tryd.prog (Builtin.len_ #[22] 3 #[t0]) wo fun v38 wp =>
  Vl Tryd.prog (binop BinOp.gtr 3 (Operand.tmp 36) (Operand.tmp 38) v26 v38) wp fun v39 wq =>
  Cond v39
  (K (Value.bool false) wq)
  (Vl Tryd.prog (Instr.sliceAt 22 t0 (some v26) none none) wq fun v43 wr =>
  Vl Tryd.prog (Builtin.len_ #[22] 3 #[v43]) wr fun v44 ws =>
  ∃ (I : List Value → List Deferred → World → Prop) (μ : List Value → World → Nat), I [(Value.int IntKind.i64 0)] [] ws ∧
  ∀ (g : Nat → Value) (ds : List Deferred) (wt : World), I [g 45] ds wt →
  (Vl Tryd.prog (binop BinOp.lss 3 (Operand.tmp 45) (Operand.tmp 44) (g 45) v44) wt fun v46 wu =>
  Cond v46
  (Vl Tryd.prog (Instr.indexAt 22 v43 (g 45)) wu fun v47 wv =>
  Vl Tryd.prog (Instr.loadAt 9 v47) wv fun v48 ww =>
  Vl Tryd.prog (binop BinOp.eql 9 (Operand.tmp 49) (Operand.tmp 50) v48 t1) ww fun v51 wx =>
  Cond v51
  (Lv ds wx fun wy => K (Value.bool false) wy)
  (Cf Tryd.prog n_decanterref11_Is #[v48, (Value.int IntKind.i64 7)] wx fun v54 wz =>
  Vl Tryd.prog (Op.unary UnOp.not v54) wz fun v55 wz27 =>
  Cond v55
  (Lv ds wz27 fun wz28 => K (Value.bool false) wz28)
  (Vl Tryd.prog (binop BinOp.add 3 (Operand.tmp 45) (Operand.const ((Value.int IntKind.i64 1))) (g 45) (Value.int IntKind.i64 1)) wz27 fun v57 wz29 =>
  I [v57] ds wz29 ∧ μ [v57] wz29 < μ [g 45] wt)))
  (Vl Tryd.prog (binop BinOp.eql 3 (Operand.tmp 58) (Operand.const ((Value.int IntKind.i64 0))) v26 (Value.int IntKind.i64 0)) wu fun v59 wz30 =>
  Cond v59
  (Lv ds wz30 fun wz31 => K (Value.bool true) wz31)
  (Vl Tryd.prog (binop BinOp.sub 3 (Operand.tmp 62) (Operand.const ((Value.int IntKind.i64 1))) v26 (Value.int IntKind.i64 1)) wz30 fun v63 wz32 =>
  Vl Tryd.prog (Instr.indexAt 22 t0 v63) wz32 fun v64 wz33 =>
  Vl Tryd.prog (Instr.loadAt 9 v64) wz33 fun v65 wz34 =>
  Vl Tryd.prog (binop BinOp.eql 9 (Operand.tmp 65) (Operand.tmp 66) v65 t1) wz34 fun v67 wz35 =>
  Cond v67
  (Lv ds wz35 fun wz36 => K (Value.bool true) wz36)
  (Vl Tryd.prog (binop BinOp.sub 3 (Operand.tmp 71) (Operand.const ((Value.int IntKind.i64 1))) v26 (Value.int IntKind.i64 1)) wz35 fun v72 wz37 =>
  Vl Tryd.prog (Instr.indexAt 22 t0 v72) wz37 fun v73 wz38 =>
  Vl Tryd.prog (Instr.loadAt 9 v73) wz38 fun v74 wz39 =>
  Cf Tryd.prog n_decanterref11_Is #[v74, (Value.int IntKind.i64 7)] wz39 fun v75 wz40 =>
  Vl Tryd.prog (Op.unary UnOp.not v75) wz40 fun v76 wz41 =>
  Lv ds wz41 fun wz42 => K v76 wz42)))))))))
theorem L_decanterlaw13_StackImplied (t0 t1 : Value) (K : Value → World → Prop) (w : World) (h : S_decanterlaw13_StackImplied t0 t1 K w) : Cf Tryd.prog n_decanterlaw13_StackImplied #[t0, t1] w K :=
  callF_of (args := [t0, t1]) (lv := fun k => bif Nat.beq k 12 then [45] else []) (jn := fun _ => none) Mx Tryd.func4 rfl Tryd.call4 rfl (by as_aux_lemma => kernel_rfl) (cast (by as_aux_lemma => kernel_rfl) h)

-- "decanter/decanterlaw13.StackLooks"
def S_decanterlaw13_StackLooks (t0 t1 t2 : Value) (K : Value → World → Prop) (w : World) : Prop :=
  Cf Tryd.prog n_decanterlaw13_speaks #[] w fun v12 wa =>
  Vl Tryd.prog (Op.unary UnOp.not v12) wa fun v13 wb =>
  Cond v13
  (Cf Tryd.prog n_decanterlaw13_speaks #[] wb fun v24 wc =>
  K v24 wc)
  (Cf Tryd.prog n_decanterlaw13_right #[t0] wb fun v16 wd =>
  Vl Tryd.prog (Op.unary UnOp.not v16) wd fun v17 we =>
  Cond v17
  (Cf Tryd.prog n_decanterlaw13_speaks #[] we fun v24a wf =>
  K v24a wf)
  (Cf Tryd.prog n_decanterlaw13_right #[t1] we fun v21 wg =>
  Vl Tryd.prog (Op.unary UnOp.not v21) wg fun v22 wh =>
  Cond v22
  (Cf Tryd.prog n_decanterlaw13_speaks #[] wh fun v24b wi =>
  K v24b wi)
  (∃ (I : List Value → List Deferred → World → Prop) (μ : List Value → World → Nat), I [(Value.int IntKind.i64 0)] [] wh ∧
  ∀ (g : Nat → Value) (ds : List Deferred) (wj : World), I [g 7] ds wj →
  (Vl Tryd.prog (binop BinOp.lss 3 (Operand.tmp 25) (Operand.const ((Value.int IntKind.i64 3))) (g 7) (Value.int IntKind.i64 3)) wj fun v26 wk =>
  Cond v26
  (Cf Tryd.prog n_decanterlaw13_laid #[t0] wk fun v30 wl =>
  Vl Tryd.prog (binop BinOp.eql 25 (Operand.tmp 31) (Operand.const ((Value.pointer none))) v30 (Value.pointer none)) wl fun v32 wm =>
  Cond v32
  (Lv ds wm fun wn => K (Value.bool false) wn)
  (Cf Tryd.prog n_stack_Stack_In #[v30, (g 7), t1] wm fun v37 wo =>
  Cf Tryd.prog n_decanterref13_In #[t0, (g 7), t1] wo fun v41 wp =>
  Vl Tryd.prog (binop BinOp.neq 4 (Operand.tmp 37) (Operand.tmp 41) v37 v41) wp fun v42 wq =>
  Cond v42
  (Lv ds wq fun wr => K (Value.bool false) wr)
  (Cf Tryd.prog n_stack_Stack_All #[v30] wq fun v46 ws =>
  Vl Tryd.prog (Builtin.len_ #[31] 3 #[v46]) ws fun v47 wt =>
  Vl Tryd.prog (Builtin.len_ #[22] 3 #[t0]) wt fun v49 wu =>
  Vl Tryd.prog (binop BinOp.neq 3 (Operand.tmp 47) (Operand.tmp 49) v47 v49) wu fun v50 wv =>
  Cond v50
  (Lv ds wv fun ww => K (Value.bool false) ww)
  (Vl Tryd.prog (binop BinOp.add 3 (Operand.tmp 27) (Operand.const ((Value.int IntKind.i64 1))) (g 7) (Value.int IntKind.i64 1)) wv fun v28 wx =>
  I [v28] ds wx ∧ μ [v28] wx < μ [g 7] wj))))
  (Cf Tryd.prog n_decanterlaw13_laid #[t0] wk fun v53 wy =>
  Cf Tryd.prog n_decanterlaw13_laid #[t0] wy fun v55 wz =>
  Vl Tryd.prog (binop BinOp.eql 25 (Operand.tmp 56) (Operand.const ((Value.pointer none))) v53 (Value.pointer none)) wz fun v57 wz27 =>
  Cond v57
  (Lv ds wz27 fun wz28 => K (Value.bool false) wz28)
  (Vl Tryd.prog (binop BinOp.eql 25 (Operand.tmp 59) (Operand.const ((Value.pointer none))) v55 (Value.pointer none)) wz27 fun v60 wz29 =>
  Cond v60
  (Lv ds wz29 fun wz30 => K (Value.bool false) wz30)
  (Cf Tryd.prog n_decanterref13_To #[t0, t1] wz29 fun v64 wz31 =>
  ∃ J : List Value → List Deferred → World → Prop, (Cf Tryd.prog n_stack_Stack_PopTo #[v53, t1] wz31 fun v67 wz33 =>
  Vl Tryd.prog (binop BinOp.geq 3 (Operand.tmp 68) (Operand.const ((Value.int IntKind.i64 0))) v64 (Value.int IntKind.i64 0)) wz33 fun v69 wz34 =>
  Vl Tryd.prog (binop BinOp.neq 4 (Operand.tmp 67) (Operand.tmp 69) v67 v69) wz34 fun v70 wz35 =>
  Cond v70
  (Lv ds wz35 fun wz36 => K (Value.bool false) wz36)
  (Vl Tryd.prog (binop BinOp.geq 3 (Operand.tmp 72) (Operand.const ((Value.int IntKind.i64 0))) v64 (Value.int IntKind.i64 0)) wz35 fun v73 wz37 =>
  Cond v73
  (Cf Tryd.prog n_stack_Stack_All #[v53] wz37 fun v76 wz38 =>
  Vl Tryd.prog (Builtin.len_ #[31] 3 #[v76]) wz38 fun v77 wz39 =>
  Vl Tryd.prog (binop BinOp.neq 3 (Operand.tmp 77) (Operand.tmp 78) v77 v64) wz39 fun v79 wz40 =>
  Cond v79
  (Lv ds wz40 fun wz41 => K (Value.bool false) wz41)
  (Vl Tryd.prog (binop BinOp.lss 3 (Operand.tmp 83) (Operand.const ((Value.int IntKind.i64 0))) v64 (Value.int IntKind.i64 0)) wz40 fun v84 wz42 =>
  Cond v84
  (Cf Tryd.prog n_stack_Stack_All #[v53] wz42 fun v87 wz43 =>
  Vl Tryd.prog (Builtin.len_ #[31] 3 #[v87]) wz43 fun v88 wz44 =>
  Vl Tryd.prog (Builtin.len_ #[22] 3 #[t0]) wz44 fun v90 wz45 =>
  Vl Tryd.prog (binop BinOp.neq 3 (Operand.tmp 88) (Operand.tmp 90) v88 v90) wz45 fun v91 wz46 =>
  Cond v91
  (Lv ds wz46 fun wz47 => K (Value.bool false) wz47)
  (J [] ds wz46))
  (J [] ds wz42)))
  (Vl Tryd.prog (binop BinOp.lss 3 (Operand.tmp 83) (Operand.const ((Value.int IntKind.i64 0))) v64 (Value.int IntKind.i64 0)) wz37 fun v84a wz48 =>
  Cond v84a
  (Cf Tryd.prog n_stack_Stack_All #[v53] wz48 fun v87a wz49 =>
  Vl Tryd.prog (Builtin.len_ #[31] 3 #[v87a]) wz49 fun v88a wz50 =>
  Vl Tryd.prog (Builtin.len_ #[22] 3 #[t0]) wz50 fun v90a wz51 =>
  Vl Tryd.prog (binop BinOp.neq 3 (Operand.tmp 88) (Operand.tmp 90) v88a v90a) wz51 fun v91a wz52 =>
  Cond v91a
  (Lv ds wz52 fun wz53 => K (Value.bool false) wz53)
  (J [] ds wz52))
  (J [] ds wz48)))) ∧
  ∀ (ga : Nat → Value) (dsa : List Deferred) (wz32 : World), J [] dsa wz32 →
  Cf Tryd.prog n_stack_Stack_Implied #[v55, t2] wz32 fun v96 wz54 =>
  Cf Tryd.prog n_stack_Stack_All #[v55] wz54 fun v98 wz55 =>
  Vl Tryd.prog (Builtin.len_ #[31] 3 #[v98]) wz55 fun v99 wz56 =>
  Cf Tryd.prog n_decanterref13_Implied #[t0, t2] wz56 fun v102 wz57 =>
  Vl Tryd.prog (binop BinOp.eql 3 (Operand.tmp 99) (Operand.tmp 102) v99 v102) wz57 fun v103 wz58 =>
  Lv dsa wz58 fun wz59 => K v103 wz59)))))))
theorem L_decanterlaw13_StackLooks (t0 t1 t2 : Value) (K : Value → World → Prop) (w : World) (h : S_decanterlaw13_StackLooks t0 t1 t2 K w) : Cf Tryd.prog n_decanterlaw13_StackLooks #[t0, t1, t2] w K :=
  callF_of (args := [t0, t1, t2]) (lv := fun k => bif Nat.beq k 4 then [7] else []) (jn := fun k => bif Nat.beq k 15 then some [] else none) Mx Tryd.func5 rfl Tryd.call5 rfl (by as_aux_lemma => kernel_rfl) (cast (by as_aux_lemma => kernel_rfl) h)

-- "decanter/decanterlaw13.StackTurns"
def S_decanterlaw13_StackTurns (t0 t1 : Value) (K : Value → World → Prop) (w : World) : Prop :=
  Cf Tryd.prog n_decanterlaw13_speaks #[] w fun v15 wa =>
  Vl Tryd.prog (Op.unary UnOp.not v15) wa fun v16 wb =>
  Cond v16
  (Cf Tryd.prog n_decanterlaw13_speaks #[] wb fun v27 wc =>
  K v27 wc)
  (Cf Tryd.prog n_decanterlaw13_right #[t0] wb fun v19 wd =>
  Vl Tryd.prog (Op.unary UnOp.not v19) wd fun v20 we =>
  Cond v20
  (Cf Tryd.prog n_decanterlaw13_speaks #[] we fun v27a wf =>
  K v27a wf)
  (Vl Tryd.prog (Builtin.len_ #[22] 3 #[t0]) we fun v24 wg =>
  Vl Tryd.prog (binop BinOp.eql 3 (Operand.tmp 24) (Operand.const ((Value.int IntKind.i64 0))) v24 (Value.int IntKind.i64 0)) wg fun v25 wh =>
  Cond v25
  (Cf Tryd.prog n_decanterlaw13_speaks #[] wh fun v27b wi =>
  K v27b wi)
  (Cf Tryd.prog n_decanterlaw13_laid #[t0] wh fun v29 wj =>
  Vl Tryd.prog (binop BinOp.eql 25 (Operand.tmp 30) (Operand.const ((Value.pointer none))) v29 (Value.pointer none)) wj fun v31 wk =>
  Cond v31
  (K (Value.bool false) wk)
  (Cf Tryd.prog n_stack_Stack_All #[v29] wk fun v33 wl =>
  Vl Tryd.prog (Builtin.len_ #[31] 3 #[v33]) wl fun v35 wm =>
  Vl Tryd.prog (Builtin.len_ #[22] 3 #[t0]) wm fun v37 wn =>
  Vl Tryd.prog (binop BinOp.neq 3 (Operand.tmp 35) (Operand.tmp 37) v35 v37) wn fun v38 wo =>
  Cond v38
  (K (Value.bool false) wo)
  (Vl Tryd.prog (convert 5 3 t1) wo fun v40 wp =>
  Vl Tryd.prog (Builtin.len_ #[31] 3 #[v33]) wp fun v42 wq =>
  Vl Tryd.prog (binop BinOp.rem 3 (Operand.tmp 40) (Operand.tmp 42) v40 v42) wq fun v43 wr =>
  Vl Tryd.prog (Instr.indexAt 31 v33 v43) wr fun v47 ws =>
  Vl Tryd.prog (Instr.loadAt 3 v47) ws fun v48 wt =>
  Cf Tryd.prog n_stack_Stack_Remove #[v29, v48] wt fun v49 wu =>
  Vl Tryd.prog (Instr.indexAt 31 v33 v43) wu fun v53 wv =>
  Vl Tryd.prog (Instr.loadAt 3 v53) wv fun v54 ww =>
  Cf Tryd.prog n_stack_Stack_Find #[v29, v54] ww fun v55 wx =>
  Vl Tryd.prog (binop BinOp.neq 3 (Operand.tmp 55) (Operand.const ((Value.int IntKind.i64 (-1)))) v55 (Value.int IntKind.i64 (-1))) wx fun v56 wy =>
  Cond v56
  (K (Value.bool false) wy)
  (Vl Tryd.prog (Instr.indexAt 31 v33 v43) wy fun v60 wz =>
  Vl Tryd.prog (Instr.loadAt 3 v60) wz fun v61 wz27 =>
  Cf Tryd.prog n_stack_Stack_Insert #[v29, (Value.int IntKind.i64 0), v61] wz27 fun v62 wz28 =>
  Vl Tryd.prog (Instr.indexAt 31 v33 v43) wz28 fun v66 wz29 =>
  Vl Tryd.prog (Instr.loadAt 3 v66) wz29 fun v67 wz30 =>
  Cf Tryd.prog n_stack_Stack_Find #[v29, v67] wz30 fun v68 wz31 =>
  Vl Tryd.prog (binop BinOp.neq 3 (Operand.tmp 68) (Operand.const ((Value.int IntKind.i64 0))) v68 (Value.int IntKind.i64 0)) wz31 fun v69 wz32 =>
  Cond v69
  (K (Value.bool false) wz32)
  (Cf Tryd.prog n_stack_Stack_All #[v29] wz32 fun v72 wz33 =>
  Vl Tryd.prog (Builtin.len_ #[31] 3 #[v72]) wz33 fun v73 wz34 =>
  Vl Tryd.prog (Builtin.len_ #[31] 3 #[v33]) wz34 fun v75 wz35 =>
  Vl Tryd.prog (binop BinOp.neq 3 (Operand.tmp 73) (Operand.tmp 75) v73 v75) wz35 fun v76 wz36 =>
  Cond v76
  (K (Value.bool false) wz36)
  (Vl Tryd.prog (Builtin.len_ #[31] 3 #[v33]) wz36 fun v79 wz37 =>
  Vl Tryd.prog (binop BinOp.sub 3 (Operand.tmp 79) (Operand.const ((Value.int IntKind.i64 1))) v79 (Value.int IntKind.i64 1)) wz37 fun v80 wz38 =>
  ∃ (I : List Value → List Deferred → World → Prop) (μ : List Value → World → Nat), I [v80] [] wz38 ∧
  ∀ (g : Nat → Value) (ds : List Deferred) (wz39 : World), I [g 8] ds wz39 →
  (Vl Tryd.prog (binop BinOp.geq 3 (Operand.tmp 81) (Operand.const ((Value.int IntKind.i64 0))) (g 8) (Value.int IntKind.i64 0)) wz39 fun v82 wz40 =>
  Cond v82
  (Vl Tryd.prog (binop BinOp.eql 3 (Operand.tmp 85) (Operand.tmp 86) (g 8) v43) wz40 fun v87 wz41 =>
  Cond v87
  (Vl Tryd.prog (binop BinOp.sub 3 (Operand.tmp 83) (Operand.const ((Value.int IntKind.i64 1))) (g 8) (Value.int IntKind.i64 1)) wz41 fun v84 wz42 =>
  I [v84] ds wz42 ∧ μ [v84] wz42 < μ [g 8] wz39)
  (Cf Tryd.prog n_stack_Stack_Pop #[v29] wz41 fun v90 wz43 =>
  Vl Tryd.prog (Instr.extract v90 0) wz43 fun v91 wz44 =>
  Vl Tryd.prog (Instr.extract v90 1) wz44 fun v92 wz45 =>
  Vl Tryd.prog (Op.unary UnOp.not v92) wz45 fun v94 wz46 =>
  Cond v94
  (Lv ds wz46 fun wz47 => K (Value.bool false) wz47)
  (Vl Tryd.prog (Instr.indexAt 31 v33 (g 8)) wz46 fun v99 wz48 =>
  Vl Tryd.prog (Instr.loadAt 3 v99) wz48 fun v100 wz49 =>
  Vl Tryd.prog (binop BinOp.neq 3 (Operand.tmp 96) (Operand.tmp 100) v91 v100) wz49 fun v101 wz50 =>
  Cond v101
  (Lv ds wz50 fun wz51 => K (Value.bool false) wz51)
  (Vl Tryd.prog (binop BinOp.sub 3 (Operand.tmp 83) (Operand.const ((Value.int IntKind.i64 1))) (g 8) (Value.int IntKind.i64 1)) wz50 fun v84a wz52 =>
  I [v84a] ds wz52 ∧ μ [v84a] wz52 < μ [g 8] wz39))))
  (Cf Tryd.prog n_stack_Stack_Pop #[v29] wz40 fun v105 wz53 =>
  Vl Tryd.prog (Instr.extract v105 0) wz53 fun v106 wz54 =>
  Vl Tryd.prog (Instr.extract v105 1) wz54 fun v107 wz55 =>
  Cf Tryd.prog n_stack_Stack_Pop #[v29] wz55 fun v110 wz56 =>
  Vl Tryd.prog (Instr.extract v110 0) wz56 fun v111 wz57 =>
  Vl Tryd.prog (Instr.extract v110 1) wz57 fun v112 wz58 =>
  Cond v107
  (Vl Tryd.prog (Instr.indexAt 31 v33 v43) wz58 fun v118 wz59 =>
  Vl Tryd.prog (Instr.loadAt 3 v118) wz59 fun v119 wz60 =>
  Vl Tryd.prog (binop BinOp.eql 3 (Operand.tmp 115) (Operand.tmp 119) v106 v119) wz60 fun v120 wz61 =>
  Cond v120
  (Vl Tryd.prog (Op.unary UnOp.not v112) wz61 fun v124 wz62 =>
  Cond v124
  (Cf Tryd.prog n_stack_Stack_Top #[v29] wz62 fun v128 wz63 =>
  Vl Tryd.prog (binop BinOp.eql 3 (Operand.tmp 128) (Operand.const ((Value.int IntKind.i64 0))) v128 (Value.int IntKind.i64 0)) wz63 fun v129 wz64 =>
  Lv ds wz64 fun wz65 => K v129 wz65)
  (Lv ds wz62 fun wz66 => K (Value.bool false) wz66))
  (Lv ds wz61 fun wz67 => K (Value.bool false) wz67))
  (Lv ds wz58 fun wz68 => K (Value.bool false) wz68)))))))))))
theorem L_decanterlaw13_StackTurns (t0 t1 : Value) (K : Value → World → Prop) (w : World) (h : S_decanterlaw13_StackTurns t0 t1 K w) : Cf Tryd.prog n_decanterlaw13_StackTurns #[t0, t1] w K :=
  callF_of (args := [t0, t1]) (lv := fun k => bif Nat.beq k 17 then [8] else []) (jn := fun _ => none) Mx Tryd.func6 rfl Tryd.call6 rfl (by as_aux_lemma => kernel_rfl) (cast (by as_aux_lemma => kernel_rfl) h)

-- "decanter/decanterlaw13.StackActs"
def S_decanterlaw13_StackActs (t0 : Value) (K : Value → World → Prop) (w : World) : Prop :=
  Cf Tryd.prog n_decanterlaw13_speaks #[] w fun v22 wa =>
  Vl Tryd.prog (Op.unary UnOp.not v22) wa fun v23 wb =>
  Cond v23
  (Cf Tryd.prog n_decanterlaw13_speaks #[] wb fun v29 wc =>
  K v29 wc)
  (Vl Tryd.prog (Builtin.len_ #[46] 3 #[t0]) wb fun v26 wd =>
  Vl Tryd.prog (binop BinOp.gtr 3 (Operand.tmp 26) (Operand.const ((Value.int IntKind.i64 40))) v26 (Value.int IntKind.i64 40)) wd fun v27 we =>
  Cond v27
  (Cf Tryd.prog n_decanterlaw13_speaks #[] we fun v29a wf =>
  K v29a wf)
  (Cf Tryd.prog n_arena_New #[] we fun v30 wg =>
  Vl Tryd.prog (binop BinOp.eql 47 (Operand.tmp 31) (Operand.const ((Value.pointer none))) v30 (Value.pointer none)) wg fun v32 wh =>
  Cond v32
  (K (Value.bool false) wh)
  (Cf Tryd.prog n_stack_New #[v30] wh fun v34 wi =>
  Vl Tryd.prog (binop BinOp.eql 25 (Operand.tmp 35) (Operand.const ((Value.pointer none))) v34 (Value.pointer none)) wi fun v36 wj =>
  Cond v36
  (K (Value.bool false) wj)
  (Vl Tryd.prog (Instr.alloc 31 true (.tuple #[])) wj fun v5 wk =>
  Vl Tryd.prog (Instr.alloc 22 true (.tuple #[])) wk fun v6 wl =>
  Vl Tryd.prog (Instr.makeFunc (Fn.func 29) #[] #[v5, v6]) wl fun v37 wm =>
  Vl Tryd.prog (Builtin.len_ #[46] 3 #[t0]) wm fun v39 wn =>
  ∃ (I : List Value → List Deferred → World → Prop) (μ : List Value → World → Nat), I [(Value.int IntKind.i64 0)] [] wn ∧
  ∀ (g : Nat → Value) (ds : List Deferred) (wo : World), I [g 40] ds wo →
  (Vl Tryd.prog (binop BinOp.lss 3 (Operand.tmp 40) (Operand.tmp 39) (g 40) v39) wo fun v41 wp =>
  Cond v41
  (Vl Tryd.prog (Instr.indexAt 46 t0 (g 40)) wp fun v42 wq =>
  Vl Tryd.prog (Instr.loadAt 51 v42) wq fun v43 wr =>
  Vl Tryd.prog (Instr.alloc 51 true (.tuple #[])) wr fun v9 ws =>
  Ef Tryd.prog (Instr.storeAt 51 v9 v43) ws fun wt =>
  Vl Tryd.prog (Instr.fieldAt 51 v9 2) wt fun v44 wu =>
  Vl Tryd.prog (Instr.loadAt 22 v44) wu fun v45 wv =>
  Cf Tryd.prog n_decanterlaw13_right #[v45] wv fun v46 ww =>
  Vl Tryd.prog (Op.unary UnOp.not v46) ww fun v47 wx =>
  Cond v47
  (Lv ds wx fun wy => K (Value.bool true) wy)
  (Vl Tryd.prog (Instr.fieldAt 51 v9 2) wx fun v49 wz =>
  Vl Tryd.prog (Instr.loadAt 22 v49) wz fun v50 wz27 =>
  Vl Tryd.prog (Builtin.len_ #[22] 3 #[v50]) wz27 fun v51 wz28 =>
  Vl Tryd.prog (binop BinOp.eql 3 (Operand.tmp 51) (Operand.const ((Value.int IntKind.i64 0))) v51 (Value.int IntKind.i64 0)) wz28 fun v52 wz29 =>
  Cond v52
  (Lv ds wz29 fun wz30 => K (Value.bool true) wz30)
  (Vl Tryd.prog (Instr.fieldAt 51 v9 2) wz29 fun v54 wz31 =>
  Vl Tryd.prog (Instr.loadAt 22 v54) wz31 fun v55 wz32 =>
  Vl Tryd.prog (Instr.indexAt 22 v55 (Value.int IntKind.i64 0)) wz32 fun v56 wz33 =>
  Vl Tryd.prog (Instr.loadAt 9 v56) wz33 fun v57 wz34 =>
  Vl Tryd.prog (Instr.fieldAt 51 v9 1) wz34 fun v58 wz35 =>
  Vl Tryd.prog (Instr.loadAt 3 v58) wz35 fun v59 wz36 =>
  Vl Tryd.prog (Instr.fieldAt 51 v9 1) wz36 fun v60 wz37 =>
  Vl Tryd.prog (Instr.loadAt 3 v60) wz37 fun v61 wz38 =>
  Vl Tryd.prog (binop BinOp.add 3 (Operand.tmp 61) (Operand.const ((Value.int IntKind.i64 1))) v61 (Value.int IntKind.i64 1)) wz38 fun v62 wz39 =>
  Vl Tryd.prog (Op.unary UnOp.neg v62) wz39 fun v63 wz40 =>
  Vl Tryd.prog (Builtin.max_ #[3, 3] 3 #[v59, v63]) wz40 fun v64 wz41 =>
  Vl Tryd.prog (Instr.loadAt 31 v5) wz41 fun v65 wz42 =>
  Vl Tryd.prog (Builtin.len_ #[31] 3 #[v65]) wz42 fun v66 wz43 =>
  Vl Tryd.prog (binop BinOp.add 3 (Operand.tmp 66) (Operand.const ((Value.int IntKind.i64 1))) v66 (Value.int IntKind.i64 1)) wz43 fun v67 wz44 =>
  Vl Tryd.prog (binop BinOp.rem 3 (Operand.tmp 64) (Operand.tmp 67) v64 v67) wz44 fun v68 wz45 =>
  ∃ J : List Value → List Deferred → World → Prop, (Vl Tryd.prog (Instr.fieldAt 51 v9 0) wz45 fun v69 wz47 =>
  Vl Tryd.prog (Instr.loadAt 3 v69) wz47 fun v70 wz48 =>
  Vl Tryd.prog (binop BinOp.eql 3 (Operand.tmp 70) (Operand.const ((Value.int IntKind.i64 0))) v70 (Value.int IntKind.i64 0)) wz48 fun v80 wz49 =>
  Cond v80
  (Cf Tryd.prog n_arena_Arena_Element #[v30, v57, (Value.slice none 0 0)] wz49 fun v83 wz50 =>
  Cf Tryd.prog n_stack_Stack_Push #[v34, v83] wz50 fun v86 wz51 =>
  ∃ S : World → Prop, S (dr wz51) ∧
  ValQ Tryd.prog S (Instr.loadAt 31 v5) fun v87 =>
  ValQ Tryd.prog S (Instr.loadAt 22 v6) fun v91 =>
  (Vl Tryd.prog (Instr.buildSlice 31 1 #[(0, v83)]) (dr wz51) fun v89 wz52 =>
  ∃ Sa : World → Prop, (∀ x, Sa x → S x) ∧ Sa wz52 ∧
  (Vl Tryd.prog (Builtin.append_ #[31, 31] 31 #[v87, v89]) wz52 fun v90 wz53 =>
  ∃ Sb : World → Prop, (∀ x, Sb x → Sa x) ∧ Sb wz53 ∧
  Vl Tryd.prog (Instr.buildSlice 22 1 #[(0, v57)]) wz53 fun v93 wz54 =>
  ∃ Sc : World → Prop, (∀ x, Sc x → Sb x) ∧ Sc wz54 ∧
  Vl Tryd.prog (Builtin.append_ #[22, 22] 22 #[v91, v93]) wz54 fun v94 wz55 =>
  ∃ Sd : World → Prop, Sd wz55 ∧
  Ef Tryd.prog (Instr.storeAt 31 v5 v90) wz55 fun wz56 =>
  ∃ Se : World → Prop, Se wz56 ∧
  Ef Tryd.prog (Instr.storeAt 22 v6 v94) wz56 fun wz57 =>
  ∃ Sf : World → Prop, Sf wz57 ∧
  J [] ds wz57) ∧ (Vl Tryd.prog (Instr.buildSlice 22 1 #[(0, v57)]) wz52 fun v93a wz58 =>
  ∃ Sg : World → Prop, (∀ x, Sg x → Sa x) ∧ Sg wz58 ∧
  Vl Tryd.prog (Builtin.append_ #[31, 31] 31 #[v87, v89]) wz58 fun v90a wz59 =>
  ∃ Sh : World → Prop, (∀ x, Sh x → Sg x) ∧ Sh wz59 ∧
  Vl Tryd.prog (Builtin.append_ #[22, 22] 22 #[v91, v93a]) wz59 fun v94a wz60 =>
  ∃ Si : World → Prop, Si wz60 ∧
  Ef Tryd.prog (Instr.storeAt 31 v5 v90a) wz60 fun wz61 =>
  ∃ Sj : World → Prop, Sj wz61 ∧
  Ef Tryd.prog (Instr.storeAt 22 v6 v94a) wz61 fun wz62 =>
  ∃ Sk : World → Prop, Sk wz62 ∧
  J [] ds wz62) ∧ True) ∧ (Vl Tryd.prog (Instr.buildSlice 22 1 #[(0, v57)]) (dr wz51) fun v93b wz63 =>
  ∃ Sl : World → Prop, (∀ x, Sl x → S x) ∧ Sl wz63 ∧
  Vl Tryd.prog (Instr.buildSlice 31 1 #[(0, v83)]) wz63 fun v89a wz64 =>
  ∃ Sm : World → Prop, (∀ x, Sm x → Sl x) ∧ Sm wz64 ∧
  Vl Tryd.prog (Builtin.append_ #[31, 31] 31 #[v87, v89a]) wz64 fun v90b wz65 =>
  ∃ Sn : World → Prop, (∀ x, Sn x → Sm x) ∧ Sn wz65 ∧
  Vl Tryd.prog (Builtin.append_ #[22, 22] 22 #[v91, v93b]) wz65 fun v94b wz66 =>
  ∃ So : World → Prop, So wz66 ∧
  Ef Tryd.prog (Instr.storeAt 31 v5 v90b) wz66 fun wz67 =>
  ∃ Sp : World → Prop, Sp wz67 ∧
  Ef Tryd.prog (Instr.storeAt 22 v6 v94b) wz67 fun wz68 =>
  ∃ Sq : World → Prop, Sq wz68 ∧
  J [] ds wz68) ∧ True)
  (Vl Tryd.prog (binop BinOp.eql 3 (Operand.tmp 70) (Operand.const ((Value.int IntKind.i64 1))) v70 (Value.int IntKind.i64 1)) wz49 fun v96 wz69 =>
  Cond v96
  (Cf Tryd.prog n_stack_Stack_Pop #[v34] wz69 fun v99 wz70 =>
  Vl Tryd.prog (Instr.extract v99 0) wz70 fun v100 wz71 =>
  Vl Tryd.prog (Instr.extract v99 1) wz71 fun v101 wz72 =>
  ∃ Ja : List Value → List Deferred → World → Prop, (Vl Tryd.prog (Instr.loadAt 31 v5) wz72 fun v103 wz74 =>
  Vl Tryd.prog (Builtin.len_ #[31] 3 #[v103]) wz74 fun v104 wz75 =>
  Vl Tryd.prog (binop BinOp.gtr 3 (Operand.tmp 104) (Operand.const ((Value.int IntKind.i64 0))) v104 (Value.int IntKind.i64 0)) wz75 fun v105 wz76 =>
  Vl Tryd.prog (binop BinOp.neq 4 (Operand.tmp 102) (Operand.tmp 105) v101 v105) wz76 fun v106 wz77 =>
  Cond v106
  (Lv ds wz77 fun wz78 => K (Value.bool false) wz78)
  (Cond v101
  (Vl Tryd.prog (Instr.loadAt 31 v5) wz77 fun v111 wz79 =>
  Vl Tryd.prog (Instr.loadAt 31 v5) wz79 fun v112 wz80 =>
  Vl Tryd.prog (Builtin.len_ #[31] 3 #[v112]) wz80 fun v113 wz81 =>
  Vl Tryd.prog (binop BinOp.sub 3 (Operand.tmp 113) (Operand.const ((Value.int IntKind.i64 1))) v113 (Value.int IntKind.i64 1)) wz81 fun v114 wz82 =>
  Vl Tryd.prog (Instr.indexAt 31 v111 v114) wz82 fun v115 wz83 =>
  Vl Tryd.prog (Instr.loadAt 3 v115) wz83 fun v116 wz84 =>
  Vl Tryd.prog (binop BinOp.neq 3 (Operand.tmp 110) (Operand.tmp 116) v100 v116) wz84 fun v117 wz85 =>
  Cond v117
  (Lv ds wz85 fun wz86 => K (Value.bool false) wz86)
  (Vl Tryd.prog (Op.unary UnOp.not v101) wz85 fun v122 wz87 =>
  Cond v122
  (Vl Tryd.prog (binop BinOp.neq 3 (Operand.tmp 124) (Operand.const ((Value.int IntKind.i64 0))) v100 (Value.int IntKind.i64 0)) wz87 fun v125 wz88 =>
  Cond v125
  (Lv ds wz88 fun wz89 => K (Value.bool false) wz89)
  (Ja [] ds wz88))
  (Ja [] ds wz87)))
  (Vl Tryd.prog (Op.unary UnOp.not v101) wz77 fun v122a wz90 =>
  Cond v122a
  (Vl Tryd.prog (binop BinOp.neq 3 (Operand.tmp 124) (Operand.const ((Value.int IntKind.i64 0))) v100 (Value.int IntKind.i64 0)) wz90 fun v125a wz91 =>
  Cond v125a
  (Lv ds wz91 fun wz92 => K (Value.bool false) wz92)
  (Ja [] ds wz91))
  (Ja [] ds wz90)))) ∧
  ∀ (gb : Nat → Value) (dsb : List Deferred) (wz73 : World), Ja [] dsb wz73 →
  Cond v101
  (Vl Tryd.prog (Instr.loadAt 31 v5) wz73 fun v130 wz93 =>
  Vl Tryd.prog (Builtin.len_ #[31] 3 #[v130]) wz93 fun v131 wz94 =>
  Vl Tryd.prog (binop BinOp.sub 3 (Operand.tmp 131) (Operand.const ((Value.int IntKind.i64 1))) v131 (Value.int IntKind.i64 1)) wz94 fun v132 wz95 =>
  Cv Tryd.prog v37 #[v132] wz95 fun v133 wz96 =>
  J [] dsb wz96)
  (J [] dsb wz73))
  (Vl Tryd.prog (binop BinOp.eql 3 (Operand.tmp 70) (Operand.const ((Value.int IntKind.i64 2))) v70 (Value.int IntKind.i64 2)) wz69 fun v135 wz97 =>
  Cond v135
  (Vl Tryd.prog (Instr.loadAt 31 v5) wz97 fun v137 wz98 =>
  Vl Tryd.prog (Builtin.len_ #[31] 3 #[v137]) wz98 fun v138 wz99 =>
  Vl Tryd.prog (binop BinOp.eql 3 (Operand.tmp 136) (Operand.tmp 138) v68 v138) wz99 fun v139 wz100 =>
  Cond v139
  (Vl Tryd.prog (binop BinOp.add 3 (Operand.tmp 40) (Operand.const ((Value.int IntKind.i64 1))) (g 40) (Value.int IntKind.i64 1)) wz100 fun v280 wz101 =>
  I [v280] ds wz101 ∧ μ [v280] wz101 < μ [g 40] wo)
  (Vl Tryd.prog (Instr.loadAt 31 v5) wz100 fun v141 wz102 =>
  Vl Tryd.prog (Instr.indexAt 31 v141 v68) wz102 fun v143 wz103 =>
  Vl Tryd.prog (Instr.loadAt 3 v143) wz103 fun v144 wz104 =>
  Cf Tryd.prog n_stack_Stack_Remove #[v34, v144] wz104 fun v145 wz105 =>
  ∃ Sr : World → Prop, Sr (dr wz105) ∧
  ValQ Tryd.prog Sr (Instr.loadAt 31 v5) fun v147 =>
  Pv Tryd.prog (Instr.sliceAt 31 v147 none (some v68) none) fun v149 =>
  ValQ Tryd.prog Sr (Instr.loadAt 31 v5) fun v151 =>
  Pv Tryd.prog (binop BinOp.add 3 (Operand.tmp 152) (Operand.const ((Value.int IntKind.i64 1))) v68 (Value.int IntKind.i64 1)) fun v153 =>
  Pv Tryd.prog (Instr.sliceAt 31 v151 (some v153) none none) fun v154 =>
  Vl Tryd.prog (Instr.buildSlice 31 0 #[]) (dr wz105) fun v146 wz106 =>
  ∃ Ss : World → Prop, (∀ x, Ss x → Sr x) ∧ Ss wz106 ∧
  Vl Tryd.prog (Builtin.append_ #[31, 31] 31 #[v146, v149]) wz106 fun v150 wz107 =>
  ∃ St : World → Prop, (∀ x, St x → Ss x) ∧ St wz107 ∧
  Vl Tryd.prog (Builtin.append_ #[31, 31] 31 #[v150, v154]) wz107 fun v155 wz108 =>
  ∃ Su : World → Prop, (∀ x, Su x → St x) ∧ Su wz108 ∧
  Ef Tryd.prog (Instr.storeAt 31 v5 v155) wz108 fun wz109 =>
  ∃ Sv : World → Prop, Sv wz109 ∧
  ∃ Sw : World → Prop, Sw (dr wz109) ∧
  ValQ Tryd.prog Sw (Instr.loadAt 22 v6) fun v157 =>
  Pv Tryd.prog (Instr.sliceAt 22 v157 none (some v68) none) fun v159 =>
  ValQ Tryd.prog Sw (Instr.loadAt 22 v6) fun v161 =>
  Pv Tryd.prog (binop BinOp.add 3 (Operand.tmp 162) (Operand.const ((Value.int IntKind.i64 1))) v68 (Value.int IntKind.i64 1)) fun v163 =>
  Pv Tryd.prog (Instr.sliceAt 22 v161 (some v163) none none) fun v164 =>
  Vl Tryd.prog (Instr.buildSlice 22 0 #[]) (dr wz109) fun v156 wz110 =>
  ∃ Sx : World → Prop, (∀ x, Sx x → Sw x) ∧ Sx wz110 ∧
  Vl Tryd.prog (Builtin.append_ #[22, 22] 22 #[v156, v159]) wz110 fun v160 wz111 =>
  ∃ Sy : World → Prop, (∀ x, Sy x → Sx x) ∧ Sy wz111 ∧
  Vl Tryd.prog (Builtin.append_ #[22, 22] 22 #[v160, v164]) wz111 fun v165 wz112 =>
  ∃ Sz : World → Prop, (∀ x, Sz x → Sy x) ∧ Sz wz112 ∧
  Ef Tryd.prog (Instr.storeAt 22 v6 v165) wz112 fun wz113 =>
  ∃ Sz27 : World → Prop, Sz27 wz113 ∧
  J [] ds wz113))
  (Vl Tryd.prog (binop BinOp.eql 3 (Operand.tmp 70) (Operand.const ((Value.int IntKind.i64 3))) v70 (Value.int IntKind.i64 3)) wz97 fun v167 wz114 =>
  Cond v167
  (Cf Tryd.prog n_arena_Arena_Element #[v30, v57, (Value.slice none 0 0)] wz114 fun v170 wz115 =>
  Cf Tryd.prog n_stack_Stack_Insert #[v34, v68, v170] wz115 fun v174 wz116 =>
  ∃ Sz28 : World → Prop, Sz28 (dr wz116) ∧
  ValQ Tryd.prog Sz28 (Instr.loadAt 31 v5) fun v176 =>
  Pv Tryd.prog (Instr.sliceAt 31 v176 none (some v68) none) fun v178 =>
  ValQ Tryd.prog Sz28 (Instr.loadAt 31 v5) fun v183 =>
  Pv Tryd.prog (Instr.sliceAt 31 v183 (some v68) none none) fun v185 =>
  (Vl Tryd.prog (Instr.buildSlice 31 0 #[]) (dr wz116) fun v175 wz117 =>
  ∃ Sz29 : World → Prop, (∀ x, Sz29 x → Sz28 x) ∧ Sz29 wz117 ∧
  (Vl Tryd.prog (Builtin.append_ #[31, 31] 31 #[v175, v178]) wz117 fun v179 wz118 =>
  ∃ Sz30 : World → Prop, (∀ x, Sz30 x → Sz29 x) ∧ Sz30 wz118 ∧
  Vl Tryd.prog (Instr.buildSlice 31 1 #[(0, v170)]) wz118 fun v181 wz119 =>
  ∃ Sz31 : World → Prop, (∀ x, Sz31 x → Sz30 x) ∧ Sz31 wz119 ∧
  Vl Tryd.prog (Builtin.append_ #[31, 31] 31 #[v179, v181]) wz119 fun v182 wz120 =>
  ∃ Sz32 : World → Prop, (∀ x, Sz32 x → Sz31 x) ∧ Sz32 wz120 ∧
  Vl Tryd.prog (Builtin.append_ #[31, 31] 31 #[v182, v185]) wz120 fun v186 wz121 =>
  ∃ Sz33 : World → Prop, (∀ x, Sz33 x → Sz32 x) ∧ Sz33 wz121 ∧
  Ef Tryd.prog (Instr.storeAt 31 v5 v186) wz121 fun wz122 =>
  ∃ Sz34 : World → Prop, Sz34 wz122 ∧
  ∃ Sz35 : World → Prop, Sz35 (dr wz122) ∧
  ValQ Tryd.prog Sz35 (Instr.loadAt 22 v6) fun v188 =>
  Pv Tryd.prog (Instr.sliceAt 22 v188 none (some v68) none) fun v190 =>
  ValQ Tryd.prog Sz35 (Instr.loadAt 22 v6) fun v195 =>
  Pv Tryd.prog (Instr.sliceAt 22 v195 (some v68) none none) fun v197 =>
  (Vl Tryd.prog (Instr.buildSlice 22 0 #[]) (dr wz122) fun v187 wz123 =>
  ∃ Sz36 : World → Prop, (∀ x, Sz36 x → Sz35 x) ∧ Sz36 wz123 ∧
  (Vl Tryd.prog (Builtin.append_ #[22, 22] 22 #[v187, v190]) wz123 fun v191 wz124 =>
  ∃ Sz37 : World → Prop, (∀ x, Sz37 x → Sz36 x) ∧ Sz37 wz124 ∧
  Vl Tryd.prog (Instr.buildSlice 22 1 #[(0, v57)]) wz124 fun v193 wz125 =>
  ∃ Sz38 : World → Prop, (∀ x, Sz38 x → Sz37 x) ∧ Sz38 wz125 ∧
  Vl Tryd.prog (Builtin.append_ #[22, 22] 22 #[v191, v193]) wz125 fun v194 wz126 =>
  ∃ Sz39 : World → Prop, (∀ x, Sz39 x → Sz38 x) ∧ Sz39 wz126 ∧
  Vl Tryd.prog (Builtin.append_ #[22, 22] 22 #[v194, v197]) wz126 fun v198 wz127 =>
  ∃ Sz40 : World → Prop, (∀ x, Sz40 x → Sz39 x) ∧ Sz40 wz127 ∧
  Ef Tryd.prog (Instr.storeAt 22 v6 v198) wz127 fun wz128 =>
  ∃ Sz41 : World → Prop, Sz41 wz128 ∧
  J [] ds wz128) ∧ (Vl Tryd.prog (Instr.buildSlice 22 1 #[(0, v57)]) wz123 fun v193a wz129 =>
  ∃ Sz42 : World → Prop, (∀ x, Sz42 x → Sz36 x) ∧ Sz42 wz129 ∧
  Vl Tryd.prog (Builtin.append_ #[22, 22] 22 #[v187, v190]) wz129 fun v191a wz130 =>
  ∃ Sz43 : World → Prop, (∀ x, Sz43 x → Sz42 x) ∧ Sz43 wz130 ∧
  Vl Tryd.prog (Builtin.append_ #[22, 22] 22 #[v191a, v193a]) wz130 fun v194a wz131 =>
  ∃ Sz44 : World → Prop, (∀ x, Sz44 x → Sz43 x) ∧ Sz44 wz131 ∧
  Vl Tryd.prog (Builtin.append_ #[22, 22] 22 #[v194a, v197]) wz131 fun v198a wz132 =>
  ∃ Sz45 : World → Prop, (∀ x, Sz45 x → Sz44 x) ∧ Sz45 wz132 ∧
  Ef Tryd.prog (Instr.storeAt 22 v6 v198a) wz132 fun wz133 =>
  ∃ Sz46 : World → Prop, Sz46 wz133 ∧
  J [] ds wz133) ∧ True) ∧ (Vl Tryd.prog (Instr.buildSlice 22 1 #[(0, v57)]) (dr wz122) fun v193b wz134 =>
  ∃ Sz47 : World → Prop, (∀ x, Sz47 x → Sz35 x) ∧ Sz47 wz134 ∧
  Vl Tryd.prog (Instr.buildSlice 22 0 #[]) wz134 fun v187a wz135 =>
  ∃ Sz48 : World → Prop, (∀ x, Sz48 x → Sz47 x) ∧ Sz48 wz135 ∧
  Vl Tryd.prog (Builtin.append_ #[22, 22] 22 #[v187a, v190]) wz135 fun v191b wz136 =>
  ∃ Sz49 : World → Prop, (∀ x, Sz49 x → Sz48 x) ∧ Sz49 wz136 ∧
  Vl Tryd.prog (Builtin.append_ #[22, 22] 22 #[v191b, v193b]) wz136 fun v194b wz137 =>
  ∃ Sz50 : World → Prop, (∀ x, Sz50 x → Sz49 x) ∧ Sz50 wz137 ∧
  Vl Tryd.prog (Builtin.append_ #[22, 22] 22 #[v194b, v197]) wz137 fun v198b wz138 =>
  ∃ Sz51 : World → Prop, (∀ x, Sz51 x → Sz50 x) ∧ Sz51 wz138 ∧
  Ef Tryd.prog (Instr.storeAt 22 v6 v198b) wz138 fun wz139 =>
  ∃ Sz52 : World → Prop, Sz52 wz139 ∧
  J [] ds wz139) ∧ True) ∧ (Vl Tryd.prog (Instr.buildSlice 31 1 #[(0, v170)]) wz117 fun v181a wz140 =>
  ∃ Sz53 : World → Prop, (∀ x, Sz53 x → Sz29 x) ∧ Sz53 wz140 ∧
  Vl Tryd.prog (Builtin.append_ #[31, 31] 31 #[v175, v178]) wz140 fun v179a wz141 =>
  ∃ Sz54 : World → Prop, (∀ x, Sz54 x → Sz53 x) ∧ Sz54 wz141 ∧
  Vl Tryd.prog (Builtin.append_ #[31, 31] 31 #[v179a, v181a]) wz141 fun v182a wz142 =>
  ∃ Sz55 : World → Prop, (∀ x, Sz55 x → Sz54 x) ∧ Sz55 wz142 ∧
  Vl Tryd.prog (Builtin.append_ #[31, 31] 31 #[v182a, v185]) wz142 fun v186a wz143 =>
  ∃ Sz56 : World → Prop, (∀ x, Sz56 x → Sz55 x) ∧ Sz56 wz143 ∧
  Ef Tryd.prog (Instr.storeAt 31 v5 v186a) wz143 fun wz144 =>
  ∃ Sz57 : World → Prop, Sz57 wz144 ∧
  ∃ Sz58 : World → Prop, Sz58 (dr wz144) ∧
  ValQ Tryd.prog Sz58 (Instr.loadAt 22 v6) fun v188a =>
  Pv Tryd.prog (Instr.sliceAt 22 v188a none (some v68) none) fun v190a =>
  ValQ Tryd.prog Sz58 (Instr.loadAt 22 v6) fun v195a =>
  Pv Tryd.prog (Instr.sliceAt 22 v195a (some v68) none none) fun v197a =>
  (Vl Tryd.prog (Instr.buildSlice 22 0 #[]) (dr wz144) fun v187b wz145 =>
  ∃ Sz59 : World → Prop, (∀ x, Sz59 x → Sz58 x) ∧ Sz59 wz145 ∧
  (Vl Tryd.prog (Builtin.append_ #[22, 22] 22 #[v187b, v190a]) wz145 fun v191c wz146 =>
  ∃ Sz60 : World → Prop, (∀ x, Sz60 x → Sz59 x) ∧ Sz60 wz146 ∧
  Vl Tryd.prog (Instr.buildSlice 22 1 #[(0, v57)]) wz146 fun v193c wz147 =>
  ∃ Sz61 : World → Prop, (∀ x, Sz61 x → Sz60 x) ∧ Sz61 wz147 ∧
  Vl Tryd.prog (Builtin.append_ #[22, 22] 22 #[v191c, v193c]) wz147 fun v194c wz148 =>
  ∃ Sz62 : World → Prop, (∀ x, Sz62 x → Sz61 x) ∧ Sz62 wz148 ∧
  Vl Tryd.prog (Builtin.append_ #[22, 22] 22 #[v194c, v197a]) wz148 fun v198c wz149 =>
  ∃ Sz63 : World → Prop, (∀ x, Sz63 x → Sz62 x) ∧ Sz63 wz149 ∧
  Ef Tryd.prog (Instr.storeAt 22 v6 v198c) wz149 fun wz150 =>
  ∃ Sz64 : World → Prop, Sz64 wz150 ∧
  J [] ds wz150) ∧ (Vl Tryd.prog (Instr.buildSlice 22 1 #[(0, v57)]) wz145 fun v193d wz151 =>
  ∃ Sz65 : World → Prop, (∀ x, Sz65 x → Sz59 x) ∧ Sz65 wz151 ∧
  Vl Tryd.prog (Builtin.append_ #[22, 22] 22 #[v187b, v190a]) wz151 fun v191d wz152 =>
  ∃ Sz66 : World → Prop, (∀ x, Sz66 x → Sz65 x) ∧ Sz66 wz152 ∧
  Vl Tryd.prog (Builtin.append_ #[22, 22] 22 #[v191d, v193d]) wz152 fun v194d wz153 =>
  ∃ Sz67 : World → Prop, (∀ x, Sz67 x → Sz66 x) ∧ Sz67 wz153 ∧
  Vl Tryd.prog (Builtin.append_ #[22, 22] 22 #[v194d, v197a]) wz153 fun v198d wz154 =>
  ∃ Sz68 : World → Prop, (∀ x, Sz68 x → Sz67 x) ∧ Sz68 wz154 ∧
  Ef Tryd.prog (Instr.storeAt 22 v6 v198d) wz154 fun wz155 =>
  ∃ Sz69 : World → Prop, Sz69 wz155 ∧
  J [] ds wz155) ∧ True) ∧ (Vl Tryd.prog (Instr.buildSlice 22 1 #[(0, v57)]) (dr wz144) fun v193e wz156 =>
  ∃ Sz70 : World → Prop, (∀ x, Sz70 x → Sz58 x) ∧ Sz70 wz156 ∧
  Vl Tryd.prog (Instr.buildSlice 22 0 #[]) wz156 fun v187c wz157 =>
  ∃ Sz71 : World → Prop, (∀ x, Sz71 x → Sz70 x) ∧ Sz71 wz157 ∧
  Vl Tryd.prog (Builtin.append_ #[22, 22] 22 #[v187c, v190a]) wz157 fun v191e wz158 =>
  ∃ Sz72 : World → Prop, (∀ x, Sz72 x → Sz71 x) ∧ Sz72 wz158 ∧
  Vl Tryd.prog (Builtin.append_ #[22, 22] 22 #[v191e, v193e]) wz158 fun v194e wz159 =>
  ∃ Sz73 : World → Prop, (∀ x, Sz73 x → Sz72 x) ∧ Sz73 wz159 ∧
  Vl Tryd.prog (Builtin.append_ #[22, 22] 22 #[v194e, v197a]) wz159 fun v198e wz160 =>
  ∃ Sz74 : World → Prop, (∀ x, Sz74 x → Sz73 x) ∧ Sz74 wz160 ∧
  Ef Tryd.prog (Instr.storeAt 22 v6 v198e) wz160 fun wz161 =>
  ∃ Sz75 : World → Prop, Sz75 wz161 ∧
  J [] ds wz161) ∧ True) ∧ True) ∧ (Vl Tryd.prog (Instr.buildSlice 31 1 #[(0, v170)]) (dr wz116) fun v181b wz162 =>
  ∃ Sz76 : World → Prop, (∀ x, Sz76 x → Sz28 x) ∧ Sz76 wz162 ∧
  Vl Tryd.prog (Instr.buildSlice 31 0 #[]) wz162 fun v175a wz163 =>
  ∃ Sz77 : World → Prop, (∀ x, Sz77 x → Sz76 x) ∧ Sz77 wz163 ∧
  Vl Tryd.prog (Builtin.append_ #[31, 31] 31 #[v175a, v178]) wz163 fun v179b wz164 =>
  ∃ Sz78 : World → Prop, (∀ x, Sz78 x → Sz77 x) ∧ Sz78 wz164 ∧
  Vl Tryd.prog (Builtin.append_ #[31, 31] 31 #[v179b, v181b]) wz164 fun v182b wz165 =>
  ∃ Sz79 : World → Prop, (∀ x, Sz79 x → Sz78 x) ∧ Sz79 wz165 ∧
  Vl Tryd.prog (Builtin.append_ #[31, 31] 31 #[v182b, v185]) wz165 fun v186b wz166 =>
  ∃ Sz80 : World → Prop, (∀ x, Sz80 x → Sz79 x) ∧ Sz80 wz166 ∧
  Ef Tryd.prog (Instr.storeAt 31 v5 v186b) wz166 fun wz167 =>
  ∃ Sz81 : World → Prop, Sz81 wz167 ∧
  ∃ Sz82 : World → Prop, Sz82 (dr wz167) ∧
  ValQ Tryd.prog Sz82 (Instr.loadAt 22 v6) fun v188b =>
  Pv Tryd.prog (Instr.sliceAt 22 v188b none (some v68) none) fun v190b =>
  ValQ Tryd.prog Sz82 (Instr.loadAt 22 v6) fun v195b =>
  Pv Tryd.prog (Instr.sliceAt 22 v195b (some v68) none none) fun v197b =>
  (Vl Tryd.prog (Instr.buildSlice 22 0 #[]) (dr wz167) fun v187d wz168 =>
  ∃ Sz83 : World → Prop, (∀ x, Sz83 x → Sz82 x) ∧ Sz83 wz168 ∧
  (Vl Tryd.prog (Builtin.append_ #[22, 22] 22 #[v187d, v190b]) wz168 fun v191f wz169 =>
  ∃ Sz84 : World → Prop, (∀ x, Sz84 x → Sz83 x) ∧ Sz84 wz169 ∧
  Vl Tryd.prog (Instr.buildSlice 22 1 #[(0, v57)]) wz169 fun v193f wz170 =>
  ∃ Sz85 : World → Prop, (∀ x, Sz85 x → Sz84 x) ∧ Sz85 wz170 ∧
  Vl Tryd.prog (Builtin.append_ #[22, 22] 22 #[v191f, v193f]) wz170 fun v194f wz171 =>
  ∃ Sz86 : World → Prop, (∀ x, Sz86 x → Sz85 x) ∧ Sz86 wz171 ∧
  Vl Tryd.prog (Builtin.append_ #[22, 22] 22 #[v194f, v197b]) wz171 fun v198f wz172 =>
  ∃ Sz87 : World → Prop, (∀ x, Sz87 x → Sz86 x) ∧ Sz87 wz172 ∧
  Ef Tryd.prog (Instr.storeAt 22 v6 v198f) wz172 fun wz173 =>
  ∃ Sz88 : World → Prop, Sz88 wz173 ∧
  J [] ds wz173) ∧ (Vl Tryd.prog (Instr.buildSlice 22 1 #[(0, v57)]) wz168 fun v193g wz174 =>
  ∃ Sz89 : World → Prop, (∀ x, Sz89 x → Sz83 x) ∧ Sz89 wz174 ∧
  Vl Tryd.prog (Builtin.append_ #[22, 22] 22 #[v187d, v190b]) wz174 fun v191g wz175 =>
  ∃ Sz90 : World → Prop, (∀ x, Sz90 x → Sz89 x) ∧ Sz90 wz175 ∧
  Vl Tryd.prog (Builtin.append_ #[22, 22] 22 #[v191g, v193g]) wz175 fun v194g wz176 =>
  ∃ Sz91 : World → Prop, (∀ x, Sz91 x → Sz90 x) ∧ Sz91 wz176 ∧
  Vl Tryd.prog (Builtin.append_ #[22, 22] 22 #[v194g, v197b]) wz176 fun v198g wz177 =>
  ∃ Sz92 : World → Prop, (∀ x, Sz92 x → Sz91 x) ∧ Sz92 wz177 ∧
  Ef Tryd.prog (Instr.storeAt 22 v6 v198g) wz177 fun wz178 =>
  ∃ Sz93 : World → Prop, Sz93 wz178 ∧
  J [] ds wz178) ∧ True) ∧ (Vl Tryd.prog (Instr.buildSlice 22 1 #[(0, v57)]) (dr wz167) fun v193h wz179 =>
  ∃ Sz94 : World → Prop, (∀ x, Sz94 x → Sz82 x) ∧ Sz94 wz179 ∧
  Vl Tryd.prog (Instr.buildSlice 22 0 #[]) wz179 fun v187e wz180 =>
  ∃ Sz95 : World → Prop, (∀ x, Sz95 x → Sz94 x) ∧ Sz95 wz180 ∧
  Vl Tryd.prog (Builtin.append_ #[22, 22] 22 #[v187e, v190b]) wz180 fun v191h wz181 =>
  ∃ Sz96 : World → Prop, (∀ x, Sz96 x → Sz95 x) ∧ Sz96 wz181 ∧
  Vl Tryd.prog (Builtin.append_ #[22, 22] 22 #[v191h, v193h]) wz181 fun v194h wz182 =>
  ∃ Sz97 : World → Prop, (∀ x, Sz97 x → Sz96 x) ∧ Sz97 wz182 ∧
  Vl Tryd.prog (Builtin.append_ #[22, 22] 22 #[v194h, v197b]) wz182 fun v198h wz183 =>
  ∃ Sz98 : World → Prop, (∀ x, Sz98 x → Sz97 x) ∧ Sz98 wz183 ∧
  Ef Tryd.prog (Instr.storeAt 22 v6 v198h) wz183 fun wz184 =>
  ∃ Sz99 : World → Prop, Sz99 wz184 ∧
  J [] ds wz184) ∧ True) ∧ True)
  (Vl Tryd.prog (binop BinOp.eql 3 (Operand.tmp 70) (Operand.const ((Value.int IntKind.i64 4))) v70 (Value.int IntKind.i64 4)) wz114 fun v200 wz185 =>
  Cond v200
  (Vl Tryd.prog (Instr.loadAt 22 v6) wz185 fun v201 wz186 =>
  Vl Tryd.prog (Instr.fieldAt 51 v9 2) wz186 fun v202 wz187 =>
  Vl Tryd.prog (Instr.loadAt 22 v202) wz187 fun v203 wz188 =>
  Cf Tryd.prog n_decanterref13_To #[v201, v203] wz188 fun v204 wz189 =>
  Vl Tryd.prog (Instr.fieldAt 51 v9 2) wz189 fun v206 wz190 =>
  Vl Tryd.prog (Instr.loadAt 22 v206) wz190 fun v207 wz191 =>
  Cf Tryd.prog n_stack_Stack_PopTo #[v34, v207] wz191 fun v208 wz192 =>
  Vl Tryd.prog (binop BinOp.geq 3 (Operand.tmp 209) (Operand.const ((Value.int IntKind.i64 0))) v204 (Value.int IntKind.i64 0)) wz192 fun v210 wz193 =>
  Vl Tryd.prog (binop BinOp.neq 4 (Operand.tmp 208) (Operand.tmp 210) v208 v210) wz193 fun v211 wz194 =>
  Cond v211
  (Lv ds wz194 fun wz195 => K (Value.bool false) wz195)
  (Vl Tryd.prog (binop BinOp.geq 3 (Operand.tmp 212) (Operand.const ((Value.int IntKind.i64 0))) v204 (Value.int IntKind.i64 0)) wz194 fun v213 wz196 =>
  Cond v213
  (Cv Tryd.prog v37 #[v204] wz196 fun v216 wz197 =>
  J [] ds wz197)
  (J [] ds wz196)))
  (Cf Tryd.prog n_stack_Stack_Implied #[v34, v57] wz185 fun v73 wz198 =>
  Vl Tryd.prog (Instr.loadAt 22 v6) wz198 fun v75 wz199 =>
  Cf Tryd.prog n_decanterref13_Implied #[v75, v57] wz199 fun v77 wz200 =>
  Cv Tryd.prog v37 #[v77] wz200 fun v78 wz201 =>
  J [] ds wz201)))))) ∧
  ∀ (ga : Nat → Value) (dsa : List Deferred) (wz46 : World), J [] dsa wz46 →
  ∃ Jb : List Value → List Deferred → World → Prop, (Vl Tryd.prog (Instr.loadAt 31 v5) wz46 fun v217 wz203 =>
  Vl Tryd.prog (Builtin.len_ #[31] 3 #[v217]) wz203 fun v218 wz204 =>
  Vl Tryd.prog (binop BinOp.gtr 3 (Operand.tmp 218) (Operand.const ((Value.int IntKind.i64 0))) v218 (Value.int IntKind.i64 0)) wz204 fun v219 wz205 =>
  Cond v219
  (Vl Tryd.prog (Instr.loadAt 31 v5) wz205 fun v220 wz206 =>
  Vl Tryd.prog (Instr.loadAt 31 v5) wz206 fun v221 wz207 =>
  Vl Tryd.prog (Builtin.len_ #[31] 3 #[v221]) wz207 fun v222 wz208 =>
  Vl Tryd.prog (binop BinOp.sub 3 (Operand.tmp 222) (Operand.const ((Value.int IntKind.i64 1))) v222 (Value.int IntKind.i64 1)) wz208 fun v223 wz209 =>
  Vl Tryd.prog (Instr.indexAt 31 v220 v223) wz209 fun v224 wz210 =>
  Vl Tryd.prog (Instr.loadAt 3 v224) wz210 fun v225 wz211 =>
  Jb [v225] dsa wz211)
  (Jb [(Value.int IntKind.i64 0)] dsa wz205)) ∧
  ∀ (gc : Nat → Value) (dsc : List Deferred) (wz202 : World), Jb [gc 17] dsc wz202 →
  Cf Tryd.prog n_stack_Stack_All #[v34] wz202 fun v227 wz212 =>
  Cf Tryd.prog n_stack_Stack_Top #[v34] wz212 fun v229 wz213 =>
  Vl Tryd.prog (binop BinOp.neq 3 (Operand.tmp 229) (Operand.tmp 230) v229 (gc 17)) wz213 fun v231 wz214 =>
  Cond v231
  (Lv dsc wz214 fun wz215 => K (Value.bool false) wz215)
  (Vl Tryd.prog (Builtin.len_ #[31] 3 #[v227]) wz214 fun v234 wz216 =>
  Vl Tryd.prog (Instr.loadAt 31 v5) wz216 fun v235 wz217 =>
  Vl Tryd.prog (Builtin.len_ #[31] 3 #[v235]) wz217 fun v236 wz218 =>
  Vl Tryd.prog (binop BinOp.neq 3 (Operand.tmp 234) (Operand.tmp 236) v234 v236) wz218 fun v237 wz219 =>
  Cond v237
  (Lv dsc wz219 fun wz220 => K (Value.bool false) wz220)
  (Cf Tryd.prog n_stack_Stack_Find #[v34, (Value.int IntKind.i64 1048576)] wz219 fun v241 wz221 =>
  Vl Tryd.prog (binop BinOp.neq 3 (Operand.tmp 241) (Operand.const ((Value.int IntKind.i64 (-1)))) v241 (Value.int IntKind.i64 (-1))) wz221 fun v242 wz222 =>
  Cond v242
  (Lv dsc wz222 fun wz223 => K (Value.bool false) wz223)
  (Vl Tryd.prog (Instr.loadAt 31 v5) wz222 fun v244 wz224 =>
  Vl Tryd.prog (Builtin.len_ #[31] 3 #[v244]) wz224 fun v245 wz225 =>
  ∃ (Ia : List Value → List Deferred → World → Prop) (μa : List Value → World → Nat), Ia [(Value.int IntKind.i64 0)] dsc wz225 ∧
  ∀ (gd : Nat → Value) (dsd : List Deferred) (wz226 : World), Ia [gd 246] dsd wz226 →
  (Vl Tryd.prog (binop BinOp.lss 3 (Operand.tmp 246) (Operand.tmp 245) (gd 246) v245) wz226 fun v247 wz227 =>
  Cond v247
  (Vl Tryd.prog (Instr.indexAt 31 v244 (gd 246)) wz227 fun v249 wz228 =>
  Vl Tryd.prog (Instr.loadAt 3 v249) wz228 fun v250 wz229 =>
  Vl Tryd.prog (Instr.indexAt 31 v227 (gd 246)) wz229 fun v253 wz230 =>
  Vl Tryd.prog (Instr.loadAt 3 v253) wz230 fun v254 wz231 =>
  Vl Tryd.prog (binop BinOp.neq 3 (Operand.tmp 254) (Operand.tmp 255) v254 v250) wz231 fun v256 wz232 =>
  Cond v256
  (Lv dsd wz232 fun wz233 => K (Value.bool false) wz233)
  (Cf Tryd.prog n_stack_Stack_Find #[v34, v250] wz232 fun v260 wz234 =>
  Vl Tryd.prog (binop BinOp.neq 3 (Operand.tmp 260) (Operand.tmp 261) v260 (gd 246)) wz234 fun v262 wz235 =>
  Cond v262
  (Lv dsd wz235 fun wz236 => K (Value.bool false) wz236)
  (Vl Tryd.prog (binop BinOp.add 3 (Operand.tmp 246) (Operand.const ((Value.int IntKind.i64 1))) (gd 246) (Value.int IntKind.i64 1)) wz235 fun v264 wz237 =>
  Ia [v264] dsd wz237 ∧ μa [v264] wz237 < μa [gd 246] wz226)))
  (∃ (Ib : List Value → List Deferred → World → Prop) (μb : List Value → World → Nat), Ib [(Value.int IntKind.i64 0)] dsd wz227 ∧
  ∀ (ge : Nat → Value) (dse : List Deferred) (wz238 : World), Ib [ge 21] dse wz238 →
  (Vl Tryd.prog (binop BinOp.lss 3 (Operand.tmp 265) (Operand.const ((Value.int IntKind.i64 3))) (ge 21) (Value.int IntKind.i64 3)) wz238 fun v266 wz239 =>
  Cond v266
  (∃ Sz100 : World → Prop, Sz100 (dr wz239) ∧
  Pv Tryd.prog (Instr.fieldAt 51 v9 2) fun v271 =>
  ValQ Tryd.prog Sz100 (Instr.loadAt 22 v271) fun v272 =>
  ValQ Tryd.prog Sz100 (Instr.loadAt 22 v6) fun v274 =>
  Pv Tryd.prog (Instr.fieldAt 51 v9 2) fun v276 =>
  ValQ Tryd.prog Sz100 (Instr.loadAt 22 v276) fun v277 =>
  Cf Tryd.prog n_stack_Stack_In #[v34, (ge 21), v272] (dr wz239) fun v273 wz240 =>
  ∃ Sz101 : World → Prop, (∀ x, Sz101 x → Sz100 x) ∧ Sz101 wz240 ∧
  Cf Tryd.prog n_decanterref13_In #[v274, (ge 21), v277] wz240 fun v278 wz241 =>
  ∃ Sz102 : World → Prop, (∀ x, Sz102 x → Sz101 x) ∧ Sz102 wz241 ∧
  Pv Tryd.prog (binop BinOp.neq 4 (Operand.tmp 273) (Operand.tmp 278) v273 v278) fun v279 =>
  Cond v279
  (Lv dse wz241 fun wz242 => K (Value.bool false) wz242)
  (Vl Tryd.prog (binop BinOp.add 3 (Operand.tmp 267) (Operand.const ((Value.int IntKind.i64 1))) (ge 21) (Value.int IntKind.i64 1)) wz241 fun v268 wz243 =>
  Ib [v268] dse wz243 ∧ μb [v268] wz243 < μb [ge 21] wz238))
  (Vl Tryd.prog (binop BinOp.add 3 (Operand.tmp 40) (Operand.const ((Value.int IntKind.i64 1))) (g 40) (Value.int IntKind.i64 1)) wz239 fun v280a wz244 =>
  I [v280a] dse wz244 ∧ μ [v280a] wz244 < μ [g 40] wo))))))))))
  (Lv ds wp fun wz245 => K (Value.bool true) wz245))))))
theorem L_decanterlaw13_StackActs (t0 : Value) (K : Value → World → Prop) (w : World) (h : S_decanterlaw13_StackActs t0 K w) : Cf Tryd.prog n_decanterlaw13_StackActs #[t0] w K :=
  callF_of (args := [t0]) (lv := fun k => bif Nat.beq k 13 then [40] else bif Nat.beq k 55 then [246] else bif Nat.beq k 61 then [21] else []) (jn := fun k => bif Nat.beq k 30 then some [] else bif Nat.beq k 48 then some [] else bif Nat.beq k 51 then some [17] else none) Mx Tryd.func7 rfl Tryd.call7 rfl (by as_aux_lemma => kernel_rfl) (cast (by as_aux_lemma => kernel_rfl) h)

-- "decanter/decanterlaw15.AdoptKeeps"
def S_decanterlaw15_AdoptKeeps (t0 t1 : Value) (K : Value → World → Prop) (w : World) : Prop :=
  Cf Tryd.prog n_decanterlaw15_speaks #[] w fun v16 wa =>
  Vl Tryd.prog (Op.unary UnOp.not v16) wa fun v17 wb =>
  Cond v17
  (Cf Tryd.prog n_decanterlaw15_speaks #[] wb fun v23 wc =>
  K v23 wc)
  (Vl Tryd.prog (Builtin.len_ #[54] 3 #[t0]) wb fun v20 wd =>
  Vl Tryd.prog (binop BinOp.gtr 3 (Operand.tmp 20) (Operand.const ((Value.int IntKind.i64 30))) v20 (Value.int IntKind.i64 30)) wd fun v21 we =>
  Cond v21
  (Cf Tryd.prog n_decanterlaw15_speaks #[] we fun v23a wf =>
  K v23a wf)
  (Cf Tryd.prog n_arena_New #[] we fun v24 wg =>
  Vl Tryd.prog (binop BinOp.eql 47 (Operand.tmp 25) (Operand.const ((Value.pointer none))) v24 (Value.pointer none)) wg fun v26 wh =>
  Cond v26
  (K (Value.bool false) wh)
  (Cf Tryd.prog n_stack_New #[v24] wh fun v28 wi =>
  Cf Tryd.prog n_list_New #[v24] wi fun v30 wj =>
  Vl Tryd.prog (binop BinOp.eql 25 (Operand.tmp 31) (Operand.const ((Value.pointer none))) v28 (Value.pointer none)) wj fun v32 wk =>
  Cond v32
  (K (Value.bool false) wk)
  (Vl Tryd.prog (binop BinOp.eql 55 (Operand.tmp 34) (Operand.const ((Value.pointer none))) v30 (Value.pointer none)) wk fun v35 wl =>
  Cond v35
  (K (Value.bool false) wl)
  (Vl Tryd.prog (Builtin.len_ #[54] 3 #[t0]) wl fun v38 wm =>
  ∃ (I : List Value → List Deferred → World → Prop) (μ : List Value → World → Nat), I [(Value.int IntKind.i64 0), (Value.string { data := #[] }), (Value.int IntKind.i64 0), (Value.int IntKind.i64 0)] [] wm ∧
  ∀ (g : Nat → Value) (ds : List Deferred) (wn : World), I [g 8, g 9, g 10, g 39] ds wn →
  (Vl Tryd.prog (binop BinOp.lss 3 (Operand.tmp 39) (Operand.tmp 38) (g 39) v38) wn fun v40 wo =>
  Cond v40
  (Vl Tryd.prog (Instr.indexAt 54 t0 (g 39)) wo fun v41 wp =>
  Vl Tryd.prog (Instr.loadAt 59 v41) wp fun v42 wq =>
  Vl Tryd.prog (Instr.alloc 59 true (.tuple #[])) wq fun v12 wr =>
  Ef Tryd.prog (Instr.storeAt 59 v12 v42) wr fun ws =>
  Vl Tryd.prog (Instr.fieldAt 59 v12 0) ws fun v43 wt =>
  Vl Tryd.prog (Instr.loadAt 9 v43) wt fun v44 wu =>
  Vl Tryd.prog (binop BinOp.eql 9 (Operand.tmp 44) (Operand.const ((Value.string { data := #[] }))) v44 (Value.string { data := #[] })) wu fun v45 wv =>
  Cond v45
  (Lv ds wv fun ww => K (Value.bool true) ww)
  (Vl Tryd.prog (Instr.fieldAt 59 v12 1) wv fun v47 wx =>
  Vl Tryd.prog (Instr.loadAt 57 v47) wx fun v48 wy =>
  Vl Tryd.prog (Builtin.len_ #[57] 3 #[v48]) wy fun v49 wz =>
  Vl Tryd.prog (binop BinOp.gtr 3 (Operand.tmp 49) (Operand.const ((Value.int IntKind.i64 6))) v49 (Value.int IntKind.i64 6)) wz fun v50 wz27 =>
  Cond v50
  (Lv ds wz27 fun wz28 => K (Value.bool true) wz28)
  (∃ S : World → Prop, S (dr wz27) ∧
  Pv Tryd.prog (Instr.fieldAt 59 v12 0) fun v53 =>
  ValQ Tryd.prog S (Instr.loadAt 9 v53) fun v54 =>
  Pv Tryd.prog (Instr.fieldAt 59 v12 1) fun v55 =>
  ValQ Tryd.prog S (Instr.loadAt 57 v55) fun v56 =>
  Cf Tryd.prog n_decanterlaw06_Of #[v56] (dr wz27) fun v57 wz29 =>
  ∃ Sa : World → Prop, (∀ x, Sa x → S x) ∧ Sa wz29 ∧
  Cf Tryd.prog n_arena_Arena_Element #[v24, v54, v57] wz29 fun v58 wz30 =>
  ∃ Sb : World → Prop, (∀ x, Sb x → Sa x) ∧ Sb wz30 ∧
  Cf Tryd.prog n_arena_Arena_Append #[v24, (g 8), v58] wz30 fun v62 wz31 =>
  Vl Tryd.prog (Instr.fieldAt 59 v12 2) wz31 fun v65 wz32 =>
  Vl Tryd.prog (Instr.loadAt 9 v65) wz32 fun v66 wz33 =>
  Cf Tryd.prog n_arena_Arena_Text #[v24, v58, v66] wz33 fun v67 wz34 =>
  Vl Tryd.prog (Instr.fieldAt 59 v12 2) wz34 fun v69 wz35 =>
  Vl Tryd.prog (Instr.loadAt 9 v69) wz35 fun v70 wz36 =>
  Vl Tryd.prog (binop BinOp.add 9 (Operand.tmp 68) (Operand.tmp 70) (g 9) v70) wz36 fun v71 wz37 =>
  Cf Tryd.prog n_stack_Stack_Push #[v28, v58] wz37 fun v74 wz38 =>
  Vl Tryd.prog (Instr.fieldAt 59 v12 0) wz38 fun v75 wz39 =>
  Vl Tryd.prog (Instr.loadAt 9 v75) wz39 fun v76 wz40 =>
  Cf Tryd.prog n_decanterref11_Is #[v76, (Value.int IntKind.i64 3)] wz40 fun v77 wz41 =>
  Cond v77
  (Cf Tryd.prog n_list_List_Push #[v30, v58] wz41 fun v80 wz42 =>
  Vl Tryd.prog (binop BinOp.add 3 (Operand.tmp 39) (Operand.const ((Value.int IntKind.i64 1))) (g 39) (Value.int IntKind.i64 1)) wz42 fun v84 wz43 =>
  I [v58, v71, (g 10), v84] ds wz43 ∧ μ [v58, v71, (g 10), v84] wz43 < μ [g 8, g 9, g 10, g 39] wn)
  (Vl Tryd.prog (binop BinOp.add 3 (Operand.tmp 81) (Operand.const ((Value.int IntKind.i64 1))) (g 10) (Value.int IntKind.i64 1)) wz41 fun v82 wz44 =>
  Vl Tryd.prog (binop BinOp.add 3 (Operand.tmp 39) (Operand.const ((Value.int IntKind.i64 1))) (g 39) (Value.int IntKind.i64 1)) wz44 fun v84a wz45 =>
  I [v58, v71, v82, v84a] ds wz45 ∧ μ [v58, v71, v82, v84a] wz45 < μ [g 8, g 9, g 10, g 39] wn))))
  (Cf Tryd.prog n_adopt_Again #[v24, v28, v30, t1] wo fun v89 wz46 =>
  Cf Tryd.prog n_arena_Arena_Nodes #[v24, (Value.int IntKind.i64 0)] wz46 fun v92 wz47 =>
  Cf Tryd.prog n_decanterlaw12_To #[v92] wz47 fun v93 wz48 =>
  Cf Tryd.prog n_decanterlaw15_read #[v93] wz48 fun v94 wz49 =>
  Vl Tryd.prog (Instr.extract v94 0) wz49 fun v95 wz50 =>
  Vl Tryd.prog (Instr.extract v94 1) wz50 fun v96 wz51 =>
  Vl Tryd.prog (binop BinOp.eql 9 (Operand.tmp 97) (Operand.tmp 98) v95 (g 9)) wz51 fun v99 wz52 =>
  Cond v99
  (Vl Tryd.prog (binop BinOp.eql 3 (Operand.tmp 101) (Operand.tmp 102) v96 (g 10)) wz52 fun v103 wz53 =>
  Cond v103
  (Cf Tryd.prog n_arena_Arena_Copies #[v24] wz53 fun v107 wz54 =>
  Vl Tryd.prog (binop BinOp.leq 3 (Operand.tmp 107) (Operand.const ((Value.int IntKind.i64 32))) v107 (Value.int IntKind.i64 32)) wz54 fun v108 wz55 =>
  Lv ds wz55 fun wz56 => K v108 wz56)
  (Lv ds wz53 fun wz57 => K (Value.bool false) wz57))
  (Lv ds wz52 fun wz58 => K (Value.bool false) wz58))))))))
theorem L_decanterlaw15_AdoptKeeps (t0 t1 : Value) (K : Value → World → Prop) (w : World) (h : S_decanterlaw15_AdoptKeeps t0 t1 K w) : Cf Tryd.prog n_decanterlaw15_AdoptKeeps #[t0, t1] w K :=
  callF_of (args := [t0, t1]) (lv := fun k => bif Nat.beq k 11 then [8, 9, 10, 39] else []) (jn := fun _ => none) Mx Tryd.func8 rfl Tryd.call8 rfl (by as_aux_lemma => kernel_rfl) (cast (by as_aux_lemma => kernel_rfl) h)

-- "decanter/decanterlaw15.AdoptBlock"
def S_decanterlaw15_AdoptBlock (t0 t1 t2 t3 : Value) (K : Value → World → Prop) (w : World) : Prop :=
  Cf Tryd.prog n_decanterlaw15_speaks #[] w fun v18 wa =>
  Vl Tryd.prog (Op.unary UnOp.not v18) wa fun v19 wb =>
  Cond v19
  (Cf Tryd.prog n_decanterlaw15_speaks #[] wb fun v30 wc =>
  K v30 wc)
  (Vl Tryd.prog (Builtin.len_ #[9] 3 #[t2]) wb fun v22 wd =>
  Vl Tryd.prog (binop BinOp.gtr 3 (Operand.tmp 22) (Operand.const ((Value.int IntKind.i64 40))) v22 (Value.int IntKind.i64 40)) wd fun v23 we =>
  Cond v23
  (Cf Tryd.prog n_decanterlaw15_speaks #[] we fun v30a wf =>
  K v30a wf)
  (Vl Tryd.prog (Builtin.len_ #[9] 3 #[t3]) we fun v27 wg =>
  Vl Tryd.prog (binop BinOp.gtr 3 (Operand.tmp 27) (Operand.const ((Value.int IntKind.i64 40))) v27 (Value.int IntKind.i64 40)) wg fun v28 wh =>
  Cond v28
  (Cf Tryd.prog n_decanterlaw15_speaks #[] wh fun v30b wi =>
  K v30b wi)
  (Vl Tryd.prog (Instr.buildSlice 22 6 #[(0, (Value.string { data := #[98] })), (1, (Value.string { data := #[105] })), (2, (Value.string { data := #[97] })), (3, (Value.string { data := #[101, 109] })), (4, (Value.string { data := #[102, 111, 110, 116] })), (5, (Value.string { data := #[110, 111, 98, 114] }))]) wh fun v31 wj =>
  Vl Tryd.prog (binop BinOp.rem 5 (Operand.tmp 32) (Operand.const ((Value.int IntKind.u8 6))) t0 (Value.int IntKind.u8 6)) wj fun v33 wk =>
  Vl Tryd.prog (Instr.indexAt 22 v31 v33) wk fun v34 wl =>
  Vl Tryd.prog (Instr.loadAt 9 v34) wl fun v35 wm =>
  Vl Tryd.prog (Instr.buildSlice 22 8 #[(0, (Value.string { data := #[112] })), (1, (Value.string { data := #[100, 105, 118] })), (2, (Value.string { data := #[108, 105] })), (3, (Value.string { data := #[115, 101, 99, 116, 105, 111, 110] })), (4, (Value.string { data := #[104, 49] })), (5, (Value.string { data := #[112, 114, 101] })), (6, (Value.string { data := #[98, 117, 116, 116, 111, 110] })), (7, (Value.string { data := #[97, 100, 100, 114, 101, 115, 115] }))]) wm fun v36 wn =>
  Vl Tryd.prog (binop BinOp.rem 5 (Operand.tmp 37) (Operand.const ((Value.int IntKind.u8 8))) t1 (Value.int IntKind.u8 8)) wn fun v38 wo =>
  Vl Tryd.prog (Instr.indexAt 22 v36 v38) wo fun v39 wp =>
  Vl Tryd.prog (Instr.loadAt 9 v39) wp fun v40 wq =>
  Cf Tryd.prog n_arena_New #[] wq fun v41 wr =>
  Vl Tryd.prog (binop BinOp.eql 47 (Operand.tmp 42) (Operand.const ((Value.pointer none))) v41 (Value.pointer none)) wr fun v43 ws =>
  Cond v43
  (K (Value.bool false) ws)
  (Cf Tryd.prog n_stack_New #[v41] ws fun v45 wt =>
  Cf Tryd.prog n_list_New #[v41] wt fun v47 wu =>
  Vl Tryd.prog (binop BinOp.eql 25 (Operand.tmp 48) (Operand.const ((Value.pointer none))) v45 (Value.pointer none)) wu fun v49 wv =>
  Cond v49
  (K (Value.bool false) wv)
  (Vl Tryd.prog (binop BinOp.eql 55 (Operand.tmp 51) (Operand.const ((Value.pointer none))) v47 (Value.pointer none)) wv fun v52 ww =>
  Cond v52
  (K (Value.bool false) ww)
  (Cf Tryd.prog n_arena_Arena_Element #[v41, v35, (Value.slice none 0 0)] ww fun v56 wx =>
  Cf Tryd.prog n_arena_Arena_Element #[v41, v40, (Value.slice none 0 0)] wx fun v59 wy =>
  Cf Tryd.prog n_arena_Arena_Append #[v41, (Value.int IntKind.i64 0), v56] wy fun v62 wz =>
  Cf Tryd.prog n_arena_Arena_Text #[v41, v56, t2] wz fun v66 wz27 =>
  Cf Tryd.prog n_arena_Arena_Append #[v41, v56, v59] wz27 fun v70 wz28 =>
  Cf Tryd.prog n_arena_Arena_Text #[v41, v59, t3] wz28 fun v74 wz29 =>
  Cf Tryd.prog n_stack_Stack_Push #[v45, v56] wz29 fun v77 wz30 =>
  Cf Tryd.prog n_stack_Stack_Push #[v45, v59] wz30 fun v80 wz31 =>
  Cf Tryd.prog n_list_List_Push #[v47, v56] wz31 fun v83 wz32 =>
  Cf Tryd.prog n_adopt_Again #[v41, v45, v47, v35] wz32 fun v88 wz33 =>
  Vl Tryd.prog (Op.unary UnOp.not v88) wz33 fun v89 wz34 =>
  Cond v89
  (K (Value.bool false) wz34)
  (Cf Tryd.prog n_arena_Arena_Copies #[v41] wz34 fun v92 wz35 =>
  Vl Tryd.prog (binop BinOp.neq 3 (Operand.tmp 92) (Operand.const ((Value.int IntKind.i64 1))) v92 (Value.int IntKind.i64 1)) wz35 fun v93 wz36 =>
  Cond v93
  (K (Value.bool false) wz36)
  (Cv Tryd.prog (Value.func (Fn.func 48) #[] #[]) #[t2] wz36 fun v98 wz37 =>
  Vl Tryd.prog (Instr.build 77 #[(0, v35), (3, v98)]) wz37 fun v99 wz38 =>
  Cv Tryd.prog (Value.func (Fn.func 48) #[] #[]) #[t3] wz38 fun v104 wz39 =>
  Vl Tryd.prog (Instr.build 77 #[(0, v35), (3, v104)]) wz39 fun v105 wz40 =>
  Vl Tryd.prog (Instr.buildSlice 66 1 #[(0, v105)]) wz40 fun v106 wz41 =>
  Vl Tryd.prog (Instr.build 77 #[(0, v40), (3, v106)]) wz41 fun v107 wz42 =>
  Vl Tryd.prog (Instr.buildSlice 66 2 #[(0, v99), (1, v107)]) wz42 fun v108 wz43 =>
  Cf Tryd.prog n_arena_Arena_Nodes #[v41, (Value.int IntKind.i64 0)] wz43 fun v110 wz44 =>
  Cf Tryd.prog n_decanterlaw12_To #[v110] wz44 fun v111 wz45 =>
  Cf Tryd.prog n_decanterref12_Same #[v111, v108] wz45 fun v113 wz46 =>
  Cond v113
  (Cf Tryd.prog n_stack_Stack_All #[v45] wz46 fun v116 wz47 =>
  Vl Tryd.prog (Instr.buildSlice 31 1 #[(0, v59)]) wz47 fun v118 wz48 =>
  Cf Tryd.prog n_decanterref14_Same #[v116, v118] wz48 fun v119 wz49 =>
  Cond v119
  (Cf Tryd.prog n_list_List_All #[v47] wz49 fun v123 wz50 =>
  Vl Tryd.prog (Builtin.len_ #[31] 3 #[v123]) wz50 fun v124 wz51 =>
  Vl Tryd.prog (binop BinOp.eql 3 (Operand.tmp 124) (Operand.const ((Value.int IntKind.i64 0))) v124 (Value.int IntKind.i64 0)) wz51 fun v125 wz52 =>
  K v125 wz52)
  (K (Value.bool false) wz49))
  (K (Value.bool false) wz46)))))))))
theorem L_decanterlaw15_AdoptBlock (t0 t1 t2 t3 : Value) (K : Value → World → Prop) (w : World) (h : S_decanterlaw15_AdoptBlock t0 t1 t2 t3 K w) : Cf Tryd.prog n_decanterlaw15_AdoptBlock #[t0, t1, t2, t3] w K :=
  callF_of (args := [t0, t1, t2, t3]) (lv := fun _ => []) (jn := fun _ => none) Mx Tryd.func10 rfl Tryd.call10 rfl (by as_aux_lemma => kernel_rfl) (cast (by as_aux_lemma => kernel_rfl) h)

-- "decanter/decanterlaw13.speaks"
def S_decanterlaw13_speaks (K : Value → World → Prop) (w : World) : Prop :=
  Vl Tryd.prog (Instr.buildSlice 22 3 #[(0, (Value.string { data := #[100, 105, 118] })), (1, (Value.string { data := #[112] })), (2, (Value.string { data := #[98] }))]) w fun v3 wa =>
  Cf Tryd.prog n_decanterlaw13_laid #[v3] wa fun v4 wb =>
  Vl Tryd.prog (Instr.buildSlice 22 3 #[(0, (Value.string { data := #[112] })), (1, (Value.string { data := #[116, 97, 98, 108, 101] })), (2, (Value.string { data := #[98] }))]) wb fun v5 wc =>
  Cf Tryd.prog n_decanterlaw13_laid #[v5] wc fun v6 wd =>
  Vl Tryd.prog (binop BinOp.neq 25 (Operand.tmp 7) (Operand.const ((Value.pointer none))) v4 (Value.pointer none)) wd fun v8 we =>
  Cond v8
  (Vl Tryd.prog (binop BinOp.neq 25 (Operand.tmp 10) (Operand.const ((Value.pointer none))) v6 (Value.pointer none)) we fun v11 wf =>
  Cond v11
  (Vl Tryd.prog (Instr.buildSlice 22 1 #[(0, (Value.string { data := #[112] }))]) wf fun v15 wg =>
  Cf Tryd.prog n_stack_Stack_In #[v4, (Value.int IntKind.i64 0), v15] wg fun v16 wh =>
  Cond v16
  (Vl Tryd.prog (Instr.buildSlice 22 1 #[(0, (Value.string { data := #[112] }))]) wh fun v20 wi =>
  Cf Tryd.prog n_stack_Stack_In #[v6, (Value.int IntKind.i64 0), v20] wi fun v21 wj =>
  Vl Tryd.prog (Op.unary UnOp.not v21) wj fun v22 wk =>
  Cond v22
  (Cf Tryd.prog n_stack_Stack_All #[v4] wk fun v26 wl =>
  Vl Tryd.prog (Builtin.len_ #[31] 3 #[v26]) wl fun v27 wm =>
  Vl Tryd.prog (binop BinOp.eql 3 (Operand.tmp 27) (Operand.const ((Value.int IntKind.i64 3))) v27 (Value.int IntKind.i64 3)) wm fun v28 wn =>
  K v28 wn)
  (K (Value.bool false) wk))
  (K (Value.bool false) wh))
  (K (Value.bool false) wf))
  (K (Value.bool false) we)
theorem L_decanterlaw13_speaks (K : Value → World → Prop) (w : World) (h : S_decanterlaw13_speaks K w) : Cf Tryd.prog n_decanterlaw13_speaks #[] w K :=
  callF_of (args := []) (lv := fun _ => []) (jn := fun _ => none) Mx Tryd.func11 rfl Tryd.call11 rfl (by as_aux_lemma => kernel_rfl) (cast (by as_aux_lemma => kernel_rfl) h)

-- "decanter/decanterlaw13.right"
def S_decanterlaw13_right (t0 : Value) (K : Value → World → Prop) (w : World) : Prop :=
  Vl Tryd.prog (Builtin.len_ #[22] 3 #[t0]) w fun v6 wa =>
  ∃ (I : List Value → List Deferred → World → Prop) (μ : List Value → World → Nat), I [(Value.int IntKind.i64 0)] [] wa ∧
  ∀ (g : Nat → Value) (ds : List Deferred) (wb : World), I [g 7] ds wb →
  (Vl Tryd.prog (binop BinOp.lss 3 (Operand.tmp 7) (Operand.tmp 6) (g 7) v6) wb fun v8 wc =>
  Cond v8
  (Vl Tryd.prog (Instr.indexAt 22 t0 (g 7)) wc fun v9 wd =>
  Vl Tryd.prog (Instr.loadAt 9 v9) wd fun v10 we =>
  Vl Tryd.prog (binop BinOp.eql 9 (Operand.tmp 11) (Operand.const ((Value.string { data := #[] }))) v10 (Value.string { data := #[] })) we fun v12 wf =>
  Cond v12
  (Lv ds wf fun wg => K (Value.bool false) wg)
  (Vl Tryd.prog (binop BinOp.add 3 (Operand.tmp 7) (Operand.const ((Value.int IntKind.i64 1))) (g 7) (Value.int IntKind.i64 1)) wf fun v13 wh =>
  I [v13] ds wh ∧ μ [v13] wh < μ [g 7] wb))
  (Vl Tryd.prog (Builtin.len_ #[22] 3 #[t0]) wc fun v15 wi =>
  Vl Tryd.prog (binop BinOp.leq 3 (Operand.tmp 15) (Operand.const ((Value.int IntKind.i64 40))) v15 (Value.int IntKind.i64 40)) wi fun v16 wj =>
  Lv ds wj fun wk => K v16 wk))
theorem L_decanterlaw13_right (t0 : Value) (K : Value → World → Prop) (w : World) (h : S_decanterlaw13_right t0 K w) : Cf Tryd.prog n_decanterlaw13_right #[t0] w K :=
  callF_of (args := [t0]) (lv := fun k => bif Nat.beq k 2 then [7] else []) (jn := fun _ => none) Mx Tryd.func12 rfl Tryd.call12 rfl (by as_aux_lemma => kernel_rfl) (cast (by as_aux_lemma => kernel_rfl) h)

-- "decanter/decanterlaw13.laid"
def S_decanterlaw13_laid (t0 : Value) (K : Value → World → Prop) (w : World) : Prop :=
  Cf Tryd.prog n_arena_New #[] w fun v7 wa =>
  Vl Tryd.prog (binop BinOp.eql 47 (Operand.tmp 8) (Operand.const ((Value.pointer none))) v7 (Value.pointer none)) wa fun v9 wb =>
  Cond v9
  (K (Value.pointer none) wb)
  (Cf Tryd.prog n_stack_New #[v7] wb fun v11 wc =>
  Vl Tryd.prog (binop BinOp.eql 25 (Operand.tmp 12) (Operand.const ((Value.pointer none))) v11 (Value.pointer none)) wc fun v13 wd =>
  Cond v13
  (K (Value.pointer none) wd)
  (Vl Tryd.prog (Builtin.len_ #[22] 3 #[t0]) wd fun v15 we =>
  ∃ (I : List Value → List Deferred → World → Prop) (μ : List Value → World → Nat), I [(Value.int IntKind.i64 0)] [] we ∧
  ∀ (g : Nat → Value) (ds : List Deferred) (wf : World), I [g 16] ds wf →
  (Vl Tryd.prog (binop BinOp.lss 3 (Operand.tmp 16) (Operand.tmp 15) (g 16) v15) wf fun v17 wg =>
  Cond v17
  (Vl Tryd.prog (Instr.indexAt 22 t0 (g 16)) wg fun v18 wh =>
  Vl Tryd.prog (Instr.loadAt 9 v18) wh fun v19 wi =>
  Cf Tryd.prog n_arena_Arena_Element #[v7, v19, (Value.slice none 0 0)] wi fun v23 wj =>
  Cf Tryd.prog n_stack_Stack_Push #[v11, v23] wj fun v24 wk =>
  Vl Tryd.prog (binop BinOp.add 3 (Operand.tmp 16) (Operand.const ((Value.int IntKind.i64 1))) (g 16) (Value.int IntKind.i64 1)) wk fun v25 wl =>
  I [v25] ds wl ∧ μ [v25] wl < μ [g 16] wf)
  (Lv ds wg fun wm => K v11 wm))))
theorem L_decanterlaw13_laid (t0 : Value) (K : Value → World → Prop) (w : World) (h : S_decanterlaw13_laid t0 K w) : Cf Tryd.prog n_decanterlaw13_laid #[t0] w K :=
  callF_of (args := [t0]) (lv := fun k => bif Nat.beq k 8 then [16] else []) (jn := fun _ => none) Mx Tryd.func13 rfl Tryd.call13 rfl (by as_aux_lemma => kernel_rfl) (cast (by as_aux_lemma => kernel_rfl) h)

-- "(*decanter/stack.Stack).In"
def S_stack_Stack_In (t0 t1 t2 : Value) (K : Value → World → Prop) (w : World) : Prop :=
  Vl Tryd.prog (Instr.box 25 t0) w fun v3 wa =>
  Vl Tryd.prog (Instr.box 3 t1) wa fun v4 wb =>
  Vl Tryd.prog (Instr.box 22 t2) wb fun v5 wc =>
  Vl Tryd.prog (Instr.alloc 4 true (.tuple #[])) wc fun v6 wd =>
  Vl Tryd.prog (Instr.loadAt 25 v3) wd fun v10 we =>
  NN v10 ∧
  Vl Tryd.prog (Instr.fieldAt 84 v10 1) we fun v12 wf =>
  Vl Tryd.prog (Instr.loadAt 31 v12) wf fun v13 wg =>
  Cf Tryd.prog n_slices_Backward_ints #[v13] wg fun v14 wh =>
  Rf Tryd.prog 2 v14 [] wh
  (fun a Bg Kn Kr Kx wi =>
  Bg (fun wj =>
  Vl Tryd.prog (Instr.loadAt 25 v3) wj fun v17 wk =>
  NN v17 ∧
  Vl Tryd.prog (Instr.fieldAt 84 v17 0) wk fun v19 wl =>
  Vl Tryd.prog (Instr.loadAt 47 v19) wl fun v20 wm =>
  Cf Tryd.prog n_arena_Arena_Name #[v20, (a 1)] wm fun v22 wn =>
  Vl Tryd.prog (Instr.loadAt 22 v5) wn fun v23 wo =>
  Cf Tryd.prog n_slices_Contains_strs #[v23, v22] wo fun v25 wp =>
  Cond v25
  (Ef Tryd.prog (Instr.storeAt 4 v6 (Value.bool true)) wp fun wq =>
  Kr wq)
  (Vl Tryd.prog (Instr.loadAt 3 v4) wp fun v26 wr =>
  Cf Tryd.prog n_stack_bound #[v26, v22] wr fun v28 ws =>
  Cond v28
  (Kx 0 ws)
  (Kn ws))) wi)
  (fun ds wt => Ef Tryd.prog (Instr.storeAt 4 v6 (Value.bool false)) wt fun ww =>
  Lv ds ww fun wx => Rs Tryd.prog (Instr.loadAt 4 v6) wx fun r => K r wx)
  (fun dsa wu => Lv dsa wu fun wy => Rs Tryd.prog (Instr.loadAt 4 v6) wy fun ra => K ra wy)
  (fun id dsb wv => bif Nat.beq id 0 then (Ef Tryd.prog (Instr.storeAt 4 v6 (Value.bool false)) wv fun wz =>
  Lv dsb wz fun wz27 => Rs Tryd.prog (Instr.loadAt 4 v6) wz27 fun rb => K rb wz27) else (False))
theorem L_stack_Stack_In (t0 t1 t2 : Value) (K : Value → World → Prop) (w : World) (h : S_stack_Stack_In t0 t1 t2 K w) : Cf Tryd.prog n_stack_Stack_In #[t0, t1, t2] w K :=
  callF_of (args := [t0, t1, t2]) (lv := fun _ => []) (jn := fun _ => none) Mx Tryd.func14 rfl Tryd.call14 rfl (by as_aux_lemma => kernel_rfl) (cast (by as_aux_lemma => kernel_rfl) h)

-- "(*decanter/stack.Stack).PopTo"
def S_stack_Stack_PopTo (t0 t1 : Value) (K : Value → World → Prop) (w : World) : Prop :=
  Vl Tryd.prog (Instr.box 25 t0) w fun v2 wa =>
  Vl Tryd.prog (Instr.box 22 t1) wa fun v3 wb =>
  Vl Tryd.prog (Instr.alloc 4 true (.tuple #[])) wb fun v4 wc =>
  Vl Tryd.prog (Instr.loadAt 25 v2) wc fun v7 wd =>
  NN v7 ∧
  Vl Tryd.prog (Instr.fieldAt 84 v7 1) wd fun v9 we =>
  Vl Tryd.prog (Instr.loadAt 31 v9) we fun v10 wf =>
  Cf Tryd.prog n_slices_Backward_ints #[v10] wf fun v11 wg =>
  Rf Tryd.prog 2 v11 [] wg
  (fun a Bg Kn Kr Kx wh =>
  Bg (fun wi =>
  ∃ S : World → Prop, S (dr wi) ∧
  ValQ Tryd.prog S (Instr.loadAt 22 v3) fun v14 =>
  ValQ Tryd.prog S (Instr.loadAt 25 v2) fun v15 =>
  NN v15 ∧
  Pv Tryd.prog (Instr.fieldAt 84 v15 0) fun v17 =>
  ValQ Tryd.prog S (Instr.loadAt 47 v17) fun v18 =>
  Cf Tryd.prog n_arena_Arena_Name #[v18, (a 1)] (dr wi) fun v20 wj =>
  ∃ Sa : World → Prop, (∀ x, Sa x → S x) ∧ Sa wj ∧
  Cf Tryd.prog n_slices_Contains_strs #[v14, v20] wj fun v21 wk =>
  ∃ Sb : World → Prop, (∀ x, Sb x → Sa x) ∧ Sb wk ∧
  Cond v21
  (∃ Sc : World → Prop, Sc (dr wk) ∧
  ValQ Tryd.prog Sc (Instr.loadAt 25 v2) fun v22 =>
  ValQ Tryd.prog Sc (Instr.loadAt 25 v2) fun v23 =>
  NN v23 ∧
  Pv Tryd.prog (Instr.fieldAt 84 v23 1) fun v25 =>
  ValQ Tryd.prog Sc (Instr.loadAt 31 v25) fun v26 =>
  Pv Tryd.prog (Instr.sliceAt 31 v26 none (some (a 0)) none) fun v28 =>
  NN v22 ∧
  Pv Tryd.prog (Instr.fieldAt 84 v22 1) fun v30 =>
  Ef Tryd.prog (Instr.storeAt 31 v30 v28) (dr wk) fun wl =>
  ∃ Sd : World → Prop, Sd wl ∧
  Ef Tryd.prog (Instr.storeAt 4 v4 (Value.bool true)) wl fun wm =>
  Kr wm)
  (Kn wk)) wh)
  (fun ds wn => Ef Tryd.prog (Instr.storeAt 4 v4 (Value.bool false)) wn fun wq =>
  Lv ds wq fun wr => Rs Tryd.prog (Instr.loadAt 4 v4) wr fun r => K r wr)
  (fun dsa wo => Lv dsa wo fun ws => Rs Tryd.prog (Instr.loadAt 4 v4) ws fun ra => K ra ws)
  (fun id dsb wp => bif Nat.beq id 0 then (Ef Tryd.prog (Instr.storeAt 4 v4 (Value.bool false)) wp fun wt =>
  Lv dsb wt fun wu => Rs Tryd.prog (Instr.loadAt 4 v4) wu fun rb => K rb wu) else (False))
theorem L_stack_Stack_PopTo (t0 t1 : Value) (K : Value → World → Prop) (w : World) (h : S_stack_Stack_PopTo t0 t1 K w) : Cf Tryd.prog n_stack_Stack_PopTo #[t0, t1] w K :=
  callF_of (args := [t0, t1]) (lv := fun _ => []) (jn := fun _ => none) Mx Tryd.func15 rfl Tryd.call15 rfl (by as_aux_lemma => kernel_rfl) (cast (by as_aux_lemma => kernel_rfl) h)

-- "(*decanter/stack.Stack).Implied"
def S_stack_Stack_Implied (t0 t1 : Value) (K : Value → World → Prop) (w : World) : Prop :=
  ∃ (I : List Value → List Deferred → World → Prop) (μ : List Value → World → Nat), I [] [] w ∧
  ∀ (g : Nat → Value) (ds : List Deferred) (wa : World), I [] ds wa →
  (NN t0 ∧
  Vl Tryd.prog (Instr.fieldAt 84 t0 1) wa fun v7 wb =>
  Vl Tryd.prog (Instr.loadAt 31 v7) wb fun v8 wc =>
  Vl Tryd.prog (Builtin.len_ #[31] 3 #[v8]) wc fun v9 wd =>
  Vl Tryd.prog (binop BinOp.gtr 3 (Operand.tmp 9) (Operand.const ((Value.int IntKind.i64 0))) v9 (Value.int IntKind.i64 0)) wd fun v10 we =>
  Cond v10
  (∃ S : World → Prop, S (dr we) ∧
  NN t0 ∧
  Pv Tryd.prog (Instr.fieldAt 84 t0 0) fun v13 =>
  ValQ Tryd.prog S (Instr.loadAt 47 v13) fun v14 =>
  Cf Tryd.prog n_stack_Stack_Top #[t0] (dr we) fun v16 wf =>
  ∃ Sa : World → Prop, (∀ x, Sa x → S x) ∧ Sa wf ∧
  Cf Tryd.prog n_arena_Arena_Name #[v14, v16] wf fun v17 wg =>
  ∃ Sb : World → Prop, Sb wg ∧
  Vl Tryd.prog (binop BinOp.eql 9 (Operand.tmp 18) (Operand.tmp 19) v17 t1) wg fun v20 wh =>
  Cond v20
  (Lv ds wh fun wi => K (Value.tuple #[]) wi)
  (Cf Tryd.prog n_kind_Is #[v17, (Value.int IntKind.i64 128)] wh fun v23 wj =>
  Vl Tryd.prog (Op.unary UnOp.not v23) wj fun v24 wk =>
  Cond v24
  (Lv ds wk fun wl => K (Value.tuple #[]) wl)
  (∃ Sc : World → Prop, Sc (dr wk) ∧
  NN t0 ∧
  Pv Tryd.prog (Instr.fieldAt 84 t0 1) fun v29 =>
  ValQ Tryd.prog Sc (Instr.loadAt 31 v29) fun v30 =>
  NN t0 ∧
  Pv Tryd.prog (Instr.fieldAt 84 t0 1) fun v33 =>
  ValQ Tryd.prog Sc (Instr.loadAt 31 v33) fun v34 =>
  ValQ Tryd.prog Sc (Builtin.len_ #[31] 3 #[v34]) fun v35 =>
  Pv Tryd.prog (binop BinOp.sub 3 (Operand.tmp 35) (Operand.const ((Value.int IntKind.i64 1))) v35 (Value.int IntKind.i64 1)) fun v36 =>
  Pv Tryd.prog (Instr.sliceAt 31 v30 none (some v36) none) fun v37 =>
  NN t0 ∧
  Pv Tryd.prog (Instr.fieldAt 84 t0 1) fun v39 =>
  Ef Tryd.prog (Instr.storeAt 31 v39 v37) (dr wk) fun wm =>
  ∃ Sd : World → Prop, Sd wm ∧
  I [] ds wm ∧ μ [] wm < μ [] wa)))
  (Lv ds we fun wn => K (Value.tuple #[]) wn))
theorem L_stack_Stack_Implied (t0 t1 : Value) (K : Value → World → Prop) (w : World) (h : S_stack_Stack_Implied t0 t1 K w) : Cf Tryd.prog n_stack_Stack_Implied #[t0, t1] w K :=
  callF_of (args := [t0, t1]) (lv := fun k => bif Nat.beq k 0 then [] else []) (jn := fun _ => none) Mx Tryd.func16 rfl Tryd.call16 rfl (by as_aux_lemma => kernel_rfl) (cast (by as_aux_lemma => kernel_rfl) h)

-- "(*decanter/stack.Stack).All"
def S_stack_Stack_All (t0 : Value) (K : Value → World → Prop) (w : World) : Prop :=
  NN t0 ∧
  Vl Tryd.prog (Instr.fieldAt 84 t0 1) w fun v5 wa =>
  Vl Tryd.prog (Instr.loadAt 31 v5) wa fun v6 wb =>
  Cf Tryd.prog n_slices_Clone_ints #[v6] wb fun v7 wc =>
  K v7 wc
theorem L_stack_Stack_All (t0 : Value) (K : Value → World → Prop) (w : World) (h : S_stack_Stack_All t0 K w) : Cf Tryd.prog n_stack_Stack_All #[t0] w K :=
  callF_of (args := [t0]) (lv := fun _ => []) (jn := fun _ => none) Mx Tryd.func17 rfl Tryd.call17 rfl (by as_aux_lemma => kernel_rfl) (cast (by as_aux_lemma => kernel_rfl) h)

-- "decanter/decanterref11.Is"
def S_decanterref11_Is (t0 t1 : Value) (K : Value → World → Prop) (w : World) : Prop :=
  Cf Tryd.prog n_decanterref11_one #[t0] w fun v6 wa =>
  Cond v6
  (Cf Tryd.prog n_decanterref11_Lists #[] wa fun v8 wb =>
  Vl Tryd.prog (Instr.indexAt 22 v8 t1) wb fun v10 wc =>
  Vl Tryd.prog (Instr.loadAt 9 v10) wc fun v11 wd =>
  Vl Tryd.prog (binop BinOp.add 9 (Operand.const ((Value.string { data := #[32] }))) (Operand.tmp 12) (Value.string { data := #[32] }) t0) wd fun v13 we =>
  Vl Tryd.prog (binop BinOp.add 9 (Operand.tmp 13) (Operand.const ((Value.string { data := #[32] }))) v13 (Value.string { data := #[32] })) we fun v14 wf =>
  Cf Tryd.prog n_decanterref11_in #[v11, v14] wf fun v15 wg =>
  K v15 wg)
  (K (Value.bool false) wa)
theorem L_decanterref11_Is (t0 t1 : Value) (K : Value → World → Prop) (w : World) (h : S_decanterref11_Is t0 t1 K w) : Cf Tryd.prog n_decanterref11_Is #[t0, t1] w K :=
  callF_of (args := [t0, t1]) (lv := fun _ => []) (jn := fun _ => none) Mx Tryd.func18 rfl Tryd.call18 rfl (by as_aux_lemma => kernel_rfl) (cast (by as_aux_lemma => kernel_rfl) h)

-- "decanter/decanterref13.In"
def S_decanterref13_In (t0 t1 t2 : Value) (K : Value → World → Prop) (w : World) : Prop :=
  Vl Tryd.prog (Builtin.len_ #[22] 3 #[t0]) w fun v9 wa =>
  Vl Tryd.prog (binop BinOp.sub 3 (Operand.tmp 9) (Operand.const ((Value.int IntKind.i64 1))) v9 (Value.int IntKind.i64 1)) wa fun v10 wb =>
  ∃ (I : List Value → List Deferred → World → Prop) (μ : List Value → World → Nat), I [v10] [] wb ∧
  ∀ (g : Nat → Value) (ds : List Deferred) (wc : World), I [g 7] ds wc →
  (Vl Tryd.prog (binop BinOp.geq 3 (Operand.tmp 11) (Operand.const ((Value.int IntKind.i64 0))) (g 7) (Value.int IntKind.i64 0)) wc fun v12 wd =>
  Cond v12
  (Vl Tryd.prog (Instr.indexAt 22 t0 (g 7)) wd fun v17 we =>
  Vl Tryd.prog (Instr.loadAt 9 v17) we fun v18 wf =>
  Cf Tryd.prog n_decanterref13_Among #[v18, t2] wf fun v20 wg =>
  Cond v20
  (Lv ds wg fun wh => K (Value.bool true) wh)
  (Vl Tryd.prog (Instr.indexAt 22 t0 (g 7)) wg fun v23 wi =>
  Vl Tryd.prog (Instr.loadAt 9 v23) wi fun v24 wj =>
  Cf Tryd.prog n_decanterref11_Is #[v24, (Value.int IntKind.i64 5)] wj fun v25 wk =>
  Cond v25
  (Lv ds wk fun wl => K (Value.bool false) wl)
  (Vl Tryd.prog (binop BinOp.eql 3 (Operand.tmp 27) (Operand.const ((Value.int IntKind.i64 1))) t1 (Value.int IntKind.i64 1)) wk fun v28 wm =>
  Cond v28
  (Vl Tryd.prog (Instr.indexAt 22 t0 (g 7)) wm fun v32 wn =>
  Vl Tryd.prog (Instr.loadAt 9 v32) wn fun v33 wo =>
  Vl Tryd.prog (binop BinOp.eql 9 (Operand.tmp 33) (Operand.const ((Value.string { data := #[111, 108] }))) v33 (Value.string { data := #[111, 108] })) wo fun v34 wp =>
  Cond v34
  (Lv ds wp fun wq => K (Value.bool false) wq)
  (Vl Tryd.prog (Instr.indexAt 22 t0 (g 7)) wp fun v38 wr =>
  Vl Tryd.prog (Instr.loadAt 9 v38) wr fun v39 ws =>
  Vl Tryd.prog (binop BinOp.eql 9 (Operand.tmp 39) (Operand.const ((Value.string { data := #[117, 108] }))) v39 (Value.string { data := #[117, 108] })) ws fun v40 wt =>
  Cond v40
  (Lv ds wt fun wu => K (Value.bool false) wu)
  (Vl Tryd.prog (binop BinOp.eql 3 (Operand.tmp 45) (Operand.const ((Value.int IntKind.i64 2))) t1 (Value.int IntKind.i64 2)) wt fun v46 wv =>
  Cond v46
  (Vl Tryd.prog (Instr.indexAt 22 t0 (g 7)) wv fun v50 ww =>
  Vl Tryd.prog (Instr.loadAt 9 v50) ww fun v51 wx =>
  Vl Tryd.prog (binop BinOp.eql 9 (Operand.tmp 51) (Operand.const ((Value.string { data := #[98, 117, 116, 116, 111, 110] }))) v51 (Value.string { data := #[98, 117, 116, 116, 111, 110] })) wx fun v52 wy =>
  Cond v52
  (Lv ds wy fun wz => K (Value.bool false) wz)
  (Vl Tryd.prog (binop BinOp.sub 3 (Operand.tmp 13) (Operand.const ((Value.int IntKind.i64 1))) (g 7) (Value.int IntKind.i64 1)) wy fun v14 wz27 =>
  I [v14] ds wz27 ∧ μ [v14] wz27 < μ [g 7] wc))
  (Vl Tryd.prog (binop BinOp.sub 3 (Operand.tmp 13) (Operand.const ((Value.int IntKind.i64 1))) (g 7) (Value.int IntKind.i64 1)) wv fun v14a wz28 =>
  I [v14a] ds wz28 ∧ μ [v14a] wz28 < μ [g 7] wc))))
  (Vl Tryd.prog (binop BinOp.eql 3 (Operand.tmp 45) (Operand.const ((Value.int IntKind.i64 2))) t1 (Value.int IntKind.i64 2)) wm fun v46a wz29 =>
  Cond v46a
  (Vl Tryd.prog (Instr.indexAt 22 t0 (g 7)) wz29 fun v50a wz30 =>
  Vl Tryd.prog (Instr.loadAt 9 v50a) wz30 fun v51a wz31 =>
  Vl Tryd.prog (binop BinOp.eql 9 (Operand.tmp 51) (Operand.const ((Value.string { data := #[98, 117, 116, 116, 111, 110] }))) v51a (Value.string { data := #[98, 117, 116, 116, 111, 110] })) wz31 fun v52a wz32 =>
  Cond v52a
  (Lv ds wz32 fun wz33 => K (Value.bool false) wz33)
  (Vl Tryd.prog (binop BinOp.sub 3 (Operand.tmp 13) (Operand.const ((Value.int IntKind.i64 1))) (g 7) (Value.int IntKind.i64 1)) wz32 fun v14b wz34 =>
  I [v14b] ds wz34 ∧ μ [v14b] wz34 < μ [g 7] wc))
  (Vl Tryd.prog (binop BinOp.sub 3 (Operand.tmp 13) (Operand.const ((Value.int IntKind.i64 1))) (g 7) (Value.int IntKind.i64 1)) wz29 fun v14c wz35 =>
  I [v14c] ds wz35 ∧ μ [v14c] wz35 < μ [g 7] wc)))))
  (Lv ds wd fun wz36 => K (Value.bool false) wz36))
theorem L_decanterref13_In (t0 t1 t2 : Value) (K : Value → World → Prop) (w : World) (h : S_decanterref13_In t0 t1 t2 K w) : Cf Tryd.prog n_decanterref13_In #[t0, t1, t2] w K :=
  callF_of (args := [t0, t1, t2]) (lv := fun k => bif Nat.beq k 2 then [7] else []) (jn := fun _ => none) Mx Tryd.func19 rfl Tryd.call19 rfl (by as_aux_lemma => kernel_rfl) (cast (by as_aux_lemma => kernel_rfl) h)

-- "decanter/decanterref13.To"
def S_decanterref13_To (t0 t1 : Value) (K : Value → World → Prop) (w : World) : Prop :=
  Vl Tryd.prog (Builtin.len_ #[22] 3 #[t0]) w fun v7 wa =>
  Vl Tryd.prog (binop BinOp.sub 3 (Operand.tmp 7) (Operand.const ((Value.int IntKind.i64 1))) v7 (Value.int IntKind.i64 1)) wa fun v8 wb =>
  ∃ (I : List Value → List Deferred → World → Prop) (μ : List Value → World → Nat), I [v8] [] wb ∧
  ∀ (g : Nat → Value) (ds : List Deferred) (wc : World), I [g 5] ds wc →
  (Vl Tryd.prog (binop BinOp.geq 3 (Operand.tmp 9) (Operand.const ((Value.int IntKind.i64 0))) (g 5) (Value.int IntKind.i64 0)) wc fun v10 wd =>
  Cond v10
  (Vl Tryd.prog (Instr.indexAt 22 t0 (g 5)) wd fun v15 we =>
  Vl Tryd.prog (Instr.loadAt 9 v15) we fun v16 wf =>
  Cf Tryd.prog n_decanterref13_Among #[v16, t1] wf fun v18 wg =>
  Cond v18
  (Lv ds wg fun wh => K (g 5) wh)
  (Vl Tryd.prog (binop BinOp.sub 3 (Operand.tmp 11) (Operand.const ((Value.int IntKind.i64 1))) (g 5) (Value.int IntKind.i64 1)) wg fun v12 wi =>
  I [v12] ds wi ∧ μ [v12] wi < μ [g 5] wc))
  (Lv ds wd fun wj => K (Value.int IntKind.i64 (-1)) wj))
theorem L_decanterref13_To (t0 t1 : Value) (K : Value → World → Prop) (w : World) (h : S_decanterref13_To t0 t1 K w) : Cf Tryd.prog n_decanterref13_To #[t0, t1] w K :=
  callF_of (args := [t0, t1]) (lv := fun k => bif Nat.beq k 2 then [5] else []) (jn := fun _ => none) Mx Tryd.func20 rfl Tryd.call20 rfl (by as_aux_lemma => kernel_rfl) (cast (by as_aux_lemma => kernel_rfl) h)

-- "decanter/decanterref13.Implied"
def S_decanterref13_Implied (t0 t1 : Value) (K : Value → World → Prop) (w : World) : Prop :=
  Vl Tryd.prog (Builtin.len_ #[22] 3 #[t0]) w fun v7 wa =>
  ∃ (I : List Value → List Deferred → World → Prop) (μ : List Value → World → Nat), I [v7] [] wa ∧
  ∀ (g : Nat → Value) (ds : List Deferred) (wb : World), I [g 5] ds wb →
  (Vl Tryd.prog (binop BinOp.gtr 3 (Operand.tmp 8) (Operand.const ((Value.int IntKind.i64 0))) (g 5) (Value.int IntKind.i64 0)) wb fun v9 wc =>
  Cond v9
  (Vl Tryd.prog (binop BinOp.sub 3 (Operand.tmp 12) (Operand.const ((Value.int IntKind.i64 1))) (g 5) (Value.int IntKind.i64 1)) wc fun v13 wd =>
  Vl Tryd.prog (Instr.indexAt 22 t0 v13) wd fun v14 we =>
  Vl Tryd.prog (Instr.loadAt 9 v14) we fun v15 wf =>
  Vl Tryd.prog (binop BinOp.neq 9 (Operand.tmp 15) (Operand.tmp 16) v15 t1) wf fun v17 wg =>
  Cond v17
  (Vl Tryd.prog (binop BinOp.sub 3 (Operand.tmp 21) (Operand.const ((Value.int IntKind.i64 1))) (g 5) (Value.int IntKind.i64 1)) wg fun v22 wh =>
  Vl Tryd.prog (Instr.indexAt 22 t0 v22) wh fun v23 wi =>
  Vl Tryd.prog (Instr.loadAt 9 v23) wi fun v24 wj =>
  Cf Tryd.prog n_decanterref11_Is #[v24, (Value.int IntKind.i64 7)] wj fun v25 wk =>
  Cond v25
  (Vl Tryd.prog (binop BinOp.sub 3 (Operand.tmp 27) (Operand.const ((Value.int IntKind.i64 1))) (g 5) (Value.int IntKind.i64 1)) wk fun v28 wl =>
  I [v28] ds wl ∧ μ [v28] wl < μ [g 5] wb)
  (Lv ds wk fun wm => K (g 5) wm))
  (Lv ds wg fun wn => K (g 5) wn))
  (Lv ds wc fun wo => K (g 5) wo))
theorem L_decanterref13_Implied (t0 t1 : Value) (K : Value → World → Prop) (w : World) (h : S_decanterref13_Implied t0 t1 K w) : Cf Tryd.prog n_decanterref13_Implied #[t0, t1] w K :=
  callF_of (args := [t0, t1]) (lv := fun k => bif Nat.beq k 2 then [5] else []) (jn := fun _ => none) Mx Tryd.func21 rfl Tryd.call21 rfl (by as_aux_lemma => kernel_rfl) (cast (by as_aux_lemma => kernel_rfl) h)

-- "(*decanter/stack.Stack).Remove"
def S_stack_Stack_Remove (t0 t1 : Value) (K : Value → World → Prop) (w : World) : Prop :=
  Cf Tryd.prog n_stack_Stack_Find #[t0, t1] w fun v7 wa =>
  Vl Tryd.prog (binop BinOp.geq 3 (Operand.tmp 8) (Operand.const ((Value.int IntKind.i64 0))) v7 (Value.int IntKind.i64 0)) wa fun v9 wb =>
  Cond v9
  (NN t0 ∧
  Vl Tryd.prog (Instr.fieldAt 84 t0 1) wb fun v13 wc =>
  Vl Tryd.prog (Instr.loadAt 31 v13) wc fun v14 wd =>
  Vl Tryd.prog (binop BinOp.add 3 (Operand.tmp 16) (Operand.const ((Value.int IntKind.i64 1))) v7 (Value.int IntKind.i64 1)) wd fun v17 we =>
  Cf Tryd.prog n_slices_Delete_ints #[v14, v7, v17] we fun v18 wf =>
  NN t0 ∧
  Vl Tryd.prog (Instr.fieldAt 84 t0 1) wf fun v20 wg =>
  Ef Tryd.prog (Instr.storeAt 31 v20 v18) wg fun wh =>
  K (Value.tuple #[]) wh)
  (K (Value.tuple #[]) wb)
theorem L_stack_Stack_Remove (t0 t1 : Value) (K : Value → World → Prop) (w : World) (h : S_stack_Stack_Remove t0 t1 K w) : Cf Tryd.prog n_stack_Stack_Remove #[t0, t1] w K :=
  callF_of (args := [t0, t1]) (lv := fun _ => []) (jn := fun _ => none) Mx Tryd.func22 rfl Tryd.call22 rfl (by as_aux_lemma => kernel_rfl) (cast (by as_aux_lemma => kernel_rfl) h)

-- "(*decanter/stack.Stack).Find"
def S_stack_Stack_Find (t0 t1 : Value) (K : Value → World → Prop) (w : World) : Prop :=
  NN t0 ∧
  Vl Tryd.prog (Instr.fieldAt 84 t0 1) w fun v7 wa =>
  Vl Tryd.prog (Instr.loadAt 31 v7) wa fun v8 wb =>
  Cf Tryd.prog n_slices_Index_ints #[v8, t1] wb fun v10 wc =>
  K v10 wc
theorem L_stack_Stack_Find (t0 t1 : Value) (K : Value → World → Prop) (w : World) (h : S_stack_Stack_Find t0 t1 K w) : Cf Tryd.prog n_stack_Stack_Find #[t0, t1] w K :=
  callF_of (args := [t0, t1]) (lv := fun _ => []) (jn := fun _ => none) Mx Tryd.func23 rfl Tryd.call23 rfl (by as_aux_lemma => kernel_rfl) (cast (by as_aux_lemma => kernel_rfl) h)

-- "(*decanter/stack.Stack).Insert"
def S_stack_Stack_Insert (t0 t1 t2 : Value) (K : Value → World → Prop) (w : World) : Prop :=
  NN t0 ∧
  Vl Tryd.prog (Instr.fieldAt 84 t0 1) w fun v9 wa =>
  Vl Tryd.prog (Instr.loadAt 31 v9) wa fun v10 wb =>
  Vl Tryd.prog (Instr.buildSlice 31 1 #[(0, t2)]) wb fun v13 wc =>
  Cf Tryd.prog n_slices_Insert_ints #[v10, t1, v13] wc fun v14 wd =>
  NN t0 ∧
  Vl Tryd.prog (Instr.fieldAt 84 t0 1) wd fun v16 we =>
  Ef Tryd.prog (Instr.storeAt 31 v16 v14) we fun wf =>
  K (Value.tuple #[]) wf
theorem L_stack_Stack_Insert (t0 t1 t2 : Value) (K : Value → World → Prop) (w : World) (h : S_stack_Stack_Insert t0 t1 t2 K w) : Cf Tryd.prog n_stack_Stack_Insert #[t0, t1, t2] w K :=
  callF_of (args := [t0, t1, t2]) (lv := fun _ => []) (jn := fun _ => none) Mx Tryd.func24 rfl Tryd.call24 rfl (by as_aux_lemma => kernel_rfl) (cast (by as_aux_lemma => kernel_rfl) h)

-- "(*decanter/stack.Stack).Pop"
def S_stack_Stack_Pop (t0 : Value) (K : Value → World → Prop) (w : World) : Prop :=
  NN t0 ∧
  Vl Tryd.prog (Instr.fieldAt 84 t0 1) w fun v8 wa =>
  Vl Tryd.prog (Instr.loadAt 31 v8) wa fun v9 wb =>
  Vl Tryd.prog (Builtin.len_ #[31] 3 #[v9]) wb fun v10 wc =>
  Vl Tryd.prog (binop BinOp.sub 3 (Operand.tmp 10) (Operand.const ((Value.int IntKind.i64 1))) v10 (Value.int IntKind.i64 1)) wc fun v11 wd =>
  Vl Tryd.prog (binop BinOp.lss 3 (Operand.tmp 12) (Operand.const ((Value.int IntKind.i64 0))) v11 (Value.int IntKind.i64 0)) wd fun v13 we =>
  Cond v13
  (K (Value.tuple #[(Value.int IntKind.i64 0), (Value.bool false)]) we)
  (NN t0 ∧
  Vl Tryd.prog (Instr.fieldAt 84 t0 1) we fun v16 wf =>
  Vl Tryd.prog (Instr.loadAt 31 v16) wf fun v17 wg =>
  Vl Tryd.prog (Instr.indexAt 31 v17 v11) wg fun v19 wh =>
  Vl Tryd.prog (Instr.loadAt 3 v19) wh fun v20 wi =>
  NN t0 ∧
  Vl Tryd.prog (Instr.fieldAt 84 t0 1) wi fun v24 wj =>
  Vl Tryd.prog (Instr.loadAt 31 v24) wj fun v25 wk =>
  Vl Tryd.prog (Instr.sliceAt 31 v25 none (some v11) none) wk fun v27 wl =>
  NN t0 ∧
  Vl Tryd.prog (Instr.fieldAt 84 t0 1) wl fun v29 wm =>
  Ef Tryd.prog (Instr.storeAt 31 v29 v27) wm fun wn =>
  K (Value.tuple #[v20, (Value.bool true)]) wn)
theorem L_stack_Stack_Pop (t0 : Value) (K : Value → World → Prop) (w : World) (h : S_stack_Stack_Pop t0 K w) : Cf Tryd.prog n_stack_Stack_Pop #[t0] w K :=
  callF_of (args := [t0]) (lv := fun _ => []) (jn := fun _ => none) Mx Tryd.func25 rfl Tryd.call25 rfl (by as_aux_lemma => kernel_rfl) (cast (by as_aux_lemma => kernel_rfl) h)

-- "(*decanter/stack.Stack).Top"
def S_stack_Stack_Top (t0 : Value) (K : Value → World → Prop) (w : World) : Prop :=
  NN t0 ∧
  Vl Tryd.prog (Instr.fieldAt 84 t0 1) w fun v5 wa =>
  Vl Tryd.prog (Instr.loadAt 31 v5) wa fun v6 wb =>
  Vl Tryd.prog (Builtin.len_ #[31] 3 #[v6]) wb fun v7 wc =>
  Vl Tryd.prog (binop BinOp.eql 3 (Operand.tmp 7) (Operand.const ((Value.int IntKind.i64 0))) v7 (Value.int IntKind.i64 0)) wc fun v8 wd =>
  Cond v8
  (K (Value.int IntKind.i64 0) wd)
  (∃ S : World → Prop, S (dr wd) ∧
  NN t0 ∧
  Pv Tryd.prog (Instr.fieldAt 84 t0 1) fun v11 =>
  ValQ Tryd.prog S (Instr.loadAt 31 v11) fun v12 =>
  NN t0 ∧
  Pv Tryd.prog (Instr.fieldAt 84 t0 1) fun v15 =>
  ValQ Tryd.prog S (Instr.loadAt 31 v15) fun v16 =>
  ValQ Tryd.prog S (Builtin.len_ #[31] 3 #[v16]) fun v17 =>
  Pv Tryd.prog (binop BinOp.sub 3 (Operand.tmp 17) (Operand.const ((Value.int IntKind.i64 1))) v17 (Value.int IntKind.i64 1)) fun v18 =>
  Pv Tryd.prog (Instr.indexAt 31 v12 v18) fun v19 =>
  ValQ Tryd.prog S (Instr.loadAt 3 v19) fun v20 =>
  K v20 (dr wd))
theorem L_stack_Stack_Top (t0 : Value) (K : Value → World → Prop) (w : World) (h : S_stack_Stack_Top t0 K w) : Cf Tryd.prog n_stack_Stack_Top #[t0] w K :=
  callF_of (args := [t0]) (lv := fun _ => []) (jn := fun _ => none) Mx Tryd.func26 rfl Tryd.call26 rfl (by as_aux_lemma => kernel_rfl) (cast (by as_aux_lemma => kernel_rfl) h)

-- "decanter/arena.New"
def S_arena_New (K : Value → World → Prop) (w : World) : Prop :=
  Vl Tryd.prog (Instr.build 97 #[]) w fun v2 wa =>
  Vl Tryd.prog (Instr.box 97 v2) wa fun v3 wb =>
  Vl Tryd.prog (Instr.build 100 #[(3, (Value.int IntKind.i64 (-1)))]) wb fun v5 wc =>
  Cf Tryd.prog n_arena_Arena_number #[v3, v5] wc fun v6 wd =>
  K v3 wd
theorem L_arena_New (K : Value → World → Prop) (w : World) (h : S_arena_New K w) : Cf Tryd.prog n_arena_New #[] w K :=
  callF_of (args := []) (lv := fun _ => []) (jn := fun _ => none) Mx Tryd.func27 rfl Tryd.call27 rfl (by as_aux_lemma => kernel_rfl) (cast (by as_aux_lemma => kernel_rfl) h)

-- "decanter/stack.New"
def S_stack_New (t0 : Value) (K : Value → World → Prop) (w : World) : Prop :=
  Vl Tryd.prog (Instr.build 84 #[(0, t0)]) w fun v4 wa =>
  Vl Tryd.prog (Instr.box 84 v4) wa fun v5 wb =>
  K v5 wb
theorem L_stack_New (t0 : Value) (K : Value → World → Prop) (w : World) (h : S_stack_New t0 K w) : Cf Tryd.prog n_stack_New #[t0] w K :=
  callF_of (args := [t0]) (lv := fun _ => []) (jn := fun _ => none) Mx Tryd.func28 rfl Tryd.call28 rfl (by as_aux_lemma => kernel_rfl) (cast (by as_aux_lemma => kernel_rfl) h)

-- "decanter/decanterlaw13.StackActs$1"
def S_decanterlaw13_StackActs_1 (t0 t1 t2 : Value) (K : Value → World → Prop) (w : World) : Prop :=
  ∃ S : World → Prop, S (dr w) ∧
  (Vl Tryd.prog (Instr.loadAt 31 t1) (dr w) fun v4 wa =>
  ∃ Sa : World → Prop, (∀ x, Sa x → S x) ∧ Sa wa ∧
  Pv Tryd.prog (Instr.sliceAt 31 v4 none (some t0) none) fun v6 =>
  (Vl Tryd.prog (Instr.loadAt 22 t2) wa fun v7 wb =>
  ∃ Sb : World → Prop, (∀ x, Sb x → Sa x) ∧ Sb wb ∧
  Pv Tryd.prog (Instr.sliceAt 22 v7 none (some t0) none) fun v9 =>
  Ef Tryd.prog (Instr.storeAt 31 t1 v6) wb fun wc =>
  ∃ Sc : World → Prop, (∀ x, Sc x → Sb x) ∧ Sc wc ∧
  Ef Tryd.prog (Instr.storeAt 22 t2 v9) wc fun wd =>
  ∃ Sd : World → Prop, Sd wd ∧
  K (Value.tuple #[]) wd) ∧ (Ef Tryd.prog (Instr.storeAt 31 t1 v6) wa fun we =>
  ∃ Se : World → Prop, Se we ∧
  Vl Tryd.prog (Instr.loadAt 22 t2) we fun v7a wf =>
  ∃ Sf : World → Prop, (∀ x, Sf x → Se x) ∧ Sf wf ∧
  Pv Tryd.prog (Instr.sliceAt 22 v7a none (some t0) none) fun v9a =>
  Ef Tryd.prog (Instr.storeAt 22 t2 v9a) wf fun wg =>
  ∃ Sg : World → Prop, Sg wg ∧
  K (Value.tuple #[]) wg) ∧ True) ∧ (Vl Tryd.prog (Instr.loadAt 22 t2) (dr w) fun v7b wh =>
  ∃ Sh : World → Prop, (∀ x, Sh x → S x) ∧ Sh wh ∧
  Pv Tryd.prog (Instr.sliceAt 22 v7b none (some t0) none) fun v9b =>
  Vl Tryd.prog (Instr.loadAt 31 t1) wh fun v4a wi =>
  ∃ Si : World → Prop, (∀ x, Si x → Sh x) ∧ Si wi ∧
  Pv Tryd.prog (Instr.sliceAt 31 v4a none (some t0) none) fun v6a =>
  Ef Tryd.prog (Instr.storeAt 31 t1 v6a) wi fun wj =>
  ∃ Sj : World → Prop, (∀ x, Sj x → Si x) ∧ Sj wj ∧
  Ef Tryd.prog (Instr.storeAt 22 t2 v9b) wj fun wk =>
  ∃ Sk : World → Prop, Sk wk ∧
  K (Value.tuple #[]) wk) ∧ True
theorem L_decanterlaw13_StackActs_1 (t0 t1 t2 : Value) (K : Value → World → Prop) (w : World) (h : S_decanterlaw13_StackActs_1 t0 t1 t2 K w) : Cf Tryd.prog n_decanterlaw13_StackActs_1 #[t0, t1, t2] w K :=
  callF_of (args := [t0, t1, t2]) (lv := fun _ => []) (jn := fun _ => none) Mx Tryd.func29 rfl Tryd.call29 rfl (by as_aux_lemma => kernel_rfl) (cast (by as_aux_lemma => kernel_rfl) h)

-- "(*decanter/arena.Arena).Element"
def S_arena_Arena_Element (t0 t1 t2 : Value) (K : Value → World → Prop) (w : World) : Prop :=
  Cf Tryd.prog n_slices_Clone_attrs #[t2] w fun v10 wa =>
  Vl Tryd.prog (Instr.build 100 #[(0, t1), (1, v10), (3, (Value.int IntKind.i64 (-1)))]) wa fun v11 wb =>
  Cf Tryd.prog n_arena_Arena_number #[t0, v11] wb fun v12 wc =>
  K v12 wc
theorem L_arena_Arena_Element (t0 t1 t2 : Value) (K : Value → World → Prop) (w : World) (h : S_arena_Arena_Element t0 t1 t2 K w) : Cf Tryd.prog n_arena_Arena_Element #[t0, t1, t2] w K :=
  callF_of (args := [t0, t1, t2]) (lv := fun _ => []) (jn := fun _ => none) Mx Tryd.func30 rfl Tryd.call30 rfl (by as_aux_lemma => kernel_rfl) (cast (by as_aux_lemma => kernel_rfl) h)

-- "(*decanter/stack.Stack).Push"
def S_stack_Stack_Push (t0 t1 : Value) (K : Value → World → Prop) (w : World) : Prop :=
  NN t0 ∧
  Vl Tryd.prog (Instr.fieldAt 84 t0 1) w fun v7 wa =>
  Vl Tryd.prog (Instr.loadAt 31 v7) wa fun v8 wb =>
  Vl Tryd.prog (Instr.buildSlice 31 1 #[(0, t1)]) wb fun v10 wc =>
  Vl Tryd.prog (Builtin.append_ #[31, 31] 31 #[v8, v10]) wc fun v11 wd =>
  NN t0 ∧
  Vl Tryd.prog (Instr.fieldAt 84 t0 1) wd fun v13 we =>
  Ef Tryd.prog (Instr.storeAt 31 v13 v11) we fun wf =>
  K (Value.tuple #[]) wf
theorem L_stack_Stack_Push (t0 t1 : Value) (K : Value → World → Prop) (w : World) (h : S_stack_Stack_Push t0 t1 K w) : Cf Tryd.prog n_stack_Stack_Push #[t0, t1] w K :=
  callF_of (args := [t0, t1]) (lv := fun _ => []) (jn := fun _ => none) Mx Tryd.func31 rfl Tryd.call31 rfl (by as_aux_lemma => kernel_rfl) (cast (by as_aux_lemma => kernel_rfl) h)

-- "decanter/decanterlaw15.speaks"
def S_decanterlaw15_speaks (K : Value → World → Prop) (w : World) : Prop :=
  Cf Tryd.prog n_arena_New #[] w fun v7 wa =>
  Vl Tryd.prog (binop BinOp.eql 47 (Operand.tmp 8) (Operand.const ((Value.pointer none))) v7 (Value.pointer none)) wa fun v9 wb =>
  Cond v9
  (K (Value.bool false) wb)
  (Cf Tryd.prog n_stack_New #[v7] wb fun v11 wc =>
  Cf Tryd.prog n_list_New #[v7] wc fun v13 wd =>
  Vl Tryd.prog (binop BinOp.eql 25 (Operand.tmp 14) (Operand.const ((Value.pointer none))) v11 (Value.pointer none)) wd fun v15 we =>
  Cond v15
  (K (Value.bool false) we)
  (Vl Tryd.prog (binop BinOp.eql 55 (Operand.tmp 17) (Operand.const ((Value.pointer none))) v13 (Value.pointer none)) we fun v18 wf =>
  Cond v18
  (K (Value.bool false) wf)
  (Cf Tryd.prog n_arena_Arena_Element #[v7, (Value.string { data := #[98] }), (Value.slice none 0 0)] wf fun v21 wg =>
  Cf Tryd.prog n_arena_Arena_Element #[v7, (Value.string { data := #[112] }), (Value.slice none 0 0)] wg fun v23 wh =>
  Cf Tryd.prog n_arena_Arena_Append #[v7, (Value.int IntKind.i64 0), v21] wh fun v26 wi =>
  Cf Tryd.prog n_arena_Arena_Append #[v7, v21, v23] wi fun v30 wj =>
  Cf Tryd.prog n_arena_Arena_Text #[v7, v23, (Value.string { data := #[120] })] wj fun v33 wk =>
  Cf Tryd.prog n_stack_Stack_Push #[v11, v21] wk fun v36 wl =>
  Cf Tryd.prog n_stack_Stack_Push #[v11, v23] wl fun v39 wm =>
  Cf Tryd.prog n_list_List_Push #[v13, v21] wm fun v42 wn =>
  Cf Tryd.prog n_adopt_Again #[v7, v11, v13, (Value.string { data := #[98] })] wn fun v46 wo =>
  Vl Tryd.prog (Op.unary UnOp.not v46) wo fun v47 wp =>
  Cond v47
  (K (Value.bool false) wp)
  (Cf Tryd.prog n_arena_Arena_Nodes #[v7, (Value.int IntKind.i64 0)] wp fun v49 wq =>
  Vl Tryd.prog (Builtin.len_ #[68] 3 #[v49]) wq fun v51 wr =>
  Vl Tryd.prog (binop BinOp.eql 3 (Operand.tmp 51) (Operand.const ((Value.int IntKind.i64 2))) v51 (Value.int IntKind.i64 2)) wr fun v52 ws =>
  Cond v52
  (Vl Tryd.prog (Instr.indexAt 68 v49 (Value.int IntKind.i64 1)) ws fun v55 wt =>
  Vl Tryd.prog (Instr.fieldAt 105 v55 0) wt fun v56 wu =>
  Vl Tryd.prog (Instr.loadAt 9 v56) wu fun v57 wv =>
  Vl Tryd.prog (binop BinOp.eql 9 (Operand.tmp 57) (Operand.const ((Value.string { data := #[112] }))) v57 (Value.string { data := #[112] })) wv fun v58 ww =>
  Cond v58
  (Vl Tryd.prog (Instr.indexAt 68 v49 (Value.int IntKind.i64 1)) ww fun v62 wx =>
  Vl Tryd.prog (Instr.fieldAt 105 v62 3) wx fun v63 wy =>
  Vl Tryd.prog (Instr.loadAt 68 v63) wy fun v64 wz =>
  Vl Tryd.prog (Builtin.len_ #[68] 3 #[v64]) wz fun v65 wz27 =>
  Vl Tryd.prog (binop BinOp.eql 3 (Operand.tmp 65) (Operand.const ((Value.int IntKind.i64 1))) v65 (Value.int IntKind.i64 1)) wz27 fun v66 wz28 =>
  Cond v66
  (Vl Tryd.prog (Instr.indexAt 68 v49 (Value.int IntKind.i64 1)) wz28 fun v70 wz29 =>
  Vl Tryd.prog (Instr.fieldAt 105 v70 3) wz29 fun v71 wz30 =>
  Vl Tryd.prog (Instr.loadAt 68 v71) wz30 fun v72 wz31 =>
  Vl Tryd.prog (Instr.indexAt 68 v72 (Value.int IntKind.i64 0)) wz31 fun v73 wz32 =>
  Vl Tryd.prog (Instr.fieldAt 105 v73 0) wz32 fun v74 wz33 =>
  Vl Tryd.prog (Instr.loadAt 9 v74) wz33 fun v75 wz34 =>
  Vl Tryd.prog (binop BinOp.eql 9 (Operand.tmp 75) (Operand.const ((Value.string { data := #[98] }))) v75 (Value.string { data := #[98] })) wz34 fun v76 wz35 =>
  Cond v76
  (Vl Tryd.prog (Instr.indexAt 68 v49 (Value.int IntKind.i64 1)) wz35 fun v80 wz36 =>
  Vl Tryd.prog (Instr.fieldAt 105 v80 3) wz36 fun v81 wz37 =>
  Vl Tryd.prog (Instr.loadAt 68 v81) wz37 fun v82 wz38 =>
  Vl Tryd.prog (Instr.indexAt 68 v82 (Value.int IntKind.i64 0)) wz38 fun v83 wz39 =>
  Vl Tryd.prog (Instr.fieldAt 105 v83 3) wz39 fun v84 wz40 =>
  Vl Tryd.prog (Instr.loadAt 68 v84) wz40 fun v85 wz41 =>
  Vl Tryd.prog (Builtin.len_ #[68] 3 #[v85]) wz41 fun v86 wz42 =>
  Vl Tryd.prog (binop BinOp.eql 3 (Operand.tmp 86) (Operand.const ((Value.int IntKind.i64 1))) v86 (Value.int IntKind.i64 1)) wz42 fun v87 wz43 =>
  Cond v87
  (Vl Tryd.prog (Instr.indexAt 68 v49 (Value.int IntKind.i64 1)) wz43 fun v91 wz44 =>
  Vl Tryd.prog (Instr.fieldAt 105 v91 3) wz44 fun v92 wz45 =>
  Vl Tryd.prog (Instr.loadAt 68 v92) wz45 fun v93 wz46 =>
  Vl Tryd.prog (Instr.indexAt 68 v93 (Value.int IntKind.i64 0)) wz46 fun v94 wz47 =>
  Vl Tryd.prog (Instr.fieldAt 105 v94 3) wz47 fun v95 wz48 =>
  Vl Tryd.prog (Instr.loadAt 68 v95) wz48 fun v96 wz49 =>
  Vl Tryd.prog (Instr.indexAt 68 v96 (Value.int IntKind.i64 0)) wz49 fun v97 wz50 =>
  Vl Tryd.prog (Instr.fieldAt 105 v97 2) wz50 fun v98 wz51 =>
  Vl Tryd.prog (Instr.loadAt 9 v98) wz51 fun v99 wz52 =>
  Vl Tryd.prog (binop BinOp.eql 9 (Operand.tmp 99) (Operand.const ((Value.string { data := #[120] }))) v99 (Value.string { data := #[120] })) wz52 fun v100 wz53 =>
  K v100 wz53)
  (K (Value.bool false) wz43))
  (K (Value.bool false) wz35))
  (K (Value.bool false) wz28))
  (K (Value.bool false) ww))
  (K (Value.bool false) ws)))))
theorem L_decanterlaw15_speaks (K : Value → World → Prop) (w : World) (h : S_decanterlaw15_speaks K w) : Cf Tryd.prog n_decanterlaw15_speaks #[] w K :=
  callF_of (args := []) (lv := fun _ => []) (jn := fun _ => none) Mx Tryd.func32 rfl Tryd.call32 rfl (by as_aux_lemma => kernel_rfl) (cast (by as_aux_lemma => kernel_rfl) h)

-- "decanter/list.New"
def S_list_New (t0 : Value) (K : Value → World → Prop) (w : World) : Prop :=
  Vl Tryd.prog (Instr.build 107 #[(0, t0)]) w fun v4 wa =>
  Vl Tryd.prog (Instr.box 107 v4) wa fun v5 wb =>
  K v5 wb
theorem L_list_New (t0 : Value) (K : Value → World → Prop) (w : World) (h : S_list_New t0 K w) : Cf Tryd.prog n_list_New #[t0] w K :=
  callF_of (args := [t0]) (lv := fun _ => []) (jn := fun _ => none) Mx Tryd.func33 rfl Tryd.call33 rfl (by as_aux_lemma => kernel_rfl) (cast (by as_aux_lemma => kernel_rfl) h)

-- "decanter/decanterlaw06.Of"
def S_decanterlaw06_Of (t0 : Value) (K : Value → World → Prop) (w : World) : Prop :=
  Vl Tryd.prog (Builtin.len_ #[57] 3 #[t0]) w fun v7 wa =>
  ∃ (I : List Value → List Deferred → World → Prop) (μ : List Value → World → Nat), I [(Value.slice none 0 0), (Value.int IntKind.i64 0)] [] wa ∧
  ∀ (g : Nat → Value) (ds : List Deferred) (wb : World), I [g 3, g 8] ds wb →
  (Vl Tryd.prog (binop BinOp.lss 3 (Operand.tmp 8) (Operand.tmp 7) (g 8) v7) wb fun v9 wc =>
  Cond v9
  (Vl Tryd.prog (Instr.indexAt 57 t0 (g 8)) wc fun v10 wd =>
  Vl Tryd.prog (Instr.loadAt 108 v10) wd fun v11 we =>
  Vl Tryd.prog (Instr.alloc 108 true (.tuple #[])) we fun v5 wf =>
  Ef Tryd.prog (Instr.storeAt 108 v5 v11) wf fun wg =>
  Vl Tryd.prog (Instr.loadAt 108 v5) wg fun v13 wh =>
  Vl Tryd.prog (Instr.buildSlice 60 1 #[(0, v13)]) wh fun v14 wi =>
  Vl Tryd.prog (Builtin.append_ #[60, 60] 60 #[(g 3), v14]) wi fun v15 wj =>
  Vl Tryd.prog (binop BinOp.add 3 (Operand.tmp 8) (Operand.const ((Value.int IntKind.i64 1))) (g 8) (Value.int IntKind.i64 1)) wj fun v16 wk =>
  I [v15, v16] ds wk ∧ μ [v15, v16] wk < μ [g 3, g 8] wb)
  (Lv ds wc fun wl => K (g 3) wl))
theorem L_decanterlaw06_Of (t0 : Value) (K : Value → World → Prop) (w : World) (h : S_decanterlaw06_Of t0 K w) : Cf Tryd.prog n_decanterlaw06_Of #[t0] w K :=
  callF_of (args := [t0]) (lv := fun k => bif Nat.beq k 3 then [3, 8] else []) (jn := fun _ => none) Mx Tryd.func34 rfl Tryd.call34 rfl (by as_aux_lemma => kernel_rfl) (cast (by as_aux_lemma => kernel_rfl) h)

-- "(*decanter/arena.Arena).Append"
def S_arena_Arena_Append (t0 t1 t2 : Value) (K : Value → World → Prop) (w : World) : Prop :=
  ∃ S : World → Prop, S (dr w) ∧
  NN t0 ∧
  Pv Tryd.prog (Instr.fieldAt 97 t0 1) fun v9 =>
  ValQ Tryd.prog S (Instr.loadAt 31 v9) fun v10 =>
  Pv Tryd.prog (Instr.indexAt 31 v10 t1) fun v12 =>
  ValQ Tryd.prog S (Instr.loadAt 3 v12) fun v13 =>
  NN t0 ∧
  Pv Tryd.prog (Instr.fieldAt 97 t0 1) fun v16 =>
  ValQ Tryd.prog S (Instr.loadAt 31 v16) fun v17 =>
  Pv Tryd.prog (Instr.indexAt 31 v17 t2) fun v19 =>
  ValQ Tryd.prog S (Instr.loadAt 3 v19) fun v20 =>
  Cf Tryd.prog n_arena_Arena_put #[t0, v13, v20] (dr w) fun v21 wa =>
  ∃ Sa : World → Prop, (∀ x, Sa x → S x) ∧ Sa wa ∧
  K (Value.tuple #[]) wa
theorem L_arena_Arena_Append (t0 t1 t2 : Value) (K : Value → World → Prop) (w : World) (h : S_arena_Arena_Append t0 t1 t2 K w) : Cf Tryd.prog n_arena_Arena_Append #[t0, t1, t2] w K :=
  callF_of (args := [t0, t1, t2]) (lv := fun _ => []) (jn := fun _ => none) Mx Tryd.func35 rfl Tryd.call35 rfl (by as_aux_lemma => kernel_rfl) (cast (by as_aux_lemma => kernel_rfl) h)

-- "(*decanter/arena.Arena).Text"
def S_arena_Arena_Text (t0 t1 t2 : Value) (K : Value → World → Prop) (w : World) : Prop :=
  Vl Tryd.prog (binop BinOp.eql 9 (Operand.tmp 8) (Operand.const ((Value.string { data := #[] }))) t2 (Value.string { data := #[] })) w fun v9 wa =>
  Cond v9
  (K (Value.tuple #[]) wa)
  (Cf Tryd.prog n_arena_Arena_at #[t0, t1] wa fun v12 wb =>
  NN v12 ∧
  Vl Tryd.prog (Instr.fieldAt 100 v12 4) wb fun v14 wc =>
  Vl Tryd.prog (Instr.loadAt 31 v14) wc fun v15 wd =>
  ∃ J : List Value → List Deferred → World → Prop, (Vl Tryd.prog (Builtin.len_ #[31] 3 #[v15]) wd fun v17 wf =>
  Vl Tryd.prog (binop BinOp.gtr 3 (Operand.tmp 18) (Operand.const ((Value.int IntKind.i64 0))) v17 (Value.int IntKind.i64 0)) wf fun v19 wg =>
  Cond v19
  (Vl Tryd.prog (binop BinOp.sub 3 (Operand.tmp 23) (Operand.const ((Value.int IntKind.i64 1))) v17 (Value.int IntKind.i64 1)) wg fun v24 wh =>
  Vl Tryd.prog (Instr.indexAt 31 v15 v24) wh fun v25 wi =>
  Vl Tryd.prog (Instr.loadAt 3 v25) wi fun v26 wj =>
  Cf Tryd.prog n_arena_Arena_isText #[t0, v26] wj fun v27 wk =>
  Cond v27
  (∃ S : World → Prop, S (dr wk) ∧
  NN t0 ∧
  Pv Tryd.prog (Instr.fieldAt 97 t0 0) fun v31 =>
  ValQ Tryd.prog S (Instr.loadAt 95 v31) fun v32 =>
  Pv Tryd.prog (binop BinOp.sub 3 (Operand.tmp 34) (Operand.const ((Value.int IntKind.i64 1))) v17 (Value.int IntKind.i64 1)) fun v35 =>
  Pv Tryd.prog (Instr.indexAt 31 v15 v35) fun v36 =>
  ValQ Tryd.prog S (Instr.loadAt 3 v36) fun v37 =>
  Pv Tryd.prog (Instr.indexAt 95 v32 v37) fun v38 =>
  Pv Tryd.prog (Instr.fieldAt 100 v38 2) fun v39 =>
  ValQ Tryd.prog S (Instr.loadAt 9 v39) fun v40 =>
  Pv Tryd.prog (binop BinOp.add 9 (Operand.tmp 40) (Operand.tmp 41) v40 t2) fun v42 =>
  Pv Tryd.prog (Instr.indexAt 95 v32 v37) fun v43 =>
  Pv Tryd.prog (Instr.fieldAt 100 v43 2) fun v44 =>
  Ef Tryd.prog (Instr.storeAt 9 v44 v42) (dr wk) fun wl =>
  ∃ Sa : World → Prop, Sa wl ∧
  K (Value.tuple #[]) wl)
  (J [] [] wk))
  (J [] [] wg)) ∧
  ∀ (g : Nat → Value) (ds : List Deferred) (we : World), J [] ds we →
  ∃ Sb : World → Prop, Sb (dr we) ∧
  NN t0 ∧
  Pv Tryd.prog (Instr.fieldAt 97 t0 1) fun v48 =>
  ValQ Tryd.prog Sb (Instr.loadAt 31 v48) fun v49 =>
  Pv Tryd.prog (Instr.indexAt 31 v49 t1) fun v51 =>
  ValQ Tryd.prog Sb (Instr.loadAt 3 v51) fun v52 =>
  Pv Tryd.prog (Instr.build 100 #[(2, t2), (3, (Value.int IntKind.i64 (-1)))]) fun v55 =>
  Cf Tryd.prog n_arena_Arena_add #[t0, v55] (dr we) fun v56 wm =>
  ∃ Sc : World → Prop, (∀ x, Sc x → Sb x) ∧ Sc wm ∧
  Cf Tryd.prog n_arena_Arena_put #[t0, v52, v56] wm fun v57 wn =>
  ∃ Sd : World → Prop, (∀ x, Sd x → Sc x) ∧ Sd wn ∧
  Lv ds wn fun wo => K (Value.tuple #[]) wo)
theorem L_arena_Arena_Text (t0 t1 t2 : Value) (K : Value → World → Prop) (w : World) (h : S_arena_Arena_Text t0 t1 t2 K w) : Cf Tryd.prog n_arena_Arena_Text #[t0, t1, t2] w K :=
  callF_of (args := [t0, t1, t2]) (lv := fun _ => []) (jn := fun k => bif Nat.beq k 5 then some [] else none) Mx Tryd.func36 rfl Tryd.call36 rfl (by as_aux_lemma => kernel_rfl) (cast (by as_aux_lemma => kernel_rfl) h)

-- "(*decanter/list.List).Push"
def S_list_List_Push (t0 t1 : Value) (K : Value → World → Prop) (w : World) : Prop :=
  ∃ S : World → Prop, S (dr w) ∧
  NN t0 ∧
  Pv Tryd.prog (Instr.fieldAt 107 t0 0) fun v12 =>
  ValQ Tryd.prog S (Instr.loadAt 47 v12) fun v13 =>
  NN t0 ∧
  Pv Tryd.prog (Instr.fieldAt 107 t0 0) fun v18 =>
  ValQ Tryd.prog S (Instr.loadAt 47 v18) fun v19 =>
  Cf Tryd.prog n_arena_Arena_Name #[v13, t1] (dr w) fun v15 wa =>
  ∃ Sa : World → Prop, (∀ x, Sa x → S x) ∧ Sa wa ∧
  Cf Tryd.prog n_arena_Arena_Attrs #[v19, t1] wa fun v21 wb =>
  ∃ Sb : World → Prop, (∀ x, Sb x → Sa x) ∧ Sb wb ∧
  NN t0 ∧
  Vl Tryd.prog (Instr.fieldAt 107 t0 1) wb fun v24 wc =>
  Vl Tryd.prog (Instr.loadAt 31 v24) wc fun v25 wd =>
  Vl Tryd.prog (Builtin.len_ #[31] 3 #[v25]) wd fun v26 we =>
  Vl Tryd.prog (binop BinOp.sub 3 (Operand.tmp 26) (Operand.const ((Value.int IntKind.i64 1))) v26 (Value.int IntKind.i64 1)) we fun v27 wf =>
  ∃ (I : List Value → List Deferred → World → Prop) (μ : List Value → World → Nat), I [(Value.int IntKind.i64 0), (Value.int IntKind.i64 0), v27] [] wf ∧
  ∀ (g : Nat → Value) (ds : List Deferred) (wg : World), I [g 4, g 5, g 8] ds wg →
  (Cf Tryd.prog n_list_List_mark #[t0] wg fun v30 wh =>
  Vl Tryd.prog (binop BinOp.gtr 3 (Operand.tmp 28) (Operand.tmp 30) (g 8) v30) wh fun v31 wi =>
  Cond v31
  (NN t0 ∧
  Vl Tryd.prog (Instr.fieldAt 107 t0 1) wi fun v36 wj =>
  Vl Tryd.prog (Instr.loadAt 31 v36) wj fun v37 wk =>
  Vl Tryd.prog (Instr.indexAt 31 v37 (g 8)) wk fun v39 wl =>
  Vl Tryd.prog (Instr.loadAt 3 v39) wl fun v40 wm =>
  NN t0 ∧
  Vl Tryd.prog (Instr.fieldAt 107 t0 0) wm fun v43 wn =>
  Vl Tryd.prog (Instr.loadAt 47 v43) wn fun v44 wo =>
  Cf Tryd.prog n_arena_Arena_Name #[v44, v40] wo fun v46 wp =>
  Vl Tryd.prog (binop BinOp.eql 9 (Operand.tmp 46) (Operand.tmp 47) v46 v15) wp fun v48 wq =>
  Cond v48
  (NN t0 ∧
  Vl Tryd.prog (Instr.fieldAt 107 t0 0) wq fun v52 wr =>
  Vl Tryd.prog (Instr.loadAt 47 v52) wr fun v53 ws =>
  Cf Tryd.prog n_arena_Arena_Attrs #[v53, v40] ws fun v55 wt =>
  Cf Tryd.prog n_attr_Same #[v55, v21] wt fun v57 wu =>
  Cond v57
  (Vl Tryd.prog (binop BinOp.add 3 (Operand.tmp 60) (Operand.const ((Value.int IntKind.i64 1))) (g 5) (Value.int IntKind.i64 1)) wu fun v61 wv =>
  Vl Tryd.prog (binop BinOp.sub 3 (Operand.tmp 32) (Operand.const ((Value.int IntKind.i64 1))) (g 8) (Value.int IntKind.i64 1)) wv fun v33 ww =>
  I [(g 8), v61, v33] ds ww ∧ μ [(g 8), v61, v33] ww < μ [g 4, g 5, g 8] wg)
  (Vl Tryd.prog (binop BinOp.sub 3 (Operand.tmp 32) (Operand.const ((Value.int IntKind.i64 1))) (g 8) (Value.int IntKind.i64 1)) wu fun v33a wx =>
  I [(g 4), (g 5), v33a] ds wx ∧ μ [(g 4), (g 5), v33a] wx < μ [g 4, g 5, g 8] wg))
  (Vl Tryd.prog (binop BinOp.sub 3 (Operand.tmp 32) (Operand.const ((Value.int IntKind.i64 1))) (g 8) (Value.int IntKind.i64 1)) wq fun v33b wy =>
  I [(g 4), (g 5), v33b] ds wy ∧ μ [(g 4), (g 5), v33b] wy < μ [g 4, g 5, g 8] wg))
  (∃ J : List Value → List Deferred → World → Prop, (Vl Tryd.prog (binop BinOp.geq 3 (Operand.tmp 62) (Operand.const ((Value.int IntKind.i64 3))) (g 5) (Value.int IntKind.i64 3)) wi fun v63 wz27 =>
  Cond v63
  (NN t0 ∧
  Vl Tryd.prog (Instr.fieldAt 107 t0 1) wz27 fun v67 wz28 =>
  Vl Tryd.prog (Instr.loadAt 31 v67) wz28 fun v68 wz29 =>
  Vl Tryd.prog (binop BinOp.add 3 (Operand.tmp 70) (Operand.const ((Value.int IntKind.i64 1))) (g 4) (Value.int IntKind.i64 1)) wz29 fun v71 wz30 =>
  Cf Tryd.prog n_slices_Delete_ints #[v68, (g 4), v71] wz30 fun v72 wz31 =>
  NN t0 ∧
  Vl Tryd.prog (Instr.fieldAt 107 t0 1) wz31 fun v74 wz32 =>
  Ef Tryd.prog (Instr.storeAt 31 v74 v72) wz32 fun wz33 =>
  J [] ds wz33)
  (J [] ds wz27)) ∧
  ∀ (ga : Nat → Value) (dsa : List Deferred) (wz : World), J [] dsa wz →
  NN t0 ∧
  Vl Tryd.prog (Instr.fieldAt 107 t0 1) wz fun v78 wz34 =>
  Vl Tryd.prog (Instr.loadAt 31 v78) wz34 fun v79 wz35 =>
  Vl Tryd.prog (Instr.buildSlice 31 1 #[(0, t1)]) wz35 fun v81 wz36 =>
  Vl Tryd.prog (Builtin.append_ #[31, 31] 31 #[v79, v81]) wz36 fun v82 wz37 =>
  NN t0 ∧
  Vl Tryd.prog (Instr.fieldAt 107 t0 1) wz37 fun v84 wz38 =>
  Ef Tryd.prog (Instr.storeAt 31 v84 v82) wz38 fun wz39 =>
  Lv dsa wz39 fun wz40 => K (Value.tuple #[]) wz40))
theorem L_list_List_Push (t0 t1 : Value) (K : Value → World → Prop) (w : World) (h : S_list_List_Push t0 t1 K w) : Cf Tryd.prog n_list_List_Push #[t0, t1] w K :=
  callF_of (args := [t0, t1]) (lv := fun k => bif Nat.beq k 3 then [4, 5, 8] else []) (jn := fun k => bif Nat.beq k 11 then some [] else none) Mx Tryd.func37 rfl Tryd.call37 rfl (by as_aux_lemma => kernel_rfl) (cast (by as_aux_lemma => kernel_rfl) h)

-- "decanter/adopt.Again"
def S_adopt_Again (t0 t1 t2 t3 : Value) (K : Value → World → Prop) (w : World) : Prop :=
  ∃ J : List Value → List Deferred → World → Prop, (Cf Tryd.prog n_stack_Stack_Top #[t1] w fun v14 wb =>
  Vl Tryd.prog (binop BinOp.gtr 3 (Operand.tmp 15) (Operand.const ((Value.int IntKind.i64 0))) v14 (Value.int IntKind.i64 0)) wb fun v16 wc =>
  Cond v16
  (Cf Tryd.prog n_arena_Arena_Name #[t0, v14] wc fun v20 wd =>
  Vl Tryd.prog (binop BinOp.eql 9 (Operand.tmp 20) (Operand.tmp 21) v20 t3) wd fun v22 we =>
  Cond v22
  (Cf Tryd.prog n_list_List_Find #[t2, v14] we fun v27 wf =>
  Vl Tryd.prog (binop BinOp.lss 3 (Operand.tmp 27) (Operand.const ((Value.int IntKind.i64 0))) v27 (Value.int IntKind.i64 0)) wf fun v28 wg =>
  Cond v28
  (Cf Tryd.prog n_stack_Stack_Pop #[t1] wg fun v31 wh =>
  K (Value.bool true) wh)
  (J [] [] wg))
  (J [] [] we))
  (J [] [] wc)) ∧
  ∀ (g : Nat → Value) (ds : List Deferred) (wa : World), J [] ds wa →
  Vl Tryd.prog (Instr.build 116 #[(0, t0), (1, t1), (2, t2)]) wa fun v35 wi =>
  Vl Tryd.prog (Instr.box 116 v35) wi fun v36 wj =>
  ∃ (I : List Value → List Deferred → World → Prop) (μ : List Value → World → Nat), I [(Value.int IntKind.i64 0)] ds wj ∧
  ∀ (ga : Nat → Value) (dsa : List Deferred) (wk : World), I [ga 37] dsa wk →
  (Vl Tryd.prog (binop BinOp.lss 3 (Operand.tmp 37) (Operand.const ((Value.int IntKind.i64 8))) (ga 37) (Value.int IntKind.i64 8)) wk fun v38 wl =>
  Cond v38
  (Cf Tryd.prog n_adopt_agency_once #[v36, t3] wl fun v42 wm =>
  Vl Tryd.prog (Instr.extract v42 0) wm fun v43 wn =>
  Vl Tryd.prog (Instr.extract v42 1) wn fun v44 wo =>
  Cond v43
  (Lv dsa wo fun wp => K v44 wp)
  (Vl Tryd.prog (binop BinOp.add 3 (Operand.tmp 37) (Operand.const ((Value.int IntKind.i64 1))) (ga 37) (Value.int IntKind.i64 1)) wo fun v47 wq =>
  I [v47] dsa wq ∧ μ [v47] wq < μ [ga 37] wk))
  (Lv dsa wl fun wr => K (Value.bool true) wr))
theorem L_adopt_Again (t0 t1 t2 t3 : Value) (K : Value → World → Prop) (w : World) (h : S_adopt_Again t0 t1 t2 t3 K w) : Cf Tryd.prog n_adopt_Again #[t0, t1, t2, t3] w K :=
  callF_of (args := [t0, t1, t2, t3]) (lv := fun k => bif Nat.beq k 7 then [37] else []) (jn := fun k => bif Nat.beq k 5 then some [] else none) Mx Tryd.func38 rfl Tryd.call38 rfl (by as_aux_lemma => kernel_rfl) (cast (by as_aux_lemma => kernel_rfl) h)

-- "decanter/decanterlaw15.read"
def S_decanterlaw15_read (t0 : Value) (K : Value → World → Prop) (w : World) : Prop :=
  Vl Tryd.prog (Builtin.len_ #[66] 3 #[t0]) w fun v11 wa =>
  ∃ (I : List Value → List Deferred → World → Prop) (μ : List Value → World → Nat), I [(Value.string { data := #[] }), (Value.int IntKind.i64 0), (Value.int IntKind.i64 0)] [] wa ∧
  ∀ (g : Nat → Value) (ds : List Deferred) (wb : World), I [g 4, g 5, g 12] ds wb →
  (Vl Tryd.prog (binop BinOp.lss 3 (Operand.tmp 12) (Operand.tmp 11) (g 12) v11) wb fun v13 wc =>
  Cond v13
  (Vl Tryd.prog (Instr.indexAt 66 t0 (g 12)) wc fun v14 wd =>
  Vl Tryd.prog (Instr.loadAt 77 v14) wd fun v15 we =>
  Vl Tryd.prog (Instr.alloc 77 true (.tuple #[])) we fun v7 wf =>
  Ef Tryd.prog (Instr.storeAt 77 v7 v15) wf fun wg =>
  Vl Tryd.prog (Instr.fieldAt 77 v7 0) wg fun v16 wh =>
  Vl Tryd.prog (Instr.loadAt 9 v16) wh fun v17 wi =>
  Vl Tryd.prog (binop BinOp.eql 9 (Operand.tmp 17) (Operand.const ((Value.string { data := #[] }))) v17 (Value.string { data := #[] })) wi fun v18 wj =>
  Cond v18
  (Vl Tryd.prog (Instr.fieldAt 77 v7 2) wj fun v20 wk =>
  Vl Tryd.prog (Instr.loadAt 9 v20) wk fun v21 wl =>
  Vl Tryd.prog (binop BinOp.add 9 (Operand.tmp 19) (Operand.tmp 21) (g 4) v21) wl fun v22 wm =>
  Vl Tryd.prog (binop BinOp.add 3 (Operand.tmp 12) (Operand.const ((Value.int IntKind.i64 1))) (g 12) (Value.int IntKind.i64 1)) wm fun v41 wn =>
  I [v22, (g 5), v41] ds wn ∧ μ [v22, (g 5), v41] wn < μ [g 4, g 5, g 12] wb)
  (∃ J : List Value → List Deferred → World → Prop, (Vl Tryd.prog (Instr.fieldAt 77 v7 0) wj fun v23 wp =>
  Vl Tryd.prog (Instr.loadAt 9 v23) wp fun v24 wq =>
  Cf Tryd.prog n_decanterref11_Is #[v24, (Value.int IntKind.i64 3)] wq fun v25 wr =>
  Vl Tryd.prog (Op.unary UnOp.not v25) wr fun v26 ws =>
  Cond v26
  (Vl Tryd.prog (binop BinOp.add 3 (Operand.tmp 27) (Operand.const ((Value.int IntKind.i64 1))) (g 5) (Value.int IntKind.i64 1)) ws fun v28 wt =>
  J [v28] ds wt)
  (J [(g 5)] ds ws)) ∧
  ∀ (ga : Nat → Value) (dsa : List Deferred) (wo : World), J [ga 5] dsa wo →
  Vl Tryd.prog (Instr.fieldAt 77 v7 3) wo fun v30 wu =>
  Vl Tryd.prog (Instr.loadAt 66 v30) wu fun v31 wv =>
  Cf Tryd.prog n_decanterlaw15_read #[v31] wv fun v32 ww =>
  Vl Tryd.prog (Instr.extract v32 0) ww fun v33 wx =>
  Vl Tryd.prog (Instr.extract v32 1) wx fun v34 wy =>
  Vl Tryd.prog (binop BinOp.add 9 (Operand.tmp 35) (Operand.tmp 36) (g 4) v33) wy fun v37 wz =>
  Vl Tryd.prog (binop BinOp.add 3 (Operand.tmp 38) (Operand.tmp 39) (ga 5) v34) wz fun v40 wz27 =>
  Vl Tryd.prog (binop BinOp.add 3 (Operand.tmp 12) (Operand.const ((Value.int IntKind.i64 1))) (g 12) (Value.int IntKind.i64 1)) wz27 fun v41a wz28 =>
  I [v37, v40, v41a] dsa wz28 ∧ μ [v37, v40, v41a] wz28 < μ [g 4, g 5, g 12] wb))
  (Lv ds wc fun wz29 => K (Value.tuple #[(g 4), (g 5)]) wz29))
theorem L_decanterlaw15_read (t0 : Value) (K : Value → World → Prop) (w : World) (h : S_decanterlaw15_read t0 K w) : Cf Tryd.prog n_decanterlaw15_read #[t0] w K :=
  callF_of (args := [t0]) (lv := fun k => bif Nat.beq k 3 then [4, 5, 12] else []) (jn := fun k => bif Nat.beq k 9 then some [5] else none) Mx Tryd.func39 rfl Tryd.call39 rfl (by as_aux_lemma => kernel_rfl) (cast (by as_aux_lemma => kernel_rfl) h)

-- "decanter/decanterlaw12.To"
def S_decanterlaw12_To (t0 : Value) (K : Value → World → Prop) (w : World) : Prop :=
  Vl Tryd.prog (Builtin.len_ #[68] 3 #[t0]) w fun v7 wa =>
  ∃ (I : List Value → List Deferred → World → Prop) (μ : List Value → World → Nat), I [(Value.slice none 0 0), (Value.int IntKind.i64 0)] [] wa ∧
  ∀ (g : Nat → Value) (ds : List Deferred) (wb : World), I [g 3, g 8] ds wb →
  (Vl Tryd.prog (binop BinOp.lss 3 (Operand.tmp 8) (Operand.tmp 7) (g 8) v7) wb fun v9 wc =>
  Cond v9
  (Vl Tryd.prog (Instr.indexAt 68 t0 (g 8)) wc fun v10 wd =>
  Vl Tryd.prog (Instr.loadAt 105 v10) wd fun v11 we =>
  Vl Tryd.prog (Instr.alloc 105 true (.tuple #[])) we fun v5 wf =>
  Ef Tryd.prog (Instr.storeAt 105 v5 v11) wf fun wg =>
  ∃ S : World → Prop, S (dr wg) ∧
  Pv Tryd.prog (Instr.fieldAt 105 v5 0) fun v13 =>
  ValQ Tryd.prog S (Instr.loadAt 9 v13) fun v14 =>
  Pv Tryd.prog (Instr.fieldAt 105 v5 1) fun v15 =>
  ValQ Tryd.prog S (Instr.loadAt 60 v15) fun v16 =>
  Pv Tryd.prog (Instr.fieldAt 105 v5 2) fun v18 =>
  ValQ Tryd.prog S (Instr.loadAt 9 v18) fun v19 =>
  Pv Tryd.prog (Instr.fieldAt 105 v5 3) fun v20 =>
  ValQ Tryd.prog S (Instr.loadAt 68 v20) fun v21 =>
  Cf Tryd.prog n_decanterlaw06_To #[v16] (dr wg) fun v17 wh =>
  ∃ Sa : World → Prop, (∀ x, Sa x → S x) ∧ Sa wh ∧
  Cf Tryd.prog n_decanterlaw12_To #[v21] wh fun v22 wi =>
  ∃ Sb : World → Prop, (∀ x, Sb x → Sa x) ∧ Sb wi ∧
  Pv Tryd.prog (Instr.build 77 #[(0, v14), (1, v17), (2, v19), (3, v22)]) fun v23 =>
  Vl Tryd.prog (Instr.buildSlice 66 1 #[(0, v23)]) wi fun v24 wj =>
  ∃ Sc : World → Prop, (∀ x, Sc x → Sb x) ∧ Sc wj ∧
  Vl Tryd.prog (Builtin.append_ #[66, 66] 66 #[(g 3), v24]) wj fun v25 wk =>
  ∃ Sd : World → Prop, (∀ x, Sd x → Sc x) ∧ Sd wk ∧
  Vl Tryd.prog (binop BinOp.add 3 (Operand.tmp 8) (Operand.const ((Value.int IntKind.i64 1))) (g 8) (Value.int IntKind.i64 1)) wk fun v26 wl =>
  I [v25, v26] ds wl ∧ μ [v25, v26] wl < μ [g 3, g 8] wb)
  (Lv ds wc fun wm => K (g 3) wm))
theorem L_decanterlaw12_To (t0 : Value) (K : Value → World → Prop) (w : World) (h : S_decanterlaw12_To t0 K w) : Cf Tryd.prog n_decanterlaw12_To #[t0] w K :=
  callF_of (args := [t0]) (lv := fun k => bif Nat.beq k 3 then [3, 8] else []) (jn := fun _ => none) Mx Tryd.func40 rfl Tryd.call40 rfl (by as_aux_lemma => kernel_rfl) (cast (by as_aux_lemma => kernel_rfl) h)

-- "(*decanter/arena.Arena).Nodes"
def S_arena_Arena_Nodes (t0 t1 : Value) (K : Value → World → Prop) (w : World) : Prop :=
  NN t0 ∧
  Vl Tryd.prog (Instr.fieldAt 97 t0 1) w fun v8 wa =>
  Vl Tryd.prog (Instr.loadAt 31 v8) wa fun v9 wb =>
  Vl Tryd.prog (Instr.indexAt 31 v9 t1) wb fun v11 wc =>
  Vl Tryd.prog (Instr.loadAt 3 v11) wc fun v12 wd =>
  Cf Tryd.prog n_arena_Arena_export #[t0, v12] wd fun v13 we =>
  K v13 we
theorem L_arena_Arena_Nodes (t0 t1 : Value) (K : Value → World → Prop) (w : World) (h : S_arena_Arena_Nodes t0 t1 K w) : Cf Tryd.prog n_arena_Arena_Nodes #[t0, t1] w K :=
  callF_of (args := [t0, t1]) (lv := fun _ => []) (jn := fun _ => none) Mx Tryd.func41 rfl Tryd.call41 rfl (by as_aux_lemma => kernel_rfl) (cast (by as_aux_lemma => kernel_rfl) h)

-- "(*decanter/arena.Arena).Copies"
def S_arena_Arena_Copies (t0 : Value) (K : Value → World → Prop) (w : World) : Prop :=
  NN t0 ∧
  Vl Tryd.prog (Instr.fieldAt 97 t0 2) w fun v5 wa =>
  Vl Tryd.prog (Instr.loadAt 3 v5) wa fun v6 wb =>
  K v6 wb
theorem L_arena_Arena_Copies (t0 : Value) (K : Value → World → Prop) (w : World) (h : S_arena_Arena_Copies t0 K w) : Cf Tryd.prog n_arena_Arena_Copies #[t0] w K :=
  callF_of (args := [t0]) (lv := fun _ => []) (jn := fun _ => none) Mx Tryd.func42 rfl Tryd.call42 rfl (by as_aux_lemma => kernel_rfl) (cast (by as_aux_lemma => kernel_rfl) h)

-- "decanter/decanterlaw15.AdoptPlain$1"
def S_decanterlaw15_AdoptPlain_1 (t0 t1 t2 t3 t4 t5 : Value) (K : Value → World → Prop) (w : World) : Prop :=
  Vl Tryd.prog (Instr.loadAt 47 t2) w fun v10 wa =>
  Cf Tryd.prog n_arena_Arena_Element #[v10, t0, (Value.slice none 0 0)] wa fun v12 wb =>
  Vl Tryd.prog (Instr.loadAt 47 t2) wb fun v13 wc =>
  Vl Tryd.prog (Instr.loadAt 3 t3) wc fun v14 wd =>
  Cf Tryd.prog n_arena_Arena_Append #[v13, v14, v12] wd fun v16 we =>
  Vl Tryd.prog (Instr.loadAt 47 t2) we fun v17 wf =>
  Cf Tryd.prog n_arena_Arena_Text #[v17, v12, t0] wf fun v20 wg =>
  Vl Tryd.prog (Instr.loadAt 25 t4) wg fun v21 wh =>
  Cf Tryd.prog n_stack_Stack_Push #[v21, v12] wh fun v23 wi =>
  ∃ J : List Value → List Deferred → World → Prop, (Cond t1
  (Vl Tryd.prog (Instr.loadAt 55 t5) wi fun v25 wk =>
  Cf Tryd.prog n_list_List_Push #[v25, v12] wk fun v27 wl =>
  J [] [] wl)
  (J [] [] wi)) ∧
  ∀ (g : Nat → Value) (ds : List Deferred) (wj : World), J [] ds wj →
  Ef Tryd.prog (Instr.storeAt 3 t3 v12) wj fun wm =>
  Lv ds wm fun wn => K v12 wn
theorem L_decanterlaw15_AdoptPlain_1 (t0 t1 t2 t3 t4 t5 : Value) (K : Value → World → Prop) (w : World) (h : S_decanterlaw15_AdoptPlain_1 t0 t1 t2 t3 t4 t5 K w) : Cf Tryd.prog n_decanterlaw15_AdoptPlain_1 #[t0, t1, t2, t3, t4, t5] w K :=
  callF_of (args := [t0, t1, t2, t3, t4, t5]) (lv := fun _ => []) (jn := fun k => bif Nat.beq k 7 then some [] else none) Mx Tryd.func43 rfl Tryd.call43 rfl (by as_aux_lemma => kernel_rfl) (cast (by as_aux_lemma => kernel_rfl) h)

-- "(*decanter/list.List).Find"
def S_list_List_Find (t0 t1 : Value) (K : Value → World → Prop) (w : World) : Prop :=
  Vl Tryd.prog (binop BinOp.eql 3 (Operand.tmp 5) (Operand.const ((Value.int IntKind.i64 (-1)))) t1 (Value.int IntKind.i64 (-1))) w fun v6 wa =>
  Cond v6
  (K (Value.int IntKind.i64 (-1)) wa)
  (NN t0 ∧
  Vl Tryd.prog (Instr.fieldAt 107 t0 1) wa fun v9 wb =>
  Vl Tryd.prog (Instr.loadAt 31 v9) wb fun v10 wc =>
  Cf Tryd.prog n_slices_Index_ints #[v10, t1] wc fun v12 wd =>
  K v12 wd)
theorem L_list_List_Find (t0 t1 : Value) (K : Value → World → Prop) (w : World) (h : S_list_List_Find t0 t1 K w) : Cf Tryd.prog n_list_List_Find #[t0, t1] w K :=
  callF_of (args := [t0, t1]) (lv := fun _ => []) (jn := fun _ => none) Mx Tryd.func44 rfl Tryd.call44 rfl (by as_aux_lemma => kernel_rfl) (cast (by as_aux_lemma => kernel_rfl) h)

-- "decanter/decanterref12.Same"
def S_decanterref12_Same (t0 t1 : Value) (K : Value → World → Prop) (w : World) : Prop :=
  Vl Tryd.prog (Builtin.len_ #[66] 3 #[t0]) w fun v7 wa =>
  Vl Tryd.prog (Builtin.len_ #[66] 3 #[t1]) wa fun v9 wb =>
  Vl Tryd.prog (binop BinOp.neq 3 (Operand.tmp 7) (Operand.tmp 9) v7 v9) wb fun v10 wc =>
  Cond v10
  (K (Value.bool false) wc)
  (∃ (I : List Value → List Deferred → World → Prop) (μ : List Value → World → Nat), I [(Value.int IntKind.i64 0)] [] wc ∧
  ∀ (g : Nat → Value) (ds : List Deferred) (wd : World), I [g 5] ds wd →
  (Vl Tryd.prog (Builtin.len_ #[66] 3 #[t0]) wd fun v13 we =>
  Vl Tryd.prog (binop BinOp.lss 3 (Operand.tmp 11) (Operand.tmp 13) (g 5) v13) we fun v14 wf =>
  Cond v14
  (∃ S : World → Prop, S (dr wf) ∧
  Pv Tryd.prog (Instr.indexAt 66 t0 (g 5)) fun v19 =>
  Pv Tryd.prog (Instr.fieldAt 77 v19 0) fun v20 =>
  ValQ Tryd.prog S (Instr.loadAt 9 v20) fun v21 =>
  Pv Tryd.prog (Instr.indexAt 66 t1 (g 5)) fun v24 =>
  Pv Tryd.prog (Instr.fieldAt 77 v24 0) fun v25 =>
  ValQ Tryd.prog S (Instr.loadAt 9 v25) fun v26 =>
  Pv Tryd.prog (binop BinOp.neq 9 (Operand.tmp 21) (Operand.tmp 26) v21 v26) fun v27 =>
  Cond v27
  (∃ Sa : World → Prop, (∀ x, Sa x → S x) ∧ Sa (dr wf) ∧
  ∃ Sb : World → Prop, (∀ x, Sb x → Sa x) ∧ Sb (dr wf) ∧
  Lv ds (dr wf) fun wg => K (Value.bool false) wg)
  (Pv Tryd.prog (Instr.indexAt 66 t0 (g 5)) fun v31 =>
  Pv Tryd.prog (Instr.fieldAt 77 v31 2) fun v32 =>
  ValQ Tryd.prog S (Instr.loadAt 9 v32) fun v33 =>
  Pv Tryd.prog (Instr.indexAt 66 t1 (g 5)) fun v36 =>
  Pv Tryd.prog (Instr.fieldAt 77 v36 2) fun v37 =>
  ValQ Tryd.prog S (Instr.loadAt 9 v37) fun v38 =>
  Pv Tryd.prog (binop BinOp.neq 9 (Operand.tmp 33) (Operand.tmp 38) v33 v38) fun v39 =>
  Cond v39
  (∃ Sc : World → Prop, (∀ x, Sc x → S x) ∧ Sc (dr wf) ∧
  ∃ Sd : World → Prop, (∀ x, Sd x → Sc x) ∧ Sd (dr wf) ∧
  Lv ds (dr wf) fun wh => K (Value.bool false) wh)
  (Pv Tryd.prog (Instr.indexAt 66 t0 (g 5)) fun v44 =>
  Pv Tryd.prog (Instr.fieldAt 77 v44 1) fun v45 =>
  ValQ Tryd.prog S (Instr.loadAt 57 v45) fun v46 =>
  Pv Tryd.prog (Instr.indexAt 66 t1 (g 5)) fun v49 =>
  Pv Tryd.prog (Instr.fieldAt 77 v49 1) fun v50 =>
  ValQ Tryd.prog S (Instr.loadAt 57 v50) fun v51 =>
  Cf Tryd.prog n_decanterref06_Alike #[v46, v51] (dr wf) fun v52 wi =>
  ∃ Se : World → Prop, (∀ x, Se x → S x) ∧ Se wi ∧
  Pv Tryd.prog (Op.unary UnOp.not v52) fun v53 =>
  Cond v53
  (∃ Sf : World → Prop, (∀ x, Sf x → Se x) ∧ Sf wi ∧
  Lv ds wi fun wj => K (Value.bool false) wj)
  (Pv Tryd.prog (Instr.indexAt 66 t0 (g 5)) fun v58 =>
  Pv Tryd.prog (Instr.fieldAt 77 v58 3) fun v59 =>
  ValQ Tryd.prog Se (Instr.loadAt 66 v59) fun v60 =>
  Pv Tryd.prog (Instr.indexAt 66 t1 (g 5)) fun v63 =>
  Pv Tryd.prog (Instr.fieldAt 77 v63 3) fun v64 =>
  ValQ Tryd.prog Se (Instr.loadAt 66 v64) fun v65 =>
  Cf Tryd.prog n_decanterref12_Same #[v60, v65] wi fun v66 wk =>
  ∃ Sg : World → Prop, (∀ x, Sg x → Se x) ∧ Sg wk ∧
  Pv Tryd.prog (Op.unary UnOp.not v66) fun v67 =>
  Cond v67
  (Lv ds wk fun wl => K (Value.bool false) wl)
  (Vl Tryd.prog (binop BinOp.add 3 (Operand.tmp 15) (Operand.const ((Value.int IntKind.i64 1))) (g 5) (Value.int IntKind.i64 1)) wk fun v16 wm =>
  I [v16] ds wm ∧ μ [v16] wm < μ [g 5] wd)))))
  (Lv ds wf fun wn => K (Value.bool true) wn)))
theorem L_decanterref12_Same (t0 t1 : Value) (K : Value → World → Prop) (w : World) (h : S_decanterref12_Same t0 t1 K w) : Cf Tryd.prog n_decanterref12_Same #[t0, t1] w K :=
  callF_of (args := [t0, t1]) (lv := fun k => bif Nat.beq k 4 then [5] else []) (jn := fun _ => none) Mx Tryd.func45 rfl Tryd.call45 rfl (by as_aux_lemma => kernel_rfl) (cast (by as_aux_lemma => kernel_rfl) h)

-- "decanter/decanterref14.Same"
def S_decanterref14_Same (t0 t1 : Value) (K : Value → World → Prop) (w : World) : Prop :=
  Vl Tryd.prog (Builtin.len_ #[31] 3 #[t0]) w fun v7 wa =>
  Vl Tryd.prog (Builtin.len_ #[31] 3 #[t1]) wa fun v9 wb =>
  Vl Tryd.prog (binop BinOp.neq 3 (Operand.tmp 7) (Operand.tmp 9) v7 v9) wb fun v10 wc =>
  Cond v10
  (K (Value.bool false) wc)
  (∃ (I : List Value → List Deferred → World → Prop) (μ : List Value → World → Nat), I [(Value.int IntKind.i64 0)] [] wc ∧
  ∀ (g : Nat → Value) (ds : List Deferred) (wd : World), I [g 5] ds wd →
  (Vl Tryd.prog (Builtin.len_ #[31] 3 #[t0]) wd fun v13 we =>
  Vl Tryd.prog (binop BinOp.lss 3 (Operand.tmp 11) (Operand.tmp 13) (g 5) v13) we fun v14 wf =>
  Cond v14
  (∃ S : World → Prop, S (dr wf) ∧
  Pv Tryd.prog (Instr.indexAt 31 t0 (g 5)) fun v19 =>
  ValQ Tryd.prog S (Instr.loadAt 3 v19) fun v20 =>
  Pv Tryd.prog (Instr.indexAt 31 t1 (g 5)) fun v23 =>
  ValQ Tryd.prog S (Instr.loadAt 3 v23) fun v24 =>
  Pv Tryd.prog (binop BinOp.neq 3 (Operand.tmp 20) (Operand.tmp 24) v20 v24) fun v25 =>
  Cond v25
  (Lv ds (dr wf) fun wg => K (Value.bool false) wg)
  (Vl Tryd.prog (binop BinOp.add 3 (Operand.tmp 15) (Operand.const ((Value.int IntKind.i64 1))) (g 5) (Value.int IntKind.i64 1)) (dr wf) fun v16 wh =>
  I [v16] ds wh ∧ μ [v16] wh < μ [g 5] wd))
  (Lv ds wf fun wi => K (Value.bool true) wi)))
theorem L_decanterref14_Same (t0 t1 : Value) (K : Value → World → Prop) (w : World) (h : S_decanterref14_Same t0 t1 K w) : Cf Tryd.prog n_decanterref14_Same #[t0, t1] w K :=
  callF_of (args := [t0, t1]) (lv := fun k => bif Nat.beq k 4 then [5] else []) (jn := fun _ => none) Mx Tryd.func46 rfl Tryd.call46 rfl (by as_aux_lemma => kernel_rfl) (cast (by as_aux_lemma => kernel_rfl) h)

-- "(*decanter/list.List).All"
def S_list_List_All (t0 : Value) (K : Value → World → Prop) (w : World) : Prop :=
  NN t0 ∧
  Vl Tryd.prog (Instr.fieldAt 107 t0 1) w fun v5 wa =>
  Vl Tryd.prog (Instr.loadAt 31 v5) wa fun v6 wb =>
  Cf Tryd.prog n_slices_Clone_ints #[v6] wb fun v7 wc =>
  K v7 wc
theorem L_list_List_All (t0 : Value) (K : Value → World → Prop) (w : World) (h : S_list_List_All t0 K w) : Cf Tryd.prog n_list_List_All #[t0] w K :=
  callF_of (args := [t0]) (lv := fun _ => []) (jn := fun _ => none) Mx Tryd.func47 rfl Tryd.call47 rfl (by as_aux_lemma => kernel_rfl) (cast (by as_aux_lemma => kernel_rfl) h)

-- "decanter/decanterlaw15.AdoptBlock$1"
def S_decanterlaw15_AdoptBlock_1 (t0 : Value) (K : Value → World → Prop) (w : World) : Prop :=
  Vl Tryd.prog (binop BinOp.eql 9 (Operand.tmp 3) (Operand.const ((Value.string { data := #[] }))) t0 (Value.string { data := #[] })) w fun v4 wa =>
  Cond v4
  (K (Value.slice none 0 0) wa)
  (Vl Tryd.prog (Instr.build 77 #[(2, t0)]) wa fun v6 wb =>
  Vl Tryd.prog (Instr.buildSlice 66 1 #[(0, v6)]) wb fun v7 wc =>
  K v7 wc)
theorem L_decanterlaw15_AdoptBlock_1 (t0 : Value) (K : Value → World → Prop) (w : World) (h : S_decanterlaw15_AdoptBlock_1 t0 K w) : Cf Tryd.prog n_decanterlaw15_AdoptBlock_1 #[t0] w K :=
  callF_of (args := [t0]) (lv := fun _ => []) (jn := fun _ => none) Mx Tryd.func48 rfl Tryd.call48 rfl (by as_aux_lemma => kernel_rfl) (cast (by as_aux_lemma => kernel_rfl) h)

-- "slices.Backward[[]int,int]"
def S_slices_Backward_ints (t0 : Value) (K : Value → World → Prop) (w : World) : Prop :=
  Vl Tryd.prog (Instr.box 31 t0) w fun v1 wa =>
  Vl Tryd.prog (Instr.makeFunc (Fn.func 75) #[] #[v1]) wa fun v3 wb =>
  K v3 wb
theorem L_slices_Backward_ints (t0 : Value) (K : Value → World → Prop) (w : World) (h : S_slices_Backward_ints t0 K w) : Cf Tryd.prog n_slices_Backward_ints #[t0] w K :=
  callF_of (args := [t0]) (lv := fun _ => []) (jn := fun _ => none) Mx Tryd.func49 rfl Tryd.call49 rfl (by as_aux_lemma => kernel_rfl) (cast (by as_aux_lemma => kernel_rfl) h)

-- "(*decanter/arena.Arena).Name"
def S_arena_Arena_Name (t0 t1 : Value) (K : Value → World → Prop) (w : World) : Prop :=
  Cf Tryd.prog n_arena_Arena_at #[t0, t1] w fun v7 wa =>
  NN v7 ∧
  Vl Tryd.prog (Instr.fieldAt 100 v7 0) wa fun v9 wb =>
  Vl Tryd.prog (Instr.loadAt 9 v9) wb fun v10 wc =>
  K v10 wc
theorem L_arena_Arena_Name (t0 t1 : Value) (K : Value → World → Prop) (w : World) (h : S_arena_Arena_Name t0 t1 K w) : Cf Tryd.prog n_arena_Arena_Name #[t0, t1] w K :=
  callF_of (args := [t0, t1]) (lv := fun _ => []) (jn := fun _ => none) Mx Tryd.func50 rfl Tryd.call50 rfl (by as_aux_lemma => kernel_rfl) (cast (by as_aux_lemma => kernel_rfl) h)

-- "slices.Contains[[]string,string]"
def S_slices_Contains_strs (t0 t1 : Value) (K : Value → World → Prop) (w : World) : Prop :=
  Cf Tryd.prog n_slices_Index_strs #[t0, t1] w fun v7 wa =>
  Vl Tryd.prog (binop BinOp.geq 3 (Operand.tmp 7) (Operand.const ((Value.int IntKind.i64 0))) v7 (Value.int IntKind.i64 0)) wa fun v8 wb =>
  K v8 wb
theorem L_slices_Contains_strs (t0 t1 : Value) (K : Value → World → Prop) (w : World) (h : S_slices_Contains_strs t0 t1 K w) : Cf Tryd.prog n_slices_Contains_strs #[t0, t1] w K :=
  callF_of (args := [t0, t1]) (lv := fun _ => []) (jn := fun _ => none) Mx Tryd.func51 rfl Tryd.call51 rfl (by as_aux_lemma => kernel_rfl) (cast (by as_aux_lemma => kernel_rfl) h)

-- "decanter/stack.bound"
def S_stack_bound (t0 t1 : Value) (K : Value → World → Prop) (w : World) : Prop :=
  Vl Tryd.prog (binop BinOp.eql 3 (Operand.tmp 5) (Operand.const ((Value.int IntKind.i64 1))) t0 (Value.int IntKind.i64 1)) w fun v7 wa =>
  Cond v7
  (Vl Tryd.prog (binop BinOp.eql 9 (Operand.tmp 10) (Operand.const ((Value.string { data := #[111, 108] }))) t1 (Value.string { data := #[111, 108] })) wa fun v11 wb =>
  Cond v11
  (K (Value.bool true) wb)
  (Vl Tryd.prog (binop BinOp.eql 9 (Operand.tmp 13) (Operand.const ((Value.string { data := #[117, 108] }))) t1 (Value.string { data := #[117, 108] })) wb fun v14 wc =>
  Cond v14
  (K (Value.bool true) wc)
  (Cf Tryd.prog n_kind_Is #[t1, (Value.int IntKind.i64 32)] wc fun v17 wd =>
  K v17 wd)))
  (Vl Tryd.prog (binop BinOp.eql 3 (Operand.tmp 5) (Operand.const ((Value.int IntKind.i64 0))) t0 (Value.int IntKind.i64 0)) wa fun v9 we =>
  Cond v9
  (Cf Tryd.prog n_kind_Is #[t1, (Value.int IntKind.i64 32)] we fun v17a wf =>
  K v17a wf)
  (Cf Tryd.prog n_kind_Is #[t1, (Value.int IntKind.i64 32)] we fun v19 wg =>
  Cond v19
  (K (Value.bool true) wg)
  (Vl Tryd.prog (binop BinOp.eql 9 (Operand.tmp 21) (Operand.const ((Value.string { data := #[98, 117, 116, 116, 111, 110] }))) t1 (Value.string { data := #[98, 117, 116, 116, 111, 110] })) wg fun v22 wh =>
  K v22 wh)))
theorem L_stack_bound (t0 t1 : Value) (K : Value → World → Prop) (w : World) (h : S_stack_bound t0 t1 K w) : Cf Tryd.prog n_stack_bound #[t0, t1] w K :=
  callF_of (args := [t0, t1]) (lv := fun _ => []) (jn := fun _ => none) Mx Tryd.func52 rfl Tryd.call52 rfl (by as_aux_lemma => kernel_rfl) (cast (by as_aux_lemma => kernel_rfl) h)

-- "decanter/kind.Is"
def S_kind_Is (t0 t1 : Value) (K : Value → World → Prop) (w : World) : Prop :=
  Cf Tryd.prog n_kind_table #[] w fun v5 wa =>
  Vl Tryd.prog (Instr.lookup 122 v5 t0 false) wa fun v7 wb =>
  Vl Tryd.prog (binop BinOp.and 3 (Operand.tmp 7) (Operand.tmp 8) v7 t1) wb fun v9 wc =>
  Vl Tryd.prog (binop BinOp.and 3 (Operand.tmp 9) (Operand.const ((Value.int IntKind.i64 1023))) v9 (Value.int IntKind.i64 1023)) wc fun v10 wd =>
  Vl Tryd.prog (binop BinOp.neq 3 (Operand.tmp 10) (Operand.const ((Value.int IntKind.i64 0))) v10 (Value.int IntKind.i64 0)) wd fun v11 we =>
  K v11 we
theorem L_kind_Is (t0 t1 : Value) (K : Value → World → Prop) (w : World) (h : S_kind_Is t0 t1 K w) : Cf Tryd.prog n_kind_Is #[t0, t1] w K :=
  callF_of (args := [t0, t1]) (lv := fun _ => []) (jn := fun _ => none) Mx Tryd.func53 rfl Tryd.call53 rfl (by as_aux_lemma => kernel_rfl) (cast (by as_aux_lemma => kernel_rfl) h)

-- "slices.Clone[[]int,int]"
def S_slices_Clone_ints (t0 : Value) (K : Value → World → Prop) (w : World) : Prop :=
  Vl Tryd.prog (binop BinOp.eql 31 (Operand.tmp 3) (Operand.const ((Value.slice none 0 0))) t0 (Value.slice none 0 0)) w fun v4 wa =>
  Cond v4
  (K (Value.slice none 0 0) wa)
  (Vl Tryd.prog (Instr.buildSlice 31 0 #[]) wa fun v5 wb =>
  Vl Tryd.prog (Builtin.append_ #[31, 31] 31 #[v5, t0]) wb fun v7 wc =>
  K v7 wc)
theorem L_slices_Clone_ints (t0 : Value) (K : Value → World → Prop) (w : World) (h : S_slices_Clone_ints t0 K w) : Cf Tryd.prog n_slices_Clone_ints #[t0] w K :=
  callF_of (args := [t0]) (lv := fun _ => []) (jn := fun _ => none) Mx Tryd.func54 rfl Tryd.call54 rfl (by as_aux_lemma => kernel_rfl) (cast (by as_aux_lemma => kernel_rfl) h)

-- "decanter/decanterref11.one"
def S_decanterref11_one (t0 : Value) (K : Value → World → Prop) (w : World) : Prop :=
  ∃ (I : List Value → List Deferred → World → Prop) (μ : List Value → World → Nat), I [(Value.int IntKind.i64 0)] [] w ∧
  ∀ (g : Nat → Value) (ds : List Deferred) (wa : World), I [g 3] ds wa →
  (Vl Tryd.prog (Builtin.len_ #[9] 3 #[t0]) wa fun v6 wb =>
  Vl Tryd.prog (binop BinOp.lss 3 (Operand.tmp 4) (Operand.tmp 6) (g 3) v6) wb fun v7 wc =>
  Cond v7
  (Vl Tryd.prog (Instr.index 9 t0 (g 3)) wc fun v12 wd =>
  Vl Tryd.prog (binop BinOp.eql 5 (Operand.tmp 12) (Operand.const ((Value.int IntKind.u8 32))) v12 (Value.int IntKind.u8 32)) wd fun v13 we =>
  Cond v13
  (Lv ds we fun wf => K (Value.bool false) wf)
  (Vl Tryd.prog (binop BinOp.add 3 (Operand.tmp 8) (Operand.const ((Value.int IntKind.i64 1))) (g 3) (Value.int IntKind.i64 1)) we fun v9 wg =>
  I [v9] ds wg ∧ μ [v9] wg < μ [g 3] wa))
  (Vl Tryd.prog (Builtin.len_ #[9] 3 #[t0]) wc fun v15 wh =>
  Vl Tryd.prog (binop BinOp.gtr 3 (Operand.tmp 15) (Operand.const ((Value.int IntKind.i64 0))) v15 (Value.int IntKind.i64 0)) wh fun v16 wi =>
  Lv ds wi fun wj => K v16 wj))
theorem L_decanterref11_one (t0 : Value) (K : Value → World → Prop) (w : World) (h : S_decanterref11_one t0 K w) : Cf Tryd.prog n_decanterref11_one #[t0] w K :=
  callF_of (args := [t0]) (lv := fun k => bif Nat.beq k 2 then [3] else []) (jn := fun _ => none) Mx Tryd.func55 rfl Tryd.call55 rfl (by as_aux_lemma => kernel_rfl) (cast (by as_aux_lemma => kernel_rfl) h)

-- "decanter/decanterref11.in"
def S_decanterref11_in (t0 t1 : Value) (K : Value → World → Prop) (w : World) : Prop :=
  ∃ (I : List Value → List Deferred → World → Prop) (μ : List Value → World → Nat), I [(Value.int IntKind.i64 0)] [] w ∧
  ∀ (g : Nat → Value) (ds : List Deferred) (wa : World), I [g 5] ds wa →
  (Vl Tryd.prog (Builtin.len_ #[9] 3 #[t1]) wa fun v8 wb =>
  Vl Tryd.prog (binop BinOp.add 3 (Operand.tmp 6) (Operand.tmp 8) (g 5) v8) wb fun v9 wc =>
  Vl Tryd.prog (Builtin.len_ #[9] 3 #[t0]) wc fun v11 wd =>
  Vl Tryd.prog (binop BinOp.leq 3 (Operand.tmp 9) (Operand.tmp 11) v9 v11) wd fun v12 we =>
  Cond v12
  (Vl Tryd.prog (Builtin.len_ #[9] 3 #[t1]) we fun v19 wf =>
  Vl Tryd.prog (binop BinOp.add 3 (Operand.tmp 17) (Operand.tmp 19) (g 5) v19) wf fun v20 wg =>
  Vl Tryd.prog (Instr.sliceAt 9 t0 (some (g 5)) (some v20) none) wg fun v21 wh =>
  Vl Tryd.prog (binop BinOp.eql 9 (Operand.tmp 21) (Operand.tmp 22) v21 t1) wh fun v23 wi =>
  Cond v23
  (Lv ds wi fun wj => K (Value.bool true) wj)
  (Vl Tryd.prog (binop BinOp.add 3 (Operand.tmp 13) (Operand.const ((Value.int IntKind.i64 1))) (g 5) (Value.int IntKind.i64 1)) wi fun v14 wk =>
  I [v14] ds wk ∧ μ [v14] wk < μ [g 5] wa))
  (Lv ds we fun wl => K (Value.bool false) wl))
theorem L_decanterref11_in (t0 t1 : Value) (K : Value → World → Prop) (w : World) (h : S_decanterref11_in t0 t1 K w) : Cf Tryd.prog n_decanterref11_in #[t0, t1] w K :=
  callF_of (args := [t0, t1]) (lv := fun k => bif Nat.beq k 2 then [5] else []) (jn := fun _ => none) Mx Tryd.func56 rfl Tryd.call56 rfl (by as_aux_lemma => kernel_rfl) (cast (by as_aux_lemma => kernel_rfl) h)

-- "decanter/decanterref11.Lists"
def S_decanterref11_Lists (K : Value → World → Prop) (w : World) : Prop :=
  Vl Tryd.prog (Instr.buildSlice 22 10 #[(0, (Value.string { data := (List.toArray (List.append [32, 97, 114, 101, 97, 32, 98, 97, 115, 101, 32, 98, 97, 115, 101, 102, 111, 110, 116, 32, 98, 103, 115, 111, 117, 110, 100, 32, 98, 114, 32, 101, 109, 98, 101, 100, 32, 104, 114, 32, 105, 109, 103, 32, 105] [110, 112, 117, 116, 32, 107, 101, 121, 103, 101, 110, 32, 108, 105, 110, 107, 32, 109, 101, 116, 97, 32, 112, 97, 114, 97, 109, 32, 115, 111, 117, 114, 99, 101, 32, 116, 114, 97, 99, 107, 32, 119, 98, 114, 32])) })), (1, (Value.string { data := (List.toArray (List.append (List.append [32, 97, 100, 100, 114, 101, 115, 115, 32, 97, 114, 116, 105, 99, 108, 101, 32, 97, 115, 105, 100, 101, 32, 98, 108, 111, 99, 107, 113, 117, 111, 116, 101, 32, 99, 101, 110, 116, 101, 114, 32, 100, 100, 32, 100, 101, 116, 97, 105, 108, 115, 32, 100, 105, 97] [108, 111, 103, 32, 100, 105, 114, 32, 100, 105, 118, 32, 100, 108, 32, 100, 116, 32, 102, 105, 101, 108, 100, 115, 101, 116, 32, 102, 105, 103, 99, 97, 112, 116, 105, 111, 110, 32, 102, 105, 103, 117, 114, 101, 32, 102, 111, 111, 116, 101, 114, 32, 102, 111, 114]) (List.append [109, 32, 104, 49, 32, 104, 50, 32, 104, 51, 32, 104, 52, 32, 104, 53, 32, 104, 54, 32, 104, 101, 97, 100, 101, 114, 32, 104, 103, 114, 111, 117, 112, 32, 104, 114, 32, 108, 105, 32, 108, 105, 115, 116, 105, 110, 103, 32, 109, 97, 105, 110, 32, 109, 101] [110, 117, 32, 110, 97, 118, 32, 111, 108, 32, 112, 32, 112, 108, 97, 105, 110, 116, 101, 120, 116, 32, 112, 114, 101, 32, 115, 101, 99, 116, 105, 111, 110, 32, 115, 117, 109, 109, 97, 114, 121, 32, 116, 97, 98, 108, 101, 32, 117, 108, 32, 120, 109, 112, 32]))) })), (2, (Value.string { data := #[32, 104, 49, 32, 104, 50, 32, 104, 51, 32, 104, 52, 32, 104, 53, 32, 104, 54, 32] })), (3, (Value.string { data := #[32, 97, 32, 98, 32, 98, 105, 103, 32, 99, 111, 100, 101, 32, 101, 109, 32, 102, 111, 110, 116, 32, 105, 32, 110, 111, 98, 114, 32, 115, 32, 115, 109, 97, 108, 108, 32, 115, 116, 114, 105, 107, 101, 32, 115, 116, 114, 111, 110, 103, 32, 116, 116, 32, 117, 32] })), (4, (Value.string { data := (List.toArray (List.append (List.append (List.append [32, 97, 100, 100, 114, 101, 115, 115, 32, 97, 112, 112, 108, 101, 116, 32, 97, 114, 101, 97, 32, 97, 114, 116, 105, 99, 108, 101, 32, 97, 115, 105, 100, 101, 32, 98, 97, 115, 101, 32, 98, 97, 115, 101, 102, 111, 110, 116, 32] [98, 103, 115, 111, 117, 110, 100, 32, 98, 108, 111, 99, 107, 113, 117, 111, 116, 101, 32, 98, 114, 32, 98, 117, 116, 116, 111, 110, 32, 99, 101, 110, 116, 101, 114, 32, 100, 100, 32, 100, 101, 116, 97, 105, 108, 115, 32, 100, 105, 114]) (List.append [32, 100, 105, 118, 32, 100, 108, 32, 100, 116, 32, 101, 109, 98, 101, 100, 32, 102, 105, 101, 108, 100, 115, 101, 116, 32, 102, 105, 103, 99, 97, 112, 116, 105, 111, 110, 32, 102, 105, 103, 117, 114, 101, 32, 102, 111, 111, 116, 101] [114, 32, 102, 111, 114, 109, 32, 104, 49, 32, 104, 50, 32, 104, 51, 32, 104, 52, 32, 104, 53, 32, 104, 54, 32, 104, 101, 97, 100, 101, 114, 32, 104, 103, 114, 111, 117, 112, 32, 104, 114, 32, 105, 102, 114, 97, 109, 101, 32, 105])) (List.append (List.append [109, 103, 32, 105, 110, 112, 117, 116, 32, 107, 101, 121, 103, 101, 110, 32, 108, 105, 32, 108, 105, 110, 107, 32, 108, 105, 115, 116, 105, 110, 103, 32, 109, 97, 105, 110, 32, 109, 97, 114, 113, 117, 101, 101, 32, 109, 101, 110, 117] [32, 109, 101, 116, 97, 32, 110, 97, 118, 32, 110, 111, 101, 109, 98, 101, 100, 32, 110, 111, 102, 114, 97, 109, 101, 115, 32, 111, 98, 106, 101, 99, 116, 32, 111, 108, 32, 112, 32, 112, 97, 114, 97, 109, 32, 112, 108, 97, 105, 110]) (List.append [116, 101, 120, 116, 32, 112, 114, 101, 32, 115, 99, 114, 105, 112, 116, 32, 115, 101, 99, 116, 105, 111, 110, 32, 115, 101, 108, 101, 99, 116, 32, 115, 111, 117, 114, 99, 101, 32, 115, 116, 121, 108, 101, 32, 115, 117, 109, 109, 97] [114, 121, 32, 116, 97, 98, 108, 101, 32, 116, 101, 109, 112, 108, 97, 116, 101, 32, 116, 101, 120, 116, 97, 114, 101, 97, 32, 116, 105, 116, 108, 101, 32, 116, 114, 97, 99, 107, 32, 117, 108, 32, 119, 98, 114, 32, 120, 109, 112, 32])))) })), (5, (Value.string { data := #[32, 97, 112, 112, 108, 101, 116, 32, 109, 97, 114, 113, 117, 101, 101, 32, 111, 98, 106, 101, 99, 116, 32, 116, 97, 98, 108, 101, 32, 116, 101, 109, 112, 108, 97, 116, 101, 32] })), (6, (Value.string { data := (List.toArray (List.append [32, 98, 111, 100, 121, 32, 99, 97, 112, 116, 105, 111, 110, 32, 99, 111, 108, 32, 99, 111, 108, 103, 114, 111, 117, 112, 32, 102, 114, 97, 109, 101, 32, 102, 114, 97, 109, 101, 115] [101, 116, 32, 104, 101, 97, 100, 32, 104, 116, 109, 108, 32, 116, 98, 111, 100, 121, 32, 116, 100, 32, 116, 102, 111, 111, 116, 32, 116, 104, 32, 116, 104, 101, 97, 100, 32, 116, 114, 32])) })), (7, (Value.string { data := #[32, 100, 100, 32, 100, 116, 32, 108, 105, 32, 111, 112, 116, 103, 114, 111, 117, 112, 32, 111, 112, 116, 105, 111, 110, 32, 112, 32, 114, 98, 32, 114, 112, 32, 114, 116, 32, 114, 116, 99, 32] })), (8, (Value.string { data := #[32, 97, 112, 112, 108, 101, 116, 32, 109, 97, 114, 113, 117, 101, 101, 32, 111, 98, 106, 101, 99, 116, 32] })), (9, (Value.string { data := (List.toArray (List.append (List.append (List.append [32, 97, 32, 97, 98, 98, 114, 32, 97, 100, 100, 114, 101, 115, 115, 32, 97, 114, 116, 105, 99, 108, 101, 32, 97, 115, 105, 100, 101, 32, 98, 32, 98, 100] [105, 32, 98, 100, 111, 32, 98, 105, 103, 32, 98, 108, 111, 99, 107, 113, 117, 111, 116, 101, 32, 98, 114, 32, 99, 101, 110, 116, 101, 114, 32, 99, 105, 116]) (List.append [101, 32, 99, 111, 100, 101, 32, 100, 100, 32, 100, 101, 108, 32, 100, 102, 110, 32, 100, 105, 114, 32, 100, 105, 118, 32, 100, 108, 32, 100, 116, 32, 101, 109] [32, 102, 105, 103, 99, 97, 112, 116, 105, 111, 110, 32, 102, 105, 103, 117, 114, 101, 32, 102, 111, 110, 116, 32, 102, 111, 111, 116, 101, 114, 32, 104, 49, 32])) (List.append (List.append [104, 50, 32, 104, 51, 32, 104, 52, 32, 104, 53, 32, 104, 54, 32, 104, 101, 97, 100, 101, 114, 32, 104, 114, 32, 105, 32, 105, 109, 103, 32, 105, 110, 115] [32, 107, 98, 100, 32, 108, 105, 32, 109, 97, 105, 110, 32, 109, 97, 114, 107, 32, 110, 97, 118, 32, 111, 108, 32, 112, 32, 112, 114, 101, 32, 113, 32, 115]) (List.append [32, 115, 97, 109, 112, 32, 115, 101, 99, 116, 105, 111, 110, 32, 115, 109, 97, 108, 108, 32, 115, 112, 97, 110, 32, 115, 116, 114, 105, 107, 101, 32, 115, 116] [114, 111, 110, 103, 32, 115, 117, 98, 32, 115, 117, 112, 32, 116, 105, 109, 101, 32, 116, 116, 32, 117, 32, 117, 108, 32, 118, 97, 114, 32, 119, 98, 114, 32])))) }))]) w fun v1 wa =>
  K v1 wa
theorem L_decanterref11_Lists (K : Value → World → Prop) (w : World) (h : S_decanterref11_Lists K w) : Cf Tryd.prog n_decanterref11_Lists #[] w K :=
  callF_of (args := []) (lv := fun _ => []) (jn := fun _ => none) Mx Tryd.func57 rfl Tryd.call57 rfl (by as_aux_lemma => kernel_rfl) (cast (by as_aux_lemma => kernel_rfl) h)

-- "decanter/decanterref13.Among"
def S_decanterref13_Among (t0 t1 : Value) (K : Value → World → Prop) (w : World) : Prop :=
  ∃ (I : List Value → List Deferred → World → Prop) (μ : List Value → World → Nat), I [(Value.int IntKind.i64 0)] [] w ∧
  ∀ (g : Nat → Value) (ds : List Deferred) (wa : World), I [g 5] ds wa →
  (Vl Tryd.prog (Builtin.len_ #[22] 3 #[t1]) wa fun v8 wb =>
  Vl Tryd.prog (binop BinOp.lss 3 (Operand.tmp 6) (Operand.tmp 8) (g 5) v8) wb fun v9 wc =>
  Cond v9
  (Vl Tryd.prog (Instr.indexAt 22 t1 (g 5)) wc fun v14 wd =>
  Vl Tryd.prog (Instr.loadAt 9 v14) wd fun v15 we =>
  Vl Tryd.prog (binop BinOp.eql 9 (Operand.tmp 15) (Operand.tmp 16) v15 t0) we fun v17 wf =>
  Cond v17
  (Lv ds wf fun wg => K (Value.bool true) wg)
  (Vl Tryd.prog (binop BinOp.add 3 (Operand.tmp 10) (Operand.const ((Value.int IntKind.i64 1))) (g 5) (Value.int IntKind.i64 1)) wf fun v11 wh =>
  I [v11] ds wh ∧ μ [v11] wh < μ [g 5] wa))
  (Lv ds wc fun wi => K (Value.bool false) wi))
theorem L_decanterref13_Among (t0 t1 : Value) (K : Value → World → Prop) (w : World) (h : S_decanterref13_Among t0 t1 K w) : Cf Tryd.prog n_decanterref13_Among #[t0, t1] w K :=
  callF_of (args := [t0, t1]) (lv := fun k => bif Nat.beq k 2 then [5] else []) (jn := fun _ => none) Mx Tryd.func58 rfl Tryd.call58 rfl (by as_aux_lemma => kernel_rfl) (cast (by as_aux_lemma => kernel_rfl) h)

-- "slices.Delete[[]int,int]"
def S_slices_Delete_ints (t0 t1 t2 : Value) (K : Value → World → Prop) (w : World) : Prop :=
  Vl Tryd.prog (Builtin.len_ #[31] 3 #[t0]) w fun v12 wa =>
  Vl Tryd.prog (Instr.sliceAt 31 t0 (some t1) (some t2) (some v12)) wa fun v13 wb =>
  Vl Tryd.prog (binop BinOp.eql 3 (Operand.tmp 14) (Operand.tmp 15) t1 t2) wb fun v16 wc =>
  Cond v16
  (K t0 wc)
  (Vl Tryd.prog (Builtin.len_ #[31] 3 #[t0]) wc fun v19 wd =>
  ∃ S : World → Prop, S (dr wd) ∧
  Pv Tryd.prog (Instr.sliceAt 31 t0 none (some t1) none) fun v22 =>
  Pv Tryd.prog (Instr.sliceAt 31 t0 (some t2) none none) fun v25 =>
  Vl Tryd.prog (Builtin.append_ #[31, 31] 31 #[v22, v25]) (dr wd) fun v26 we =>
  ∃ Sa : World → Prop, Sa we ∧
  Vl Tryd.prog (Builtin.len_ #[31] 3 #[v26]) we fun v29 wf =>
  Vl Tryd.prog (Instr.sliceAt 31 v26 (some v29) (some v19) none) wf fun v31 wg =>
  Vl Tryd.prog (Builtin.clear_ #[31] 0 #[v31]) wg fun _ wh =>
  K v26 wh)
theorem L_slices_Delete_ints (t0 t1 t2 : Value) (K : Value → World → Prop) (w : World) (h : S_slices_Delete_ints t0 t1 t2 K w) : Cf Tryd.prog n_slices_Delete_ints #[t0, t1, t2] w K :=
  callF_of (args := [t0, t1, t2]) (lv := fun _ => []) (jn := fun _ => none) Mx Tryd.func59 rfl Tryd.call59 rfl (by as_aux_lemma => kernel_rfl) (cast (by as_aux_lemma => kernel_rfl) h)

-- "slices.Index[[]int,int]"
def S_slices_Index_ints (t0 t1 : Value) (K : Value → World → Prop) (w : World) : Prop :=
  Vl Tryd.prog (Builtin.len_ #[31] 3 #[t0]) w fun v7 wa =>
  ∃ (I : List Value → List Deferred → World → Prop) (μ : List Value → World → Nat), I [(Value.int IntKind.i64 0)] [] wa ∧
  ∀ (g : Nat → Value) (ds : List Deferred) (wb : World), I [g 8] ds wb →
  (Vl Tryd.prog (binop BinOp.lss 3 (Operand.tmp 8) (Operand.tmp 7) (g 8) v7) wb fun v9 wc =>
  Cond v9
  (Vl Tryd.prog (Instr.indexAt 31 t0 (g 8)) wc fun v14 wd =>
  Vl Tryd.prog (Instr.loadAt 3 v14) wd fun v15 we =>
  Vl Tryd.prog (binop BinOp.eql 3 (Operand.tmp 11) (Operand.tmp 15) t1 v15) we fun v16 wf =>
  Cond v16
  (Lv ds wf fun wg => K (g 8) wg)
  (Vl Tryd.prog (binop BinOp.add 3 (Operand.tmp 8) (Operand.const ((Value.int IntKind.i64 1))) (g 8) (Value.int IntKind.i64 1)) wf fun v18 wh =>
  I [v18] ds wh ∧ μ [v18] wh < μ [g 8] wb))
  (Lv ds wc fun wi => K (Value.int IntKind.i64 (-1)) wi))
theorem L_slices_Index_ints (t0 t1 : Value) (K : Value → World → Prop) (w : World) (h : S_slices_Index_ints t0 t1 K w) : Cf Tryd.prog n_slices_Index_ints #[t0, t1] w K :=
  callF_of (args := [t0, t1]) (lv := fun k => bif Nat.beq k 2 then [8] else []) (jn := fun _ => none) Mx Tryd.func60 rfl Tryd.call60 rfl (by as_aux_lemma => kernel_rfl) (cast (by as_aux_lemma => kernel_rfl) h)

-- "slices.Insert[[]int,int]"
def S_slices_Insert_ints (t0 t1 t2 : Value) (K : Value → World → Prop) (w : World) : Prop :=
  Vl Tryd.prog (Instr.sliceAt 31 t0 (some t1) none none) w fun v12 wa =>
  Vl Tryd.prog (Builtin.len_ #[31] 3 #[t2]) wa fun v14 wb =>
  Vl Tryd.prog (binop BinOp.eql 3 (Operand.tmp 15) (Operand.const ((Value.int IntKind.i64 0))) v14 (Value.int IntKind.i64 0)) wb fun v16 wc =>
  Cond v16
  (K t0 wc)
  (Vl Tryd.prog (Builtin.len_ #[31] 3 #[t0]) wc fun v19 wd =>
  Vl Tryd.prog (binop BinOp.eql 3 (Operand.tmp 20) (Operand.tmp 21) t1 v19) wd fun v22 we =>
  Cond v22
  (Vl Tryd.prog (Builtin.append_ #[31, 31] 31 #[t0, t2]) we fun v25 wf =>
  K v25 wf)
  (Vl Tryd.prog (binop BinOp.add 3 (Operand.tmp 26) (Operand.tmp 27) v19 v14) we fun v28 wg =>
  Vl Tryd.prog (Builtin.cap_ #[31] 3 #[t0]) wg fun v30 wh =>
  Vl Tryd.prog (binop BinOp.gtr 3 (Operand.tmp 28) (Operand.tmp 30) v28 v30) wh fun v31 wi =>
  Cond v31
  (Vl Tryd.prog (Instr.sliceAt 31 t0 none (some t1) none) wi fun v34 wj =>
  Vl Tryd.prog (binop BinOp.add 3 (Operand.tmp 35) (Operand.tmp 36) v19 v14) wj fun v37 wk =>
  Vl Tryd.prog (binop BinOp.sub 3 (Operand.tmp 37) (Operand.tmp 38) v37 t1) wk fun v39 wl =>
  Vl Tryd.prog (Builtin.append_ #[31, 3] 31 #[v34, v39]) wl fun v40 wm =>
  Vl Tryd.prog (Instr.sliceAt 31 v40 (some t1) none none) wm fun v43 wn =>
  Vl Tryd.prog (Builtin.copy_ #[31, 31] 3 #[v43, t2]) wn fun v45 wo =>
  ∃ S : World → Prop, S (dr wo) ∧
  Pv Tryd.prog (binop BinOp.add 3 (Operand.tmp 47) (Operand.tmp 48) t1 v14) fun v49 =>
  Pv Tryd.prog (Instr.sliceAt 31 v40 (some v49) none none) fun v50 =>
  Pv Tryd.prog (Instr.sliceAt 31 t0 (some t1) none none) fun v53 =>
  Vl Tryd.prog (Builtin.copy_ #[31, 31] 3 #[v50, v53]) (dr wo) fun v54 wp =>
  ∃ Sa : World → Prop, Sa wp ∧
  K v40 wp)
  (Vl Tryd.prog (binop BinOp.add 3 (Operand.tmp 57) (Operand.tmp 58) v19 v14) wi fun v59 wq =>
  Vl Tryd.prog (Instr.sliceAt 31 t0 none (some v59) none) wq fun v60 wr =>
  Vl Tryd.prog (binop BinOp.add 3 (Operand.tmp 63) (Operand.tmp 64) t1 v14) wr fun v65 ws =>
  Vl Tryd.prog (Instr.sliceAt 31 v60 (some v65) none none) ws fun v66 wt =>
  Cf Tryd.prog n_slices_overlaps_int #[t2, v66] wt fun v67 wu =>
  Vl Tryd.prog (Op.unary UnOp.not v67) wu fun v68 wv =>
  Cond v68
  (∃ Sb : World → Prop, Sb (dr wv) ∧
  Pv Tryd.prog (binop BinOp.add 3 (Operand.tmp 70) (Operand.tmp 71) t1 v14) fun v72 =>
  Pv Tryd.prog (Instr.sliceAt 31 v60 (some v72) none none) fun v73 =>
  Pv Tryd.prog (Instr.sliceAt 31 v60 (some t1) none none) fun v76 =>
  Vl Tryd.prog (Builtin.copy_ #[31, 31] 3 #[v73, v76]) (dr wv) fun v77 ww =>
  ∃ Sc : World → Prop, Sc ww ∧
  Vl Tryd.prog (Instr.sliceAt 31 v60 (some t1) none none) ww fun v80 wx =>
  Vl Tryd.prog (Builtin.copy_ #[31, 31] 3 #[v80, t2]) wx fun v82 wy =>
  K v60 wy)
  (Vl Tryd.prog (Instr.sliceAt 31 v60 (some v19) none none) wv fun v86 wz =>
  Vl Tryd.prog (Builtin.copy_ #[31, 31] 3 #[v86, t2]) wz fun v88 wz27 =>
  Vl Tryd.prog (Instr.sliceAt 31 v60 (some t1) none none) wz27 fun v91 wz28 =>
  Cf Tryd.prog n_slices_rotateRight_int #[v91, v14] wz28 fun v93 wz29 =>
  K v60 wz29))))
theorem L_slices_Insert_ints (t0 t1 t2 : Value) (K : Value → World → Prop) (w : World) (h : S_slices_Insert_ints t0 t1 t2 K w) : Cf Tryd.prog n_slices_Insert_ints #[t0, t1, t2] w K :=
  callF_of (args := [t0, t1, t2]) (lv := fun _ => []) (jn := fun _ => none) Mx Tryd.func61 rfl Tryd.call61 rfl (by as_aux_lemma => kernel_rfl) (cast (by as_aux_lemma => kernel_rfl) h)

-- "(*decanter/arena.Arena).number"
def S_arena_Arena_number (t0 t1 : Value) (K : Value → World → Prop) (w : World) : Prop :=
  Vl Tryd.prog (Instr.box 100 t1) w fun v3 wa =>
  ∃ S : World → Prop, S (dr wa) ∧
  NN t0 ∧
  Pv Tryd.prog (Instr.fieldAt 97 t0 1) fun v8 =>
  ValQ Tryd.prog S (Instr.loadAt 31 v8) fun v9 =>
  ValQ Tryd.prog S (Instr.loadAt 100 v3) fun v11 =>
  Cf Tryd.prog n_arena_Arena_add #[t0, v11] (dr wa) fun v12 wb =>
  ∃ Sa : World → Prop, (∀ x, Sa x → S x) ∧ Sa wb ∧
  Vl Tryd.prog (Instr.buildSlice 31 1 #[(0, v12)]) wb fun v13 wc =>
  ∃ Sb : World → Prop, (∀ x, Sb x → Sa x) ∧ Sb wc ∧
  Vl Tryd.prog (Builtin.append_ #[31, 31] 31 #[v9, v13]) wc fun v14 wd =>
  ∃ Sc : World → Prop, (∀ x, Sc x → Sb x) ∧ Sc wd ∧
  NN t0 ∧
  Pv Tryd.prog (Instr.fieldAt 97 t0 1) fun v16 =>
  Ef Tryd.prog (Instr.storeAt 31 v16 v14) wd fun we =>
  ∃ Sd : World → Prop, Sd we ∧
  NN t0 ∧
  Vl Tryd.prog (Instr.fieldAt 97 t0 1) we fun v19 wf =>
  Vl Tryd.prog (Instr.loadAt 31 v19) wf fun v20 wg =>
  Vl Tryd.prog (Builtin.len_ #[31] 3 #[v20]) wg fun v21 wh =>
  Vl Tryd.prog (binop BinOp.sub 3 (Operand.tmp 21) (Operand.const ((Value.int IntKind.i64 1))) v21 (Value.int IntKind.i64 1)) wh fun v22 wi =>
  K v22 wi
theorem L_arena_Arena_number (t0 t1 : Value) (K : Value → World → Prop) (w : World) (h : S_arena_Arena_number t0 t1 K w) : Cf Tryd.prog n_arena_Arena_number #[t0, t1] w K :=
  callF_of (args := [t0, t1]) (lv := fun _ => []) (jn := fun _ => none) Mx Tryd.func62 rfl Tryd.call62 rfl (by as_aux_lemma => kernel_rfl) (cast (by as_aux_lemma => kernel_rfl) h)

-- "slices.Clone[[]decanter/api.Attr,decanter/api.Attr]"
def S_slices_Clone_attrs (t0 : Value) (K : Value → World → Prop) (w : World) : Prop :=
  Vl Tryd.prog (binop BinOp.eql 60 (Operand.tmp 3) (Operand.const ((Value.slice none 0 0))) t0 (Value.slice none 0 0)) w fun v4 wa =>
  Cond v4
  (K (Value.slice none 0 0) wa)
  (Vl Tryd.prog (Instr.buildSlice 60 0 #[]) wa fun v5 wb =>
  Vl Tryd.prog (Builtin.append_ #[60, 60] 60 #[v5, t0]) wb fun v7 wc =>
  K v7 wc)
theorem L_slices_Clone_attrs (t0 : Value) (K : Value → World → Prop) (w : World) (h : S_slices_Clone_attrs t0 K w) : Cf Tryd.prog n_slices_Clone_attrs #[t0] w K :=
  callF_of (args := [t0]) (lv := fun _ => []) (jn := fun _ => none) Mx Tryd.func63 rfl Tryd.call63 rfl (by as_aux_lemma => kernel_rfl) (cast (by as_aux_lemma => kernel_rfl) h)

-- "(*decanter/arena.Arena).put"
def S_arena_Arena_put (t0 t1 t2 : Value) (K : Value → World → Prop) (w : World) : Prop :=
  Cf Tryd.prog n_arena_Arena_leave #[t0, t2] w fun v8 wa =>
  NN t0 ∧
  Vl Tryd.prog (Instr.fieldAt 97 t0 0) wa fun v11 wb =>
  Vl Tryd.prog (Instr.loadAt 95 v11) wb fun v12 wc =>
  Vl Tryd.prog (Instr.indexAt 95 v12 t2) wc fun v15 wd =>
  Vl Tryd.prog (Instr.fieldAt 100 v15 3) wd fun v16 we =>
  Ef Tryd.prog (Instr.storeAt 3 v16 t1) we fun wf =>
  ∃ S : World → Prop, S (dr wf) ∧
  NN t0 ∧
  Pv Tryd.prog (Instr.fieldAt 97 t0 0) fun v19 =>
  ValQ Tryd.prog S (Instr.loadAt 95 v19) fun v20 =>
  NN t0 ∧
  Pv Tryd.prog (Instr.fieldAt 97 t0 0) fun v24 =>
  ValQ Tryd.prog S (Instr.loadAt 95 v24) fun v25 =>
  Pv Tryd.prog (Instr.indexAt 95 v25 t1) fun v27 =>
  Pv Tryd.prog (Instr.fieldAt 100 v27 4) fun v28 =>
  ValQ Tryd.prog S (Instr.loadAt 31 v28) fun v29 =>
  Vl Tryd.prog (Instr.buildSlice 31 1 #[(0, t2)]) (dr wf) fun v31 wg =>
  ∃ Sa : World → Prop, (∀ x, Sa x → S x) ∧ Sa wg ∧
  Vl Tryd.prog (Builtin.append_ #[31, 31] 31 #[v29, v31]) wg fun v32 wh =>
  ∃ Sb : World → Prop, (∀ x, Sb x → Sa x) ∧ Sb wh ∧
  Pv Tryd.prog (Instr.indexAt 95 v20 t1) fun v33 =>
  Pv Tryd.prog (Instr.fieldAt 100 v33 4) fun v34 =>
  Ef Tryd.prog (Instr.storeAt 31 v34 v32) wh fun wi =>
  ∃ Sc : World → Prop, Sc wi ∧
  K (Value.tuple #[]) wi
theorem L_arena_Arena_put (t0 t1 t2 : Value) (K : Value → World → Prop) (w : World) (h : S_arena_Arena_put t0 t1 t2 K w) : Cf Tryd.prog n_arena_Arena_put #[t0, t1, t2] w K :=
  callF_of (args := [t0, t1, t2]) (lv := fun _ => []) (jn := fun _ => none) Mx Tryd.func64 rfl Tryd.call64 rfl (by as_aux_lemma => kernel_rfl) (cast (by as_aux_lemma => kernel_rfl) h)

-- "(*decanter/arena.Arena).at"
def S_arena_Arena_at (t0 t1 : Value) (K : Value → World → Prop) (w : World) : Prop :=
  ∃ S : World → Prop, S (dr w) ∧
  NN t0 ∧
  Pv Tryd.prog (Instr.fieldAt 97 t0 0) fun v7 =>
  ValQ Tryd.prog S (Instr.loadAt 95 v7) fun v8 =>
  NN t0 ∧
  Pv Tryd.prog (Instr.fieldAt 97 t0 1) fun v11 =>
  ValQ Tryd.prog S (Instr.loadAt 31 v11) fun v12 =>
  Pv Tryd.prog (Instr.indexAt 31 v12 t1) fun v14 =>
  ValQ Tryd.prog S (Instr.loadAt 3 v14) fun v15 =>
  Pv Tryd.prog (Instr.indexAt 95 v8 v15) fun v16 =>
  K v16 (dr w)
theorem L_arena_Arena_at (t0 t1 : Value) (K : Value → World → Prop) (w : World) (h : S_arena_Arena_at t0 t1 K w) : Cf Tryd.prog n_arena_Arena_at #[t0, t1] w K :=
  callF_of (args := [t0, t1]) (lv := fun _ => []) (jn := fun _ => none) Mx Tryd.func65 rfl Tryd.call65 rfl (by as_aux_lemma => kernel_rfl) (cast (by as_aux_lemma => kernel_rfl) h)

-- "(*decanter/arena.Arena).isText"
def S_arena_Arena_isText (t0 t1 : Value) (K : Value → World → Prop) (w : World) : Prop :=
  Vl Tryd.prog (binop BinOp.gtr 3 (Operand.tmp 5) (Operand.const ((Value.int IntKind.i64 0))) t1 (Value.int IntKind.i64 0)) w fun v6 wa =>
  Cond v6
  (NN t0 ∧
  Vl Tryd.prog (Instr.fieldAt 97 t0 0) wa fun v10 wb =>
  Vl Tryd.prog (Instr.loadAt 95 v10) wb fun v11 wc =>
  Vl Tryd.prog (Instr.indexAt 95 v11 t1) wc fun v13 wd =>
  Vl Tryd.prog (Instr.fieldAt 100 v13 0) wd fun v14 we =>
  Vl Tryd.prog (Instr.loadAt 9 v14) we fun v15 wf =>
  Vl Tryd.prog (binop BinOp.eql 9 (Operand.tmp 15) (Operand.const ((Value.string { data := #[] }))) v15 (Value.string { data := #[] })) wf fun v16 wg =>
  Cond v16
  (NN t0 ∧
  Vl Tryd.prog (Instr.fieldAt 97 t0 0) wg fun v21 wh =>
  Vl Tryd.prog (Instr.loadAt 95 v21) wh fun v22 wi =>
  Vl Tryd.prog (Instr.indexAt 95 v22 t1) wi fun v24 wj =>
  Vl Tryd.prog (Instr.fieldAt 100 v24 2) wj fun v25 wk =>
  Vl Tryd.prog (Instr.loadAt 9 v25) wk fun v26 wl =>
  Vl Tryd.prog (binop BinOp.neq 9 (Operand.tmp 26) (Operand.const ((Value.string { data := #[] }))) v26 (Value.string { data := #[] })) wl fun v27 wm =>
  K v27 wm)
  (K (Value.bool false) wg))
  (K (Value.bool false) wa)
theorem L_arena_Arena_isText (t0 t1 : Value) (K : Value → World → Prop) (w : World) (h : S_arena_Arena_isText t0 t1 K w) : Cf Tryd.prog n_arena_Arena_isText #[t0, t1] w K :=
  callF_of (args := [t0, t1]) (lv := fun _ => []) (jn := fun _ => none) Mx Tryd.func66 rfl Tryd.call66 rfl (by as_aux_lemma => kernel_rfl) (cast (by as_aux_lemma => kernel_rfl) h)

-- "(*decanter/arena.Arena).add"
def S_arena_Arena_add (t0 t1 : Value) (K : Value → World → Prop) (w : World) : Prop :=
  Vl Tryd.prog (Instr.box 100 t1) w fun v3 wa =>
  ∃ S : World → Prop, S (dr wa) ∧
  NN t0 ∧
  Pv Tryd.prog (Instr.fieldAt 97 t0 0) fun v8 =>
  ValQ Tryd.prog S (Instr.loadAt 95 v8) fun v9 =>
  ValQ Tryd.prog S (Instr.loadAt 100 v3) fun v10 =>
  Vl Tryd.prog (Instr.buildSlice 95 1 #[(0, v10)]) (dr wa) fun v11 wb =>
  ∃ Sa : World → Prop, (∀ x, Sa x → S x) ∧ Sa wb ∧
  Vl Tryd.prog (Builtin.append_ #[95, 95] 95 #[v9, v11]) wb fun v12 wc =>
  ∃ Sb : World → Prop, (∀ x, Sb x → Sa x) ∧ Sb wc ∧
  NN t0 ∧
  Pv Tryd.prog (Instr.fieldAt 97 t0 0) fun v14 =>
  Ef Tryd.prog (Instr.storeAt 95 v14 v12) wc fun wd =>
  ∃ Sc : World → Prop, Sc wd ∧
  NN t0 ∧
  Vl Tryd.prog (Instr.fieldAt 97 t0 0) wd fun v17 we =>
  Vl Tryd.prog (Instr.loadAt 95 v17) we fun v18 wf =>
  Vl Tryd.prog (Builtin.len_ #[95] 3 #[v18]) wf fun v19 wg =>
  Vl Tryd.prog (binop BinOp.sub 3 (Operand.tmp 19) (Operand.const ((Value.int IntKind.i64 1))) v19 (Value.int IntKind.i64 1)) wg fun v20 wh =>
  K v20 wh
theorem L_arena_Arena_add (t0 t1 : Value) (K : Value → World → Prop) (w : World) (h : S_arena_Arena_add t0 t1 K w) : Cf Tryd.prog n_arena_Arena_add #[t0, t1] w K :=
  callF_of (args := [t0, t1]) (lv := fun _ => []) (jn := fun _ => none) Mx Tryd.func67 rfl Tryd.call67 rfl (by as_aux_lemma => kernel_rfl) (cast (by as_aux_lemma => kernel_rfl) h)

-- "(*decanter/arena.Arena).Attrs"
def S_arena_Arena_Attrs (t0 t1 : Value) (K : Value → World → Prop) (w : World) : Prop :=
  Cf Tryd.prog n_arena_Arena_at #[t0, t1] w fun v7 wa =>
  NN v7 ∧
  Vl Tryd.prog (Instr.fieldAt 100 v7 1) wa fun v9 wb =>
  Vl Tryd.prog (Instr.loadAt 60 v9) wb fun v10 wc =>
  Cf Tryd.prog n_slices_Clone_attrs #[v10] wc fun v11 wd =>
  K v11 wd
theorem L_arena_Arena_Attrs (t0 t1 : Value) (K : Value → World → Prop) (w : World) (h : S_arena_Arena_Attrs t0 t1 K w) : Cf Tryd.prog n_arena_Arena_Attrs #[t0, t1] w K :=
  callF_of (args := [t0, t1]) (lv := fun _ => []) (jn := fun _ => none) Mx Tryd.func68 rfl Tryd.call68 rfl (by as_aux_lemma => kernel_rfl) (cast (by as_aux_lemma => kernel_rfl) h)

-- "(*decanter/list.List).mark"
def S_list_List_mark (t0 : Value) (K : Value → World → Prop) (w : World) : Prop :=
  Vl Tryd.prog (Instr.alloc 3 true (.tuple #[])) w fun v2 wa =>
  NN t0 ∧
  Vl Tryd.prog (Instr.fieldAt 107 t0 1) wa fun v7 wb =>
  Vl Tryd.prog (Instr.loadAt 31 v7) wb fun v8 wc =>
  Cf Tryd.prog n_slices_Backward_ints #[v8] wc fun v9 wd =>
  Rf Tryd.prog 2 v9 [] wd
  (fun a Bg Kn Kr Kx we =>
  Bg (fun wf =>
  Vl Tryd.prog (binop BinOp.eql 3 (Operand.tmp 12) (Operand.const ((Value.int IntKind.i64 (-1)))) (a 1) (Value.int IntKind.i64 (-1))) wf fun v13 wg =>
  Cond v13
  (Ef Tryd.prog (Instr.storeAt 3 v2 (a 0)) wg fun wh =>
  Kr wh)
  (Kn wg)) we)
  (fun ds wi => Ef Tryd.prog (Instr.storeAt 3 v2 (Value.int IntKind.i64 (-1))) wi fun wl =>
  Lv ds wl fun wm => Rs Tryd.prog (Instr.loadAt 3 v2) wm fun r => K r wm)
  (fun dsa wj => Lv dsa wj fun wn => Rs Tryd.prog (Instr.loadAt 3 v2) wn fun ra => K ra wn)
  (fun id dsb wk => bif Nat.beq id 0 then (Ef Tryd.prog (Instr.storeAt 3 v2 (Value.int IntKind.i64 (-1))) wk fun wo =>
  Lv dsb wo fun wp => Rs Tryd.prog (Instr.loadAt 3 v2) wp fun rb => K rb wp) else (False))
theorem L_list_List_mark (t0 : Value) (K : Value → World → Prop) (w : World) (h : S_list_List_mark t0 K w) : Cf Tryd.prog n_list_List_mark #[t0] w K :=
  callF_of (args := [t0]) (lv := fun _ => []) (jn := fun _ => none) Mx Tryd.func69 rfl Tryd.call69 rfl (by as_aux_lemma => kernel_rfl) (cast (by as_aux_lemma => kernel_rfl) h)

-- "decanter/attr.Same"
def S_attr_Same (t0 t1 : Value) (K : Value → World → Prop) (w : World) : Prop :=
  Vl Tryd.prog (Builtin.len_ #[60] 3 #[t0]) w fun v6 wa =>
  Vl Tryd.prog (Builtin.len_ #[60] 3 #[t1]) wa fun v8 wb =>
  Vl Tryd.prog (binop BinOp.eql 3 (Operand.tmp 6) (Operand.tmp 8) v6 v8) wb fun v9 wc =>
  Cond v9
  (Cf Tryd.prog n_attr_within #[t0, t1] wc fun v13 wd =>
  Cond v13
  (Cf Tryd.prog n_attr_within #[t1, t0] wd fun v18 we =>
  K v18 we)
  (K (Value.bool false) wd))
  (K (Value.bool false) wc)
theorem L_attr_Same (t0 t1 : Value) (K : Value → World → Prop) (w : World) (h : S_attr_Same t0 t1 K w) : Cf Tryd.prog n_attr_Same #[t0, t1] w K :=
  callF_of (args := [t0, t1]) (lv := fun _ => []) (jn := fun _ => none) Mx Tryd.func70 rfl Tryd.call70 rfl (by as_aux_lemma => kernel_rfl) (cast (by as_aux_lemma => kernel_rfl) h)

-- "(*decanter/adopt.agency).once"
def S_adopt_agency_once (t0 t1 : Value) (K : Value → World → Prop) (w : World) : Prop :=
  NN t0 ∧
  Vl Tryd.prog (Instr.fieldAt 116 t0 2) w fun v18 wa =>
  Vl Tryd.prog (Instr.loadAt 55 v18) wa fun v19 wb =>
  Cf Tryd.prog n_list_List_Last #[v19, t1] wb fun v21 wc =>
  Vl Tryd.prog (Instr.extract v21 0) wc fun v22 wd =>
  Vl Tryd.prog (Instr.extract v21 1) wd fun v23 we =>
  Vl Tryd.prog (Op.unary UnOp.not v23) we fun v25 wf =>
  Cond v25
  (K (Value.tuple #[(Value.bool true), (Value.bool false)]) wf)
  (NN t0 ∧
  Vl Tryd.prog (Instr.fieldAt 116 t0 1) wf fun v28 wg =>
  Vl Tryd.prog (Instr.loadAt 25 v28) wg fun v29 wh =>
  Cf Tryd.prog n_stack_Stack_All #[v29] wh fun v30 wi =>
  Cf Tryd.prog n_slices_Index_ints #[v30, v22] wi fun v33 wj =>
  Vl Tryd.prog (binop BinOp.lss 3 (Operand.tmp 34) (Operand.const ((Value.int IntKind.i64 0))) v33 (Value.int IntKind.i64 0)) wj fun v35 wk =>
  Cond v35
  (NN t0 ∧
  Vl Tryd.prog (Instr.fieldAt 116 t0 2) wk fun v38 wl =>
  Vl Tryd.prog (Instr.loadAt 55 v38) wl fun v39 wm =>
  Cf Tryd.prog n_list_List_Remove #[v39, v22] wm fun v41 wn =>
  K (Value.tuple #[(Value.bool true), (Value.bool true)]) wn)
  (Vl Tryd.prog (binop BinOp.add 3 (Operand.tmp 43) (Operand.const ((Value.int IntKind.i64 1))) v33 (Value.int IntKind.i64 1)) wk fun v44 wo =>
  Vl Tryd.prog (Instr.sliceAt 31 v30 (some v44) none none) wo fun v45 wp =>
  Cf Tryd.prog n_adopt_agency_is #[t0, (Value.int IntKind.i64 32)] wp fun v48 wq =>
  Cf Tryd.prog n_slices_ContainsFunc_ints #[v45, v48] wq fun v49 wr =>
  Cond v49
  (K (Value.tuple #[(Value.bool true), (Value.bool true)]) wr)
  (Cf Tryd.prog n_adopt_agency_is #[t0, (Value.int IntKind.i64 16)] wr fun v52 ws =>
  Cf Tryd.prog n_slices_IndexFunc_ints #[v45, v52] ws fun v53 wt =>
  Vl Tryd.prog (binop BinOp.lss 3 (Operand.tmp 54) (Operand.const ((Value.int IntKind.i64 0))) v53 (Value.int IntKind.i64 0)) wt fun v55 wu =>
  Cond v55
  (Cf Tryd.prog n_adopt_agency_close #[t0, v22] wu fun v58 wv =>
  NN t0 ∧
  Vl Tryd.prog (Instr.fieldAt 116 t0 2) wv fun v61 ww =>
  Vl Tryd.prog (Instr.loadAt 55 v61) ww fun v62 wx =>
  Cf Tryd.prog n_list_List_Remove #[v62, v22] wx fun v64 wy =>
  K (Value.tuple #[(Value.bool true), (Value.bool true)]) wy)
  (∃ J : List Value → List Deferred → World → Prop, (Vl Tryd.prog (binop BinOp.gtr 3 (Operand.tmp 65) (Operand.const ((Value.int IntKind.i64 0))) v33 (Value.int IntKind.i64 0)) wu fun v66 wz27 =>
  Cond v66
  (Vl Tryd.prog (binop BinOp.sub 3 (Operand.tmp 68) (Operand.const ((Value.int IntKind.i64 1))) v33 (Value.int IntKind.i64 1)) wz27 fun v69 wz28 =>
  Vl Tryd.prog (Instr.indexAt 31 v30 v69) wz28 fun v70 wz29 =>
  Vl Tryd.prog (Instr.loadAt 3 v70) wz29 fun v71 wz30 =>
  J [v71] [] wz30)
  (J [(Value.int IntKind.i64 0)] [] wz27)) ∧
  ∀ (g : Nat → Value) (ds : List Deferred) (wz : World), J [g 12] ds wz →
  Vl Tryd.prog (Instr.indexAt 31 v45 v53) wz fun v74 wz31 =>
  Vl Tryd.prog (Instr.loadAt 3 v74) wz31 fun v75 wz32 =>
  NN t0 ∧
  Vl Tryd.prog (Instr.fieldAt 116 t0 2) wz32 fun v79 wz33 =>
  Vl Tryd.prog (Instr.loadAt 55 v79) wz33 fun v80 wz34 =>
  Cf Tryd.prog n_list_List_Find #[v80, v22] wz34 fun v82 wz35 =>
  NN t0 ∧
  Vl Tryd.prog (Instr.fieldAt 116 t0 3) wz35 fun v84 wz36 =>
  Ef Tryd.prog (Instr.storeAt 3 v84 v82) wz36 fun wz37 =>
  ∃ S : World → Prop, S (dr wz37) ∧
  NN t0 ∧
  Pv Tryd.prog (Instr.fieldAt 116 t0 0) fun v87 =>
  ValQ Tryd.prog S (Instr.loadAt 47 v87) fun v88 =>
  Pv Tryd.prog (Instr.sliceAt 31 v45 none (some v53) none) fun v93 =>
  Cf Tryd.prog n_adopt_agency_lift #[t0, v93, v75] (dr wz37) fun v95 wz38 =>
  ∃ Sa : World → Prop, (∀ x, Sa x → S x) ∧ Sa wz38 ∧
  Cf Tryd.prog n_arena_Arena_Append #[v88, (g 12), v95] wz38 fun v96 wz39 =>
  ∃ Sb : World → Prop, Sb wz39 ∧
  NN t0 ∧
  Vl Tryd.prog (Instr.fieldAt 116 t0 0) wz39 fun v99 wz40 =>
  Vl Tryd.prog (Instr.loadAt 47 v99) wz40 fun v100 wz41 =>
  Cf Tryd.prog n_arena_Arena_Copy #[v100, v22] wz41 fun v102 wz42 =>
  NN t0 ∧
  Vl Tryd.prog (Instr.fieldAt 116 t0 0) wz42 fun v105 wz43 =>
  Vl Tryd.prog (Instr.loadAt 47 v105) wz43 fun v106 wz44 =>
  Cf Tryd.prog n_arena_Arena_Move #[v106, v75, v102] wz44 fun v109 wz45 =>
  NN t0 ∧
  Vl Tryd.prog (Instr.fieldAt 116 t0 0) wz45 fun v112 wz46 =>
  Vl Tryd.prog (Instr.loadAt 47 v112) wz46 fun v113 wz47 =>
  Cf Tryd.prog n_arena_Arena_Append #[v113, v75, v102] wz47 fun v116 wz48 =>
  Cf Tryd.prog n_adopt_agency_unlist #[t0, v22] wz48 fun v119 wz49 =>
  ∃ Sc : World → Prop, Sc (dr wz49) ∧
  NN t0 ∧
  Pv Tryd.prog (Instr.fieldAt 116 t0 2) fun v122 =>
  ValQ Tryd.prog Sc (Instr.loadAt 55 v122) fun v123 =>
  NN t0 ∧
  Pv Tryd.prog (Instr.fieldAt 116 t0 3) fun v126 =>
  ValQ Tryd.prog Sc (Instr.loadAt 3 v126) fun v127 =>
  Cf Tryd.prog n_list_List_Insert #[v123, v127, v102] (dr wz49) fun v129 wz50 =>
  ∃ Sd : World → Prop, Sd wz50 ∧
  NN t0 ∧
  Vl Tryd.prog (Instr.fieldAt 116 t0 1) wz50 fun v132 wz51 =>
  Vl Tryd.prog (Instr.loadAt 25 v132) wz51 fun v133 wz52 =>
  Cf Tryd.prog n_stack_Stack_Remove #[v133, v22] wz52 fun v135 wz53 =>
  ∃ Se : World → Prop, Se (dr wz53) ∧
  NN t0 ∧
  Pv Tryd.prog (Instr.fieldAt 116 t0 1) fun v138 =>
  ValQ Tryd.prog Se (Instr.loadAt 25 v138) fun v139 =>
  NN t0 ∧
  Pv Tryd.prog (Instr.fieldAt 116 t0 1) fun v142 =>
  ValQ Tryd.prog Se (Instr.loadAt 25 v142) fun v143 =>
  Cf Tryd.prog n_stack_Stack_Find #[v143, v75] (dr wz53) fun v145 wz54 =>
  ∃ Sf : World → Prop, (∀ x, Sf x → Se x) ∧ Sf wz54 ∧
  Pv Tryd.prog (binop BinOp.add 3 (Operand.tmp 145) (Operand.const ((Value.int IntKind.i64 1))) v145 (Value.int IntKind.i64 1)) fun v146 =>
  Cf Tryd.prog n_stack_Stack_Insert #[v139, v146, v102] wz54 fun v148 wz55 =>
  ∃ Sg : World → Prop, (∀ x, Sg x → Sf x) ∧ Sg wz55 ∧
  Lv ds wz55 fun wz56 => K (Value.tuple #[(Value.bool false), (Value.bool true)]) wz56))))
theorem L_adopt_agency_once (t0 t1 : Value) (K : Value → World → Prop) (w : World) (h : S_adopt_agency_once t0 t1 K w) : Cf Tryd.prog n_adopt_agency_once #[t0, t1] w K :=
  callF_of (args := [t0, t1]) (lv := fun _ => []) (jn := fun k => bif Nat.beq k 20 then some [12] else none) Mx Tryd.func71 rfl Tryd.call71 rfl (by as_aux_lemma => kernel_rfl) (cast (by as_aux_lemma => kernel_rfl) h)

-- "decanter/decanterlaw06.To"
def S_decanterlaw06_To (t0 : Value) (K : Value → World → Prop) (w : World) : Prop :=
  Vl Tryd.prog (Builtin.len_ #[60] 3 #[t0]) w fun v7 wa =>
  ∃ (I : List Value → List Deferred → World → Prop) (μ : List Value → World → Nat), I [(Value.slice none 0 0), (Value.int IntKind.i64 0)] [] wa ∧
  ∀ (g : Nat → Value) (ds : List Deferred) (wb : World), I [g 3, g 8] ds wb →
  (Vl Tryd.prog (binop BinOp.lss 3 (Operand.tmp 8) (Operand.tmp 7) (g 8) v7) wb fun v9 wc =>
  Cond v9
  (Vl Tryd.prog (Instr.indexAt 60 t0 (g 8)) wc fun v10 wd =>
  Vl Tryd.prog (Instr.loadAt 103 v10) wd fun v11 we =>
  Vl Tryd.prog (Instr.alloc 103 true (.tuple #[])) we fun v5 wf =>
  Ef Tryd.prog (Instr.storeAt 103 v5 v11) wf fun wg =>
  Vl Tryd.prog (Instr.loadAt 103 v5) wg fun v13 wh =>
  Vl Tryd.prog (Instr.buildSlice 57 1 #[(0, v13)]) wh fun v14 wi =>
  Vl Tryd.prog (Builtin.append_ #[57, 57] 57 #[(g 3), v14]) wi fun v15 wj =>
  Vl Tryd.prog (binop BinOp.add 3 (Operand.tmp 8) (Operand.const ((Value.int IntKind.i64 1))) (g 8) (Value.int IntKind.i64 1)) wj fun v16 wk =>
  I [v15, v16] ds wk ∧ μ [v15, v16] wk < μ [g 3, g 8] wb)
  (Lv ds wc fun wl => K (g 3) wl))
theorem L_decanterlaw06_To (t0 : Value) (K : Value → World → Prop) (w : World) (h : S_decanterlaw06_To t0 K w) : Cf Tryd.prog n_decanterlaw06_To #[t0] w K :=
  callF_of (args := [t0]) (lv := fun k => bif Nat.beq k 3 then [3, 8] else []) (jn := fun _ => none) Mx Tryd.func72 rfl Tryd.call72 rfl (by as_aux_lemma => kernel_rfl) (cast (by as_aux_lemma => kernel_rfl) h)

-- "(*decanter/arena.Arena).export"
def S_arena_Arena_export (t0 t1 : Value) (K : Value → World → Prop) (w : World) : Prop :=
  NN t0 ∧
  Vl Tryd.prog (Instr.fieldAt 97 t0 0) w fun v11 wa =>
  Vl Tryd.prog (Instr.loadAt 95 v11) wa fun v12 wb =>
  Vl Tryd.prog (Instr.indexAt 95 v12 t1) wb fun v14 wc =>
  Vl Tryd.prog (Instr.fieldAt 100 v14 4) wc fun v15 wd =>
  Vl Tryd.prog (Instr.loadAt 31 v15) wd fun v16 we =>
  Vl Tryd.prog (Builtin.len_ #[31] 3 #[v16]) we fun v17 wf =>
  ∃ (I : List Value → List Deferred → World → Prop) (μ : List Value → World → Nat), I [(Value.slice none 0 0), (Value.int IntKind.i64 0)] [] wf ∧
  ∀ (g : Nat → Value) (ds : List Deferred) (wg : World), I [g 5, g 18] ds wg →
  (Vl Tryd.prog (binop BinOp.lss 3 (Operand.tmp 18) (Operand.tmp 17) (g 18) v17) wg fun v19 wh =>
  Cond v19
  (Vl Tryd.prog (Instr.indexAt 31 v16 (g 18)) wh fun v20 wi =>
  Vl Tryd.prog (Instr.loadAt 3 v20) wi fun v21 wj =>
  NN t0 ∧
  Vl Tryd.prog (Instr.fieldAt 97 t0 0) wj fun v24 wk =>
  Vl Tryd.prog (Instr.loadAt 95 v24) wk fun v25 wl =>
  Vl Tryd.prog (Instr.indexAt 95 v25 v21) wl fun v27 wm =>
  Vl Tryd.prog (Instr.loadAt 100 v27) wm fun v28 wn =>
  Vl Tryd.prog (Instr.alloc 100 true (.tuple #[])) wn fun v8 wo =>
  Ef Tryd.prog (Instr.storeAt 100 v8 v28) wo fun wp =>
  ∃ S : World → Prop, S (dr wp) ∧
  Pv Tryd.prog (Instr.fieldAt 100 v8 0) fun v30 =>
  ValQ Tryd.prog S (Instr.loadAt 9 v30) fun v31 =>
  Pv Tryd.prog (Instr.fieldAt 100 v8 1) fun v32 =>
  ValQ Tryd.prog S (Instr.loadAt 60 v32) fun v33 =>
  Pv Tryd.prog (Instr.fieldAt 100 v8 2) fun v35 =>
  ValQ Tryd.prog S (Instr.loadAt 9 v35) fun v36 =>
  Cf Tryd.prog n_slices_Clone_attrs #[v33] (dr wp) fun v34 wq =>
  ∃ Sa : World → Prop, (∀ x, Sa x → S x) ∧ Sa wq ∧
  Cf Tryd.prog n_arena_Arena_export #[t0, v21] wq fun v39 wr =>
  ∃ Sb : World → Prop, (∀ x, Sb x → Sa x) ∧ Sb wr ∧
  Pv Tryd.prog (Instr.build 105 #[(0, v31), (1, v34), (2, v36), (3, v39)]) fun v40 =>
  Vl Tryd.prog (Instr.buildSlice 68 1 #[(0, v40)]) wr fun v41 ws =>
  ∃ Sc : World → Prop, (∀ x, Sc x → Sb x) ∧ Sc ws ∧
  Vl Tryd.prog (Builtin.append_ #[68, 68] 68 #[(g 5), v41]) ws fun v42 wt =>
  ∃ Sd : World → Prop, (∀ x, Sd x → Sc x) ∧ Sd wt ∧
  Vl Tryd.prog (binop BinOp.add 3 (Operand.tmp 18) (Operand.const ((Value.int IntKind.i64 1))) (g 18) (Value.int IntKind.i64 1)) wt fun v43 wu =>
  I [v42, v43] ds wu ∧ μ [v42, v43] wu < μ [g 5, g 18] wg)
  (Lv ds wh fun wv => K (g 5) wv))
theorem L_arena_Arena_export (t0 t1 : Value) (K : Value → World → Prop) (w : World) (h : S_arena_Arena_export t0 t1 K w) : Cf Tryd.prog n_arena_Arena_export #[t0, t1] w K :=
  callF_of (args := [t0, t1]) (lv := fun k => bif Nat.beq k 3 then [5, 18] else []) (jn := fun _ => none) Mx Tryd.func73 rfl Tryd.call73 rfl (by as_aux_lemma => kernel_rfl) (cast (by as_aux_lemma => kernel_rfl) h)

-- "decanter/decanterref06.Alike"
def S_decanterref06_Alike (t0 t1 : Value) (K : Value → World → Prop) (w : World) : Prop :=
  Vl Tryd.prog (Builtin.len_ #[57] 3 #[t0]) w fun v7 wa =>
  Vl Tryd.prog (Builtin.len_ #[57] 3 #[t1]) wa fun v9 wb =>
  Vl Tryd.prog (binop BinOp.neq 3 (Operand.tmp 7) (Operand.tmp 9) v7 v9) wb fun v10 wc =>
  Cond v10
  (K (Value.bool false) wc)
  (∃ (I : List Value → List Deferred → World → Prop) (μ : List Value → World → Nat), I [(Value.int IntKind.i64 0)] [] wc ∧
  ∀ (g : Nat → Value) (ds : List Deferred) (wd : World), I [g 5] ds wd →
  (Vl Tryd.prog (Builtin.len_ #[57] 3 #[t0]) wd fun v13 we =>
  Vl Tryd.prog (binop BinOp.lss 3 (Operand.tmp 11) (Operand.tmp 13) (g 5) v13) we fun v14 wf =>
  Cond v14
  (∃ S : World → Prop, S (dr wf) ∧
  Pv Tryd.prog (Instr.indexAt 57 t0 (g 5)) fun v19 =>
  ValQ Tryd.prog S (Instr.loadAt 108 v19) fun v20 =>
  Pv Tryd.prog (Instr.indexAt 57 t1 (g 5)) fun v23 =>
  ValQ Tryd.prog S (Instr.loadAt 108 v23) fun v24 =>
  Pv Tryd.prog (binop BinOp.neq 108 (Operand.tmp 20) (Operand.tmp 24) v20 v24) fun v25 =>
  Cond v25
  (Lv ds (dr wf) fun wg => K (Value.bool false) wg)
  (Vl Tryd.prog (binop BinOp.add 3 (Operand.tmp 15) (Operand.const ((Value.int IntKind.i64 1))) (g 5) (Value.int IntKind.i64 1)) (dr wf) fun v16 wh =>
  I [v16] ds wh ∧ μ [v16] wh < μ [g 5] wd))
  (Lv ds wf fun wi => K (Value.bool true) wi)))
theorem L_decanterref06_Alike (t0 t1 : Value) (K : Value → World → Prop) (w : World) (h : S_decanterref06_Alike t0 t1 K w) : Cf Tryd.prog n_decanterref06_Alike #[t0, t1] w K :=
  callF_of (args := [t0, t1]) (lv := fun k => bif Nat.beq k 4 then [5] else []) (jn := fun _ => none) Mx Tryd.func74 rfl Tryd.call74 rfl (by as_aux_lemma => kernel_rfl) (cast (by as_aux_lemma => kernel_rfl) h)

-- "slices.Backward[[]int,int]$1"
def S_slices_Backward_ints_1 (t0 t1 : Value) (K : Value → World → Prop) (w : World) : Prop :=
  Vl Tryd.prog (Instr.loadAt 31 t1) w fun v4 wa =>
  Vl Tryd.prog (Builtin.len_ #[31] 3 #[v4]) wa fun v5 wb =>
  Vl Tryd.prog (binop BinOp.sub 3 (Operand.tmp 5) (Operand.const ((Value.int IntKind.i64 1))) v5 (Value.int IntKind.i64 1)) wb fun v6 wc =>
  ∃ (I : List Value → List Deferred → World → Prop) (μ : List Value → World → Nat), I [v6] [] wc ∧
  ∀ (g : Nat → Value) (ds : List Deferred) (wd : World), I [g 3] ds wd →
  (Vl Tryd.prog (binop BinOp.geq 3 (Operand.tmp 7) (Operand.const ((Value.int IntKind.i64 0))) (g 3) (Value.int IntKind.i64 0)) wd fun v8 we =>
  Cond v8
  (Vl Tryd.prog (Instr.loadAt 31 t1) we fun v13 wf =>
  Vl Tryd.prog (Instr.indexAt 31 v13 (g 3)) wf fun v15 wg =>
  Vl Tryd.prog (Instr.loadAt 3 v15) wg fun v16 wh =>
  Cv Tryd.prog t0 #[(g 3), v16] wh fun v17 wi =>
  Vl Tryd.prog (Op.unary UnOp.not v17) wi fun v18 wj =>
  Cond v18
  (Lv ds wj fun wk => K (Value.tuple #[]) wk)
  (Vl Tryd.prog (binop BinOp.sub 3 (Operand.tmp 9) (Operand.const ((Value.int IntKind.i64 1))) (g 3) (Value.int IntKind.i64 1)) wj fun v10 wl =>
  I [v10] ds wl ∧ μ [v10] wl < μ [g 3] wd))
  (Lv ds we fun wm => K (Value.tuple #[]) wm))
theorem L_slices_Backward_ints_1 (t0 t1 : Value) (K : Value → World → Prop) (w : World) (h : S_slices_Backward_ints_1 t0 t1 K w) : Cf Tryd.prog n_slices_Backward_ints_1 #[t0, t1] w K :=
  callF_of (args := [t0, t1]) (lv := fun k => bif Nat.beq k 1 then [3] else []) (jn := fun _ => none) Mx Tryd.func75 rfl Tryd.call75 rfl (by as_aux_lemma => kernel_rfl) (cast (by as_aux_lemma => kernel_rfl) h)

-- "slices.Index[[]string,string]"
def S_slices_Index_strs (t0 t1 : Value) (K : Value → World → Prop) (w : World) : Prop :=
  Vl Tryd.prog (Builtin.len_ #[22] 3 #[t0]) w fun v7 wa =>
  ∃ (I : List Value → List Deferred → World → Prop) (μ : List Value → World → Nat), I [(Value.int IntKind.i64 0)] [] wa ∧
  ∀ (g : Nat → Value) (ds : List Deferred) (wb : World), I [g 8] ds wb →
  (Vl Tryd.prog (binop BinOp.lss 3 (Operand.tmp 8) (Operand.tmp 7) (g 8) v7) wb fun v9 wc =>
  Cond v9
  (Vl Tryd.prog (Instr.indexAt 22 t0 (g 8)) wc fun v14 wd =>
  Vl Tryd.prog (Instr.loadAt 9 v14) wd fun v15 we =>
  Vl Tryd.prog (binop BinOp.eql 9 (Operand.tmp 11) (Operand.tmp 15) t1 v15) we fun v16 wf =>
  Cond v16
  (Lv ds wf fun wg => K (g 8) wg)
  (Vl Tryd.prog (binop BinOp.add 3 (Operand.tmp 8) (Operand.const ((Value.int IntKind.i64 1))) (g 8) (Value.int IntKind.i64 1)) wf fun v18 wh =>
  I [v18] ds wh ∧ μ [v18] wh < μ [g 8] wb))
  (Lv ds wc fun wi => K (Value.int IntKind.i64 (-1)) wi))
theorem L_slices_Index_strs (t0 t1 : Value) (K : Value → World → Prop) (w : World) (h : S_slices_Index_strs t0 t1 K w) : Cf Tryd.prog n_slices_Index_strs #[t0, t1] w K :=
  callF_of (args := [t0, t1]) (lv := fun k => bif Nat.beq k 2 then [8] else []) (jn := fun _ => none) Mx Tryd.func76 rfl Tryd.call76 rfl (by as_aux_lemma => kernel_rfl) (cast (by as_aux_lemma => kernel_rfl) h)

-- "decanter/kind.table"
def S_kind_table (K : Value → World → Prop) (w : World) : Prop :=
  Cf Tryd.prog n_kind_kinds #[] w fun v1 wa =>
  K v1 wa
theorem L_kind_table (K : Value → World → Prop) (w : World) (h : S_kind_table K w) : Cf Tryd.prog n_kind_table #[] w K :=
  callF_of (args := []) (lv := fun _ => []) (jn := fun _ => none) Mx Tryd.func77 rfl Tryd.call77 rfl (by as_aux_lemma => kernel_rfl) (cast (by as_aux_lemma => kernel_rfl) h)

-- "slices.rotateRight[int]"
def S_slices_rotateRight_int (t0 t1 : Value) (K : Value → World → Prop) (w : World) : Prop :=
  Vl Tryd.prog (Builtin.len_ #[31] 3 #[t0]) w fun v6 wa =>
  Vl Tryd.prog (binop BinOp.sub 3 (Operand.tmp 6) (Operand.tmp 7) v6 t1) wa fun v8 wb =>
  Cf Tryd.prog n_slices_rotateLeft_int #[t0, v8] wb fun v9 wc =>
  K (Value.tuple #[]) wc
theorem L_slices_rotateRight_int (t0 t1 : Value) (K : Value → World → Prop) (w : World) (h : S_slices_rotateRight_int t0 t1 K w) : Cf Tryd.prog n_slices_rotateRight_int #[t0, t1] w K :=
  callF_of (args := [t0, t1]) (lv := fun _ => []) (jn := fun _ => none) Mx Tryd.func79 rfl Tryd.call79 rfl (by as_aux_lemma => kernel_rfl) (cast (by as_aux_lemma => kernel_rfl) h)

-- "(*decanter/arena.Arena).leave"
def S_arena_Arena_leave (t0 t1 : Value) (K : Value → World → Prop) (w : World) : Prop :=
  Vl Tryd.prog (Instr.box 3 t1) w fun v3 wa =>
  ∃ S : World → Prop, S (dr wa) ∧
  NN t0 ∧
  Pv Tryd.prog (Instr.fieldAt 97 t0 0) fun v8 =>
  ValQ Tryd.prog S (Instr.loadAt 95 v8) fun v9 =>
  ValQ Tryd.prog S (Instr.loadAt 3 v3) fun v10 =>
  Pv Tryd.prog (Instr.indexAt 95 v9 v10) fun v11 =>
  Pv Tryd.prog (Instr.fieldAt 100 v11 3) fun v12 =>
  ValQ Tryd.prog S (Instr.loadAt 3 v12) fun v13 =>
  Vl Tryd.prog (binop BinOp.geq 3 (Operand.tmp 14) (Operand.const ((Value.int IntKind.i64 0))) v13 (Value.int IntKind.i64 0)) (dr wa) fun v15 wb =>
  Cond v15
  (NN t0 ∧
  Vl Tryd.prog (Instr.fieldAt 97 t0 0) wb fun v18 wc =>
  Vl Tryd.prog (Instr.loadAt 95 v18) wc fun v19 wd =>
  Vl Tryd.prog (Instr.indexAt 95 v19 v13) wd fun v21 we =>
  NN v21 ∧
  Vl Tryd.prog (Instr.fieldAt 100 v21 4) we fun v25 wf =>
  Vl Tryd.prog (Instr.loadAt 31 v25) wf fun v26 wg =>
  Vl Tryd.prog (Instr.makeFunc (Fn.func 96) #[] #[v3]) wg fun v27 wh =>
  Cf Tryd.prog n_slices_DeleteFunc_ints #[v26, v27] wh fun v28 wi =>
  NN v21 ∧
  Vl Tryd.prog (Instr.fieldAt 100 v21 4) wi fun v30 wj =>
  Ef Tryd.prog (Instr.storeAt 31 v30 v28) wj fun wk =>
  K (Value.tuple #[]) wk)
  (K (Value.tuple #[]) wb)
theorem L_arena_Arena_leave (t0 t1 : Value) (K : Value → World → Prop) (w : World) (h : S_arena_Arena_leave t0 t1 K w) : Cf Tryd.prog n_arena_Arena_leave #[t0, t1] w K :=
  callF_of (args := [t0, t1]) (lv := fun _ => []) (jn := fun _ => none) Mx Tryd.func80 rfl Tryd.call80 rfl (by as_aux_lemma => kernel_rfl) (cast (by as_aux_lemma => kernel_rfl) h)

-- "decanter/attr.within"
def S_attr_within (t0 t1 : Value) (K : Value → World → Prop) (w : World) : Prop :=
  Vl Tryd.prog (Instr.box 60 t1) w fun v3 wa =>
  Vl Tryd.prog (Instr.makeFunc (Fn.func 98) #[] #[v3]) wa fun v6 wb =>
  Cf Tryd.prog n_slices_ContainsFunc_attrs #[t0, v6] wb fun v7 wc =>
  Vl Tryd.prog (Op.unary UnOp.not v7) wc fun v8 wd =>
  K v8 wd
theorem L_attr_within (t0 t1 : Value) (K : Value → World → Prop) (w : World) (h : S_attr_within t0 t1 K w) : Cf Tryd.prog n_attr_within #[t0, t1] w K :=
  callF_of (args := [t0, t1]) (lv := fun _ => []) (jn := fun _ => none) Mx Tryd.func81 rfl Tryd.call81 rfl (by as_aux_lemma => kernel_rfl) (cast (by as_aux_lemma => kernel_rfl) h)

-- "(*decanter/list.List).Last"
def S_list_List_Last (t0 t1 : Value) (K : Value → World → Prop) (w : World) : Prop :=
  Vl Tryd.prog (Instr.box 55 t0) w fun v2 wa =>
  Vl Tryd.prog (Instr.box 9 t1) wa fun v3 wb =>
  Vl Tryd.prog (Instr.alloc 3 true (.tuple #[])) wb fun v4 wc =>
  Vl Tryd.prog (Instr.alloc 4 true (.tuple #[])) wc fun v5 wd =>
  Vl Tryd.prog (Instr.loadAt 55 v2) wd fun v8 we =>
  NN v8 ∧
  Vl Tryd.prog (Instr.fieldAt 107 v8 1) we fun v10 wf =>
  Vl Tryd.prog (Instr.loadAt 31 v10) wf fun v11 wg =>
  Cf Tryd.prog n_slices_Backward_ints #[v11] wg fun v12 wh =>
  Rf Tryd.prog 2 v12 [] wh
  (fun a Bg Kn Kr Kx wi =>
  Bg (fun wj =>
  Vl Tryd.prog (binop BinOp.eql 3 (Operand.tmp 16) (Operand.const ((Value.int IntKind.i64 (-1)))) (a 1) (Value.int IntKind.i64 (-1))) wj fun v17 wk =>
  Cond v17
  (Ef Tryd.prog (Instr.storeAt 3 v4 (Value.int IntKind.i64 0)) wk fun wl =>
  Ef Tryd.prog (Instr.storeAt 4 v5 (Value.bool false)) wl fun wm =>
  Kr wm)
  (∃ S : World → Prop, S (dr wk) ∧
  ValQ Tryd.prog S (Instr.loadAt 55 v2) fun v19 =>
  NN v19 ∧
  Pv Tryd.prog (Instr.fieldAt 107 v19 0) fun v21 =>
  ValQ Tryd.prog S (Instr.loadAt 47 v21) fun v22 =>
  ValQ Tryd.prog S (Instr.loadAt 9 v3) fun v25 =>
  Cf Tryd.prog n_arena_Arena_Name #[v22, (a 1)] (dr wk) fun v24 wn =>
  ∃ Sa : World → Prop, (∀ x, Sa x → S x) ∧ Sa wn ∧
  Pv Tryd.prog (binop BinOp.eql 9 (Operand.tmp 24) (Operand.tmp 25) v24 v25) fun v26 =>
  Cond v26
  (Ef Tryd.prog (Instr.storeAt 3 v4 (a 1)) wn fun wo =>
  Ef Tryd.prog (Instr.storeAt 4 v5 (Value.bool true)) wo fun wp =>
  Kr wp)
  (Kn wn))) wi)
  (fun ds wq => Ef Tryd.prog (Instr.storeAt 3 v4 (Value.int IntKind.i64 0)) wq fun wt =>
  Ef Tryd.prog (Instr.storeAt 4 v5 (Value.bool false)) wt fun wu =>
  Lv ds wu fun wv => Rs Tryd.prog (Instr.loadAt 3 v4) wv fun r => Rs Tryd.prog (Instr.loadAt 4 v5) wv fun ra => K (Value.tuple #[r, ra]) wv)
  (fun dsa wr => Lv dsa wr fun ww => Rs Tryd.prog (Instr.loadAt 3 v4) ww fun rb => Rs Tryd.prog (Instr.loadAt 4 v5) ww fun rc => K (Value.tuple #[rb, rc]) ww)
  (fun id dsb ws => bif Nat.beq id 0 then (Ef Tryd.prog (Instr.storeAt 3 v4 (Value.int IntKind.i64 0)) ws fun wx =>
  Ef Tryd.prog (Instr.storeAt 4 v5 (Value.bool false)) wx fun wy =>
  Lv dsb wy fun wz => Rs Tryd.prog (Instr.loadAt 3 v4) wz fun rd => Rs Tryd.prog (Instr.loadAt 4 v5) wz fun re => K (Value.tuple #[rd, re]) wz) else (False))
theorem L_list_List_Last (t0 t1 : Value) (K : Value → World → Prop) (w : World) (h : S_list_List_Last t0 t1 K w) : Cf Tryd.prog n_list_List_Last #[t0, t1] w K :=
  callF_of (args := [t0, t1]) (lv := fun _ => []) (jn := fun _ => none) Mx Tryd.func82 rfl Tryd.call82 rfl (by as_aux_lemma => kernel_rfl) (cast (by as_aux_lemma => kernel_rfl) h)

-- "(*decanter/list.List).Remove"
def S_list_List_Remove (t0 t1 : Value) (K : Value → World → Prop) (w : World) : Prop :=
  Cf Tryd.prog n_list_List_Find #[t0, t1] w fun v7 wa =>
  Vl Tryd.prog (binop BinOp.geq 3 (Operand.tmp 8) (Operand.const ((Value.int IntKind.i64 0))) v7 (Value.int IntKind.i64 0)) wa fun v9 wb =>
  Cond v9
  (NN t0 ∧
  Vl Tryd.prog (Instr.fieldAt 107 t0 1) wb fun v13 wc =>
  Vl Tryd.prog (Instr.loadAt 31 v13) wc fun v14 wd =>
  Vl Tryd.prog (binop BinOp.add 3 (Operand.tmp 16) (Operand.const ((Value.int IntKind.i64 1))) v7 (Value.int IntKind.i64 1)) wd fun v17 we =>
  Cf Tryd.prog n_slices_Delete_ints #[v14, v7, v17] we fun v18 wf =>
  NN t0 ∧
  Vl Tryd.prog (Instr.fieldAt 107 t0 1) wf fun v20 wg =>
  Ef Tryd.prog (Instr.storeAt 31 v20 v18) wg fun wh =>
  K (Value.tuple #[]) wh)
  (K (Value.tuple #[]) wb)
theorem L_list_List_Remove (t0 t1 : Value) (K : Value → World → Prop) (w : World) (h : S_list_List_Remove t0 t1 K w) : Cf Tryd.prog n_list_List_Remove #[t0, t1] w K :=
  callF_of (args := [t0, t1]) (lv := fun _ => []) (jn := fun _ => none) Mx Tryd.func83 rfl Tryd.call83 rfl (by as_aux_lemma => kernel_rfl) (cast (by as_aux_lemma => kernel_rfl) h)

-- "slices.ContainsFunc[[]int,int]"
def S_slices_ContainsFunc_ints (t0 t1 : Value) (K : Value → World → Prop) (w : World) : Prop :=
  Cf Tryd.prog n_slices_IndexFunc_ints #[t0, t1] w fun v7 wa =>
  Vl Tryd.prog (binop BinOp.geq 3 (Operand.tmp 7) (Operand.const ((Value.int IntKind.i64 0))) v7 (Value.int IntKind.i64 0)) wa fun v8 wb =>
  K v8 wb
theorem L_slices_ContainsFunc_ints (t0 t1 : Value) (K : Value → World → Prop) (w : World) (h : S_slices_ContainsFunc_ints t0 t1 K w) : Cf Tryd.prog n_slices_ContainsFunc_ints #[t0, t1] w K :=
  callF_of (args := [t0, t1]) (lv := fun _ => []) (jn := fun _ => none) Mx Tryd.func84 rfl Tryd.call84 rfl (by as_aux_lemma => kernel_rfl) (cast (by as_aux_lemma => kernel_rfl) h)

-- "(*decanter/adopt.agency).is"
def S_adopt_agency_is (t0 t1 : Value) (K : Value → World → Prop) (w : World) : Prop :=
  Vl Tryd.prog (Instr.box 114 t0) w fun v2 wa =>
  Vl Tryd.prog (Instr.box 3 t1) wa fun v3 wb =>
  Vl Tryd.prog (Instr.makeFunc (Fn.func 100) #[] #[v2, v3]) wb fun v5 wc =>
  K v5 wc
theorem L_adopt_agency_is (t0 t1 : Value) (K : Value → World → Prop) (w : World) (h : S_adopt_agency_is t0 t1 K w) : Cf Tryd.prog n_adopt_agency_is #[t0, t1] w K :=
  callF_of (args := [t0, t1]) (lv := fun _ => []) (jn := fun _ => none) Mx Tryd.func85 rfl Tryd.call85 rfl (by as_aux_lemma => kernel_rfl) (cast (by as_aux_lemma => kernel_rfl) h)

-- "slices.IndexFunc[[]int,int]"
def S_slices_IndexFunc_ints (t0 t1 : Value) (K : Value → World → Prop) (w : World) : Prop :=
  Vl Tryd.prog (Builtin.len_ #[31] 3 #[t0]) w fun v7 wa =>
  ∃ (I : List Value → List Deferred → World → Prop) (μ : List Value → World → Nat), I [(Value.int IntKind.i64 0)] [] wa ∧
  ∀ (g : Nat → Value) (ds : List Deferred) (wb : World), I [g 8] ds wb →
  (Vl Tryd.prog (binop BinOp.lss 3 (Operand.tmp 8) (Operand.tmp 7) (g 8) v7) wb fun v9 wc =>
  Cond v9
  (Vl Tryd.prog (Instr.indexAt 31 t0 (g 8)) wc fun v14 wd =>
  Vl Tryd.prog (Instr.loadAt 3 v14) wd fun v15 we =>
  Cv Tryd.prog t1 #[v15] we fun v16 wf =>
  Cond v16
  (Lv ds wf fun wg => K (g 8) wg)
  (Vl Tryd.prog (binop BinOp.add 3 (Operand.tmp 8) (Operand.const ((Value.int IntKind.i64 1))) (g 8) (Value.int IntKind.i64 1)) wf fun v18 wh =>
  I [v18] ds wh ∧ μ [v18] wh < μ [g 8] wb))
  (Lv ds wc fun wi => K (Value.int IntKind.i64 (-1)) wi))
theorem L_slices_IndexFunc_ints (t0 t1 : Value) (K : Value → World → Prop) (w : World) (h : S_slices_IndexFunc_ints t0 t1 K w) : Cf Tryd.prog n_slices_IndexFunc_ints #[t0, t1] w K :=
  callF_of (args := [t0, t1]) (lv := fun k => bif Nat.beq k 2 then [8] else []) (jn := fun _ => none) Mx Tryd.func86 rfl Tryd.call86 rfl (by as_aux_lemma => kernel_rfl) (cast (by as_aux_lemma => kernel_rfl) h)

-- "(*decanter/adopt.agency).close"
def S_adopt_agency_close (t0 t1 : Value) (K : Value → World → Prop) (w : World) : Prop :=
  ∃ (I : List Value → List Deferred → World → Prop) (μ : List Value → World → Nat), I [] [] w ∧
  ∀ (g : Nat → Value) (ds : List Deferred) (wa : World), I [] ds wa →
  (NN t0 ∧
  Vl Tryd.prog (Instr.fieldAt 116 t0 1) wa fun v9 wb =>
  Vl Tryd.prog (Instr.loadAt 25 v9) wb fun v10 wc =>
  Cf Tryd.prog n_stack_Stack_Pop #[v10] wc fun v11 wd =>
  Vl Tryd.prog (Instr.extract v11 0) wd fun v12 we =>
  Vl Tryd.prog (Instr.extract v11 1) we fun v13 wf =>
  Vl Tryd.prog (Op.unary UnOp.not v13) wf fun v15 wg =>
  Cond v15
  (Lv ds wg fun wh => K (Value.tuple #[]) wh)
  (Vl Tryd.prog (binop BinOp.eql 3 (Operand.tmp 17) (Operand.tmp 18) v12 t1) wg fun v19 wi =>
  Cond v19
  (Lv ds wi fun wj => K (Value.tuple #[]) wj)
  (I [] ds wi ∧ μ [] wi < μ [] wa)))
theorem L_adopt_agency_close (t0 t1 : Value) (K : Value → World → Prop) (w : World) (h : S_adopt_agency_close t0 t1 K w) : Cf Tryd.prog n_adopt_agency_close #[t0, t1] w K :=
  callF_of (args := [t0, t1]) (lv := fun k => bif Nat.beq k 0 then [] else []) (jn := fun _ => none) Mx Tryd.func87 rfl Tryd.call87 rfl (by as_aux_lemma => kernel_rfl) (cast (by as_aux_lemma => kernel_rfl) h)

-- "(*decanter/adopt.agency).lift"
def S_adopt_agency_lift (t0 t1 t2 : Value) (K : Value → World → Prop) (w : World) : Prop :=
  Vl Tryd.prog (Instr.box 114 t0) w fun v3 wa =>
  Vl Tryd.prog (Instr.box 3 t2) wa fun v5 wb =>
  Vl Tryd.prog (Instr.loadAt 3 v5) wb fun v12 wc =>
  Vl Tryd.prog (Instr.alloc 3 true (.tuple #[])) wc fun v7 wd =>
  Vl Tryd.prog (Instr.alloc 3 true (.tuple #[])) wd fun v8 we =>
  Ef Tryd.prog (Instr.storeAt 3 v7 v12) we fun wf =>
  Ef Tryd.prog (Instr.storeAt 3 v8 (Value.int IntKind.i64 0)) wf fun wg =>
  Cf Tryd.prog n_slices_Backward_ints #[t1] wg fun v14 wh =>
  Rf Tryd.prog 2 v14 [] wh
  (fun a Bg Kn Kr Kx wi =>
  Bg (fun wj =>
  ∃ J : List Value → List Deferred → World → Prop, (Vl Tryd.prog (Instr.loadAt 3 v8) wj fun v17 wl =>
  Vl Tryd.prog (binop BinOp.add 3 (Operand.tmp 17) (Operand.const ((Value.int IntKind.i64 1))) v17 (Value.int IntKind.i64 1)) wl fun v18 wm =>
  Ef Tryd.prog (Instr.storeAt 3 v8 v18) wm fun wn =>
  Vl Tryd.prog (Instr.loadAt 3 v8) wn fun v19 wo =>
  Vl Tryd.prog (binop BinOp.gtr 3 (Operand.tmp 19) (Operand.const ((Value.int IntKind.i64 3))) v19 (Value.int IntKind.i64 3)) wo fun v20 wp =>
  Cond v20
  (Vl Tryd.prog (Instr.loadAt 114 v3) wp fun v21 wq =>
  Cf Tryd.prog n_adopt_agency_unlist #[v21, (a 1)] wq fun v23 wr =>
  J [] [] wr)
  (J [] [] wp)) ∧
  ∀ (g : Nat → Value) (ds : List Deferred) (wk : World), J [] ds wk →
  Vl Tryd.prog (Instr.loadAt 114 v3) wk fun v24 ws =>
  NN v24 ∧
  Vl Tryd.prog (Instr.fieldAt 116 v24 2) ws fun v26 wt =>
  Vl Tryd.prog (Instr.loadAt 55 v26) wt fun v27 wu =>
  Cf Tryd.prog n_list_List_Find #[v27, (a 1)] wu fun v29 wv =>
  Vl Tryd.prog (binop BinOp.lss 3 (Operand.tmp 29) (Operand.const ((Value.int IntKind.i64 0))) v29 (Value.int IntKind.i64 0)) wv fun v30 ww =>
  Cond v30
  (Vl Tryd.prog (Instr.loadAt 114 v3) ww fun v31 wx =>
  NN v31 ∧
  Vl Tryd.prog (Instr.fieldAt 116 v31 1) wx fun v33 wy =>
  Vl Tryd.prog (Instr.loadAt 25 v33) wy fun v34 wz =>
  Cf Tryd.prog n_stack_Stack_Remove #[v34, (a 1)] wz fun v36 wz27 =>
  Kn wz27)
  (Vl Tryd.prog (Instr.loadAt 114 v3) ww fun v37 wz28 =>
  Cf Tryd.prog n_adopt_agency_instead #[v37, (a 1)] wz28 fun v39 wz29 =>
  ∃ Ja : List Value → List Deferred → World → Prop, (Vl Tryd.prog (Instr.loadAt 3 v7) wz29 fun v40 wz31 =>
  Vl Tryd.prog (Instr.loadAt 3 v5) wz31 fun v41 wz32 =>
  Vl Tryd.prog (binop BinOp.eql 3 (Operand.tmp 40) (Operand.tmp 41) v40 v41) wz32 fun v42 wz33 =>
  Cond v42
  (∃ S : World → Prop, S (dr wz33) ∧
  ValQ Tryd.prog S (Instr.loadAt 114 v3) fun v43 =>
  ValQ Tryd.prog S (Instr.loadAt 114 v3) fun v44 =>
  NN v44 ∧
  Pv Tryd.prog (Instr.fieldAt 116 v44 2) fun v46 =>
  ValQ Tryd.prog S (Instr.loadAt 55 v46) fun v47 =>
  Cf Tryd.prog n_list_List_Find #[v47, v39] (dr wz33) fun v49 wz34 =>
  ∃ Sa : World → Prop, (∀ x, Sa x → S x) ∧ Sa wz34 ∧
  Pv Tryd.prog (binop BinOp.add 3 (Operand.tmp 49) (Operand.const ((Value.int IntKind.i64 1))) v49 (Value.int IntKind.i64 1)) fun v50 =>
  NN v43 ∧
  Pv Tryd.prog (Instr.fieldAt 116 v43 3) fun v52 =>
  Ef Tryd.prog (Instr.storeAt 3 v52 v50) wz34 fun wz35 =>
  ∃ Sb : World → Prop, Sb wz35 ∧
  Ja [] ds wz35)
  (Ja [] ds wz33)) ∧
  ∀ (ga : Nat → Value) (dsa : List Deferred) (wz30 : World), Ja [] dsa wz30 →
  ∃ Sc : World → Prop, Sc (dr wz30) ∧
  ValQ Tryd.prog Sc (Instr.loadAt 114 v3) fun v53 =>
  NN v53 ∧
  Pv Tryd.prog (Instr.fieldAt 116 v53 0) fun v55 =>
  ValQ Tryd.prog Sc (Instr.loadAt 47 v55) fun v56 =>
  ValQ Tryd.prog Sc (Instr.loadAt 3 v7) fun v58 =>
  Cf Tryd.prog n_arena_Arena_Append #[v56, v39, v58] (dr wz30) fun v59 wz36 =>
  ∃ Sd : World → Prop, (∀ x, Sd x → Sc x) ∧ Sd wz36 ∧
  Ef Tryd.prog (Instr.storeAt 3 v7 v39) wz36 fun wz37 =>
  Kn wz37)) wi)
  (fun dsb wz38 => Vl Tryd.prog (Instr.loadAt 3 v7) wz38 fun v61 wz41 =>
  Lv dsb wz41 fun wz42 => K v61 wz42)
  (fun dsc wz39 => Lv dsc wz39 fun wz43 => K (Value.int IntKind.i64 0) wz43)
  (fun id dsd wz40 => bif Nat.beq id 0 then (Vl Tryd.prog (Instr.loadAt 3 v7) wz40 fun v61a wz44 =>
  Lv dsd wz44 fun wz45 => K v61a wz45) else (False))
theorem L_adopt_agency_lift (t0 t1 t2 : Value) (K : Value → World → Prop) (w : World) (h : S_adopt_agency_lift t0 t1 t2 K w) : Cf Tryd.prog n_adopt_agency_lift #[t0, t1, t2] w K :=
  callF_of (args := [t0, t1, t2]) (lv := fun _ => []) (jn := fun k => bif Nat.beq k 7 then some [] else bif Nat.beq k 12 then some [] else none) Mx Tryd.func88 rfl Tryd.call88 rfl (by as_aux_lemma => kernel_rfl) (cast (by as_aux_lemma => kernel_rfl) h)

-- "(*decanter/arena.Arena).Copy"
def S_arena_Arena_Copy (t0 t1 : Value) (K : Value → World → Prop) (w : World) : Prop :=
  NN t0 ∧
  Vl Tryd.prog (Instr.fieldAt 97 t0 2) w fun v7 wa =>
  Vl Tryd.prog (Instr.loadAt 3 v7) wa fun v8 wb =>
  Vl Tryd.prog (binop BinOp.add 3 (Operand.tmp 8) (Operand.const ((Value.int IntKind.i64 1))) v8 (Value.int IntKind.i64 1)) wb fun v9 wc =>
  NN t0 ∧
  Vl Tryd.prog (Instr.fieldAt 97 t0 2) wc fun v11 wd =>
  Ef Tryd.prog (Instr.storeAt 3 v11 v9) wd fun we =>
  Cf Tryd.prog n_arena_Arena_Name #[t0, t1] we fun v15 wf =>
  Cf Tryd.prog n_arena_Arena_Attrs #[t0, t1] wf fun v18 wg =>
  Cf Tryd.prog n_arena_Arena_Element #[t0, v15, v18] wg fun v19 wh =>
  K v19 wh
theorem L_arena_Arena_Copy (t0 t1 : Value) (K : Value → World → Prop) (w : World) (h : S_arena_Arena_Copy t0 t1 K w) : Cf Tryd.prog n_arena_Arena_Copy #[t0, t1] w K :=
  callF_of (args := [t0, t1]) (lv := fun _ => []) (jn := fun _ => none) Mx Tryd.func89 rfl Tryd.call89 rfl (by as_aux_lemma => kernel_rfl) (cast (by as_aux_lemma => kernel_rfl) h)

-- "(*decanter/arena.Arena).Move"
def S_arena_Arena_Move (t0 t1 t2 : Value) (K : Value → World → Prop) (w : World) : Prop :=
  Cf Tryd.prog n_arena_Arena_at #[t0, t1] w fun v10 wa =>
  NN v10 ∧
  Vl Tryd.prog (Instr.fieldAt 100 v10 4) wa fun v12 wb =>
  Vl Tryd.prog (Instr.loadAt 31 v12) wb fun v13 wc =>
  Cf Tryd.prog n_slices_Clone_ints #[v13] wc fun v14 wd =>
  Vl Tryd.prog (Builtin.len_ #[31] 3 #[v14]) wd fun v15 we =>
  ∃ (I : List Value → List Deferred → World → Prop) (μ : List Value → World → Nat), I [(Value.int IntKind.i64 0)] [] we ∧
  ∀ (g : Nat → Value) (ds : List Deferred) (wf : World), I [g 16] ds wf →
  (Vl Tryd.prog (binop BinOp.lss 3 (Operand.tmp 16) (Operand.tmp 15) (g 16) v15) wf fun v17 wg =>
  Cond v17
  (Vl Tryd.prog (Instr.indexAt 31 v14 (g 16)) wg fun v18 wh =>
  Vl Tryd.prog (Instr.loadAt 3 v18) wh fun v19 wi =>
  NN t0 ∧
  Vl Tryd.prog (Instr.fieldAt 97 t0 1) wi fun v23 wj =>
  Vl Tryd.prog (Instr.loadAt 31 v23) wj fun v24 wk =>
  Vl Tryd.prog (Instr.indexAt 31 v24 t2) wk fun v26 wl =>
  Vl Tryd.prog (Instr.loadAt 3 v26) wl fun v27 wm =>
  Cf Tryd.prog n_arena_Arena_put #[t0, v27, v19] wm fun v29 wn =>
  Vl Tryd.prog (binop BinOp.add 3 (Operand.tmp 16) (Operand.const ((Value.int IntKind.i64 1))) (g 16) (Value.int IntKind.i64 1)) wn fun v30 wo =>
  I [v30] ds wo ∧ μ [v30] wo < μ [g 16] wf)
  (Lv ds wg fun wp => K (Value.tuple #[]) wp))
theorem L_arena_Arena_Move (t0 t1 t2 : Value) (K : Value → World → Prop) (w : World) (h : S_arena_Arena_Move t0 t1 t2 K w) : Cf Tryd.prog n_arena_Arena_Move #[t0, t1, t2] w K :=
  callF_of (args := [t0, t1, t2]) (lv := fun k => bif Nat.beq k 1 then [16] else []) (jn := fun _ => none) Mx Tryd.func90 rfl Tryd.call90 rfl (by as_aux_lemma => kernel_rfl) (cast (by as_aux_lemma => kernel_rfl) h)

-- "(*decanter/adopt.agency).unlist"
def S_adopt_agency_unlist (t0 t1 : Value) (K : Value → World → Prop) (w : World) : Prop :=
  ∃ J : List Value → List Deferred → World → Prop, (NN t0 ∧
  Vl Tryd.prog (Instr.fieldAt 116 t0 2) w fun v7 wb =>
  Vl Tryd.prog (Instr.loadAt 55 v7) wb fun v8 wc =>
  Cf Tryd.prog n_list_List_Find #[v8, t1] wc fun v10 wd =>
  Vl Tryd.prog (binop BinOp.geq 3 (Operand.tmp 11) (Operand.const ((Value.int IntKind.i64 0))) v10 (Value.int IntKind.i64 0)) wd fun v12 we =>
  Cond v12
  (NN t0 ∧
  Vl Tryd.prog (Instr.fieldAt 116 t0 3) we fun v17 wf =>
  Vl Tryd.prog (Instr.loadAt 3 v17) wf fun v18 wg =>
  Vl Tryd.prog (binop BinOp.lss 3 (Operand.tmp 14) (Operand.tmp 18) v10 v18) wg fun v19 wh =>
  Cond v19
  (NN t0 ∧
  Vl Tryd.prog (Instr.fieldAt 116 t0 3) wh fun v23 wi =>
  Vl Tryd.prog (Instr.loadAt 3 v23) wi fun v24 wj =>
  Vl Tryd.prog (binop BinOp.sub 3 (Operand.tmp 24) (Operand.const ((Value.int IntKind.i64 1))) v24 (Value.int IntKind.i64 1)) wj fun v25 wk =>
  NN t0 ∧
  Vl Tryd.prog (Instr.fieldAt 116 t0 3) wk fun v27 wl =>
  Ef Tryd.prog (Instr.storeAt 3 v27 v25) wl fun wm =>
  J [] [] wm)
  (J [] [] wh))
  (J [] [] we)) ∧
  ∀ (g : Nat → Value) (ds : List Deferred) (wa : World), J [] ds wa →
  NN t0 ∧
  Vl Tryd.prog (Instr.fieldAt 116 t0 2) wa fun v30 wn =>
  Vl Tryd.prog (Instr.loadAt 55 v30) wn fun v31 wo =>
  Cf Tryd.prog n_list_List_Remove #[v31, t1] wo fun v33 wp =>
  Lv ds wp fun wq => K (Value.tuple #[]) wq
theorem L_adopt_agency_unlist (t0 t1 : Value) (K : Value → World → Prop) (w : World) (h : S_adopt_agency_unlist t0 t1 K w) : Cf Tryd.prog n_adopt_agency_unlist #[t0, t1] w K :=
  callF_of (args := [t0, t1]) (lv := fun _ => []) (jn := fun k => bif Nat.beq k 3 then some [] else none) Mx Tryd.func91 rfl Tryd.call91 rfl (by as_aux_lemma => kernel_rfl) (cast (by as_aux_lemma => kernel_rfl) h)

-- "(*decanter/list.List).Insert"
def S_list_List_Insert (t0 t1 t2 : Value) (K : Value → World → Prop) (w : World) : Prop :=
  NN t0 ∧
  Vl Tryd.prog (Instr.fieldAt 107 t0 1) w fun v9 wa =>
  Vl Tryd.prog (Instr.loadAt 31 v9) wa fun v10 wb =>
  Vl Tryd.prog (Instr.buildSlice 31 1 #[(0, t2)]) wb fun v13 wc =>
  Cf Tryd.prog n_slices_Insert_ints #[v10, t1, v13] wc fun v14 wd =>
  NN t0 ∧
  Vl Tryd.prog (Instr.fieldAt 107 t0 1) wd fun v16 we =>
  Ef Tryd.prog (Instr.storeAt 31 v16 v14) we fun wf =>
  K (Value.tuple #[]) wf
theorem L_list_List_Insert (t0 t1 t2 : Value) (K : Value → World → Prop) (w : World) (h : S_list_List_Insert t0 t1 t2 K w) : Cf Tryd.prog n_list_List_Insert #[t0, t1, t2] w K :=
  callF_of (args := [t0, t1, t2]) (lv := fun _ => []) (jn := fun _ => none) Mx Tryd.func92 rfl Tryd.call92 rfl (by as_aux_lemma => kernel_rfl) (cast (by as_aux_lemma => kernel_rfl) h)

-- "decanter/kind.kinds"
def S_kind_kinds (K : Value → World → Prop) (w : World) : Prop :=
  Vl Tryd.prog (Instr.makeMap 122 none) w fun v5 wa =>
  Vl Tryd.prog (Instr.alloc 122 true (.tuple #[])) wa fun v1 wb =>
  Ef Tryd.prog (Instr.storeAt 122 v1 v5) wb fun wc =>
  Cf Tryd.prog n_kind_lists #[] wc fun v6 wd =>
  ∃ (I : List Value → List Deferred → World → Prop) (μ : List Value → World → Nat), I [(Value.int IntKind.i64 0)] [] wd ∧
  ∀ (g : Nat → Value) (ds : List Deferred) (we : World), I [g 7] ds we →
  (Vl Tryd.prog (binop BinOp.lss 3 (Operand.tmp 7) (Operand.const ((Value.int IntKind.i64 10))) (g 7) (Value.int IntKind.i64 10)) we fun v8 wf =>
  Cond v8
  (Vl Tryd.prog (Instr.index 134 v6 (g 7)) wf fun v10 wg =>
  Vl Tryd.prog (Instr.alloc 3 true (.tuple #[])) wg fun v2 wh =>
  Ef Tryd.prog (Instr.storeAt 3 v2 (g 7)) wh fun wi =>
  Cf Tryd.prog n_strings_FieldsSeq #[v10] wi fun v12 wj =>
  Rf Tryd.prog 1 v12 ds wj
  (fun a Bg Kn Kr Kx wk =>
  Bg (fun wl =>
  ∃ S : World → Prop, S (dr wl) ∧
  ValQ Tryd.prog S (Instr.loadAt 122 v1) fun v14 =>
  ValQ Tryd.prog S (Instr.lookup 122 v14 (a 0) false) fun v16 =>
  ValQ Tryd.prog S (Instr.loadAt 3 v2) fun v17 =>
  Pv Tryd.prog (binop BinOp.shl 3 (Operand.const ((Value.int IntKind.i64 1))) (Operand.tmp 17) (Value.int IntKind.i64 1) v17) fun v18 =>
  Pv Tryd.prog (binop BinOp.or 3 (Operand.tmp 16) (Operand.tmp 18) v16 v18) fun v19 =>
  Ef Tryd.prog (Instr.mapUpdate 122 v14 (a 0) v19) (dr wl) fun wm =>
  ∃ Sa : World → Prop, Sa wm ∧
  Kn wm) wk)
  (fun dsa wn => Vl Tryd.prog (binop BinOp.add 3 (Operand.tmp 7) (Operand.const ((Value.int IntKind.i64 1))) (g 7) (Value.int IntKind.i64 1)) wn fun v20 wq =>
  I [v20] dsa wq ∧ μ [v20] wq < μ [g 7] we)
  (fun dsb wo => Lv dsb wo fun wr => K (Value.map none) wr)
  (fun id dsc wp => bif Nat.beq id 2 then (Vl Tryd.prog (binop BinOp.add 3 (Operand.tmp 7) (Operand.const ((Value.int IntKind.i64 1))) (g 7) (Value.int IntKind.i64 1)) wp fun v20a ws =>
  I [v20a] dsc ws ∧ μ [v20a] ws < μ [g 7] we) else (bif Nat.beq id 1 then (Vl Tryd.prog (binop BinOp.add 3 (Operand.tmp 7) (Operand.const ((Value.int IntKind.i64 1))) (g 7) (Value.int IntKind.i64 1)) wp fun v20b wt =>
  I [v20b] dsc wt ∧ μ [v20b] wt < μ [g 7] we) else (bif Nat.beq id 0 then (Vl Tryd.prog (Instr.loadAt 122 v1) wp fun v21 wu =>
  Lv dsc wu fun wv => K v21 wv) else (False)))))
  (Vl Tryd.prog (Instr.loadAt 122 v1) wf fun v21a ww =>
  Lv ds ww fun wx => K v21a wx))
theorem L_kind_kinds (K : Value → World → Prop) (w : World) (h : S_kind_kinds K w) : Cf Tryd.prog n_kind_kinds #[] w K :=
  callF_of (args := []) (lv := fun k => bif Nat.beq k 3 then [7] else []) (jn := fun _ => none) Mx Tryd.func93 rfl Tryd.call93 rfl (by as_aux_lemma => kernel_rfl) (cast (by as_aux_lemma => kernel_rfl) h)

-- "slices.rotateLeft[int]"
def S_slices_rotateLeft_int (t0 t1 : Value) (K : Value → World → Prop) (w : World) : Prop :=
  Vl Tryd.prog (Instr.sliceAt 31 t0 none (some t1) none) w fun v6 wa =>
  Cf Tryd.prog n_slices_Reverse_ints #[v6] wa fun v7 wb =>
  Vl Tryd.prog (Instr.sliceAt 31 t0 (some t1) none none) wb fun v10 wc =>
  Cf Tryd.prog n_slices_Reverse_ints #[v10] wc fun v11 wd =>
  Cf Tryd.prog n_slices_Reverse_ints #[t0] wd fun v13 we =>
  K (Value.tuple #[]) we
theorem L_slices_rotateLeft_int (t0 t1 : Value) (K : Value → World → Prop) (w : World) (h : S_slices_rotateLeft_int t0 t1 K w) : Cf Tryd.prog n_slices_rotateLeft_int #[t0, t1] w K :=
  callF_of (args := [t0, t1]) (lv := fun _ => []) (jn := fun _ => none) Mx Tryd.func94 rfl Tryd.call94 rfl (by as_aux_lemma => kernel_rfl) (cast (by as_aux_lemma => kernel_rfl) h)

-- "slices.DeleteFunc[[]int,int]"
def S_slices_DeleteFunc_ints (t0 t1 : Value) (K : Value → World → Prop) (w : World) : Prop :=
  Cf Tryd.prog n_slices_IndexFunc_ints #[t0, t1] w fun v10 wa =>
  Vl Tryd.prog (binop BinOp.eql 3 (Operand.tmp 11) (Operand.const ((Value.int IntKind.i64 (-1)))) v10 (Value.int IntKind.i64 (-1))) wa fun v12 wb =>
  Cond v12
  (K t0 wb)
  (Vl Tryd.prog (binop BinOp.add 3 (Operand.tmp 14) (Operand.const ((Value.int IntKind.i64 1))) v10 (Value.int IntKind.i64 1)) wb fun v15 wc =>
  ∃ (I : List Value → List Deferred → World → Prop) (μ : List Value → World → Nat), I [v10, v15] [] wc ∧
  ∀ (g : Nat → Value) (ds : List Deferred) (wd : World), I [g 5, g 6] ds wd →
  (Vl Tryd.prog (Builtin.len_ #[31] 3 #[t0]) wd fun v18 we =>
  Vl Tryd.prog (binop BinOp.lss 3 (Operand.tmp 16) (Operand.tmp 18) (g 6) v18) we fun v19 wf =>
  Cond v19
  (Vl Tryd.prog (Instr.indexAt 31 t0 (g 6)) wf fun v24 wg =>
  Vl Tryd.prog (Instr.loadAt 3 v24) wg fun v25 wh =>
  Cv Tryd.prog t1 #[v25] wh fun v28 wi =>
  Vl Tryd.prog (Op.unary UnOp.not v28) wi fun v29 wj =>
  Cond v29
  (Vl Tryd.prog (Instr.indexAt 31 t0 (g 5)) wj fun v33 wk =>
  Ef Tryd.prog (Instr.storeAt 3 v33 v25) wk fun wl =>
  Vl Tryd.prog (binop BinOp.add 3 (Operand.tmp 34) (Operand.const ((Value.int IntKind.i64 1))) (g 5) (Value.int IntKind.i64 1)) wl fun v35 wm =>
  Vl Tryd.prog (binop BinOp.add 3 (Operand.tmp 20) (Operand.const ((Value.int IntKind.i64 1))) (g 6) (Value.int IntKind.i64 1)) wm fun v21 wn =>
  I [v35, v21] ds wn ∧ μ [v35, v21] wn < μ [g 5, g 6] wd)
  (Vl Tryd.prog (binop BinOp.add 3 (Operand.tmp 20) (Operand.const ((Value.int IntKind.i64 1))) (g 6) (Value.int IntKind.i64 1)) wj fun v21a wo =>
  I [(g 5), v21a] ds wo ∧ μ [(g 5), v21a] wo < μ [g 5, g 6] wd))
  (Vl Tryd.prog (Instr.sliceAt 31 t0 (some (g 5)) none none) wf fun v38 wp =>
  Vl Tryd.prog (Builtin.clear_ #[31] 0 #[v38]) wp fun _ wq =>
  Vl Tryd.prog (Instr.sliceAt 31 t0 none (some (g 5)) none) wq fun v41 wr =>
  Lv ds wr fun ws => K v41 ws)))
theorem L_slices_DeleteFunc_ints (t0 t1 : Value) (K : Value → World → Prop) (w : World) (h : S_slices_DeleteFunc_ints t0 t1 K w) : Cf Tryd.prog n_slices_DeleteFunc_ints #[t0, t1] w K :=
  callF_of (args := [t0, t1]) (lv := fun k => bif Nat.beq k 5 then [5, 6] else []) (jn := fun _ => none) Mx Tryd.func95 rfl Tryd.call95 rfl (by as_aux_lemma => kernel_rfl) (cast (by as_aux_lemma => kernel_rfl) h)

-- "(*decanter/arena.Arena).leave$1"
def S_arena_Arena_leave_1 (t0 t1 : Value) (K : Value → World → Prop) (w : World) : Prop :=
  Vl Tryd.prog (Instr.loadAt 3 t1) w fun v5 wa =>
  Vl Tryd.prog (binop BinOp.eql 3 (Operand.tmp 4) (Operand.tmp 5) t0 v5) wa fun v6 wb =>
  K v6 wb
theorem L_arena_Arena_leave_1 (t0 t1 : Value) (K : Value → World → Prop) (w : World) (h : S_arena_Arena_leave_1 t0 t1 K w) : Cf Tryd.prog n_arena_Arena_leave_1 #[t0, t1] w K :=
  callF_of (args := [t0, t1]) (lv := fun _ => []) (jn := fun _ => none) Mx Tryd.func96 rfl Tryd.call96 rfl (by as_aux_lemma => kernel_rfl) (cast (by as_aux_lemma => kernel_rfl) h)

-- "slices.ContainsFunc[[]decanter/api.Attr,decanter/api.Attr]"
def S_slices_ContainsFunc_attrs (t0 t1 : Value) (K : Value → World → Prop) (w : World) : Prop :=
  Cf Tryd.prog n_slices_IndexFunc_attrs #[t0, t1] w fun v7 wa =>
  Vl Tryd.prog (binop BinOp.geq 3 (Operand.tmp 7) (Operand.const ((Value.int IntKind.i64 0))) v7 (Value.int IntKind.i64 0)) wa fun v8 wb =>
  K v8 wb
theorem L_slices_ContainsFunc_attrs (t0 t1 : Value) (K : Value → World → Prop) (w : World) (h : S_slices_ContainsFunc_attrs t0 t1 K w) : Cf Tryd.prog n_slices_ContainsFunc_attrs #[t0, t1] w K :=
  callF_of (args := [t0, t1]) (lv := fun _ => []) (jn := fun _ => none) Mx Tryd.func97 rfl Tryd.call97 rfl (by as_aux_lemma => kernel_rfl) (cast (by as_aux_lemma => kernel_rfl) h)

-- "decanter/attr.within$1"
def S_attr_within_1 (t0 t1 : Value) (K : Value → World → Prop) (w : World) : Prop :=
  Vl Tryd.prog (Instr.box 103 t0) w fun v2 wa =>
  Vl Tryd.prog (Instr.loadAt 60 t1) wa fun v7 wb =>
  Vl Tryd.prog (Instr.fieldAt 103 v2 0) wb fun v8 wc =>
  Vl Tryd.prog (Instr.loadAt 9 v8) wc fun v9 wd =>
  Cf Tryd.prog n_attr_Get #[v7, v9] wd fun v10 we =>
  Vl Tryd.prog (Instr.extract v10 0) we fun v11 wf =>
  Vl Tryd.prog (Instr.extract v10 1) wf fun v12 wg =>
  Vl Tryd.prog (Op.unary UnOp.not v12) wg fun v14 wh =>
  Cond v14
  (K (Value.bool true) wh)
  (Vl Tryd.prog (Instr.fieldAt 103 v2 1) wh fun v17 wi =>
  Vl Tryd.prog (Instr.loadAt 9 v17) wi fun v18 wj =>
  Vl Tryd.prog (binop BinOp.neq 9 (Operand.tmp 16) (Operand.tmp 18) v11 v18) wj fun v19 wk =>
  K v19 wk)
theorem L_attr_within_1 (t0 t1 : Value) (K : Value → World → Prop) (w : World) (h : S_attr_within_1 t0 t1 K w) : Cf Tryd.prog n_attr_within_1 #[t0, t1] w K :=
  callF_of (args := [t0, t1]) (lv := fun _ => []) (jn := fun _ => none) Mx Tryd.func98 rfl Tryd.call98 rfl (by as_aux_lemma => kernel_rfl) (cast (by as_aux_lemma => kernel_rfl) h)

-- "decanter/attr.Get"
def S_attr_Get (t0 t1 : Value) (K : Value → World → Prop) (w : World) : Prop :=
  Cf Tryd.prog n_attr_find #[t0, t1] w fun v9 wa =>
  Vl Tryd.prog (binop BinOp.lss 3 (Operand.tmp 10) (Operand.const ((Value.int IntKind.i64 0))) v9 (Value.int IntKind.i64 0)) wa fun v11 wb =>
  Cond v11
  (K (Value.tuple #[(Value.string { data := #[] }), (Value.bool false)]) wb)
  (Vl Tryd.prog (Instr.indexAt 60 t0 v9) wb fun v14 wc =>
  Vl Tryd.prog (Instr.fieldAt 103 v14 1) wc fun v15 wd =>
  Vl Tryd.prog (Instr.loadAt 9 v15) wd fun v16 we =>
  K (Value.tuple #[v16, (Value.bool true)]) we)
theorem L_attr_Get (t0 t1 : Value) (K : Value → World → Prop) (w : World) (h : S_attr_Get t0 t1 K w) : Cf Tryd.prog n_attr_Get #[t0, t1] w K :=
  callF_of (args := [t0, t1]) (lv := fun _ => []) (jn := fun _ => none) Mx Tryd.func99 rfl Tryd.call99 rfl (by as_aux_lemma => kernel_rfl) (cast (by as_aux_lemma => kernel_rfl) h)

-- "(*decanter/adopt.agency).is$1"
def S_adopt_agency_is_1 (t0 t1 t2 : Value) (K : Value → World → Prop) (w : World) : Prop :=
  ∃ S : World → Prop, S (dr w) ∧
  ValQ Tryd.prog S (Instr.loadAt 114 t1) fun v5 =>
  NN v5 ∧
  Pv Tryd.prog (Instr.fieldAt 116 v5 0) fun v7 =>
  ValQ Tryd.prog S (Instr.loadAt 47 v7) fun v8 =>
  ValQ Tryd.prog S (Instr.loadAt 3 t2) fun v11 =>
  Cf Tryd.prog n_arena_Arena_Name #[v8, t0] (dr w) fun v10 wa =>
  ∃ Sa : World → Prop, (∀ x, Sa x → S x) ∧ Sa wa ∧
  Cf Tryd.prog n_kind_Is #[v10, v11] wa fun v12 wb =>
  ∃ Sb : World → Prop, (∀ x, Sb x → Sa x) ∧ Sb wb ∧
  K v12 wb
theorem L_adopt_agency_is_1 (t0 t1 t2 : Value) (K : Value → World → Prop) (w : World) (h : S_adopt_agency_is_1 t0 t1 t2 K w) : Cf Tryd.prog n_adopt_agency_is_1 #[t0, t1, t2] w K :=
  callF_of (args := [t0, t1, t2]) (lv := fun _ => []) (jn := fun _ => none) Mx Tryd.func100 rfl Tryd.call100 rfl (by as_aux_lemma => kernel_rfl) (cast (by as_aux_lemma => kernel_rfl) h)

-- "(*decanter/adopt.agency).instead"
def S_adopt_agency_instead (t0 t1 : Value) (K : Value → World → Prop) (w : World) : Prop :=
  NN t0 ∧
  Vl Tryd.prog (Instr.fieldAt 116 t0 0) w fun v9 wa =>
  Vl Tryd.prog (Instr.loadAt 47 v9) wa fun v10 wb =>
  Cf Tryd.prog n_arena_Arena_Copy #[v10, t1] wb fun v12 wc =>
  NN t0 ∧
  Vl Tryd.prog (Instr.fieldAt 116 t0 2) wc fun v15 wd =>
  Vl Tryd.prog (Instr.loadAt 55 v15) wd fun v16 we =>
  Cf Tryd.prog n_list_List_Replace #[v16, t1, v12] we fun v19 wf =>
  NN t0 ∧
  Vl Tryd.prog (Instr.fieldAt 116 t0 1) wf fun v22 wg =>
  Vl Tryd.prog (Instr.loadAt 25 v22) wg fun v23 wh =>
  Cf Tryd.prog n_stack_Stack_Find #[v23, t1] wh fun v25 wi =>
  NN t0 ∧
  Vl Tryd.prog (Instr.fieldAt 116 t0 1) wi fun v28 wj =>
  Vl Tryd.prog (Instr.loadAt 25 v28) wj fun v29 wk =>
  Cf Tryd.prog n_stack_Stack_Remove #[v29, t1] wk fun v31 wl =>
  NN t0 ∧
  Vl Tryd.prog (Instr.fieldAt 116 t0 1) wl fun v34 wm =>
  Vl Tryd.prog (Instr.loadAt 25 v34) wm fun v35 wn =>
  Cf Tryd.prog n_stack_Stack_Insert #[v35, v25, v12] wn fun v38 wo =>
  K v12 wo
theorem L_adopt_agency_instead (t0 t1 : Value) (K : Value → World → Prop) (w : World) (h : S_adopt_agency_instead t0 t1 K w) : Cf Tryd.prog n_adopt_agency_instead #[t0, t1] w K :=
  callF_of (args := [t0, t1]) (lv := fun _ => []) (jn := fun _ => none) Mx Tryd.func101 rfl Tryd.call101 rfl (by as_aux_lemma => kernel_rfl) (cast (by as_aux_lemma => kernel_rfl) h)

-- "decanter/kind.lists"
def S_kind_lists (K : Value → World → Prop) (w : World) : Prop :=
  Vl Tryd.prog (Instr.alloc 134 true (.tuple #[])) w fun v0 wa =>
  Vl Tryd.prog (Instr.build 134 #[(0, (Value.string { data := (List.toArray (List.append [97, 114, 101, 97, 32, 98, 97, 115, 101, 32, 98, 97, 115, 101, 102, 111, 110, 116, 32, 98, 103, 115, 111, 117, 110, 100, 32, 98, 114, 32, 101, 109, 98, 101, 100, 32, 104, 114, 32, 105, 109, 103, 32, 105] [110, 112, 117, 116, 32, 107, 101, 121, 103, 101, 110, 32, 108, 105, 110, 107, 32, 109, 101, 116, 97, 32, 112, 97, 114, 97, 109, 32, 115, 111, 117, 114, 99, 101, 32, 116, 114, 97, 99, 107, 32, 119, 98, 114])) })), (1, (Value.string { data := (List.toArray (List.append (List.append [97, 100, 100, 114, 101, 115, 115, 32, 97, 114, 116, 105, 99, 108, 101, 32, 97, 115, 105, 100, 101, 32, 98, 108, 111, 99, 107, 113, 117, 111, 116, 101, 32, 99, 101, 110, 116, 101, 114, 32, 100, 100, 32, 100, 101, 116, 97, 105, 108, 115, 32, 100, 105, 97] [108, 111, 103, 32, 100, 105, 114, 32, 100, 105, 118, 32, 100, 108, 32, 100, 116, 32, 102, 105, 101, 108, 100, 115, 101, 116, 32, 102, 105, 103, 99, 97, 112, 116, 105, 111, 110, 32, 102, 105, 103, 117, 114, 101, 32, 102, 111, 111, 116, 101, 114, 32, 102, 111, 114]) (List.append [109, 32, 104, 49, 32, 104, 50, 32, 104, 51, 32, 104, 52, 32, 104, 53, 32, 104, 54, 32, 104, 101, 97, 100, 101, 114, 32, 104, 103, 114, 111, 117, 112, 32, 104, 114, 32, 108, 105, 32, 108, 105, 115, 116, 105, 110, 103, 32, 109, 97, 105, 110, 32, 109] [101, 110, 117, 32, 110, 97, 118, 32, 111, 108, 32, 112, 32, 112, 108, 97, 105, 110, 116, 101, 120, 116, 32, 112, 114, 101, 32, 115, 101, 99, 116, 105, 111, 110, 32, 115, 117, 109, 109, 97, 114, 121, 32, 116, 97, 98, 108, 101, 32, 117, 108, 32, 120, 109, 112]))) })), (2, (Value.string { data := #[104, 49, 32, 104, 50, 32, 104, 51, 32, 104, 52, 32, 104, 53, 32, 104, 54] })), (3, (Value.string { data := #[97, 32, 98, 32, 98, 105, 103, 32, 99, 111, 100, 101, 32, 101, 109, 32, 102, 111, 110, 116, 32, 105, 32, 110, 111, 98, 114, 32, 115, 32, 115, 109, 97, 108, 108, 32, 115, 116, 114, 105, 107, 101, 32, 115, 116, 114, 111, 110, 103, 32, 116, 116, 32, 117] })), (4, (Value.string { data := (List.toArray (List.append (List.append (List.append [97, 100, 100, 114, 101, 115, 115, 32, 97, 112, 112, 108, 101, 116, 32, 97, 114, 101, 97, 32, 97, 114, 116, 105, 99, 108, 101, 32, 97, 115, 105, 100, 101, 32, 98, 97, 115, 101, 32, 98, 97, 115, 101, 102, 111, 110, 116, 32, 98] [103, 115, 111, 117, 110, 100, 32, 98, 108, 111, 99, 107, 113, 117, 111, 116, 101, 32, 98, 114, 32, 98, 117, 116, 116, 111, 110, 32, 99, 101, 110, 116, 101, 114, 32, 100, 100, 32, 100, 101, 116, 97, 105, 108, 115, 32, 100, 105, 114]) (List.append [32, 100, 105, 118, 32, 100, 108, 32, 100, 116, 32, 101, 109, 98, 101, 100, 32, 102, 105, 101, 108, 100, 115, 101, 116, 32, 102, 105, 103, 99, 97, 112, 116, 105, 111, 110, 32, 102, 105, 103, 117, 114, 101, 32, 102, 111, 111, 116, 101] [114, 32, 102, 111, 114, 109, 32, 104, 49, 32, 104, 50, 32, 104, 51, 32, 104, 52, 32, 104, 53, 32, 104, 54, 32, 104, 101, 97, 100, 101, 114, 32, 104, 103, 114, 111, 117, 112, 32, 104, 114, 32, 105, 102, 114, 97, 109, 101, 32, 105])) (List.append (List.append [109, 103, 32, 105, 110, 112, 117, 116, 32, 107, 101, 121, 103, 101, 110, 32, 108, 105, 32, 108, 105, 110, 107, 32, 108, 105, 115, 116, 105, 110, 103, 32, 109, 97, 105, 110, 32, 109, 97, 114, 113, 117, 101, 101, 32, 109, 101, 110, 117] [32, 109, 101, 116, 97, 32, 110, 97, 118, 32, 110, 111, 101, 109, 98, 101, 100, 32, 110, 111, 102, 114, 97, 109, 101, 115, 32, 111, 98, 106, 101, 99, 116, 32, 111, 108, 32, 112, 32, 112, 97, 114, 97, 109, 32, 112, 108, 97, 105]) (List.append [110, 116, 101, 120, 116, 32, 112, 114, 101, 32, 115, 99, 114, 105, 112, 116, 32, 115, 101, 99, 116, 105, 111, 110, 32, 115, 101, 108, 101, 99, 116, 32, 115, 111, 117, 114, 99, 101, 32, 115, 116, 121, 108, 101, 32, 115, 117, 109, 109] [97, 114, 121, 32, 116, 97, 98, 108, 101, 32, 116, 101, 109, 112, 108, 97, 116, 101, 32, 116, 101, 120, 116, 97, 114, 101, 97, 32, 116, 105, 116, 108, 101, 32, 116, 114, 97, 99, 107, 32, 117, 108, 32, 119, 98, 114, 32, 120, 109, 112])))) })), (5, (Value.string { data := #[97, 112, 112, 108, 101, 116, 32, 109, 97, 114, 113, 117, 101, 101, 32, 111, 98, 106, 101, 99, 116, 32, 116, 97, 98, 108, 101, 32, 116, 101, 109, 112, 108, 97, 116, 101] })), (6, (Value.string { data := (List.toArray (List.append [98, 111, 100, 121, 32, 99, 97, 112, 116, 105, 111, 110, 32, 99, 111, 108, 32, 99, 111, 108, 103, 114, 111, 117, 112, 32, 102, 114, 97, 109, 101, 32, 102, 114, 97, 109, 101, 115] [101, 116, 32, 104, 101, 97, 100, 32, 104, 116, 109, 108, 32, 116, 98, 111, 100, 121, 32, 116, 100, 32, 116, 102, 111, 111, 116, 32, 116, 104, 32, 116, 104, 101, 97, 100, 32, 116, 114])) })), (7, (Value.string { data := #[100, 100, 32, 100, 116, 32, 108, 105, 32, 111, 112, 116, 103, 114, 111, 117, 112, 32, 111, 112, 116, 105, 111, 110, 32, 112, 32, 114, 98, 32, 114, 112, 32, 114, 116, 32, 114, 116, 99] })), (8, (Value.string { data := #[97, 112, 112, 108, 101, 116, 32, 109, 97, 114, 113, 117, 101, 101, 32, 111, 98, 106, 101, 99, 116] })), (9, (Value.string { data := (List.toArray (List.append (List.append (List.append [97, 32, 97, 98, 98, 114, 32, 97, 100, 100, 114, 101, 115, 115, 32, 97, 114, 116, 105, 99, 108, 101, 32, 97, 115, 105, 100, 101, 32, 98, 32, 98, 100] [105, 32, 98, 100, 111, 32, 98, 105, 103, 32, 98, 108, 111, 99, 107, 113, 117, 111, 116, 101, 32, 98, 114, 32, 99, 101, 110, 116, 101, 114, 32, 99, 105, 116]) (List.append [101, 32, 99, 111, 100, 101, 32, 100, 100, 32, 100, 101, 108, 32, 100, 102, 110, 32, 100, 105, 114, 32, 100, 105, 118, 32, 100, 108, 32, 100, 116, 32, 101, 109] [32, 102, 105, 103, 99, 97, 112, 116, 105, 111, 110, 32, 102, 105, 103, 117, 114, 101, 32, 102, 111, 110, 116, 32, 102, 111, 111, 116, 101, 114, 32, 104, 49, 32])) (List.append (List.append [104, 50, 32, 104, 51, 32, 104, 52, 32, 104, 53, 32, 104, 54, 32, 104, 101, 97, 100, 101, 114, 32, 104, 114, 32, 105, 32, 105, 109, 103, 32, 105, 110] [115, 32, 107, 98, 100, 32, 108, 105, 32, 109, 97, 105, 110, 32, 109, 97, 114, 107, 32, 110, 97, 118, 32, 111, 108, 32, 112, 32, 112, 114, 101, 32, 113, 32]) (List.append [115, 32, 115, 97, 109, 112, 32, 115, 101, 99, 116, 105, 111, 110, 32, 115, 109, 97, 108, 108, 32, 115, 112, 97, 110, 32, 115, 116, 114, 105, 107, 101, 32, 115] [116, 114, 111, 110, 103, 32, 115, 117, 98, 32, 115, 117, 112, 32, 116, 105, 109, 101, 32, 116, 116, 32, 117, 32, 117, 108, 32, 118, 97, 114, 32, 119, 98, 114])))) }))]) wa fun v1 wb =>
  Ef Tryd.prog (Instr.storeAt 134 v0 v1) wb fun wc =>
  Rs Tryd.prog (Instr.loadAt 134 v0) wc fun r => K r wc
theorem L_kind_lists (K : Value → World → Prop) (w : World) (h : S_kind_lists K w) : Cf Tryd.prog n_kind_lists #[] w K :=
  callF_of (args := []) (lv := fun _ => []) (jn := fun _ => none) Mx Tryd.func102 rfl Tryd.call102 rfl (by as_aux_lemma => kernel_rfl) (cast (by as_aux_lemma => kernel_rfl) h)

-- "strings.FieldsSeq"
def S_strings_FieldsSeq (t0 : Value) (K : Value → World → Prop) (w : World) : Prop :=
  Vl Tryd.prog (Instr.box 9 t0) w fun v1 wa =>
  Vl Tryd.prog (Instr.makeFunc (Fn.func 108) #[] #[v1]) wa fun v3 wb =>
  K v3 wb
theorem L_strings_FieldsSeq (t0 : Value) (K : Value → World → Prop) (w : World) (h : S_strings_FieldsSeq t0 K w) : Cf Tryd.prog n_strings_FieldsSeq #[t0] w K :=
  callF_of (args := [t0]) (lv := fun _ => []) (jn := fun _ => none) Mx Tryd.func103 rfl Tryd.call103 rfl (by as_aux_lemma => kernel_rfl) (cast (by as_aux_lemma => kernel_rfl) h)

-- "slices.Reverse[[]int,int]"
def S_slices_Reverse_ints (t0 : Value) (K : Value → World → Prop) (w : World) : Prop :=
  Vl Tryd.prog (Builtin.len_ #[31] 3 #[t0]) w fun v5 wa =>
  Vl Tryd.prog (binop BinOp.sub 3 (Operand.tmp 5) (Operand.const ((Value.int IntKind.i64 1))) v5 (Value.int IntKind.i64 1)) wa fun v6 wb =>
  ∃ (I : List Value → List Deferred → World → Prop) (μ : List Value → World → Nat), I [(Value.int IntKind.i64 0), v6] [] wb ∧
  ∀ (g : Nat → Value) (ds : List Deferred) (wc : World), I [g 2, g 3] ds wc →
  (Vl Tryd.prog (binop BinOp.lss 3 (Operand.tmp 7) (Operand.tmp 8) (g 2) (g 3)) wc fun v9 wd =>
  Cond v9
  (∃ S : World → Prop, S (dr wd) ∧
  Pv Tryd.prog (Instr.indexAt 31 t0 (g 3)) fun v20 =>
  Pv Tryd.prog (Instr.indexAt 31 t0 (g 2)) fun v24 =>
  (Vl Tryd.prog (Instr.loadAt 3 v20) (dr wd) fun v21 we =>
  ∃ Sa : World → Prop, (∀ x, Sa x → S x) ∧ Sa we ∧
  Vl Tryd.prog (Instr.loadAt 3 v24) we fun v25 wf =>
  ∃ Sb : World → Prop, (∀ x, Sb x → Sa x) ∧ Sb wf ∧
  Pv Tryd.prog (Instr.indexAt 31 t0 (g 2)) fun v26 =>
  Ef Tryd.prog (Instr.storeAt 3 v26 v21) wf fun wg =>
  ∃ Sc : World → Prop, Sc wg ∧
  Pv Tryd.prog (Instr.indexAt 31 t0 (g 3)) fun v27 =>
  Ef Tryd.prog (Instr.storeAt 3 v27 v25) wg fun wh =>
  ∃ Sd : World → Prop, Sd wh ∧
  Vl Tryd.prog (binop BinOp.add 3 (Operand.tmp 10) (Operand.const ((Value.int IntKind.i64 1))) (g 2) (Value.int IntKind.i64 1)) wh fun v11 wi =>
  Vl Tryd.prog (binop BinOp.sub 3 (Operand.tmp 12) (Operand.const ((Value.int IntKind.i64 1))) (g 3) (Value.int IntKind.i64 1)) wi fun v13 wj =>
  I [v11, v13] ds wj ∧ μ [v11, v13] wj < μ [g 2, g 3] wc) ∧ (Vl Tryd.prog (Instr.loadAt 3 v24) (dr wd) fun v25a wk =>
  ∃ Se : World → Prop, (∀ x, Se x → S x) ∧ Se wk ∧
  Vl Tryd.prog (Instr.loadAt 3 v20) wk fun v21a wl =>
  ∃ Sf : World → Prop, (∀ x, Sf x → Se x) ∧ Sf wl ∧
  Pv Tryd.prog (Instr.indexAt 31 t0 (g 2)) fun v26a =>
  Ef Tryd.prog (Instr.storeAt 3 v26a v21a) wl fun wm =>
  ∃ Sg : World → Prop, Sg wm ∧
  Pv Tryd.prog (Instr.indexAt 31 t0 (g 3)) fun v27a =>
  Ef Tryd.prog (Instr.storeAt 3 v27a v25a) wm fun wn =>
  ∃ Sh : World → Prop, Sh wn ∧
  Vl Tryd.prog (binop BinOp.add 3 (Operand.tmp 10) (Operand.const ((Value.int IntKind.i64 1))) (g 2) (Value.int IntKind.i64 1)) wn fun v11a wo =>
  Vl Tryd.prog (binop BinOp.sub 3 (Operand.tmp 12) (Operand.const ((Value.int IntKind.i64 1))) (g 3) (Value.int IntKind.i64 1)) wo fun v13a wp =>
  I [v11a, v13a] ds wp ∧ μ [v11a, v13a] wp < μ [g 2, g 3] wc) ∧ True)
  (Lv ds wd fun wq => K (Value.tuple #[]) wq))
theorem L_slices_Reverse_ints (t0 : Value) (K : Value → World → Prop) (w : World) (h : S_slices_Reverse_ints t0 K w) : Cf Tryd.prog n_slices_Reverse_ints #[t0] w K :=
  callF_of (args := [t0]) (lv := fun k => bif Nat.beq k 1 then [2, 3] else []) (jn := fun _ => none) Mx Tryd.func104 rfl Tryd.call104 rfl (by as_aux_lemma => kernel_rfl) (cast (by as_aux_lemma => kernel_rfl) h)

-- "slices.IndexFunc[[]decanter/api.Attr,decanter/api.Attr]"
def S_slices_IndexFunc_attrs (t0 t1 : Value) (K : Value → World → Prop) (w : World) : Prop :=
  Vl Tryd.prog (Builtin.len_ #[60] 3 #[t0]) w fun v7 wa =>
  ∃ (I : List Value → List Deferred → World → Prop) (μ : List Value → World → Nat), I [(Value.int IntKind.i64 0)] [] wa ∧
  ∀ (g : Nat → Value) (ds : List Deferred) (wb : World), I [g 8] ds wb →
  (Vl Tryd.prog (binop BinOp.lss 3 (Operand.tmp 8) (Operand.tmp 7) (g 8) v7) wb fun v9 wc =>
  Cond v9
  (Vl Tryd.prog (Instr.indexAt 60 t0 (g 8)) wc fun v14 wd =>
  Vl Tryd.prog (Instr.loadAt 103 v14) wd fun v15 we =>
  Cv Tryd.prog t1 #[v15] we fun v16 wf =>
  Cond v16
  (Lv ds wf fun wg => K (g 8) wg)
  (Vl Tryd.prog (binop BinOp.add 3 (Operand.tmp 8) (Operand.const ((Value.int IntKind.i64 1))) (g 8) (Value.int IntKind.i64 1)) wf fun v18 wh =>
  I [v18] ds wh ∧ μ [v18] wh < μ [g 8] wb))
  (Lv ds wc fun wi => K (Value.int IntKind.i64 (-1)) wi))
theorem L_slices_IndexFunc_attrs (t0 t1 : Value) (K : Value → World → Prop) (w : World) (h : S_slices_IndexFunc_attrs t0 t1 K w) : Cf Tryd.prog n_slices_IndexFunc_attrs #[t0, t1] w K :=
  callF_of (args := [t0, t1]) (lv := fun k => bif Nat.beq k 2 then [8] else []) (jn := fun _ => none) Mx Tryd.func105 rfl Tryd.call105 rfl (by as_aux_lemma => kernel_rfl) (cast (by as_aux_lemma => kernel_rfl) h)

-- "decanter/attr.find"
def S_attr_find (t0 t1 : Value) (K : Value → World → Prop) (w : World) : Prop :=
  Vl Tryd.prog (Instr.box 9 t1) w fun v3 wa =>
  Vl Tryd.prog (Instr.makeFunc (Fn.func 111) #[] #[v3]) wa fun v6 wb =>
  Cf Tryd.prog n_slices_IndexFunc_attrs #[t0, v6] wb fun v7 wc =>
  K v7 wc
theorem L_attr_find (t0 t1 : Value) (K : Value → World → Prop) (w : World) (h : S_attr_find t0 t1 K w) : Cf Tryd.prog n_attr_find #[t0, t1] w K :=
  callF_of (args := [t0, t1]) (lv := fun _ => []) (jn := fun _ => none) Mx Tryd.func106 rfl Tryd.call106 rfl (by as_aux_lemma => kernel_rfl) (cast (by as_aux_lemma => kernel_rfl) h)

-- "(*decanter/list.List).Replace"
def S_list_List_Replace (t0 t1 t2 : Value) (K : Value → World → Prop) (w : World) : Prop :=
  Cf Tryd.prog n_list_List_Find #[t0, t1] w fun v9 wa =>
  Vl Tryd.prog (binop BinOp.geq 3 (Operand.tmp 10) (Operand.const ((Value.int IntKind.i64 0))) v9 (Value.int IntKind.i64 0)) wa fun v11 wb =>
  Cond v11
  (NN t0 ∧
  Vl Tryd.prog (Instr.fieldAt 107 t0 1) wb fun v14 wc =>
  Vl Tryd.prog (Instr.loadAt 31 v14) wc fun v15 wd =>
  Vl Tryd.prog (Instr.indexAt 31 v15 v9) wd fun v18 we =>
  Ef Tryd.prog (Instr.storeAt 3 v18 t2) we fun wf =>
  K (Value.tuple #[]) wf)
  (K (Value.tuple #[]) wb)
theorem L_list_List_Replace (t0 t1 t2 : Value) (K : Value → World → Prop) (w : World) (h : S_list_List_Replace t0 t1 t2 K w) : Cf Tryd.prog n_list_List_Replace #[t0, t1, t2] w K :=
  callF_of (args := [t0, t1, t2]) (lv := fun _ => []) (jn := fun _ => none) Mx Tryd.func107 rfl Tryd.call107 rfl (by as_aux_lemma => kernel_rfl) (cast (by as_aux_lemma => kernel_rfl) h)

-- "strings.FieldsSeq$1"
def S_strings_FieldsSeq_1 (t0 t1 : Value) (K : Value → World → Prop) (w : World) : Prop :=
  ∃ (I : List Value → List Deferred → World → Prop) (μ : List Value → World → Nat), I [(Value.int IntKind.i64 (-1)), (Value.int IntKind.i64 0)] [] w ∧
  ∀ (g : Nat → Value) (ds : List Deferred) (wa : World), I [g 3, g 4] ds wa →
  (Vl Tryd.prog (Instr.loadAt 9 t1) wa fun v9 wb =>
  Vl Tryd.prog (Builtin.len_ #[9] 3 #[v9]) wb fun v10 wc =>
  Vl Tryd.prog (binop BinOp.lss 3 (Operand.tmp 8) (Operand.tmp 10) (g 4) v10) wc fun v11 wd =>
  Cond v11
  (Vl Tryd.prog (Instr.loadAt 9 t1) wd fun v12 we =>
  Vl Tryd.prog (Instr.index 9 v12 (g 4)) we fun v14 wf =>
  Vl Tryd.prog (convert 5 21 v14) wf fun v15 wg =>
  Vl Tryd.prog (Instr.loadAt 9 t1) wg fun v16 wh =>
  Vl Tryd.prog (Instr.index 9 v16 (g 4)) wh fun v18 wi =>
  Vl Tryd.prog (Instr.indexAt 142 (Value.pointer (some ⟨0, 0, none⟩)) v18) wi fun v19 wj =>
  Vl Tryd.prog (Instr.loadAt 5 v19) wj fun v20 wk =>
  Vl Tryd.prog (binop BinOp.neq 5 (Operand.tmp 20) (Operand.const ((Value.int IntKind.u8 0))) v20 (Value.int IntKind.u8 0)) wk fun v21 wl =>
  ∃ J : List Value → List Deferred → World → Prop, (Vl Tryd.prog (binop BinOp.geq 21 (Operand.tmp 22) (Operand.const ((Value.int IntKind.i32 128))) v15 (Value.int IntKind.i32 128)) wl fun v23 wn =>
  Cond v23
  (Vl Tryd.prog (Instr.loadAt 9 t1) wn fun v25 wo =>
  Vl Tryd.prog (Instr.sliceAt 9 v25 (some (g 4)) none none) wo fun v27 wp =>
  Cf Tryd.prog n_unicode_utf8_DecodeRuneInString #[v27] wp fun v28 wq =>
  Vl Tryd.prog (Instr.extract v28 0) wq fun v29 wr =>
  Vl Tryd.prog (Instr.extract v28 1) wr fun v30 ws =>
  Cf Tryd.prog n_unicode_IsSpace #[v29] ws fun v32 wt =>
  J [v30, v32] ds wt)
  (J [(Value.int IntKind.i64 1), v21] ds wn)) ∧
  ∀ (ga : Nat → Value) (dsa : List Deferred) (wm : World), J [ga 5, ga 7] dsa wm →
  ∃ Ja : List Value → List Deferred → World → Prop, (Cond (ga 7)
  (Vl Tryd.prog (binop BinOp.geq 3 (Operand.tmp 34) (Operand.const ((Value.int IntKind.i64 0))) (g 3) (Value.int IntKind.i64 0)) wm fun v35 wv =>
  Cond v35
  (Vl Tryd.prog (Instr.loadAt 9 t1) wv fun v37 ww =>
  Vl Tryd.prog (Instr.sliceAt 9 v37 (some (g 3)) (some (g 4)) none) ww fun v40 wx =>
  Cv Tryd.prog t0 #[v40] wx fun v41 wy =>
  Vl Tryd.prog (Op.unary UnOp.not v41) wy fun v42 wz =>
  Cond v42
  (Lv dsa wz fun wz27 => K (Value.tuple #[]) wz27)
  (Ja [(Value.int IntKind.i64 (-1))] dsa wz))
  (Ja [(g 3)] dsa wv))
  (Vl Tryd.prog (binop BinOp.lss 3 (Operand.tmp 43) (Operand.const ((Value.int IntKind.i64 0))) (g 3) (Value.int IntKind.i64 0)) wm fun v44 wz28 =>
  Cond v44
  (Ja [(g 4)] dsa wz28)
  (Ja [(g 3)] dsa wz28))) ∧
  ∀ (gb : Nat → Value) (dsb : List Deferred) (wu : World), Ja [gb 3] dsb wu →
  Vl Tryd.prog (binop BinOp.add 3 (Operand.tmp 46) (Operand.tmp 47) (g 4) (ga 5)) wu fun v48 wz29 =>
  I [(gb 3), v48] dsb wz29 ∧ μ [(gb 3), v48] wz29 < μ [g 3, g 4] wa)
  (Vl Tryd.prog (binop BinOp.geq 3 (Operand.tmp 49) (Operand.const ((Value.int IntKind.i64 0))) (g 3) (Value.int IntKind.i64 0)) wd fun v50 wz30 =>
  Cond v50
  (Vl Tryd.prog (Instr.loadAt 9 t1) wz30 fun v52 wz31 =>
  Vl Tryd.prog (Instr.sliceAt 9 v52 (some (g 3)) none none) wz31 fun v54 wz32 =>
  Cv Tryd.prog t0 #[v54] wz32 fun v55 wz33 =>
  Lv ds wz33 fun wz34 => K (Value.tuple #[]) wz34)
  (Lv ds wz30 fun wz35 => K (Value.tuple #[]) wz35)))
theorem L_strings_FieldsSeq_1 (t0 t1 : Value) (K : Value → World → Prop) (w : World) (h : S_strings_FieldsSeq_1 t0 t1 K w) : Cf Tryd.prog n_strings_FieldsSeq_1 #[t0, t1] w K :=
  callF_of (args := [t0, t1]) (lv := fun k => bif Nat.beq k 2 then [3, 4] else []) (jn := fun k => bif Nat.beq k 9 then some [5, 7] else bif Nat.beq k 15 then some [3] else none) Mx Tryd.func108 rfl Tryd.call108 rfl (by as_aux_lemma => kernel_rfl) (cast (by as_aux_lemma => kernel_rfl) h)

-- "unicode/utf8.DecodeRuneInString"
def S_unicode_utf8_DecodeRuneInString (t0 : Value) (K : Value → World → Prop) (w : World) : Prop :=
  Vl Tryd.prog (binop BinOp.neq 9 (Operand.tmp 4) (Operand.const ((Value.string { data := #[] }))) t0 (Value.string { data := #[] })) w fun v5 wa =>
  Cond v5
  (Vl Tryd.prog (Instr.index 9 t0 (Value.int IntKind.i64 0)) wa fun v8 wb =>
  Vl Tryd.prog (binop BinOp.lss 5 (Operand.tmp 8) (Operand.const ((Value.int IntKind.u8 128))) v8 (Value.int IntKind.u8 128)) wb fun v9 wc =>
  Cond v9
  (Vl Tryd.prog (Instr.index 9 t0 (Value.int IntKind.i64 0)) wc fun v12 wd =>
  Vl Tryd.prog (convert 5 21 v12) wd fun v13 we =>
  K (Value.tuple #[v13, (Value.int IntKind.i64 1)]) we)
  (Cf Tryd.prog n_unicode_utf8_decodeRuneInStringSlow #[t0] wc fun v16 wf =>
  Vl Tryd.prog (Instr.extract v16 0) wf fun v17 wg =>
  Vl Tryd.prog (Instr.extract v16 1) wg fun v18 wh =>
  K (Value.tuple #[v17, v18]) wh))
  (Cf Tryd.prog n_unicode_utf8_decodeRuneInStringSlow #[t0] wa fun v16a wi =>
  Vl Tryd.prog (Instr.extract v16a 0) wi fun v17a wj =>
  Vl Tryd.prog (Instr.extract v16a 1) wj fun v18a wk =>
  K (Value.tuple #[v17a, v18a]) wk)
theorem L_unicode_utf8_DecodeRuneInString (t0 : Value) (K : Value → World → Prop) (w : World) (h : S_unicode_utf8_DecodeRuneInString t0 K w) : Cf Tryd.prog n_unicode_utf8_DecodeRuneInString #[t0] w K :=
  callF_of (args := [t0]) (lv := fun _ => []) (jn := fun _ => none) Mx Tryd.func109 rfl Tryd.call109 rfl (by as_aux_lemma => kernel_rfl) (cast (by as_aux_lemma => kernel_rfl) h)

-- "unicode.IsSpace"
def S_unicode_IsSpace (t0 : Value) (K : Value → World → Prop) (w : World) : Prop :=
  Vl Tryd.prog (convert 21 146 t0) w fun v4 wa =>
  Vl Tryd.prog (binop BinOp.leq 146 (Operand.tmp 4) (Operand.const ((Value.int IntKind.u32 255))) v4 (Value.int IntKind.u32 255)) wa fun v5 wb =>
  Cond v5
  (Vl Tryd.prog (binop BinOp.eql 21 (Operand.tmp 6) (Operand.const ((Value.int IntKind.i32 9))) t0 (Value.int IntKind.i32 9)) wb fun v8 wc =>
  Cond v8
  (Cond v8
  (K (Value.bool true) wc)
  (K (Value.bool false) wc))
  (Vl Tryd.prog (binop BinOp.eql 21 (Operand.tmp 6) (Operand.const ((Value.int IntKind.i32 10))) t0 (Value.int IntKind.i32 10)) wc fun v9 wd =>
  Cond v9
  (Cond v9
  (K (Value.bool true) wd)
  (K (Value.bool false) wd))
  (Vl Tryd.prog (binop BinOp.eql 21 (Operand.tmp 6) (Operand.const ((Value.int IntKind.i32 11))) t0 (Value.int IntKind.i32 11)) wd fun v10 we =>
  Cond v10
  (Cond v10
  (K (Value.bool true) we)
  (K (Value.bool false) we))
  (Vl Tryd.prog (binop BinOp.eql 21 (Operand.tmp 6) (Operand.const ((Value.int IntKind.i32 12))) t0 (Value.int IntKind.i32 12)) we fun v11 wf =>
  Cond v11
  (Cond v11
  (K (Value.bool true) wf)
  (K (Value.bool false) wf))
  (Vl Tryd.prog (binop BinOp.eql 21 (Operand.tmp 6) (Operand.const ((Value.int IntKind.i32 13))) t0 (Value.int IntKind.i32 13)) wf fun v12 wg =>
  Cond v12
  (Cond v12
  (K (Value.bool true) wg)
  (K (Value.bool false) wg))
  (Vl Tryd.prog (binop BinOp.eql 21 (Operand.tmp 6) (Operand.const ((Value.int IntKind.i32 32))) t0 (Value.int IntKind.i32 32)) wg fun v13 wh =>
  Cond v13
  (Cond v13
  (K (Value.bool true) wh)
  (K (Value.bool false) wh))
  (Vl Tryd.prog (binop BinOp.eql 21 (Operand.tmp 6) (Operand.const ((Value.int IntKind.i32 133))) t0 (Value.int IntKind.i32 133)) wh fun v14 wi =>
  Cond v14
  (Cond v14
  (K (Value.bool true) wi)
  (K (Value.bool false) wi))
  (Vl Tryd.prog (binop BinOp.eql 21 (Operand.tmp 6) (Operand.const ((Value.int IntKind.i32 160))) t0 (Value.int IntKind.i32 160)) wi fun v15 wj =>
  Cond v15
  (K (Value.bool true) wj)
  (K (Value.bool false) wj)))))))))
  (Vl Tryd.prog (Instr.loadAt 148 (Value.pointer (some ⟨1, 0, none⟩))) wb fun v16 wk =>
  Cf Tryd.prog n_unicode_isExcludingLatin #[v16, t0] wk fun v18 wl =>
  K v18 wl)
theorem L_unicode_IsSpace (t0 : Value) (K : Value → World → Prop) (w : World) (h : S_unicode_IsSpace t0 K w) : Cf Tryd.prog n_unicode_IsSpace #[t0] w K :=
  callF_of (args := [t0]) (lv := fun _ => []) (jn := fun _ => none) Mx Tryd.func110 rfl Tryd.call110 rfl (by as_aux_lemma => kernel_rfl) (cast (by as_aux_lemma => kernel_rfl) h)

-- "decanter/attr.find$1"
def S_attr_find_1 (t0 t1 : Value) (K : Value → World → Prop) (w : World) : Prop :=
  Vl Tryd.prog (Instr.box 103 t0) w fun v2 wa =>
  Vl Tryd.prog (Instr.fieldAt 103 v2 0) wa fun v4 wb =>
  Vl Tryd.prog (Instr.loadAt 9 v4) wb fun v5 wc =>
  Vl Tryd.prog (Instr.loadAt 9 t1) wc fun v6 wd =>
  Vl Tryd.prog (binop BinOp.eql 9 (Operand.tmp 5) (Operand.tmp 6) v5 v6) wd fun v7 we =>
  K v7 we
theorem L_attr_find_1 (t0 t1 : Value) (K : Value → World → Prop) (w : World) (h : S_attr_find_1 t0 t1 K w) : Cf Tryd.prog n_attr_find_1 #[t0, t1] w K :=
  callF_of (args := [t0, t1]) (lv := fun _ => []) (jn := fun _ => none) Mx Tryd.func111 rfl Tryd.call111 rfl (by as_aux_lemma => kernel_rfl) (cast (by as_aux_lemma => kernel_rfl) h)

-- "unicode/utf8.decodeRuneInStringSlow"
def S_unicode_utf8_decodeRuneInStringSlow (t0 : Value) (K : Value → World → Prop) (w : World) : Prop :=
  Vl Tryd.prog (Builtin.len_ #[9] 3 #[t0]) w fun v14 wa =>
  Vl Tryd.prog (binop BinOp.lss 3 (Operand.tmp 15) (Operand.const ((Value.int IntKind.i64 1))) v14 (Value.int IntKind.i64 1)) wa fun v16 wb =>
  Cond v16
  (K (Value.tuple #[(Value.int IntKind.i32 65533), (Value.int IntKind.i64 0)]) wb)
  (Vl Tryd.prog (Instr.index 9 t0 (Value.int IntKind.i64 0)) wb fun v18 wc =>
  Vl Tryd.prog (Instr.indexAt 142 (Value.pointer (some ⟨2, 0, none⟩)) v18) wc fun v20 wd =>
  Vl Tryd.prog (Instr.loadAt 5 v20) wd fun v21 we =>
  Vl Tryd.prog (binop BinOp.geq 5 (Operand.tmp 22) (Operand.const ((Value.int IntKind.u8 240))) v21 (Value.int IntKind.u8 240)) we fun v23 wf =>
  Cond v23
  (Vl Tryd.prog (convert 5 21 v21) wf fun v25 wg =>
  Vl Tryd.prog (binop BinOp.shl 21 (Operand.tmp 25) (Operand.const ((Value.int IntKind.u64 31))) v25 (Value.int IntKind.u64 31)) wg fun v26 wh =>
  Vl Tryd.prog (binop BinOp.shr 21 (Operand.tmp 26) (Operand.const ((Value.int IntKind.u64 31))) v26 (Value.int IntKind.u64 31)) wh fun v27 wi =>
  Vl Tryd.prog (Instr.index 9 t0 (Value.int IntKind.i64 0)) wi fun v29 wj =>
  Vl Tryd.prog (convert 5 21 v29) wj fun v30 wk =>
  Vl Tryd.prog (binop BinOp.andNot 21 (Operand.tmp 30) (Operand.tmp 31) v30 v27) wk fun v32 wl =>
  Vl Tryd.prog (binop BinOp.and 21 (Operand.const ((Value.int IntKind.i32 65533))) (Operand.tmp 33) (Value.int IntKind.i32 65533) v27) wl fun v34 wm =>
  Vl Tryd.prog (binop BinOp.or 21 (Operand.tmp 32) (Operand.tmp 34) v32 v34) wm fun v35 wn =>
  K (Value.tuple #[v35, (Value.int IntKind.i64 1)]) wn)
  (Vl Tryd.prog (binop BinOp.and 5 (Operand.tmp 36) (Operand.const ((Value.int IntKind.u8 7))) v21 (Value.int IntKind.u8 7)) wf fun v37 wo =>
  Vl Tryd.prog (convert 5 3 v37) wo fun v38 wp =>
  Vl Tryd.prog (binop BinOp.shr 5 (Operand.tmp 39) (Operand.const ((Value.int IntKind.u64 4))) v21 (Value.int IntKind.u64 4)) wp fun v40 wq =>
  Vl Tryd.prog (Instr.indexAt 152 (Value.pointer (some ⟨3, 0, none⟩)) v40) wq fun v41 wr =>
  Vl Tryd.prog (Instr.loadAt 151 v41) wr fun v42 ws =>
  Vl Tryd.prog (Instr.alloc 151 true (.tuple #[])) ws fun v9 wt =>
  Ef Tryd.prog (Instr.storeAt 151 v9 v42) wt fun wu =>
  Vl Tryd.prog (binop BinOp.lss 3 (Operand.tmp 43) (Operand.tmp 44) v14 v38) wu fun v45 wv =>
  Cond v45
  (K (Value.tuple #[(Value.int IntKind.i32 65533), (Value.int IntKind.i64 1)]) wv)
  (Vl Tryd.prog (Instr.index 9 t0 (Value.int IntKind.i64 1)) wv fun v47 ww =>
  Vl Tryd.prog (Instr.fieldAt 151 v9 0) ww fun v49 wx =>
  Vl Tryd.prog (Instr.loadAt 5 v49) wx fun v50 wy =>
  Vl Tryd.prog (binop BinOp.lss 5 (Operand.tmp 48) (Operand.tmp 50) v47 v50) wy fun v51 wz =>
  Cond v51
  (K (Value.tuple #[(Value.int IntKind.i32 65533), (Value.int IntKind.i64 1)]) wz)
  (Vl Tryd.prog (Instr.fieldAt 151 v9 1) wz fun v53 wz27 =>
  Vl Tryd.prog (Instr.loadAt 5 v53) wz27 fun v54 wz28 =>
  Vl Tryd.prog (binop BinOp.lss 5 (Operand.tmp 54) (Operand.tmp 55) v54 v47) wz28 fun v56 wz29 =>
  Cond v56
  (K (Value.tuple #[(Value.int IntKind.i32 65533), (Value.int IntKind.i64 1)]) wz29)
  (Vl Tryd.prog (binop BinOp.leq 3 (Operand.tmp 58) (Operand.const ((Value.int IntKind.i64 2))) v38 (Value.int IntKind.i64 2)) wz29 fun v59 wz30 =>
  Cond v59
  (Vl Tryd.prog (binop BinOp.and 5 (Operand.tmp 60) (Operand.const ((Value.int IntKind.u8 31))) v18 (Value.int IntKind.u8 31)) wz30 fun v61 wz31 =>
  Vl Tryd.prog (convert 5 21 v61) wz31 fun v62 wz32 =>
  Vl Tryd.prog (binop BinOp.shl 21 (Operand.tmp 62) (Operand.const ((Value.int IntKind.u64 6))) v62 (Value.int IntKind.u64 6)) wz32 fun v63 wz33 =>
  Vl Tryd.prog (binop BinOp.and 5 (Operand.tmp 64) (Operand.const ((Value.int IntKind.u8 63))) v47 (Value.int IntKind.u8 63)) wz33 fun v65 wz34 =>
  Vl Tryd.prog (convert 5 21 v65) wz34 fun v66 wz35 =>
  Vl Tryd.prog (binop BinOp.or 21 (Operand.tmp 63) (Operand.tmp 66) v63 v66) wz35 fun v67 wz36 =>
  K (Value.tuple #[v67, (Value.int IntKind.i64 2)]) wz36)
  (Vl Tryd.prog (Instr.index 9 t0 (Value.int IntKind.i64 2)) wz30 fun v69 wz37 =>
  Vl Tryd.prog (binop BinOp.lss 5 (Operand.tmp 70) (Operand.const ((Value.int IntKind.u8 128))) v69 (Value.int IntKind.u8 128)) wz37 fun v71 wz38 =>
  Cond v71
  (K (Value.tuple #[(Value.int IntKind.i32 65533), (Value.int IntKind.i64 1)]) wz38)
  (Vl Tryd.prog (binop BinOp.lss 5 (Operand.const ((Value.int IntKind.u8 191))) (Operand.tmp 73) (Value.int IntKind.u8 191) v69) wz38 fun v74 wz39 =>
  Cond v74
  (K (Value.tuple #[(Value.int IntKind.i32 65533), (Value.int IntKind.i64 1)]) wz39)
  (Vl Tryd.prog (binop BinOp.leq 3 (Operand.tmp 76) (Operand.const ((Value.int IntKind.i64 3))) v38 (Value.int IntKind.i64 3)) wz39 fun v77 wz40 =>
  Cond v77
  (Vl Tryd.prog (binop BinOp.and 5 (Operand.tmp 78) (Operand.const ((Value.int IntKind.u8 15))) v18 (Value.int IntKind.u8 15)) wz40 fun v79 wz41 =>
  Vl Tryd.prog (convert 5 21 v79) wz41 fun v80 wz42 =>
  Vl Tryd.prog (binop BinOp.shl 21 (Operand.tmp 80) (Operand.const ((Value.int IntKind.u64 12))) v80 (Value.int IntKind.u64 12)) wz42 fun v81 wz43 =>
  Vl Tryd.prog (binop BinOp.and 5 (Operand.tmp 82) (Operand.const ((Value.int IntKind.u8 63))) v47 (Value.int IntKind.u8 63)) wz43 fun v83 wz44 =>
  Vl Tryd.prog (convert 5 21 v83) wz44 fun v84 wz45 =>
  Vl Tryd.prog (binop BinOp.shl 21 (Operand.tmp 84) (Operand.const ((Value.int IntKind.u64 6))) v84 (Value.int IntKind.u64 6)) wz45 fun v85 wz46 =>
  Vl Tryd.prog (binop BinOp.or 21 (Operand.tmp 81) (Operand.tmp 85) v81 v85) wz46 fun v86 wz47 =>
  Vl Tryd.prog (binop BinOp.and 5 (Operand.tmp 87) (Operand.const ((Value.int IntKind.u8 63))) v69 (Value.int IntKind.u8 63)) wz47 fun v88 wz48 =>
  Vl Tryd.prog (convert 5 21 v88) wz48 fun v89 wz49 =>
  Vl Tryd.prog (binop BinOp.or 21 (Operand.tmp 86) (Operand.tmp 89) v86 v89) wz49 fun v90 wz50 =>
  K (Value.tuple #[v90, (Value.int IntKind.i64 3)]) wz50)
  (Vl Tryd.prog (Instr.index 9 t0 (Value.int IntKind.i64 3)) wz40 fun v92 wz51 =>
  Vl Tryd.prog (binop BinOp.lss 5 (Operand.tmp 93) (Operand.const ((Value.int IntKind.u8 128))) v92 (Value.int IntKind.u8 128)) wz51 fun v94 wz52 =>
  Cond v94
  (K (Value.tuple #[(Value.int IntKind.i32 65533), (Value.int IntKind.i64 1)]) wz52)
  (Vl Tryd.prog (binop BinOp.lss 5 (Operand.const ((Value.int IntKind.u8 191))) (Operand.tmp 96) (Value.int IntKind.u8 191) v92) wz52 fun v97 wz53 =>
  Cond v97
  (K (Value.tuple #[(Value.int IntKind.i32 65533), (Value.int IntKind.i64 1)]) wz53)
  (Vl Tryd.prog (binop BinOp.and 5 (Operand.tmp 99) (Operand.const ((Value.int IntKind.u8 7))) v18 (Value.int IntKind.u8 7)) wz53 fun v100 wz54 =>
  Vl Tryd.prog (convert 5 21 v100) wz54 fun v101 wz55 =>
  Vl Tryd.prog (binop BinOp.shl 21 (Operand.tmp 101) (Operand.const ((Value.int IntKind.u64 18))) v101 (Value.int IntKind.u64 18)) wz55 fun v102 wz56 =>
  Vl Tryd.prog (binop BinOp.and 5 (Operand.tmp 103) (Operand.const ((Value.int IntKind.u8 63))) v47 (Value.int IntKind.u8 63)) wz56 fun v104 wz57 =>
  Vl Tryd.prog (convert 5 21 v104) wz57 fun v105 wz58 =>
  Vl Tryd.prog (binop BinOp.shl 21 (Operand.tmp 105) (Operand.const ((Value.int IntKind.u64 12))) v105 (Value.int IntKind.u64 12)) wz58 fun v106 wz59 =>
  Vl Tryd.prog (binop BinOp.or 21 (Operand.tmp 102) (Operand.tmp 106) v102 v106) wz59 fun v107 wz60 =>
  Vl Tryd.prog (binop BinOp.and 5 (Operand.tmp 108) (Operand.const ((Value.int IntKind.u8 63))) v69 (Value.int IntKind.u8 63)) wz60 fun v109 wz61 =>
  Vl Tryd.prog (convert 5 21 v109) wz61 fun v110 wz62 =>
  Vl Tryd.prog (binop BinOp.shl 21 (Operand.tmp 110) (Operand.const ((Value.int IntKind.u64 6))) v110 (Value.int IntKind.u64 6)) wz62 fun v111 wz63 =>
  Vl Tryd.prog (binop BinOp.or 21 (Operand.tmp 107) (Operand.tmp 111) v107 v111) wz63 fun v112 wz64 =>
  Vl Tryd.prog (binop BinOp.and 5 (Operand.tmp 113) (Operand.const ((Value.int IntKind.u8 63))) v92 (Value.int IntKind.u8 63)) wz64 fun v114 wz65 =>
  Vl Tryd.prog (convert 5 21 v114) wz65 fun v115 wz66 =>
  Vl Tryd.prog (binop BinOp.or 21 (Operand.tmp 112) (Operand.tmp 115) v112 v115) wz66 fun v116 wz67 =>
  K (Value.tuple #[v116, (Value.int IntKind.i64 4)]) wz67)))))))))))
theorem L_unicode_utf8_decodeRuneInStringSlow (t0 : Value) (K : Value → World → Prop) (w : World) (h : S_unicode_utf8_decodeRuneInStringSlow t0 K w) : Cf Tryd.prog n_unicode_utf8_decodeRuneInStringSlow #[t0] w K :=
  callF_of (args := [t0]) (lv := fun _ => []) (jn := fun _ => none) Mx Tryd.func112 rfl Tryd.call112 rfl (by as_aux_lemma => kernel_rfl) (cast (by as_aux_lemma => kernel_rfl) h)

-- "unicode.isExcludingLatin"
def S_unicode_isExcludingLatin (t0 t1 : Value) (K : Value → World → Prop) (w : World) : Prop :=
  NN t0 ∧
  Vl Tryd.prog (Instr.fieldAt 156 t0 0) w fun v10 wa =>
  Vl Tryd.prog (Instr.loadAt 153 v10) wa fun v11 wb =>
  ∃ J : List Value → List Deferred → World → Prop, (NN t0 ∧
  Vl Tryd.prog (Instr.fieldAt 156 t0 2) wb fun v14 wd =>
  Vl Tryd.prog (Instr.loadAt 3 v14) wd fun v15 we =>
  Vl Tryd.prog (Builtin.len_ #[153] 3 #[v11]) we fun v17 wf =>
  Vl Tryd.prog (binop BinOp.gtr 3 (Operand.tmp 17) (Operand.tmp 18) v17 v15) wf fun v19 wg =>
  Cond v19
  (Vl Tryd.prog (convert 21 146 t1) wg fun v22 wh =>
  Vl Tryd.prog (Builtin.len_ #[153] 3 #[v11]) wh fun v25 wi =>
  Vl Tryd.prog (binop BinOp.sub 3 (Operand.tmp 25) (Operand.const ((Value.int IntKind.i64 1))) v25 (Value.int IntKind.i64 1)) wi fun v26 wj =>
  Vl Tryd.prog (Instr.indexAt 153 v11 v26) wj fun v27 wk =>
  Vl Tryd.prog (Instr.fieldAt 159 v27 1) wk fun v28 wl =>
  Vl Tryd.prog (Instr.loadAt 157 v28) wl fun v29 wm =>
  Vl Tryd.prog (convert 157 146 v29) wm fun v30 wn =>
  Vl Tryd.prog (binop BinOp.leq 146 (Operand.tmp 22) (Operand.tmp 30) v22 v30) wn fun v31 wo =>
  Cond v31
  (Vl Tryd.prog (Instr.sliceAt 153 v11 (some v15) none none) wo fun v35 wp =>
  Vl Tryd.prog (convert 21 157 t1) wp fun v37 wq =>
  Cf Tryd.prog n_unicode_is16 #[v35, v37] wq fun v38 wr =>
  K v38 wr)
  (J [] [] wo))
  (J [] [] wg)) ∧
  ∀ (g : Nat → Value) (ds : List Deferred) (wc : World), J [] ds wc →
  NN t0 ∧
  Vl Tryd.prog (Instr.fieldAt 156 t0 1) wc fun v41 ws =>
  Vl Tryd.prog (Instr.loadAt 154 v41) ws fun v42 wt =>
  Vl Tryd.prog (Builtin.len_ #[154] 3 #[v42]) wt fun v44 wu =>
  Vl Tryd.prog (binop BinOp.gtr 3 (Operand.tmp 44) (Operand.const ((Value.int IntKind.i64 0))) v44 (Value.int IntKind.i64 0)) wu fun v45 wv =>
  Cond v45
  (Vl Tryd.prog (Instr.indexAt 154 v42 (Value.int IntKind.i64 0)) wv fun v49 ww =>
  Vl Tryd.prog (Instr.fieldAt 162 v49 0) ww fun v50 wx =>
  Vl Tryd.prog (Instr.loadAt 146 v50) wx fun v51 wy =>
  Vl Tryd.prog (convert 146 21 v51) wy fun v52 wz =>
  Vl Tryd.prog (binop BinOp.geq 21 (Operand.tmp 47) (Operand.tmp 52) t1 v52) wz fun v53 wz27 =>
  Cond v53
  (Vl Tryd.prog (convert 21 146 t1) wz27 fun v57 wz28 =>
  Cf Tryd.prog n_unicode_is32 #[v42, v57] wz28 fun v58 wz29 =>
  Lv ds wz29 fun wz30 => K v58 wz30)
  (Lv ds wz27 fun wz31 => K (Value.bool false) wz31))
  (Lv ds wv fun wz32 => K (Value.bool false) wz32)
theorem L_unicode_isExcludingLatin (t0 t1 : Value) (K : Value → World → Prop) (w : World) (h : S_unicode_isExcludingLatin t0 t1 K w) : Cf Tryd.prog n_unicode_isExcludingLatin #[t0, t1] w K :=
  callF_of (args := [t0, t1]) (lv := fun _ => []) (jn := fun k => bif Nat.beq k 5 then some [] else none) Mx Tryd.func113 rfl Tryd.call113 rfl (by as_aux_lemma => kernel_rfl) (cast (by as_aux_lemma => kernel_rfl) h)

-- "unicode.is16"
def S_unicode_is16 (t0 t1 : Value) (K : Value → World → Prop) (w : World) : Prop :=
  Vl Tryd.prog (Builtin.len_ #[153] 3 #[t0]) w fun v12 wa =>
  Vl Tryd.prog (binop BinOp.leq 3 (Operand.tmp 12) (Operand.const ((Value.int IntKind.i64 18))) v12 (Value.int IntKind.i64 18)) wa fun v13 wb =>
  Cond v13
  (Vl Tryd.prog (Builtin.len_ #[153] 3 #[t0]) wb fun v19 wc =>
  ∃ (I : List Value → List Deferred → World → Prop) (μ : List Value → World → Nat), I [(Value.int IntKind.i64 0)] [] wc ∧
  ∀ (g : Nat → Value) (ds : List Deferred) (wd : World), I [g 20] ds wd →
  (Vl Tryd.prog (binop BinOp.lss 3 (Operand.tmp 20) (Operand.tmp 19) (g 20) v19) wd fun v21 we =>
  Cond v21
  (Vl Tryd.prog (Instr.indexAt 153 t0 (g 20)) we fun v25 wf =>
  NN v25 ∧
  Vl Tryd.prog (Instr.fieldAt 159 v25 0) wf fun v29 wg =>
  Vl Tryd.prog (Instr.loadAt 157 v29) wg fun v30 wh =>
  Vl Tryd.prog (binop BinOp.lss 157 (Operand.tmp 26) (Operand.tmp 30) t1 v30) wh fun v31 wi =>
  Cond v31
  (Lv ds wi fun wj => K (Value.bool false) wj)
  (NN v25 ∧
  Vl Tryd.prog (Instr.fieldAt 159 v25 1) wi fun v35 wk =>
  Vl Tryd.prog (Instr.loadAt 157 v35) wk fun v36 wl =>
  Vl Tryd.prog (binop BinOp.leq 157 (Operand.tmp 32) (Operand.tmp 36) t1 v36) wl fun v37 wm =>
  Cond v37
  (∃ S : World → Prop, S (dr wm) ∧
  NN v25 ∧
  Pv Tryd.prog (Instr.fieldAt 159 v25 2) fun v40 =>
  ValQ Tryd.prog S (Instr.loadAt 157 v40) fun v41 =>
  Pv Tryd.prog (binop BinOp.eql 157 (Operand.tmp 41) (Operand.const ((Value.int IntKind.u16 1))) v41 (Value.int IntKind.u16 1)) fun v42 =>
  Cond v42
  (Lv ds (dr wm) fun wn => K (Value.bool true) wn)
  (NN v25 ∧
  Pv Tryd.prog (Instr.fieldAt 159 v25 0) fun v47 =>
  ValQ Tryd.prog S (Instr.loadAt 157 v47) fun v48 =>
  Pv Tryd.prog (binop BinOp.sub 157 (Operand.tmp 44) (Operand.tmp 48) t1 v48) fun v49 =>
  NN v25 ∧
  Pv Tryd.prog (Instr.fieldAt 159 v25 2) fun v52 =>
  ValQ Tryd.prog S (Instr.loadAt 157 v52) fun v53 =>
  Pv Tryd.prog (binop BinOp.rem 157 (Operand.tmp 49) (Operand.tmp 53) v49 v53) fun v54 =>
  Pv Tryd.prog (binop BinOp.eql 157 (Operand.tmp 54) (Operand.const ((Value.int IntKind.u16 0))) v54 (Value.int IntKind.u16 0)) fun v55 =>
  Lv ds (dr wm) fun wo => K v55 wo))
  (Vl Tryd.prog (binop BinOp.add 3 (Operand.tmp 20) (Operand.const ((Value.int IntKind.i64 1))) (g 20) (Value.int IntKind.i64 1)) wm fun v57 wp =>
  I [v57] ds wp ∧ μ [v57] wp < μ [g 20] wd)))
  (Lv ds we fun wq => K (Value.bool false) wq)))
  (Vl Tryd.prog (binop BinOp.leq 157 (Operand.tmp 15) (Operand.const ((Value.int IntKind.u16 255))) t1 (Value.int IntKind.u16 255)) wb fun v16 wr =>
  Cond v16
  (Vl Tryd.prog (Builtin.len_ #[153] 3 #[t0]) wr fun v19a ws =>
  ∃ (Ia : List Value → List Deferred → World → Prop) (μa : List Value → World → Nat), Ia [(Value.int IntKind.i64 0)] [] ws ∧
  ∀ (ga : Nat → Value) (dsa : List Deferred) (wt : World), Ia [ga 20] dsa wt →
  (Vl Tryd.prog (binop BinOp.lss 3 (Operand.tmp 20) (Operand.tmp 19) (ga 20) v19a) wt fun v21a wu =>
  Cond v21a
  (Vl Tryd.prog (Instr.indexAt 153 t0 (ga 20)) wu fun v25a wv =>
  NN v25a ∧
  Vl Tryd.prog (Instr.fieldAt 159 v25a 0) wv fun v29a ww =>
  Vl Tryd.prog (Instr.loadAt 157 v29a) ww fun v30a wx =>
  Vl Tryd.prog (binop BinOp.lss 157 (Operand.tmp 26) (Operand.tmp 30) t1 v30a) wx fun v31a wy =>
  Cond v31a
  (Lv dsa wy fun wz => K (Value.bool false) wz)
  (NN v25a ∧
  Vl Tryd.prog (Instr.fieldAt 159 v25a 1) wy fun v35a wz27 =>
  Vl Tryd.prog (Instr.loadAt 157 v35a) wz27 fun v36a wz28 =>
  Vl Tryd.prog (binop BinOp.leq 157 (Operand.tmp 32) (Operand.tmp 36) t1 v36a) wz28 fun v37a wz29 =>
  Cond v37a
  (∃ Sa : World → Prop, Sa (dr wz29) ∧
  NN v25a ∧
  Pv Tryd.prog (Instr.fieldAt 159 v25a 2) fun v40a =>
  ValQ Tryd.prog Sa (Instr.loadAt 157 v40a) fun v41a =>
  Pv Tryd.prog (binop BinOp.eql 157 (Operand.tmp 41) (Operand.const ((Value.int IntKind.u16 1))) v41a (Value.int IntKind.u16 1)) fun v42a =>
  Cond v42a
  (Lv dsa (dr wz29) fun wz30 => K (Value.bool true) wz30)
  (NN v25a ∧
  Pv Tryd.prog (Instr.fieldAt 159 v25a 0) fun v47a =>
  ValQ Tryd.prog Sa (Instr.loadAt 157 v47a) fun v48a =>
  Pv Tryd.prog (binop BinOp.sub 157 (Operand.tmp 44) (Operand.tmp 48) t1 v48a) fun v49a =>
  NN v25a ∧
  Pv Tryd.prog (Instr.fieldAt 159 v25a 2) fun v52a =>
  ValQ Tryd.prog Sa (Instr.loadAt 157 v52a) fun v53a =>
  Pv Tryd.prog (binop BinOp.rem 157 (Operand.tmp 49) (Operand.tmp 53) v49a v53a) fun v54a =>
  Pv Tryd.prog (binop BinOp.eql 157 (Operand.tmp 54) (Operand.const ((Value.int IntKind.u16 0))) v54a (Value.int IntKind.u16 0)) fun v55a =>
  Lv dsa (dr wz29) fun wz31 => K v55a wz31))
  (Vl Tryd.prog (binop BinOp.add 3 (Operand.tmp 20) (Operand.const ((Value.int IntKind.i64 1))) (ga 20) (Value.int IntKind.i64 1)) wz29 fun v57a wz32 =>
  Ia [v57a] dsa wz32 ∧ μa [v57a] wz32 < μa [ga 20] wt)))
  (Lv dsa wu fun wz33 => K (Value.bool false) wz33)))
  (Vl Tryd.prog (Builtin.len_ #[153] 3 #[t0]) wr fun v59 wz34 =>
  ∃ (Ib : List Value → List Deferred → World → Prop) (μb : List Value → World → Nat), Ib [(Value.int IntKind.i64 0), v59] [] wz34 ∧
  ∀ (gb : Nat → Value) (dsb : List Deferred) (wz35 : World), Ib [gb 7, gb 8] dsb wz35 →
  (Vl Tryd.prog (binop BinOp.lss 3 (Operand.tmp 60) (Operand.tmp 61) (gb 7) (gb 8)) wz35 fun v62 wz36 =>
  Cond v62
  (Vl Tryd.prog (binop BinOp.add 3 (Operand.tmp 63) (Operand.tmp 64) (gb 7) (gb 8)) wz36 fun v65 wz37 =>
  Vl Tryd.prog (convert 3 149 v65) wz37 fun v66 wz38 =>
  Vl Tryd.prog (binop BinOp.shr 149 (Operand.tmp 66) (Operand.const ((Value.int IntKind.u64 1))) v66 (Value.int IntKind.u64 1)) wz38 fun v67 wz39 =>
  Vl Tryd.prog (convert 149 3 v67) wz39 fun v68 wz40 =>
  Vl Tryd.prog (Instr.indexAt 153 t0 v68) wz40 fun v71 wz41 =>
  ∃ J : List Value → List Deferred → World → Prop, (NN v71 ∧
  Vl Tryd.prog (Instr.fieldAt 159 v71 0) wz41 fun v74 wz43 =>
  Vl Tryd.prog (Instr.loadAt 157 v74) wz43 fun v75 wz44 =>
  Vl Tryd.prog (binop BinOp.leq 157 (Operand.tmp 75) (Operand.tmp 76) v75 t1) wz44 fun v77 wz45 =>
  Cond v77
  (NN v71 ∧
  Vl Tryd.prog (Instr.fieldAt 159 v71 1) wz45 fun v82 wz46 =>
  Vl Tryd.prog (Instr.loadAt 157 v82) wz46 fun v83 wz47 =>
  Vl Tryd.prog (binop BinOp.leq 157 (Operand.tmp 79) (Operand.tmp 83) t1 v83) wz47 fun v84 wz48 =>
  Cond v84
  (∃ Sb : World → Prop, Sb (dr wz48) ∧
  NN v71 ∧
  Pv Tryd.prog (Instr.fieldAt 159 v71 2) fun v88 =>
  ValQ Tryd.prog Sb (Instr.loadAt 157 v88) fun v89 =>
  Pv Tryd.prog (binop BinOp.eql 157 (Operand.tmp 89) (Operand.const ((Value.int IntKind.u16 1))) v89 (Value.int IntKind.u16 1)) fun v90 =>
  Cond v90
  (Lv dsb (dr wz48) fun wz49 => K (Value.bool true) wz49)
  (NN v71 ∧
  Pv Tryd.prog (Instr.fieldAt 159 v71 0) fun v95 =>
  ValQ Tryd.prog Sb (Instr.loadAt 157 v95) fun v96 =>
  Pv Tryd.prog (binop BinOp.sub 157 (Operand.tmp 92) (Operand.tmp 96) t1 v96) fun v97 =>
  NN v71 ∧
  Pv Tryd.prog (Instr.fieldAt 159 v71 2) fun v100 =>
  ValQ Tryd.prog Sb (Instr.loadAt 157 v100) fun v101 =>
  Pv Tryd.prog (binop BinOp.rem 157 (Operand.tmp 97) (Operand.tmp 101) v97 v101) fun v102 =>
  Pv Tryd.prog (binop BinOp.eql 157 (Operand.tmp 102) (Operand.const ((Value.int IntKind.u16 0))) v102 (Value.int IntKind.u16 0)) fun v103 =>
  Lv dsb (dr wz48) fun wz50 => K v103 wz50))
  (J [] dsb wz48))
  (J [] dsb wz45)) ∧
  ∀ (gc : Nat → Value) (dsc : List Deferred) (wz42 : World), J [] dsc wz42 →
  NN v71 ∧
  Vl Tryd.prog (Instr.fieldAt 159 v71 0) wz42 fun v108 wz51 =>
  Vl Tryd.prog (Instr.loadAt 157 v108) wz51 fun v109 wz52 =>
  Vl Tryd.prog (binop BinOp.lss 157 (Operand.tmp 105) (Operand.tmp 109) t1 v109) wz52 fun v110 wz53 =>
  Cond v110
  (Ib [(gb 7), v68] dsc wz53 ∧ μb [(gb 7), v68] wz53 < μb [gb 7, gb 8] wz35)
  (Vl Tryd.prog (binop BinOp.add 3 (Operand.tmp 112) (Operand.const ((Value.int IntKind.i64 1))) v68 (Value.int IntKind.i64 1)) wz53 fun v113 wz54 =>
  Ib [v113, (gb 8)] dsc wz54 ∧ μb [v113, (gb 8)] wz54 < μb [gb 7, gb 8] wz35))
  (Lv dsb wz36 fun wz55 => K (Value.bool false) wz55))))
theorem L_unicode_is16 (t0 t1 : Value) (K : Value → World → Prop) (w : World) (h : S_unicode_is16 t0 t1 K w) : Cf Tryd.prog n_unicode_is16 #[t0, t1] w K :=
  callF_of (args := [t0, t1]) (lv := fun k => bif Nat.beq k 3 then [20] else bif Nat.beq k 14 then [7, 8] else []) (jn := fun k => bif Nat.beq k 19 then some [] else none) Mx Tryd.func114 rfl Tryd.call114 rfl (by as_aux_lemma => kernel_rfl) (cast (by as_aux_lemma => kernel_rfl) h)

-- "unicode.is32"
def S_unicode_is32 (t0 t1 : Value) (K : Value → World → Prop) (w : World) : Prop :=
  Vl Tryd.prog (Builtin.len_ #[154] 3 #[t0]) w fun v12 wa =>
  Vl Tryd.prog (binop BinOp.leq 3 (Operand.tmp 12) (Operand.const ((Value.int IntKind.i64 18))) v12 (Value.int IntKind.i64 18)) wa fun v13 wb =>
  Cond v13
  (Vl Tryd.prog (Builtin.len_ #[154] 3 #[t0]) wb fun v15 wc =>
  ∃ (I : List Value → List Deferred → World → Prop) (μ : List Value → World → Nat), I [(Value.int IntKind.i64 0)] [] wc ∧
  ∀ (g : Nat → Value) (ds : List Deferred) (wd : World), I [g 16] ds wd →
  (Vl Tryd.prog (binop BinOp.lss 3 (Operand.tmp 16) (Operand.tmp 15) (g 16) v15) wd fun v17 we =>
  Cond v17
  (Vl Tryd.prog (Instr.indexAt 154 t0 (g 16)) we fun v21 wf =>
  NN v21 ∧
  Vl Tryd.prog (Instr.fieldAt 162 v21 0) wf fun v25 wg =>
  Vl Tryd.prog (Instr.loadAt 146 v25) wg fun v26 wh =>
  Vl Tryd.prog (binop BinOp.lss 146 (Operand.tmp 22) (Operand.tmp 26) t1 v26) wh fun v27 wi =>
  Cond v27
  (Lv ds wi fun wj => K (Value.bool false) wj)
  (NN v21 ∧
  Vl Tryd.prog (Instr.fieldAt 162 v21 1) wi fun v31 wk =>
  Vl Tryd.prog (Instr.loadAt 146 v31) wk fun v32 wl =>
  Vl Tryd.prog (binop BinOp.leq 146 (Operand.tmp 28) (Operand.tmp 32) t1 v32) wl fun v33 wm =>
  Cond v33
  (∃ S : World → Prop, S (dr wm) ∧
  NN v21 ∧
  Pv Tryd.prog (Instr.fieldAt 162 v21 2) fun v36 =>
  ValQ Tryd.prog S (Instr.loadAt 146 v36) fun v37 =>
  Pv Tryd.prog (binop BinOp.eql 146 (Operand.tmp 37) (Operand.const ((Value.int IntKind.u32 1))) v37 (Value.int IntKind.u32 1)) fun v38 =>
  Cond v38
  (Lv ds (dr wm) fun wn => K (Value.bool true) wn)
  (NN v21 ∧
  Pv Tryd.prog (Instr.fieldAt 162 v21 0) fun v43 =>
  ValQ Tryd.prog S (Instr.loadAt 146 v43) fun v44 =>
  Pv Tryd.prog (binop BinOp.sub 146 (Operand.tmp 40) (Operand.tmp 44) t1 v44) fun v45 =>
  NN v21 ∧
  Pv Tryd.prog (Instr.fieldAt 162 v21 2) fun v48 =>
  ValQ Tryd.prog S (Instr.loadAt 146 v48) fun v49 =>
  Pv Tryd.prog (binop BinOp.rem 146 (Operand.tmp 45) (Operand.tmp 49) v45 v49) fun v50 =>
  Pv Tryd.prog (binop BinOp.eql 146 (Operand.tmp 50) (Operand.const ((Value.int IntKind.u32 0))) v50 (Value.int IntKind.u32 0)) fun v51 =>
  Lv ds (dr wm) fun wo => K v51 wo))
  (Vl Tryd.prog (binop BinOp.add 3 (Operand.tmp 16) (Operand.const ((Value.int IntKind.i64 1))) (g 16) (Value.int IntKind.i64 1)) wm fun v53 wp =>
  I [v53] ds wp ∧ μ [v53] wp < μ [g 16] wd)))
  (Lv ds we fun wq => K (Value.bool false) wq)))
  (Vl Tryd.prog (Builtin.len_ #[154] 3 #[t0]) wb fun v55 wr =>
  ∃ (Ia : List Value → List Deferred → World → Prop) (μa : List Value → World → Nat), Ia [(Value.int IntKind.i64 0), v55] [] wr ∧
  ∀ (ga : Nat → Value) (dsa : List Deferred) (ws : World), Ia [ga 7, ga 8] dsa ws →
  (Vl Tryd.prog (binop BinOp.lss 3 (Operand.tmp 56) (Operand.tmp 57) (ga 7) (ga 8)) ws fun v58 wt =>
  Cond v58
  (Vl Tryd.prog (binop BinOp.add 3 (Operand.tmp 59) (Operand.tmp 60) (ga 7) (ga 8)) wt fun v61 wu =>
  Vl Tryd.prog (convert 3 149 v61) wu fun v62 wv =>
  Vl Tryd.prog (binop BinOp.shr 149 (Operand.tmp 62) (Operand.const ((Value.int IntKind.u64 1))) v62 (Value.int IntKind.u64 1)) wv fun v63 ww =>
  Vl Tryd.prog (convert 149 3 v63) ww fun v64 wx =>
  Vl Tryd.prog (Instr.indexAt 154 t0 v64) wx fun v67 wy =>
  Vl Tryd.prog (Instr.loadAt 162 v67) wy fun v68 wz =>
  Vl Tryd.prog (Instr.alloc 162 true (.tuple #[])) wz fun v10 wz27 =>
  Ef Tryd.prog (Instr.storeAt 162 v10 v68) wz27 fun wz28 =>
  ∃ J : List Value → List Deferred → World → Prop, (Vl Tryd.prog (Instr.fieldAt 162 v10 0) wz28 fun v69 wz30 =>
  Vl Tryd.prog (Instr.loadAt 146 v69) wz30 fun v70 wz31 =>
  Vl Tryd.prog (binop BinOp.leq 146 (Operand.tmp 70) (Operand.tmp 71) v70 t1) wz31 fun v72 wz32 =>
  Cond v72
  (Vl Tryd.prog (Instr.fieldAt 162 v10 1) wz32 fun v75 wz33 =>
  Vl Tryd.prog (Instr.loadAt 146 v75) wz33 fun v76 wz34 =>
  Vl Tryd.prog (binop BinOp.leq 146 (Operand.tmp 74) (Operand.tmp 76) t1 v76) wz34 fun v77 wz35 =>
  Cond v77
  (Vl Tryd.prog (Instr.fieldAt 162 v10 2) wz35 fun v79 wz36 =>
  Vl Tryd.prog (Instr.loadAt 146 v79) wz36 fun v80 wz37 =>
  Vl Tryd.prog (binop BinOp.eql 146 (Operand.tmp 80) (Operand.const ((Value.int IntKind.u32 1))) v80 (Value.int IntKind.u32 1)) wz37 fun v81 wz38 =>
  Cond v81
  (Lv dsa wz38 fun wz39 => K (Value.bool true) wz39)
  (Vl Tryd.prog (Instr.fieldAt 162 v10 0) wz38 fun v84 wz40 =>
  Vl Tryd.prog (Instr.loadAt 146 v84) wz40 fun v85 wz41 =>
  Vl Tryd.prog (binop BinOp.sub 146 (Operand.tmp 83) (Operand.tmp 85) t1 v85) wz41 fun v86 wz42 =>
  Vl Tryd.prog (Instr.fieldAt 162 v10 2) wz42 fun v87 wz43 =>
  Vl Tryd.prog (Instr.loadAt 146 v87) wz43 fun v88 wz44 =>
  Vl Tryd.prog (binop BinOp.rem 146 (Operand.tmp 86) (Operand.tmp 88) v86 v88) wz44 fun v89 wz45 =>
  Vl Tryd.prog (binop BinOp.eql 146 (Operand.tmp 89) (Operand.const ((Value.int IntKind.u32 0))) v89 (Value.int IntKind.u32 0)) wz45 fun v90 wz46 =>
  Lv dsa wz46 fun wz47 => K v90 wz47))
  (J [] dsa wz35))
  (J [] dsa wz32)) ∧
  ∀ (gb : Nat → Value) (dsb : List Deferred) (wz29 : World), J [] dsb wz29 →
  Vl Tryd.prog (Instr.fieldAt 162 v10 0) wz29 fun v93 wz48 =>
  Vl Tryd.prog (Instr.loadAt 146 v93) wz48 fun v94 wz49 =>
  Vl Tryd.prog (binop BinOp.lss 146 (Operand.tmp 92) (Operand.tmp 94) t1 v94) wz49 fun v95 wz50 =>
  Cond v95
  (Ia [(ga 7), v64] dsb wz50 ∧ μa [(ga 7), v64] wz50 < μa [ga 7, ga 8] ws)
  (Vl Tryd.prog (binop BinOp.add 3 (Operand.tmp 97) (Operand.const ((Value.int IntKind.i64 1))) v64 (Value.int IntKind.i64 1)) wz50 fun v98 wz51 =>
  Ia [v98, (ga 8)] dsb wz51 ∧ μa [v98, (ga 8)] wz51 < μa [ga 7, ga 8] ws))
  (Lv dsa wt fun wz52 => K (Value.bool false) wz52)))
theorem L_unicode_is32 (t0 t1 : Value) (K : Value → World → Prop) (w : World) (h : S_unicode_is32 t0 t1 K w) : Cf Tryd.prog n_unicode_is32 #[t0, t1] w K :=
  callF_of (args := [t0, t1]) (lv := fun k => bif Nat.beq k 3 then [16] else bif Nat.beq k 14 then [7, 8] else []) (jn := fun k => bif Nat.beq k 19 then some [] else none) Mx Tryd.func115 rfl Tryd.call115 rfl (by as_aux_lemma => kernel_rfl) (cast (by as_aux_lemma => kernel_rfl) h)


end Go.Proofs
