/- Part of the proof of a law of this seat: facts that it uses, each proved here. No conditions. -/
import Derived.Test.YtcapooghkabloaaDoorGSh
import Derived.Test.YtcapooghkabloaaDoorGN
namespace Go.Proofs
open Go Go.Eng
set_option linter.unusedVariables false

-- "decanter/decanterlaw15.AdoptPlain"
def S_decanterlaw15_AdoptPlain (t0 t1 : Value) (K : Value → World → Prop) (w : World) : Prop :=
  Cf Tryd.prog n_decanterlaw15_speaks #[] w fun v18 wa =>
  Vl Tryd.prog (Op.unary UnOp.not v18) wa fun v19 wb =>
  Cond v19
  (Cf Tryd.prog n_decanterlaw15_speaks #[] wb fun v30 wc =>
  K v30 wc)
  (Vl Tryd.prog (Builtin.len_ #[71] 3 #[t0]) wb fun v22 wd =>
  Vl Tryd.prog (binop BinOp.gtr 3 (Operand.tmp 22) (Operand.const ((Value.int IntKind.i64 20))) v22 (Value.int IntKind.i64 20)) wd fun v23 we =>
  Cond v23
  (Cf Tryd.prog n_decanterlaw15_speaks #[] we fun v30a wf =>
  K v30a wf)
  (Vl Tryd.prog (Builtin.len_ #[71] 3 #[t1]) we fun v27 wg =>
  Vl Tryd.prog (binop BinOp.gtr 3 (Operand.tmp 27) (Operand.const ((Value.int IntKind.i64 20))) v27 (Value.int IntKind.i64 20)) wg fun v28 wh =>
  Cond v28
  (Cf Tryd.prog n_decanterlaw15_speaks #[] wh fun v30b wi =>
  K v30b wi)
  (Cf Tryd.prog n_arena_New #[] wh fun v31 wj =>
  Vl Tryd.prog (Instr.alloc 47 true (.tuple #[])) wj fun v5 wk =>
  Ef Tryd.prog (Instr.storeAt 47 v5 v31) wk fun wl =>
  Vl Tryd.prog (Instr.loadAt 47 v5) wl fun v32 wm =>
  Vl Tryd.prog (binop BinOp.eql 47 (Operand.tmp 32) (Operand.const ((Value.pointer none))) v32 (Value.pointer none)) wm fun v33 wn =>
  Cond v33
  (K (Value.bool false) wn)
  (∃ J : List Value → List Deferred → World → Prop, (∃ S : World → Prop, S (dr wn) ∧
  ValQ Tryd.prog S (Instr.loadAt 47 v5) fun v34 =>
  ValQ Tryd.prog S (Instr.loadAt 47 v5) fun v36 =>
  (Cf Tryd.prog n_stack_New #[v34] (dr wn) fun v35 wp =>
  ∃ Sa : World → Prop, (∀ x, Sa x → S x) ∧ Sa wp ∧
  (Cf Tryd.prog n_list_New #[v36] wp fun v37 wq =>
  ∃ Sb : World → Prop, Sb wq ∧
  (Vl Tryd.prog (Instr.alloc 25 true (.tuple #[])) wq fun v6 wr =>
  ∃ Sc : World → Prop, (∀ x, Sc x → Sb x) ∧ Sc wr ∧
  Vl Tryd.prog (Instr.alloc 55 true (.tuple #[])) wr fun v7 ws =>
  ∃ Sd : World → Prop, (∀ x, Sd x → Sc x) ∧ Sd ws ∧
  Ef Tryd.prog (Instr.storeAt 25 v6 v35) ws fun wt =>
  ∃ Se : World → Prop, Se wt ∧
  Ef Tryd.prog (Instr.storeAt 55 v7 v37) wt fun wu =>
  ∃ Sf : World → Prop, Sf wu ∧
  J [v6, v7] [] wu) ∧ (Vl Tryd.prog (Instr.alloc 55 true (.tuple #[])) wq fun v7a wv =>
  ∃ Sg : World → Prop, (∀ x, Sg x → Sb x) ∧ Sg wv ∧
  Vl Tryd.prog (Instr.alloc 25 true (.tuple #[])) wv fun v6a ww =>
  ∃ Sh : World → Prop, (∀ x, Sh x → Sg x) ∧ Sh ww ∧
  Ef Tryd.prog (Instr.storeAt 25 v6a v35) ww fun wx =>
  ∃ Si : World → Prop, Si wx ∧
  Ef Tryd.prog (Instr.storeAt 55 v7a v37) wx fun wy =>
  ∃ Sj : World → Prop, Sj wy ∧
  J [v6a, v7a] [] wy) ∧ True) ∧ (Vl Tryd.prog (Instr.alloc 25 true (.tuple #[])) wp fun v6b wz =>
  ∃ Sk : World → Prop, (∀ x, Sk x → Sa x) ∧ Sk wz ∧
  (Cf Tryd.prog n_list_New #[v36] wz fun v37a wz27 =>
  ∃ Sl : World → Prop, Sl wz27 ∧
  Vl Tryd.prog (Instr.alloc 55 true (.tuple #[])) wz27 fun v7b wz28 =>
  ∃ Sm : World → Prop, (∀ x, Sm x → Sl x) ∧ Sm wz28 ∧
  Ef Tryd.prog (Instr.storeAt 25 v6b v35) wz28 fun wz29 =>
  ∃ Sn : World → Prop, Sn wz29 ∧
  Ef Tryd.prog (Instr.storeAt 55 v7b v37a) wz29 fun wz30 =>
  ∃ So : World → Prop, So wz30 ∧
  J [v6b, v7b] [] wz30) ∧ (Vl Tryd.prog (Instr.alloc 55 true (.tuple #[])) wz fun v7c wz31 =>
  ∃ Sp : World → Prop, (∀ x, Sp x → Sk x) ∧ Sp wz31 ∧
  Cf Tryd.prog n_list_New #[v36] wz31 fun v37b wz32 =>
  ∃ Sq : World → Prop, Sq wz32 ∧
  Ef Tryd.prog (Instr.storeAt 25 v6b v35) wz32 fun wz33 =>
  ∃ Sr : World → Prop, Sr wz33 ∧
  Ef Tryd.prog (Instr.storeAt 55 v7c v37b) wz33 fun wz34 =>
  ∃ Ss : World → Prop, Ss wz34 ∧
  J [v6b, v7c] [] wz34) ∧ True) ∧ (Vl Tryd.prog (Instr.alloc 55 true (.tuple #[])) wp fun v7d wz35 =>
  ∃ St : World → Prop, (∀ x, St x → Sa x) ∧ St wz35 ∧
  (Cf Tryd.prog n_list_New #[v36] wz35 fun v37c wz36 =>
  ∃ Su : World → Prop, Su wz36 ∧
  Vl Tryd.prog (Instr.alloc 25 true (.tuple #[])) wz36 fun v6c wz37 =>
  ∃ Sv : World → Prop, (∀ x, Sv x → Su x) ∧ Sv wz37 ∧
  Ef Tryd.prog (Instr.storeAt 25 v6c v35) wz37 fun wz38 =>
  ∃ Sw : World → Prop, Sw wz38 ∧
  Ef Tryd.prog (Instr.storeAt 55 v7d v37c) wz38 fun wz39 =>
  ∃ Sx : World → Prop, Sx wz39 ∧
  J [v6c, v7d] [] wz39) ∧ (Vl Tryd.prog (Instr.alloc 25 true (.tuple #[])) wz35 fun v6d wz40 =>
  ∃ Sy : World → Prop, (∀ x, Sy x → St x) ∧ Sy wz40 ∧
  Cf Tryd.prog n_list_New #[v36] wz40 fun v37d wz41 =>
  ∃ Sz : World → Prop, Sz wz41 ∧
  Ef Tryd.prog (Instr.storeAt 25 v6d v35) wz41 fun wz42 =>
  ∃ Sz27 : World → Prop, Sz27 wz42 ∧
  Ef Tryd.prog (Instr.storeAt 55 v7d v37d) wz42 fun wz43 =>
  ∃ Sz28 : World → Prop, Sz28 wz43 ∧
  J [v6d, v7d] [] wz43) ∧ True) ∧ True) ∧ (Vl Tryd.prog (Instr.alloc 25 true (.tuple #[])) (dr wn) fun v6e wz44 =>
  ∃ Sz29 : World → Prop, (∀ x, Sz29 x → S x) ∧ Sz29 wz44 ∧
  (Cf Tryd.prog n_stack_New #[v34] wz44 fun v35a wz45 =>
  ∃ Sz30 : World → Prop, (∀ x, Sz30 x → Sz29 x) ∧ Sz30 wz45 ∧
  (Cf Tryd.prog n_list_New #[v36] wz45 fun v37e wz46 =>
  ∃ Sz31 : World → Prop, Sz31 wz46 ∧
  Vl Tryd.prog (Instr.alloc 55 true (.tuple #[])) wz46 fun v7e wz47 =>
  ∃ Sz32 : World → Prop, (∀ x, Sz32 x → Sz31 x) ∧ Sz32 wz47 ∧
  Ef Tryd.prog (Instr.storeAt 25 v6e v35a) wz47 fun wz48 =>
  ∃ Sz33 : World → Prop, Sz33 wz48 ∧
  Ef Tryd.prog (Instr.storeAt 55 v7e v37e) wz48 fun wz49 =>
  ∃ Sz34 : World → Prop, Sz34 wz49 ∧
  J [v6e, v7e] [] wz49) ∧ (Vl Tryd.prog (Instr.alloc 55 true (.tuple #[])) wz45 fun v7f wz50 =>
  ∃ Sz35 : World → Prop, (∀ x, Sz35 x → Sz30 x) ∧ Sz35 wz50 ∧
  Cf Tryd.prog n_list_New #[v36] wz50 fun v37f wz51 =>
  ∃ Sz36 : World → Prop, Sz36 wz51 ∧
  Ef Tryd.prog (Instr.storeAt 25 v6e v35a) wz51 fun wz52 =>
  ∃ Sz37 : World → Prop, Sz37 wz52 ∧
  Ef Tryd.prog (Instr.storeAt 55 v7f v37f) wz52 fun wz53 =>
  ∃ Sz38 : World → Prop, Sz38 wz53 ∧
  J [v6e, v7f] [] wz53) ∧ True) ∧ (Vl Tryd.prog (Instr.alloc 55 true (.tuple #[])) wz44 fun v7g wz54 =>
  ∃ Sz39 : World → Prop, (∀ x, Sz39 x → Sz29 x) ∧ Sz39 wz54 ∧
  Cf Tryd.prog n_stack_New #[v34] wz54 fun v35b wz55 =>
  ∃ Sz40 : World → Prop, (∀ x, Sz40 x → Sz39 x) ∧ Sz40 wz55 ∧
  Cf Tryd.prog n_list_New #[v36] wz55 fun v37g wz56 =>
  ∃ Sz41 : World → Prop, Sz41 wz56 ∧
  Ef Tryd.prog (Instr.storeAt 25 v6e v35b) wz56 fun wz57 =>
  ∃ Sz42 : World → Prop, Sz42 wz57 ∧
  Ef Tryd.prog (Instr.storeAt 55 v7g v37g) wz57 fun wz58 =>
  ∃ Sz43 : World → Prop, Sz43 wz58 ∧
  J [v6e, v7g] [] wz58) ∧ True) ∧ (Vl Tryd.prog (Instr.alloc 55 true (.tuple #[])) (dr wn) fun v7h wz59 =>
  ∃ Sz44 : World → Prop, (∀ x, Sz44 x → S x) ∧ Sz44 wz59 ∧
  (Cf Tryd.prog n_stack_New #[v34] wz59 fun v35c wz60 =>
  ∃ Sz45 : World → Prop, (∀ x, Sz45 x → Sz44 x) ∧ Sz45 wz60 ∧
  (Cf Tryd.prog n_list_New #[v36] wz60 fun v37h wz61 =>
  ∃ Sz46 : World → Prop, Sz46 wz61 ∧
  Vl Tryd.prog (Instr.alloc 25 true (.tuple #[])) wz61 fun v6f wz62 =>
  ∃ Sz47 : World → Prop, (∀ x, Sz47 x → Sz46 x) ∧ Sz47 wz62 ∧
  Ef Tryd.prog (Instr.storeAt 25 v6f v35c) wz62 fun wz63 =>
  ∃ Sz48 : World → Prop, Sz48 wz63 ∧
  Ef Tryd.prog (Instr.storeAt 55 v7h v37h) wz63 fun wz64 =>
  ∃ Sz49 : World → Prop, Sz49 wz64 ∧
  J [v6f, v7h] [] wz64) ∧ (Vl Tryd.prog (Instr.alloc 25 true (.tuple #[])) wz60 fun v6g wz65 =>
  ∃ Sz50 : World → Prop, (∀ x, Sz50 x → Sz45 x) ∧ Sz50 wz65 ∧
  Cf Tryd.prog n_list_New #[v36] wz65 fun v37i wz66 =>
  ∃ Sz51 : World → Prop, Sz51 wz66 ∧
  Ef Tryd.prog (Instr.storeAt 25 v6g v35c) wz66 fun wz67 =>
  ∃ Sz52 : World → Prop, Sz52 wz67 ∧
  Ef Tryd.prog (Instr.storeAt 55 v7h v37i) wz67 fun wz68 =>
  ∃ Sz53 : World → Prop, Sz53 wz68 ∧
  J [v6g, v7h] [] wz68) ∧ True) ∧ (Vl Tryd.prog (Instr.alloc 25 true (.tuple #[])) wz59 fun v6h wz69 =>
  ∃ Sz54 : World → Prop, (∀ x, Sz54 x → Sz44 x) ∧ Sz54 wz69 ∧
  Cf Tryd.prog n_stack_New #[v34] wz69 fun v35d wz70 =>
  ∃ Sz55 : World → Prop, (∀ x, Sz55 x → Sz54 x) ∧ Sz55 wz70 ∧
  Cf Tryd.prog n_list_New #[v36] wz70 fun v37j wz71 =>
  ∃ Sz56 : World → Prop, Sz56 wz71 ∧
  Ef Tryd.prog (Instr.storeAt 25 v6h v35d) wz71 fun wz72 =>
  ∃ Sz57 : World → Prop, Sz57 wz72 ∧
  Ef Tryd.prog (Instr.storeAt 55 v7h v37j) wz72 fun wz73 =>
  ∃ Sz58 : World → Prop, Sz58 wz73 ∧
  J [v6h, v7h] [] wz73) ∧ True) ∧ True) ∧
  ∀ (g : Nat → Value) (ds : List Deferred) (wo : World), J [g 6, g 7] ds wo →
  Vl Tryd.prog (Instr.loadAt 25 (g 6)) wo fun v38 wz74 =>
  Vl Tryd.prog (binop BinOp.eql 25 (Operand.tmp 38) (Operand.const ((Value.pointer none))) v38 (Value.pointer none)) wz74 fun v39 wz75 =>
  Cond v39
  (Lv ds wz75 fun wz76 => K (Value.bool false) wz76)
  (Vl Tryd.prog (Instr.loadAt 55 (g 7)) wz75 fun v41 wz77 =>
  Vl Tryd.prog (binop BinOp.eql 55 (Operand.tmp 41) (Operand.const ((Value.pointer none))) v41 (Value.pointer none)) wz77 fun v42 wz78 =>
  Cond v42
  (Lv ds wz78 fun wz79 => K (Value.bool false) wz79)
  (Vl Tryd.prog (Instr.alloc 3 true (.tuple #[])) wz78 fun v8 wz80 =>
  Ef Tryd.prog (Instr.storeAt 3 v8 (Value.int IntKind.i64 0)) wz80 fun wz81 =>
  Vl Tryd.prog (Instr.makeFunc (Fn.func 43) #[] #[v5, v8, (g 6), (g 7)]) wz81 fun v44 wz82 =>
  Vl Tryd.prog (Builtin.len_ #[71] 3 #[t0]) wz82 fun v46 wz83 =>
  ∃ (I : List Value → List Deferred → World → Prop) (μ : List Value → World → Nat), I [(Value.int IntKind.i64 0)] ds wz83 ∧
  ∀ (ga : Nat → Value) (dsa : List Deferred) (wz84 : World), I [ga 47] dsa wz84 →
  (Vl Tryd.prog (binop BinOp.lss 3 (Operand.tmp 47) (Operand.tmp 46) (ga 47) v46) wz84 fun v48 wz85 =>
  Cond v48
  (Vl Tryd.prog (Instr.indexAt 71 t0 (ga 47)) wz85 fun v49 wz86 =>
  Vl Tryd.prog (Instr.loadAt 5 v49) wz86 fun v50 wz87 =>
  Vl Tryd.prog (Instr.buildSlice 22 4 #[(0, (Value.string { data := #[100, 105, 118] })), (1, (Value.string { data := #[112] })), (2, (Value.string { data := #[105] })), (3, (Value.string { data := #[117] }))]) wz87 fun v52 wz88 =>
  Vl Tryd.prog (binop BinOp.rem 5 (Operand.tmp 53) (Operand.const ((Value.int IntKind.u8 4))) v50 (Value.int IntKind.u8 4)) wz88 fun v54 wz89 =>
  Vl Tryd.prog (Instr.indexAt 22 v52 v54) wz89 fun v55 wz90 =>
  Vl Tryd.prog (Instr.loadAt 9 v55) wz90 fun v56 wz91 =>
  Cv Tryd.prog v44 #[v56, (Value.bool false)] wz91 fun v57 wz92 =>
  Vl Tryd.prog (binop BinOp.add 3 (Operand.tmp 47) (Operand.const ((Value.int IntKind.i64 1))) (ga 47) (Value.int IntKind.i64 1)) wz92 fun v58 wz93 =>
  I [v58] dsa wz93 ∧ μ [v58] wz93 < μ [ga 47] wz84)
  (Cv Tryd.prog v44 #[(Value.string { data := #[98] }), (Value.bool true)] wz85 fun v60 wz94 =>
  Vl Tryd.prog (Builtin.len_ #[71] 3 #[t1]) wz94 fun v62 wz95 =>
  ∃ (Ia : List Value → List Deferred → World → Prop) (μa : List Value → World → Nat), Ia [(Value.slice none 0 0), (Value.int IntKind.i64 0)] dsa wz95 ∧
  ∀ (gb : Nat → Value) (dsb : List Deferred) (wz96 : World), Ia [gb 13, gb 63] dsb wz96 →
  (Vl Tryd.prog (binop BinOp.lss 3 (Operand.tmp 63) (Operand.tmp 62) (gb 63) v62) wz96 fun v64 wz97 =>
  Cond v64
  (Vl Tryd.prog (Instr.indexAt 71 t1 (gb 63)) wz97 fun v66 wz98 =>
  Vl Tryd.prog (Instr.loadAt 5 v66) wz98 fun v67 wz99 =>
  ∃ Ja : List Value → List Deferred → World → Prop, (Vl Tryd.prog (Instr.buildSlice 22 5 #[(0, (Value.string { data := #[105] })), (1, (Value.string { data := #[115, 112, 97, 110] })), (2, (Value.string { data := #[117] })), (3, (Value.string { data := #[120, 45, 121] })), (4, (Value.string { data := #[101, 109] }))]) wz99 fun v69 wz101 =>
  Vl Tryd.prog (binop BinOp.rem 5 (Operand.tmp 70) (Operand.const ((Value.int IntKind.u8 5))) v67 (Value.int IntKind.u8 5)) wz101 fun v71 wz102 =>
  Vl Tryd.prog (Instr.indexAt 22 v69 v71) wz102 fun v72 wz103 =>
  Vl Tryd.prog (Instr.loadAt 9 v72) wz103 fun v73 wz104 =>
  Vl Tryd.prog (binop BinOp.rem 5 (Operand.tmp 74) (Operand.const ((Value.int IntKind.u8 2))) v67 (Value.int IntKind.u8 2)) wz104 fun v75 wz105 =>
  Vl Tryd.prog (binop BinOp.eql 5 (Operand.tmp 75) (Operand.const ((Value.int IntKind.u8 0))) v75 (Value.int IntKind.u8 0)) wz105 fun v76 wz106 =>
  Cond v76
  (Vl Tryd.prog (binop BinOp.rem 5 (Operand.tmp 78) (Operand.const ((Value.int IntKind.u8 5))) v67 (Value.int IntKind.u8 5)) wz106 fun v79 wz107 =>
  Vl Tryd.prog (binop BinOp.neq 5 (Operand.tmp 79) (Operand.const ((Value.int IntKind.u8 1))) v79 (Value.int IntKind.u8 1)) wz107 fun v80 wz108 =>
  Cond v80
  (Vl Tryd.prog (binop BinOp.rem 5 (Operand.tmp 83) (Operand.const ((Value.int IntKind.u8 5))) v67 (Value.int IntKind.u8 5)) wz108 fun v84 wz109 =>
  Vl Tryd.prog (binop BinOp.neq 5 (Operand.tmp 84) (Operand.const ((Value.int IntKind.u8 3))) v84 (Value.int IntKind.u8 3)) wz109 fun v85 wz110 =>
  Cond v85
  (Vl Tryd.prog (binop BinOp.lss 3 (Operand.tmp 88) (Operand.const ((Value.int IntKind.i64 3))) (gb 63) (Value.int IntKind.i64 3)) wz110 fun v89 wz111 =>
  Cv Tryd.prog v44 #[v73, v89] wz111 fun v91 wz112 =>
  Ja [v91] dsb wz112)
  (Cv Tryd.prog v44 #[v73, (Value.bool false)] wz110 fun v91a wz113 =>
  Ja [v91a] dsb wz113))
  (Cv Tryd.prog v44 #[v73, (Value.bool false)] wz108 fun v91b wz114 =>
  Ja [v91b] dsb wz114))
  (Cv Tryd.prog v44 #[v73, (Value.bool false)] wz106 fun v91c wz115 =>
  Ja [v91c] dsb wz115)) ∧
  ∀ (gc : Nat → Value) (dsc : List Deferred) (wz100 : World), Ja [gc 16] dsc wz100 →
  Vl Tryd.prog (Instr.loadAt 55 (g 7)) wz100 fun v92 wz116 =>
  Cf Tryd.prog n_list_List_Find #[v92, (gc 16)] wz116 fun v94 wz117 =>
  Vl Tryd.prog (binop BinOp.geq 3 (Operand.tmp 94) (Operand.const ((Value.int IntKind.i64 0))) v94 (Value.int IntKind.i64 0)) wz117 fun v95 wz118 =>
  Cond v95
  (Vl Tryd.prog (Instr.buildSlice 31 1 #[(0, (gc 16))]) wz118 fun v98 wz119 =>
  Vl Tryd.prog (Builtin.append_ #[31, 31] 31 #[(gb 13), v98]) wz119 fun v99 wz120 =>
  Vl Tryd.prog (binop BinOp.add 3 (Operand.tmp 63) (Operand.const ((Value.int IntKind.i64 1))) (gb 63) (Value.int IntKind.i64 1)) wz120 fun v100 wz121 =>
  Ia [v99, v100] dsc wz121 ∧ μa [v99, v100] wz121 < μa [gb 13, gb 63] wz96)
  (Vl Tryd.prog (binop BinOp.add 3 (Operand.tmp 63) (Operand.const ((Value.int IntKind.i64 1))) (gb 63) (Value.int IntKind.i64 1)) wz118 fun v100a wz122 =>
  Ia [(gb 13), v100a] dsc wz122 ∧ μa [(gb 13), v100a] wz122 < μa [gb 13, gb 63] wz96))
  (Vl Tryd.prog (Instr.loadAt 47 v5) wz97 fun v101 wz123 =>
  Cf Tryd.prog n_arena_Arena_Nodes #[v101, (Value.int IntKind.i64 0)] wz123 fun v102 wz124 =>
  Cf Tryd.prog n_decanterlaw12_To #[v102] wz124 fun v103 wz125 =>
  Vl Tryd.prog (Instr.loadAt 47 v5) wz125 fun v104 wz126 =>
  Vl Tryd.prog (Instr.loadAt 25 (g 6)) wz126 fun v105 wz127 =>
  Vl Tryd.prog (Instr.loadAt 55 (g 7)) wz127 fun v106 wz128 =>
  Cf Tryd.prog n_adopt_Again #[v104, v105, v106, (Value.string { data := #[98] })] wz128 fun v107 wz129 =>
  Vl Tryd.prog (Op.unary UnOp.not v107) wz129 fun v108 wz130 =>
  Cond v108
  (Lv dsb wz130 fun wz131 => K (Value.bool false) wz131)
  (Vl Tryd.prog (Instr.loadAt 47 v5) wz130 fun v110 wz132 =>
  Cf Tryd.prog n_arena_Arena_Copies #[v110] wz132 fun v111 wz133 =>
  Vl Tryd.prog (binop BinOp.neq 3 (Operand.tmp 111) (Operand.const ((Value.int IntKind.i64 0))) v111 (Value.int IntKind.i64 0)) wz133 fun v112 wz134 =>
  Cond v112
  (Lv dsb wz134 fun wz135 => K (Value.bool false) wz135)
  (Vl Tryd.prog (Instr.loadAt 47 v5) wz134 fun v115 wz136 =>
  Cf Tryd.prog n_arena_Arena_Nodes #[v115, (Value.int IntKind.i64 0)] wz136 fun v116 wz137 =>
  Cf Tryd.prog n_decanterlaw12_To #[v116] wz137 fun v117 wz138 =>
  Cf Tryd.prog n_decanterref12_Same #[v117, v103] wz138 fun v119 wz139 =>
  Vl Tryd.prog (Op.unary UnOp.not v119) wz139 fun v120 wz140 =>
  Cond v120
  (Lv dsb wz140 fun wz141 => K (Value.bool false) wz141)
  (Vl Tryd.prog (Instr.loadAt 25 (g 6)) wz140 fun v122 wz142 =>
  Cf Tryd.prog n_stack_Stack_All #[v122] wz142 fun v123 wz143 =>
  Vl Tryd.prog (Builtin.len_ #[31] 3 #[v123]) wz143 fun v124 wz144 =>
  Vl Tryd.prog (Builtin.len_ #[71] 3 #[t0]) wz144 fun v126 wz145 =>
  Vl Tryd.prog (binop BinOp.eql 3 (Operand.tmp 124) (Operand.tmp 126) v124 v126) wz145 fun v127 wz146 =>
  Cond v127
  (Vl Tryd.prog (Instr.loadAt 25 (g 6)) wz146 fun v129 wz147 =>
  Cf Tryd.prog n_stack_Stack_Find #[v129, v60] wz147 fun v131 wz148 =>
  Vl Tryd.prog (binop BinOp.lss 3 (Operand.tmp 131) (Operand.const ((Value.int IntKind.i64 0))) v131 (Value.int IntKind.i64 0)) wz148 fun v132 wz149 =>
  Cond v132
  (Vl Tryd.prog (Instr.loadAt 55 (g 7)) wz149 fun v135 wz150 =>
  Cf Tryd.prog n_list_List_All #[v135] wz150 fun v136 wz151 =>
  Cf Tryd.prog n_decanterref14_Same #[v136, (gb 13)] wz151 fun v138 wz152 =>
  Lv dsb wz152 fun wz153 => K v138 wz153)
  (Lv dsb wz149 fun wz154 => K (Value.bool false) wz154))
  (Lv dsb wz146 fun wz155 => K (Value.bool false) wz155))))))))))))))
theorem L_decanterlaw15_AdoptPlain (t0 t1 : Value) (K : Value → World → Prop) (w : World) (h : S_decanterlaw15_AdoptPlain t0 t1 K w) : Cf Tryd.prog n_decanterlaw15_AdoptPlain #[t0, t1] w K :=
  callF_of (args := [t0, t1]) (lv := fun k => bif Nat.beq k 12 then [47] else bif Nat.beq k 19 then [13, 63] else []) (jn := fun k => bif Nat.beq k 7 then some [6, 7] else bif Nat.beq k 22 then some [16] else none) Mx Tryd.func9 rfl Tryd.call9 rfl (by as_aux_lemma => kernel_rfl) (cast (by as_aux_lemma => kernel_rfl) h)

end Go.Proofs
set_option linter.unusedVariables false
namespace Go.Proofs
open Go Go.Eng

/-! ### Boxes beside an arena, a stack and a list -/
variable {w0 w1 : World} {ρ ρ' ρ1 ρ2 : Roles} {w w' w2 : World} {A S L b b5 b6 b7 b8 T : Nat} {m m' : AM} {st st' : List Nat} {ls ls' : List Int} {v : Value}
/-- From one world to another: of the blocks that have a role only those of index 0 have changed. -/
structure R0 (ρ : Roles) (w : World) (ρ' : Roles) (w' : World) : Prop where
  r : RExt ρ ρ' w
  c : Chg (fun b => ∃ r, ρ b = some (0, r)) w w'
theorem R0.refl (ρ : Roles) (w : World) : R0 ρ w ρ w := ⟨RExt.refl _ _, Chg.refl _ _⟩
theorem R0.cut (ρ : Roles) (w : World) : R0 ρ w (cutR ρ w) w := ⟨cutR_ext ρ w, Chg.refl _ _⟩
theorem R0.a (hr : RExt ρ ρ' w) (hC : Chg (ArB 0 ρ) w w') : R0 ρ w ρ' w' := ⟨hr, hC.mono fun b _ ⟨r, e, _⟩ => ⟨r, e⟩⟩
theorem R0.s (hr : RExt ρ ρ' w) (hC : Chg (StB 0 ρ) w w') : R0 ρ w ρ' w' := ⟨hr, hC.mono fun b _ e => e.elim (fun e => ⟨_, e⟩) fun e => ⟨_, e⟩⟩
theorem R0.l (hr : RExt ρ ρ' w) (hC : Chg (LsB 0 ρ) w w') : R0 ρ w ρ' w' := ⟨hr, hC.mono fun b _ e => e.elim (fun e => ⟨_, e⟩) fun e => ⟨_, e⟩⟩
theorem R0.e (hE : Ext w w') : R0 ρ w ρ w' := ⟨RExt.refl _ _, hE.to⟩
theorem R0.then (h : R0 ρ w ρ1 w1) (k : R0 ρ1 w1 ρ2 w2) : R0 ρ w ρ2 w2 :=
  ⟨h.r.trans k.r h.c.size, (h.c.trans k.c).mono fun b hb e => e.elim id fun ⟨r, e⟩ => ⟨r, (h.r b hb).symm.trans e⟩⟩
theorem R0.rc (h : R0 ρ w ρ' w') : RC ρ w ρ' w' := ⟨h.r, h.c.mono fun b _ ⟨r, e⟩ => ⟨_, e⟩⟩
structure Bx (ρ : Roles) (w0 w : World) (b T : Nat) (v : Value) : Prop where
  cl : Cl w b T [v]
  ro : ρ b = some (9, .agt)
  ge : w0.heap.size ≤ b
theorem Bx.go (h : Bx ρ w0 w b T v) (k : R0 ρ w ρ' w') : Bx ρ' w0 w' b T v :=
  ⟨h.cl.chg k.c fun ⟨r, e⟩ => (by rw [h.ro] at e; cases e), (k.r b h.cl.lt).trans h.ro, h.ge⟩
theorem Bx.upd {cs : List Value} {b' E : Nat} (h : Bx ρ w0 w b T v) (u : Upd w w' b' E cs) (hne : b ≠ b') : Bx ρ w0 w' b T v := ⟨h.cl.upd u hne, h.ro, h.ge⟩
theorem Bx.ne {b' T' : Nat} {v' : Value} (h : Bx ρ w0 w b T v) (h' : Bx ρ w0 w b' T' v') (hT : T ≠ T') : b ≠ b' := fun e => by
  have h1 := h.cl
  rw [e] at h1
  have h2 : some (Obj.cells [v].toArray T (0, 0)) = some (Obj.cells [v'].toArray T' (0, 0)) := h1.symm.trans h'.cl
  injection h2 with h2
  injection h2 with _ h2
  exact hT h2
theorem SInv.one {i : Nat} {xs : List Nat} (h : SInv ρ 0 w S A xs) (hb : ρ b = some (i + 1, .agt)) (hC : Chg (· = b) w w') : SInv ρ 0 w' S A xs :=
  h.chg (RExt.refl _ _) hC fun x hx e => by
    have e : x = b := e
    rw [e] at hx
    rcases hx with hx | hx <;> (rw [hb] at hx; cases hx)
theorem LInv.one {i : Nat} (h : LInv ρ 0 w L A ls) (hb : ρ b = some (i + 1, .agt)) (hC : Chg (· = b) w w') : LInv ρ 0 w' L A ls :=
  h.chg (RExt.refl _ _) hC fun x hx e => by
    have e : x = b := e
    rw [e] at hx
    rcases hx with hx | hx <;> (rw [hb] at hx; cases hx)
theorem SL.x {i : Nat} (h : SL w0 ρ w A S L m st ls) (hC : Chg (· = b) w w') (hb : ρ b = some (i + 1, .agt)) (h0 : w0.heap.size ≤ b) : SL w0 ρ w' A S L m st ls where
  ext := Chg.newer h.ext hC fun x hx e => by
    have e : x = b := e
    omega
  r0 := h.r0
  hA := h.hA.chgOne hb rfl hC
  hS := h.hS.one hb hC
  hL := h.hL.one hb hC
theorem SL.cut (h : SL w0 ρ w A S L m st ls) : SL w0 (cutR ρ w) w A S L m st ls where
  ext := h.ext
  r0 := fun k hk => (cutR_ext ρ w k (by have := h.ext.size; omega)).trans (h.r0 k hk)
  hA := h.hA.cut
  hS := h.hS.chg (cutR_ext ρ w) (Chg.refl (fun _ => False) _) fun _ _ => id
  hL := h.hL.chg (cutR_ext ρ w) (Chg.refl (fun _ => False) _) fun _ _ => id
/-! ### An arena, a stack, a list, and boxes, as they are laid -/
structure BX (w0 : World) (wn : World) (ρ : Roles) (w : World) (A b5 : Nat) (s : Option Nat) (l : Option Nat) (c6 c7 : Option (Nat × Value)) : Prop where
  ext : Ext w0 w
  en : Ext wn w
  r0 : ∀ k, k < w0.heap.size → ρ k = none
  cut : ∀ k, w.heap.size ≤ k → ρ k = none
  hA : AInv ρ 0 w A m0
  h5 : Bx ρ w0 w b5 47 (.pointer (some ⟨A, 0, none⟩))
  hS : ∀ S, s = some S → SInv ρ 0 w S A []
  hL : ∀ L, l = some L → LInv ρ 0 w L A []
  h6 : ∀ b v, c6 = some (b, v) → Bx ρ w0 w b 25 v ∧ wn.heap.size ≤ b
  h7 : ∀ b v, c7 = some (b, v) → Bx ρ w0 w b 55 v ∧ wn.heap.size ≤ b
variable {wn : World} {s l : Option Nat} {c6 c7 : Option (Nat × Value)}
theorem BX.go (h : BX w0 wn ρ w A b5 s l c6 c7) (hr : RExt ρ ρ' w) (hE : Ext w w') {s' l' : Option Nat} (hs : ∀ S, s' = some S → SInv ρ' 0 w' S A []) (hl : ∀ L, l' = some L → LInv ρ' 0 w' L A []) : BX w0 wn (cutR ρ' w') w' A b5 s' l' c6 c7 where
  ext := h.ext.then hE
  en := h.en.then hE
  r0 := fun k hk => ((cutR_ext ρ' w' k (by have := (h.ext.then hE).size; omega)).trans (hr k (by have := h.ext.size; omega))).trans (h.r0 k hk)
  cut := cut_none ρ' w'
  hA := (h.hA.chg hr hE (fun _ _ => id) fun _ _ => id).cut
  h5 := h.h5.go (R0.then ⟨hr, hE.to⟩ (R0.cut _ _))
  hS := fun S hS => (hs S hS).chg (cutR_ext ρ' w') (Chg.refl (fun _ => False) _) fun _ _ => id
  hL := fun S hS => (hl S hS).chg (cutR_ext ρ' w') (Chg.refl (fun _ => False) _) fun _ _ => id
  h6 := fun b v hb => ⟨(h.h6 b v hb).1.go (R0.then ⟨hr, hE.to⟩ (R0.cut _ _)), (h.h6 b v hb).2⟩
  h7 := fun b v hb => ⟨(h.h7 b v hb).1.go (R0.then ⟨hr, hE.to⟩ (R0.cut _ _)), (h.h7 b v hb).2⟩
theorem BX.sN (h : BX w0 wn ρ w A b5 none l c6 c7) {K : Value → World → Prop} (k : ∀ ρ' w' S, BX w0 wn ρ' w' A b5 (some S) l c6 c7 → K (.pointer (some ⟨S, 0, none⟩)) w') : Cf Tryd.prog n_stack_New #[.pointer (some ⟨A, 0, none⟩)] w K :=
  c_stack_New (ρ := ρ) (j := 0) fun ρ2 w2 S hR hE hS => k _ w2 S (h.go hR.1 hE (fun S' e => by cases e; exact hS) fun L hL => (h.hL L hL).chg hR.1 hE fun _ _ => id)
theorem BX.lN (h : BX w0 wn ρ w A b5 s none c6 c7) {K : Value → World → Prop} (k : ∀ ρ' w' L, BX w0 wn ρ' w' A b5 s (some L) c6 c7 → K (.pointer (some ⟨L, 0, none⟩)) w') : Cf Tryd.prog n_list_New #[.pointer (some ⟨A, 0, none⟩)] w K :=
  c_list_New (ρ := ρ) (j := 0) fun ρ2 w2 L hR hE _ hL => k _ w2 L (h.go hR.1 hE (fun S hS => (h.hS S hS).chg hR.1 hE fun _ _ => id) fun L' e => by cases e; exact hL)
theorem Bx.new {o : List Value} (hn : Nw w w' (.cells [v].toArray T)) (h0 : w0.heap.size ≤ w.heap.size) : Bx (putR ρ w w.heap.size (9, .agt)) w0 w' w.heap.size T v :=
  ⟨hn.new, putR_at _ _ _ _ (Nat.le_refl _), h0⟩
theorem BX.a6 (h : BX w0 wn ρ w A b5 s l none c7) {K : Value → World → Prop} (k : ∀ ρ' w' b, BX w0 wn ρ' w' A b5 s l (some (b, .pointer none)) c7 → K (.pointer (some ⟨b, 0, none⟩)) w') : Vl Tryd.prog (Instr.alloc 25 true (.tuple #[])) w K := by
  refine Vl.alloc (z := .pointer none) (by intro w; kernel_rfl) fun w' hn => ?_
  have hr := putR_ext ρ w w.heap.size (9, RK.agt)
  have g := h.go hr hn.ext (s' := s) (l' := l) (fun S hS => (h.hS S hS).chg hr hn.ext fun _ _ => id) fun S hS => (h.hL S hS).chg hr hn.ext fun _ _ => id
  have hb : Bx (putR ρ w w.heap.size (9, .agt)) w0 w' w.heap.size 25 (.pointer none) := Bx.new (o := []) hn h.ext.size
  exact k _ w' _ { g with h6 := fun b v e => by cases e; exact ⟨hb.go (R0.cut _ _), h.en.size⟩ }
theorem BX.a7 (h : BX w0 wn ρ w A b5 s l c6 none) {K : Value → World → Prop} (k : ∀ ρ' w' b, BX w0 wn ρ' w' A b5 s l c6 (some (b, .pointer none)) → K (.pointer (some ⟨b, 0, none⟩)) w') : Vl Tryd.prog (Instr.alloc 55 true (.tuple #[])) w K := by
  refine Vl.alloc (z := .pointer none) (by intro w; kernel_rfl) fun w' hn => ?_
  have hr := putR_ext ρ w w.heap.size (9, RK.agt)
  have g := h.go hr hn.ext (s' := s) (l' := l) (fun S hS => (h.hS S hS).chg hr hn.ext fun _ _ => id) fun S hS => (h.hL S hS).chg hr hn.ext fun _ _ => id
  have hb : Bx (putR ρ w w.heap.size (9, .agt)) w0 w' w.heap.size 55 (.pointer none) := Bx.new (o := []) hn h.ext.size
  exact k _ w' _ { g with h7 := fun b v e => by cases e; exact ⟨hb.go (R0.cut _ _), h.en.size⟩ }
theorem BX.u {cs : List Value} {E : Nat} (h : BX w0 wn ρ w A b5 s l c6 c7) (hu : Upd w w' b E cs) (hb : ρ b = some (9, .agt)) (h0 : w0.heap.size ≤ b) (hn : wn.heap.size ≤ b) (hne : b5 ≠ b) (h6 : ∀ b v, c6 = some (b, v) → Bx ρ w0 w' b 25 v ∧ wn.heap.size ≤ b) (h7 : ∀ b v, c7 = some (b, v) → Bx ρ w0 w' b 55 v ∧ wn.heap.size ≤ b) : BX w0 wn ρ w' A b5 s l c6 c7 where
  ext := Chg.newer h.ext hu.chg fun x hx e => by
    have e : x = b := e
    omega
  en := Chg.newer h.en hu.chg fun x hx e => by
    have e : x = b := e
    omega
  r0 := h.r0
  cut := fun k hk => h.cut k (by have := hu.chg.size; omega)
  hA := h.hA.chgOne hb rfl hu.chg
  h5 := h.h5.upd hu hne
  hS := fun S hS => (h.hS S hS).one hb hu.chg
  hL := fun S hS => (h.hL S hS).one hb hu.chg
  h6 := h6
  h7 := h7
theorem BX.st6 {u : Value} (h : BX w0 wn ρ w A b5 s l (some (b, u)) c7) (hv : One v) {K : World → Prop} (k : ∀ w', BX w0 wn ρ w' A b5 s l (some (b, v)) c7 → K w') : Ef Tryd.prog (Instr.storeAt 25 (.pointer (some ⟨b, 0, none⟩)) v) w K := by
  obtain ⟨h6, hn⟩ := h.h6 b u rfl
  refine Ef.set h6.cl (by simp) (fun w' hu => k w' ?_) hv
  have hu : Upd w w' b 25 [v] := hu
  have g : BX w0 wn ρ w A b5 s l none c7 := { h with h6 := fun b v e => by cases e }
  have g := g.u hu h6.ro h6.ge hn (h.h5.ne h6 (by decide)) (fun b v e => by cases e) fun b' v' e => ⟨(h.h7 b' v' e).1.upd hu ((h.h7 b' v' e).1.ne h6 (by decide)), (h.h7 b' v' e).2⟩
  exact { g with h6 := fun b' v' e => by cases e; exact ⟨⟨hu.cl, h6.ro, h6.ge⟩, hn⟩ }
theorem BX.st7 {u : Value} (h : BX w0 wn ρ w A b5 s l c6 (some (b, u))) (hv : One v) {K : World → Prop} (k : ∀ w', BX w0 wn ρ w' A b5 s l c6 (some (b, v)) → K w') : Ef Tryd.prog (Instr.storeAt 55 (.pointer (some ⟨b, 0, none⟩)) v) w K := by
  obtain ⟨h7, hn⟩ := h.h7 b u rfl
  refine Ef.set h7.cl (by simp) (fun w' hu => k w' ?_) hv
  have hu : Upd w w' b 55 [v] := hu
  have g : BX w0 wn ρ w A b5 s l c6 none := { h with h7 := fun b v e => by cases e }
  have g := g.u hu h7.ro h7.ge hn (h.h5.ne h7 (by decide)) (fun b' v' e => ⟨(h.h6 b' v' e).1.upd hu ((h.h6 b' v' e).1.ne h7 (by decide)), (h.h6 b' v' e).2⟩) fun b v e => by cases e
  exact { g with h7 := fun b' v' e => by cases e; exact ⟨⟨hu.cl, h7.ro, h7.ge⟩, hn⟩ }
end Go.Proofs
set_option linter.unusedVariables false
namespace Go.Proofs
open Go Go.Eng
structure PL (w0 : World) (ρ : Roles) (w : World) (A S L b5 b6 b7 b8 : Nat) (m : AM) (st : List Nat) (ls : List Int) (inn : Nat) : Prop where
  sl : SL w0 ρ w A S L m st ls
  h5 : Bx ρ w0 w b5 47 (.pointer (some ⟨A, 0, none⟩))
  h6 : Bx ρ w0 w b6 25 (.pointer (some ⟨S, 0, none⟩))
  h7 : Bx ρ w0 w b7 55 (.pointer (some ⟨L, 0, none⟩))
  h8 : Bx ρ w0 w b8 3 (.int .i64 inn)
  cut : ∀ k, w.heap.size ≤ k → ρ k = none
variable {w0 w1 : World} {ρ ρ' ρ1 ρ2 : Roles} {w w' w2 : World} {A S L b b5 b6 b7 b8 T inn : Nat} {m m' : AM} {st st' : List Nat} {ls ls' : List Int} {v : Value}
theorem PL.go (h : PL w0 ρ w A S L b5 b6 b7 b8 m st ls inn) (k : R0 ρ w ρ' w') (sl : SL w0 ρ' w' A S L m' st' ls') : PL w0 (cutR ρ' w') w' A S L b5 b6 b7 b8 m' st' ls' inn :=
  have k' := k.then (R0.cut _ _)
  ⟨sl.cut, h.h5.go k', h.h6.go k', h.h7.go k', h.h8.go k', cut_none _ _⟩
theorem PL.e (h : PL w0 ρ w A S L b5 b6 b7 b8 m st ls inn) (hE : Ext w w') : PL w0 ρ w' A S L b5 b6 b7 b8 m st ls inn :=
  have k : R0 ρ w ρ w' := R0.e hE
  ⟨h.sl.e hE, h.h5.go k, h.h6.go k, h.h7.go k, h.h8.go k, fun q hq => h.cut q (by have := hE.size; omega)⟩
/-- What is within the one ahead: a new element, with its name as its text. -/
def enterM (m : AM) (p : Nat) (name : ByteArray) : AM := textM (appendM (addEl m (elN' name)) p m.elems.length) m.elems.length name
theorem enter_ok {c : Nat} (h : TOk c m) {p : Nat} (hp : p < m.elems.length) (name : ByteArray) :
    TOk (c + 1) (addEl m (elN' name)) ∧ TOk (c + 1) (appendM (addEl m (elN' name)) p m.elems.length) ∧ TOk (c + 2) (enterM m p name) ∧ (addEl m (elN' name)).elems.length = m.elems.length + 1 ∧ (appendM (addEl m (elN' name)) p m.elems.length).elems.length = m.elems.length + 1 ∧ (enterM m p name).elems.length = m.elems.length + 1 := by
  have h1 := h.elem (n0 := elN' name) ⟨rfl, rfl, Nat.zero_le _⟩
  have e1 := addEl_elems m (elN' name)
  have h2 : TOk (c + 1) (appendM (addEl m (elN' name)) p m.elems.length) := h1.append (by omega) (by omega)
  have e2 : (appendM (addEl m (elN' name)) p m.elems.length).elems.length = m.elems.length + 1 := by rw [appendM_elemsL, e1]
  exact ⟨h1, h2, h2.text (by omega) name, e1, e2, by unfold enterM; rw [textM_elems, e2]⟩
theorem Tx.enter {B : Nat} (h : Tx B m) (p : Nat) (name : ByteArray) : Tx B (appendM (addEl m (elN' name)) p m.elems.length) := by
  have h1 : Tx B (addEl m (elN' name)) := fun q n hn => by
    have hn : (m.nodes ++ [elN' name])[q]? = some n := hn
    by_cases hq : q < m.nodes.length
    · rw [List.getElem?_append_left hq] at hn; exact h q n hn
    · rw [List.getElem?_append_right (by omega)] at hn
      have := (List.getElem?_eq_some_iff.1 hn).1
      have e : q - m.nodes.length = 0 := by simp at this; omega
      rw [e] at hn
      have hn : elN' name = n := by simpa using hn
      rw [← hn]; exact Nat.zero_le _
  exact h1.put _ _
set_option maxHeartbeats 1000000 in
theorem c_enter {c B : Nat} (h : PL w0 ρ w A S L b5 b6 b7 b8 m st ls inn) (hok : TOk c m) (hc : c ≤ 1000) (hp : inn < m.elems.length) (hx : Tx B m) {name : ByteArray} (hB : B + name.size ≤ 1000000) (hst : st.length ≤ 1000) (hls : ls.length ≤ 1000)
    (hll : ∀ z ∈ ls, ∃ i : Nat, z = i ∧ i < m.elems.length) {listed : Bool} {K : Value → World → Prop}
    (k : ∀ ρ' w', PL w0 ρ' w' A S L b5 b6 b7 b8 (enterM m inn name) (st ++ [m.elems.length]) (if listed = true then pushL (enterM m inn name) ls m.elems.length else ls) m.elems.length → RExt ρ ρ' w → Chg (fun b => (∃ r, ρ b = some (0, r)) ∨ b = b8) w w' → K (.int .i64 m.elems.length) w') :
    Cf Tryd.prog n_decanterlaw15_AdoptPlain_1 #[.string name, .bool listed, .pointer (some ⟨b5, 0, none⟩), .pointer (some ⟨b8, 0, none⟩), .pointer (some ⟨b6, 0, none⟩), .pointer (some ⟨b7, 0, none⟩)] w K := by
  refine L_decanterlaw15_AdoptPlain_1 _ _ _ _ _ _ _ _ ?_
  unfold S_decanterlaw15_AdoptPlain_1
  obtain ⟨t1, t2, t3, e1, e2, e3⟩ := enter_ok hok hp name
  refine Vl.ld h.h5.cl rfl ?_
  refine c_Element h.sl.hA (l := []) (Row.nil _ _ _) (by simp) (Nat.le_trans hok.many (by omega)) (Nat.le_trans hok.elm (by omega)) fun ρ1 w1 hR1 hC1 hA1 => ?_
  have g1 : R0 ρ w (cutR ρ1 w1) w1 := (R0.a hR1.1 hC1).then (R0.cut _ _)
  have h1 : PL w0 (cutR ρ1 w1) w1 A S L b5 b6 b7 b8 (addEl m (elN' name)) st ls inn := h.go (.a hR1.1 hC1) (h.sl.a hR1.1 hC1 hA1)
  refine Vl.ld h1.h5.cl rfl (Vl.ld h1.h8.cl rfl ?_)
  refine c_Append (p := inn) (i := m.elems.length) h1.sl.hA t1.aok (by omega) (by omega) (by omega) fun ρ2 w2 hR2 hC2 hA2 => ?_
  have hC2 := Chg.ar hC2
  have g2 := g1.then ((R0.a hR2.1 hC2).then (R0.cut _ _))
  have h2 := h1.go (.a hR2.1 hC2) (h1.sl.a hR2.1 hC2 hA2)
  refine Vl.ld h2.h5.cl rfl ?_
  refine c_Text (p := m.elems.length) (s := name) h2.sl.hA t2.aok (by omega) (by omega) (fun q n hn => by have := hx.enter inn name q n hn; omega) fun ρ3 w3 hR3 hC3 hA3 => ?_
  have g3 := g2.then ((R0.a hR3.1 hC3).then (R0.cut _ _))
  have h3 : PL w0 (cutR ρ3 w3) w3 A S L b5 b6 b7 b8 (enterM m inn name) st ls inn := h2.go (.a hR3.1 hC3) (h2.sl.a hR3.1 hC3 hA3)
  refine Vl.ld h3.h6.cl rfl ?_
  refine c_Push (i := m.elems.length) h3.sl.hS (by omega) fun ρ4 w4 hR4 hC4 hS4 => ?_
  have g4 := g3.then ((R0.s hR4.1 hC4).then (R0.cut _ _))
  have h4 := h3.go (.s hR4.1 hC4) (h3.sl.s hR4.1 hC4 hS4)
  refine ⟨fun vs ds wx => ds = [] ∧ ∃ ρ5, R0 ρ w ρ5 wx ∧ PL w0 ρ5 wx A S L b5 b6 b7 b8 (enterM m inn name) (st ++ [m.elems.length]) (if listed = true then pushL (enterM m inn name) ls m.elems.length else ls) inn, ?_, ?_⟩
  · refine Cond_bool (fun hl => ?_) fun hl => ?_
    · refine Vl.ld h4.h7.cl rfl ?_
      refine c_LPush (i := m.elems.length) h4.sl.hA t3.aok h4.sl.hL (fun z hz => ?_) (by omega) (.of_lt t3.aok (by omega)) fun ρ5 w5 hR5 hC5 hL5 => ?_
      · obtain ⟨i, e, hi⟩ := hll z hz
        exact .inr ⟨i, e, .of_lt t3.aok (by omega)⟩
      · refine ⟨rfl, _, g4.then ((R0.l hR5.1 hC5).then (R0.cut _ _)), ?_⟩
        rw [if_pos hl]
        exact h4.go (.l hR5.1 hC5) (h4.sl.l hR5.1 hC5 hL5)
    · refine ⟨rfl, _, g4, ?_⟩
      rw [if_neg (by rw [hl]; decide)]
      exact h4
  · rintro g ds wx ⟨rfl, ρ5, g5, h5⟩
    refine Ef.set h5.h8.cl (by simp) fun w6 hu => Lv.nil ?_
    have hu : Upd wx w6 b8 3 [.int .i64 (m.elems.length : Nat)] := hu
    refine k ρ5 w6 ⟨h5.sl.x hu.chg h5.h8.ro h5.h8.ge, h5.h5.upd hu (h5.h5.ne h5.h8 (by decide)), h5.h6.upd hu (h5.h6.ne h5.h8 (by decide)), h5.h7.upd hu (h5.h7.ne h5.h8 (by decide)), ⟨hu.cl, h5.h8.ro, h5.h8.ge⟩, fun q hq => h5.cut q (by have := hu.chg.size; omega)⟩ g5.r ?_
    exact (g5.c.trans hu.chg).mono fun b _ e => e
end Go.Proofs
set_option linter.unusedVariables false
namespace Go.Proofs
open Go Go.Eng
variable {m m' : AM}
/-! ### Names stay -/
theorem nameAt_nodes {m m' : AM} (he : m'.elems = m.elems) (hn : ∀ q : Nat, (m'.nodes[q]?).map NodeM.name = (m.nodes[q]?).map NodeM.name) (i : Nat) : nameAt m' i = nameAt m i := by
  unfold nameAt
  rw [he]
  cases m.elems[i]? with
  | none => rfl
  | some q => exact congrArg (Option.getD · _) (hn q)
theorem nameAt_mod {k : Nat} {f : NodeM → NodeM} (hf : ∀ x, (f x).name = x.name) (i : Nat) : nameAt (modN m k f) i = nameAt m i := by
  refine nameAt_nodes (modN_elems _ _ _) (fun q => ?_) i
  unfold modN
  cases hk : m.nodes[k]? with
  | none => rfl
  | some x =>
    show ((m.nodes.set k (f x))[q]?).map _ = _
    by_cases hq : k = q
    · subst hq
      have hlt := (List.getElem?_eq_some_iff.1 hk).1
      rw [List.getElem?_set_self hlt, hk]
      show some (f x).name = some x.name
      rw [hf]
    · rw [List.getElem?_set_ne hq]
theorem nameAt_put (p q i : Nat) : nameAt (putM m p q) i = nameAt m i := by
  unfold putM
  rw [nameAt_mod (f := fun x => { x with inner := x.inner ++ [q] }) (fun _ => rfl), nameAt_mod (f := fun x => { x with parent := (p : Int) }) (fun _ => rfl)]
  unfold leaveM
  split
  · rfl
  · split
    · rfl
    · exact nameAt_mod (f := fun x => { x with inner := x.inner.filter (fun y => decide (y ≠ q)) }) (fun _ => rfl) i
theorem nameAt_append (p q i : Nat) : nameAt (appendM m p q) i = nameAt m i := nameAt_put _ _ _
theorem nameAt_text {c : Nat} (hok : AOk c m) (p : Nat) (s : ByteArray) {i : Nat} (hi : i < m.elems.length) : nameAt (textM m p s) i = nameAt m i := by
  unfold textM
  split
  · rfl
  · split
    · exact nameAt_mod (f := fun x => { x with text := x.text ++ s }) (fun _ => rfl) i
    · rw [nameAt_put]
      unfold nameAt
      show ((m.elems[i]?.bind fun q => (m.nodes ++ [_])[q]?).map NodeM.name).getD _ = _
      rw [elAt_some hi]
      show (((m.nodes ++ [_])[elAt m i]?).map NodeM.name).getD _ = ((m.nodes[elAt m i]?).map NodeM.name).getD _
      rw [List.getElem?_append_left (elAt_lt hok hi)]
theorem enter_names {c : Nat} (h : TOk c m) {p : Nat} (hp : p < m.elems.length) (name : ByteArray) :
    nameAt (enterM m p name) m.elems.length = name ∧ ∀ i, i < m.elems.length → nameAt (enterM m p name) i = nameAt m i := by
  obtain ⟨t1, t2, t3, e1, e2, e3⟩ := enter_ok h hp name
  have hN : ∀ i, i < m.elems.length + 1 → nameAt (enterM m p name) i = nameAt (addEl m (elN' name)) i := fun i hi => by
    unfold enterM
    rw [nameAt_text t2.aok _ _ (by omega), nameAt_append]
  refine ⟨?_, fun i hi => ?_⟩
  · rw [hN _ (by omega)]
    exact (Live.new m (elN' name)).2
  · rw [hN i (by omega)]
    exact (Live.add _ (Live.of_lt h.aok hi)).2
/-! ### What stands in a node comes behind it -/
def Up (m : AM) : Prop := ∀ (q : Nat) (n : NodeM), m.nodes[q]? = some n → ∀ y ∈ n.inner, q < y
theorem Up.mod (h : Up m) {k : Nat} {f : NodeM → NodeM} (hf : ∀ x, m.nodes[k]? = some x → ∀ y ∈ (f x).inner, y ∈ x.inner ∨ k < y) : Up (modN m k f) := fun q n hn y hy => by
  obtain ⟨x, hx, rfl | ⟨rfl, rfl⟩⟩ := modN_at hn
  · exact h q _ hx y hy
  · exact (hf x hx y hy).elim (h q x hx y) id
theorem Up.put (h : Up m) {p q : Nat} (hpq : p < q) : Up (putM m p q) := by
  have h1 : Up (leaveM m q) := by
    unfold leaveM
    split
    · exact h
    · split
      · exact h
      · exact h.mod fun x hx y hy => .inl (List.mem_filter.1 hy).1
  unfold putM
  have h2 : Up (modN (leaveM m q) q fun x => { x with parent := (p : Int) }) := h1.mod fun x _ y hy => .inl hy
  refine h2.mod fun x _ y hy => ?_
  rcases List.mem_append.1 hy with hy | hy
  · exact .inl hy
  · have : y = q := by simpa using hy
    exact .inr (by omega)
theorem Up.node {n0 : NodeM} (h : Up m) (hm : m'.nodes = m.nodes ++ [n0]) (hn : n0.inner = []) : Up m' := fun q n hq y hy => by
  rw [hm] at hq
  by_cases hl : q < m.nodes.length
  · rw [List.getElem?_append_left hl] at hq; exact h q n hq y hy
  · rw [List.getElem?_append_right (by omega)] at hq
    have := (List.getElem?_eq_some_iff.1 hq).1
    have e : q - m.nodes.length = 0 := by simp at this; omega
    rw [e] at hq
    have : n0 = n := by simpa using hq
    rw [← this, hn] at hy; cases hy
theorem Up.text {c : Nat} (hok : AOk c m) (h : Up m) {p : Nat} (hp : p < m.elems.length) (s : ByteArray) : Up (textM m p s) := by
  unfold textM
  split
  · exact h
  · split
    · exact h.mod fun x _ y hy => .inl hy
    · exact (h.node (m' := newText m s) rfl rfl).put (elAt_lt hok hp)
theorem Up.enter {c : Nat} (hok : TOk c m) (h : Up m) {p : Nat} (hp : p < m.elems.length) (name : ByteArray) : Up (enterM m p name) := by
  obtain ⟨t1, t2, t3, e1, e2, e3⟩ := enter_ok hok hp name
  have h1 : Up (addEl m (elN' name)) := h.node rfl rfl
  have ep : elAt (addEl m (elN' name)) p = elAt m p := by
    unfold elAt addEl
    rw [List.getD_eq_getElem?_getD, List.getD_eq_getElem?_getD, List.getElem?_append_left hp]
  have ei : elAt (addEl m (elN' name)) m.elems.length = m.nodes.length := by
    unfold elAt addEl
    simp [List.getD]
  have h2 : Up (appendM (addEl m (elN' name)) p m.elems.length) := by
    unfold appendM
    rw [ep, ei]
    exact h1.put (elAt_lt hok.aok hp)
  exact h2.text t2.aok (by omega) name
theorem Up.ranked {c : Nat} (hok : AOk c m) (h : Up m) : Ranked m fun q => m.nodes.length - q := fun q n hn y hy => by
  have h1 := h q n hn y hy
  have h2 := (List.getElem?_eq_some_iff.1 hn).1
  show m.nodes.length - y < m.nodes.length - q
  omega
theorem export_TB {c : Nat} (h : TOk c m) (hc : c ≤ 1000000) : ∀ (d q : Nat), TB d (exportM m d q)
  | 0, _ => trivial
  | d + 1, q => by
    have hq : (nodeAt m q).inner.length ≤ c ∧ ∀ k, (nodeAt m k).attrs.length ≤ 1000000 := by
      refine ⟨?_, fun k => ?_⟩
      · by_cases hq : q < m.nodes.length
        · exact h.aok.inn q _ (nodeAt_some hq)
        · unfold nodeAt
          rw [List.getD_eq_getElem?_getD, List.getElem?_eq_none (by omega)]
          exact Nat.zero_le _
      · by_cases hk : k < m.nodes.length
        · exact h.att k _ (nodeAt_some hk)
        · unfold nodeAt
          rw [List.getD_eq_getElem?_getD, List.getElem?_eq_none (by omega)]
          exact Nat.zero_le _
    refine ⟨?_, fun t ht => ?_⟩
    · show ((nodeAt m q).inner.map _).length ≤ _
      rw [List.length_map]; omega
    · obtain ⟨k, _, rfl⟩ := List.mem_map.1 ht
      exact ⟨hq.2 k, export_TB h hc d k⟩
theorem enter_copies (p : Nat) (name : ByteArray) : (enterM m p name).copies = m.copies := by
  unfold enterM textM
  split
  · exact putM_copies _ _ _
  · split
    · rw [modN_copies]; exact putM_copies _ _ _
    · rw [putM_copies]; exact putM_copies _ _ _
theorem enter_el0 {c : Nat} (h : TOk c m) {p : Nat} (hp : p < m.elems.length) (name : ByteArray) : elAt (enterM m p name) 0 = elAt m 0 := by
  unfold elAt enterM
  rw [textM_elems]
  unfold appendM
  rw [putM_elems]
  show (m.elems ++ [_]).getD 0 0 = _
  rw [List.getD_eq_getElem?_getD, List.getD_eq_getElem?_getD, List.getElem?_append_left (show 0 < m.elems.length by omega)]
/-! ### A chain, as it is laid -/
structure CH (k : Nat) (m : AM) : Prop where
  ok : TOk (2 * k + 1) m
  el : m.elems.length = k + 1
  up : Up m
  cp : m.copies = 0
  tx : Tx (5 * k) m
  e0 : elAt m 0 = 0
theorem CH.m0 : CH 0 m0 := by
  have at_ : ∀ (q : Nat) (n : NodeM), Go.Proofs.m0.nodes[q]? = some n → n = rootN := fun q n hn => by
    match q, hn with
    | 0, hn => exact (by simpa [Go.Proofs.m0] using hn.symm)
    | q + 1, hn => simp [Go.Proofs.m0] at hn
  refine ⟨TOk.m0, rfl, fun q n hn y hy => ?_, rfl, fun q n hn => ?_, rfl⟩
  · rw [at_ q n hn] at hy; cases hy
  · rw [at_ q n hn]; exact Nat.zero_le _
theorem CH.enter {k : Nat} (h : CH k m) {name : ByteArray} (hn : name.size ≤ 5) : CH (k + 1) (enterM m k name) := by
  have hp : k < m.elems.length := by rw [h.el]; omega
  obtain ⟨t1, t2, t3, e1, e2, e3⟩ := enter_ok h.ok hp name
  exact ⟨t3.wide (by omega), by rw [e3, h.el], h.up.enter h.ok hp name, by rw [enter_copies, h.cp], (((h.tx.enter k name).text _ name).wide (by omega)), by rw [enter_el0 h.ok hp, h.e0]⟩
end Go.Proofs
set_option linter.unusedVariables false
namespace Go.Proofs
open Go Go.Eng
/-! ### Again, where nothing special is open within -/
theorem range_getD (n i : Nat) (h : i < n) : (List.range' 1 n).getD i 0 = 1 + i := by
  rw [List.getD_eq_getElem?_getD, List.getElem?_range' h]
  show 1 + 1 * i = 1 + i
  omega
theorem closeF_range (n f : Nat) : ∀ k, k ≤ n → f < k → closeF (List.range' 1 n) (1 + f) k = (List.range' 1 n).take f
  | 0, _, h => by omega
  | k + 1, hk, hf => by
    rw [closeF_succ, range_getD n k (by omega)]
    by_cases h : k = f
    · rw [if_pos (by omega), h]
    · rw [if_neg (by omega)]
      exact closeF_range n f k (by omega) (by omega)
theorem take_range (n f : Nat) (h : f ≤ n) : (List.range' 1 n).take f = List.range' 1 f := by
  apply List.ext_getElem
  · simp; omega
  · intro i h1 h2
    simp
theorem findF_none {α : Type} {p : α → Bool} {l : List α} (h : ∀ x ∈ l, p x = false) (k : Nat) : findF p l k = -1 := by
  induction l generalizing k with
  | nil => rfl
  | cons x l ih =>
    rw [findF_cons, h x (by simp), if_neg (by decide)]
    exact ih (fun y hy => h y (by simp [hy])) (k + 1)
theorem pscan_le (m : AM) (name : ByteArray) (attrs : List (ByteArray × ByteArray)) (ls : List Int) (mk : Int) : ∀ n r, (pscan m name attrs ls mk n r).2 ≤ r.2 + n
  | 0, r => Nat.le_refl _
  | n + 1, r => by
    rw [pscan_succ]
    split
    · omega
    · split
      · have := pscan_le m name attrs ls mk n (n, r.2 + 1)
        have : (n, r.2 + 1).2 = r.2 + 1 := rfl
        omega
      · have := pscan_le m name attrs ls mk n r
        omega
theorem pscan_lt (m : AM) (name : ByteArray) (attrs : List (ByteArray × ByteArray)) (ls : List Int) (mk : Int) (h0 : sameEl m (ls.getD 0 0).toNat name attrs = false) : ∀ n r, (pscan m name attrs ls mk (n + 1) r).2 ≤ r.2 + n
  | 0, r => by
    rw [pscan_succ]
    split
    · omega
    · rw [if_neg (by rw [h0]; decide)]; exact Nat.le_refl _
  | n + 1, r => by
    rw [pscan_succ]
    split
    · omega
    · split
      · have := pscan_lt m name attrs ls mk h0 n (n + 1, r.2 + 1)
        have : (n + 1, r.2 + 1).2 = r.2 + 1 := rfl
        omega
      · have := pscan_lt m name attrs ls mk h0 n r
        omega
theorem pushL_plain {m : AM} {ls : List Int} {i : Nat} (h : ls.length ≤ 2 ∨ ls.length ≤ 3 ∧ sameEl m (ls.getD 0 0).toNat (nameAt m i) (attrsAt m i) = false) : pushL m ls i = ls ++ [(i : Int)] := by
  unfold pushL
  rw [if_neg]
  rcases h with h | ⟨h, h0⟩
  · have := pscan_le m (nameAt m i) (attrsAt m i) ls (markL ls) ls.length (0, 0)
    have e : ((0 : Nat), (0 : Nat)).2 = 0 := rfl
    omega
  · by_cases hl : ls.length ≤ 2
    · have := pscan_le m (nameAt m i) (attrsAt m i) ls (markL ls) ls.length (0, 0)
      have e : ((0 : Nat), (0 : Nat)).2 = 0 := rfl
      omega
    · have e3 : ls.length = 2 + 1 := by omega
      rw [e3]
      have := pscan_lt m (nameAt m i) (attrsAt m i) ls (markL ls) h0 2 (0, 0)
      have e : ((0 : Nat), (0 : Nat)).2 = 0 := rfl
      omega
theorem lastF_head {m : AM} {name : ByteArray} {f : Nat} {lw : List Int} (hf : nameAt m f = name) (hw : ∀ z ∈ lw, ∃ i : Nat, z = i ∧ nameAt m i ≠ name) : ∀ n, n ≤ lw.length → lastF m name ((f : Int) :: lw) (n + 1) = ((f : Int), true)
  | 0, _ => by
    rw [lastF_succ]
    have e : ((f : Int) :: lw).getD 0 0 = f := rfl
    rw [e, if_neg (by omega), Int.toNat_natCast, if_pos hf]
  | n + 1, hn => by
    rw [lastF_succ]
    have e : ((f : Int) :: lw).getD (n + 1) 0 = lw[n] := by
      rw [List.getD_eq_getElem?_getD, List.getElem?_cons_succ, List.getElem?_eq_getElem (by omega)]; rfl
    obtain ⟨i, h1, h2⟩ := hw lw[n] (List.getElem_mem _)
    rw [e, h1, if_neg (by omega), Int.toNat_natCast, if_neg h2]
    exact lastF_head hf hw n (by omega)
structure AgIn (m : AM) (name : ByteArray) (n0 k : Nat) (lw : List Int) : Prop where
  f : nameAt m (n0 + 1) = name
  ins : ∀ i, n0 + 1 < i → i ≤ n0 + 1 + k → nameAt m i ≠ name ∧ isKind (nameAt m i) 32 = false ∧ isKind (nameAt m i) 16 = false
  lw : ∀ z ∈ lw, ∃ i : Nat, z = i ∧ n0 + 1 < i ∧ i ≤ n0 + 1 + k
theorem plain_again {m : AM} {name : ByteArray} {n0 k : Nat} {lw : List Int} (h : AgIn m name n0 k lw) :
    (againG ⟨m, List.range' 1 (n0 + 1 + k), ((n0 + 1 : Nat) : Int) :: lw, 0⟩ name).2 = true ∧ (againG ⟨m, List.range' 1 (n0 + 1 + k), ((n0 + 1 : Nat) : Int) :: lw, 0⟩ name).1.m = m ∧
      (againG ⟨m, List.range' 1 (n0 + 1 + k), ((n0 + 1 : Nat) : Int) :: lw, 0⟩ name).1.st = List.range' 1 n0 ∧ (againG ⟨m, List.range' 1 (n0 + 1 + k), ((n0 + 1 : Nat) : Int) :: lw, 0⟩ name).1.ls = lw := by
  have hfind : findL (((n0 + 1 : Nat) : Int) :: lw) ((n0 + 1 : Nat) : Int) = 0 := by
    unfold findL idx
    rw [if_neg (by omega), if_pos rfl]; rfl
  have e1 : againG ⟨m, List.range' 1 (n0 + 1 + k), ((n0 + 1 : Nat) : Int) :: lw, 0⟩ name = againLoop name 8 ⟨m, List.range' 1 (n0 + 1 + k), ((n0 + 1 : Nat) : Int) :: lw, 0⟩ := by
    rw [againG_skip]
    show (decide (0 < topOf (List.range' 1 (n0 + 1 + k))) && (decide (nameAt m (topOf (List.range' 1 (n0 + 1 + k))) = name) && decide (findL (((n0 + 1 : Nat) : Int) :: lw) (topOf (List.range' 1 (n0 + 1 + k))) < 0))) = false
    have ht : topOf (List.range' 1 (n0 + 1 + k)) = n0 + 1 + k := by
      unfold topOf
      rw [List.length_range', range_getD _ _ (by omega)]; omega
    rw [ht]
    cases k with
    | zero =>
      rw [Nat.add_zero, hfind]; simp
    | succ k =>
      have := (h.ins (n0 + 1 + (k + 1)) (by omega) (by omega)).1
      simp [this]
  have hdrop : ∀ i ∈ (List.range' 1 (n0 + 1 + k)).drop (n0 + 1), n0 + 1 < i ∧ i ≤ n0 + 1 + k := fun i hi => by
    obtain ⟨j, hj, e⟩ := List.mem_iff_getElem.1 hi
    have hl : ((List.range' 1 (n0 + 1 + k)).drop (n0 + 1)).length = k := by simp
    rw [List.getElem_drop, List.getElem_range'] at e
    omega
  have e2 : onceG ⟨m, List.range' 1 (n0 + 1 + k), ((n0 + 1 : Nat) : Int) :: lw, 0⟩ name = (⟨m, List.range' 1 n0, lw, 0⟩, true, true) := by
    rw [onceG_plain (f := n0 + 1) (p := n0)]
    · have hc : closeF (List.range' 1 (n0 + 1 + k)) (n0 + 1) (List.range' 1 (n0 + 1 + k)).length = List.range' 1 n0 := by
        have := closeF_range (n0 + 1 + k) n0 (n0 + 1 + k) (Nat.le_refl _) (by omega)
        rw [Nat.add_comm 1 n0] at this
        rw [List.length_range', this, take_range _ _ (by omega)]
      have hr : removeL (((n0 + 1 : Nat) : Int) :: lw) ((n0 + 1 : Nat) : Int) = lw := by
        unfold removeL
        rw [hfind]; rfl
      show ({ closeG ⟨m, List.range' 1 (n0 + 1 + k), ((n0 + 1 : Nat) : Int) :: lw, 0⟩ (n0 + 1) with ls := removeL (((n0 + 1 : Nat) : Int) :: lw) ((n0 + 1 : Nat) : Int) }, true, true) = _
      rw [hr]
      unfold closeG
      show (GM.mk m (closeF (List.range' 1 (n0 + 1 + k)) (n0 + 1) (List.range' 1 (n0 + 1 + k)).length) lw 0, true, true) = _
      rw [hc]
    · exact lastF_head h.f (fun z hz => by
        obtain ⟨i, e, h1, h2⟩ := h.lw z hz
        exact ⟨i, e, (h.ins i h1 h2).1⟩) lw.length (Nat.le_refl _)
    · show idx (n0 + 1) (List.range' 1 (n0 + 1 + k)) 0 = _
      have hl : n0 < (List.range' 1 (n0 + 1 + k)).length := by simp; omega
      have hg : (List.range' 1 (n0 + 1 + k))[n0] = n0 + 1 := by rw [List.getElem_range']; omega
      have := idx_at (List.range' 1 (n0 + 1 + k)) 0 n0 hl (List.nodup_range' ..)
      rw [hg] at this
      rw [this]; omega
    · show ((List.range' 1 (n0 + 1 + k)).drop (n0 + 1)).any _ = false
      rw [List.any_eq_false]
      intro i hi
      obtain ⟨h1, h2⟩ := hdrop i hi
      show ¬ isKind (nameAt m i) 32 = true
      rw [(h.ins i h1 h2).2.1]; decide
    · show findF _ ((List.range' 1 (n0 + 1 + k)).drop (n0 + 1)) 0 = -1
      refine findF_none (fun i hi => ?_) 0
      obtain ⟨h1, h2⟩ := hdrop i hi
      exact (h.ins i h1 h2).2.2
  have e3 : againLoop name 8 ⟨m, List.range' 1 (n0 + 1 + k), ((n0 + 1 : Nat) : Int) :: lw, 0⟩ = (⟨m, List.range' 1 n0, lw, 0⟩, true) := by
    rw [againLoop_succ, e2]; rfl
  rw [e1, e3]
  exact ⟨rfl, rfl, rfl, rfl⟩
def wits : List ByteArray := [⟨#[105]⟩, ⟨#[115, 112, 97, 110]⟩, ⟨#[117]⟩, ⟨#[120, 45, 121]⟩, ⟨#[101, 109]⟩]
def ahds : List ByteArray := [⟨#[100, 105, 118]⟩, ⟨#[112]⟩, ⟨#[105]⟩, ⟨#[117]⟩]
theorem wits_all : wits.all (fun x => !(inK 5 x) && (!(inK 4 x) && (!decide (x = ⟨#[98]⟩) && decide (x.size ≤ 5)))) = true := by kernel_rfl
theorem wits_are (x : ByteArray) (h : x ∈ wits) : (x ≠ ⟨#[98]⟩ ∧ isKind x 32 = false ∧ isKind x 16 = false) ∧ x.size ≤ 5 := by
  have := List.all_eq_true.1 wits_all x h
  rw [isKind_scope, isKind_special]
  simp at this
  exact ⟨⟨this.2.2.1, this.1, this.2.1⟩, this.2.2.2⟩
theorem ahds_all : ahds.all (fun x => decide (x.size ≤ 5)) = true := by kernel_rfl
end Go.Proofs
set_option linter.unusedVariables false
namespace Go.Proofs
open Go Go.Eng
/-! ### Bytes that are only read -/
def U8s (w : World) (v : Value) (l : List Nat) : Prop :=
  ∃ a c, v = .slice a l.length c ∧ ∀ i (h : i < l.length), ∃ b o, a = some ⟨b, o, none⟩ ∧ w.cell? ⟨b, o + i, none⟩ = some (.int .u8 (l[i] : Nat))
theorem U8s.val {w : World} {v : Value} {l : List Nat} (h : U8s w v l) : ∃ a c, v = .slice a l.length c := by
  obtain ⟨a, c, h, _⟩ := h; exact ⟨a, c, h⟩
theorem U8s.ext {w w' : World} {v : Value} {l : List Nat} (h : U8s w v l) (c : Ext w w') : U8s w' v l := by
  obtain ⟨a, cc, e, h⟩ := h
  refine ⟨a, cc, e, fun i hi => ?_⟩
  obtain ⟨b, o, e2, hc⟩ := h i hi
  exact ⟨b, o, e2, cell_same c hc id⟩
theorem U8s.rd {w : World} {v : Value} {l : List Nat} (h : U8s w v l) {i : Nat} (hi : i < l.length) {K : Value → World → Prop} (k : K (.int .u8 (l[i] : Nat)) w) :
    Vl Tryd.prog (Instr.indexAt T_sl_uint8 v (.int .i64 (i : Nat))) w fun p w' => Vl Tryd.prog (Instr.loadAt T_uint8 p) w' K := by
  obtain ⟨a, c, rfl, hc⟩ := h
  obtain ⟨b, o, rfl, hcell⟩ := hc i hi
  refine Vl.ix 1 (by omega) (by omega) (Vl.lda (v := .int .u8 (l[i] : Nat)) ?_ k)
  have e : ((i : Int)).toNat = i := by omega
  rw [e, Nat.mul_one]; exact hcell
/-! ### Only index 0 keeps its roles -/
def ownR (ρ : Roles) : Roles := fun k => (ρ k).bind fun x => if x.1 = 0 then some x else none
theorem ownR_some {ρ : Roles} {k : Nat} {r : RK} (h : ρ k = some (0, r)) : ownR ρ k = some (0, r) := by unfold ownR; rw [h]; rfl
theorem ownR_none {ρ : Roles} {k : Nat} (h : ρ k = none) : ownR ρ k = none := by unfold ownR; rw [h]; rfl
theorem ownR_else {ρ : Roles} {k i : Nat} {r : RK} (h : ρ k = some (i + 1, r)) : ownR ρ k = none := by unfold ownR; rw [h]; rfl
variable {w0 : World} {ρ : Roles} {w : World} {A S L : Nat} {m : AM} {st : List Nat} {ls : List Int}
theorem AInv.own (h : AInv ρ 0 w A m) : AInv (ownR ρ) 0 w A m := by
  obtain ⟨nv, ev, ph, h⟩ := h
  refine ⟨nv, ev, ph, h.len, h.cl, ownR_some h.role, h.nodes, fun b hb => ownR_some (h.nodesRole b hb), h.elems, fun b hb => ownR_some (h.elemsRole b hb), fun k n p hn hp => ?_⟩
  have g := h.node k n p hn hp
  exact ⟨g.attrs, fun b hb => ownR_none (g.attrsRo b hb), g.inner, fun b hb => ownR_some (g.innerRole b hb)⟩
theorem SL.own (h : SL w0 ρ w A S L m st ls) : SL w0 (ownR ρ) w A S L m st ls where
  ext := h.ext
  r0 := fun k hk => ownR_none (h.r0 k hk)
  hA := h.hA.own
  hS := by
    obtain ⟨ov, g⟩ := h.hS
    exact ⟨ov, g.cl, ownR_some g.role, g.row, fun b hb => ownR_some (g.rowRole b hb)⟩
  hL := by
    obtain ⟨ov, g⟩ := h.hL
    exact ⟨ov, g.cl, ownR_some g.role, g.row, fun b hb => ownR_some (g.rowRole b hb)⟩
theorem SL.againR {s c : Nat} (h : SL w0 ρ w A S L m st ls) (hG : Glob w0) (hok : GOk s c ⟨m, st, ls, 0⟩) (hs : s ≤ 10000) (hc : c ≤ 10000) {name : ByteArray} {K : Value → World → Prop}
    (k : ∀ ρ' w', RC ρ w ρ' w' → SL w0 ρ' w' A S L (againG ⟨m, st, ls, 0⟩ name).1.m (againG ⟨m, st, ls, 0⟩ name).1.st (againG ⟨m, st, ls, 0⟩ name).1.ls → K (.bool (againG ⟨m, st, ls, 0⟩ name).2) w') :
    Cf Tryd.prog n_adopt_Again #[.pointer (some ⟨A, 0, none⟩), .pointer (some ⟨S, 0, none⟩), .pointer (some ⟨L, 0, none⟩), .string name] w K :=
  c_Again hok hs hc h.hA h.hS h.hL (hG.ext h.ext) (h.r0 0 hG.pos) fun ρ' w' hr a b c => by
    have g := h.go hr
    exact k ρ' w' hr ⟨g.1, g.2, a, b, c⟩
/-! ### A stack, a list, and their boxes, in any order -/
theorem idx_nn {α : Type} [DecidableEq α] {a : α} : ∀ {l : List α} {k : Nat}, a ∈ l → 0 ≤ idx a l k
  | x :: l, k, h => by
    unfold idx
    split
    · omega
    · exact idx_nn (by rcases List.mem_cons.1 h with e | e; exact absurd e ‹_›; exact e)
theorem idx_no {α : Type} [DecidableEq α] {a : α} : ∀ {l : List α} {k : Nat}, a ∉ l → idx a l k = -1
  | [], _, _ => rfl
  | x :: l, k, h => by
    unfold idx
    rw [if_neg (fun e => h (by simp [e]))]
    exact idx_no (fun e => h (by simp [e]))
theorem CH.gok {k n0 kk : Nat} (h : CH k m) (hk : k = n0 + 1 + kk) {name : ByteArray} {lw : List Int} (hA : AgIn m name n0 kk lw) (hl : lw.length ≤ kk) : GOk k (2 * k + 1) ⟨m, List.range' 1 k, ((n0 + 1 : Nat) : Int) :: lw, 0⟩ := by
  refine ⟨h.ok, fun i hi => .of_lt h.ok.aok ?_, List.nodup_range' .., fun z hz => ?_, ?_, ?_, Int.le_refl _, ?_⟩
  · have := List.mem_range'.1 hi
    obtain ⟨j, hj, rfl⟩ := this
    rw [h.el]; omega
  · right
    rcases List.mem_cons.1 hz with rfl | hz
    · exact ⟨n0 + 1, rfl, .of_lt h.ok.aok (by show _ < m.elems.length; rw [h.el]; omega)⟩
    · obtain ⟨i, rfl, h1, h2⟩ := hA.lw z hz
      exact ⟨i, rfl, .of_lt h.ok.aok (by show _ < m.elems.length; rw [h.el]; omega)⟩
  · show (List.range' 1 k).length ≤ k
    simp
  · show lw.length + 1 ≤ 2 * k + 1
    omega
  · show (0 : Int) ≤ ((lw.length + 1 : Nat) : Int)
    omega
end Go.Proofs
set_option linter.unusedVariables false
namespace Go.Proofs
open Go Go.Eng
variable {w0 wn : World} {ρ : Roles} {w : World} {A S L b5 b6 b7 b8 : Nat}
/-- What is laid, in any order. -/
def JX (w0 wn : World) (A b5 : Nat) : List Value → List Deferred → World → Prop := fun vs ds w => ds = [] ∧ ∃ ρ S L b6 b7, vs = [.pointer (some ⟨b6, 0, none⟩), .pointer (some ⟨b7, 0, none⟩)] ∧
  BX w0 wn ρ w A b5 (some S) (some L) (some (b6, .pointer (some ⟨S, 0, none⟩))) (some (b7, .pointer (some ⟨L, 0, none⟩)))
theorem BX.j (h : BX w0 wn ρ w A b5 (some S) (some L) (some (b6, .pointer (some ⟨S, 0, none⟩))) (some (b7, .pointer (some ⟨L, 0, none⟩)))) : JX w0 wn A b5 [.pointer (some ⟨b6, 0, none⟩), .pointer (some ⟨b7, 0, none⟩)] [] w :=
  ⟨rfl, ρ, S, L, b6, b7, rfl, h⟩
theorem PL.oth {ρ' : Roles} {w' : World} {m : AM} {st : List Nat} {ls : List Int} {inn : Nat} {X : Nat → Prop} (h : PL w0 ρ w A S L b5 b6 b7 b8 m st ls inn) (hr : RExt ρ ρ' w) (hC : Chg X w w') (hX : ∀ b, X b → ρ b = some (8, .stk)) :
    PL w0 (cutR ρ' w') w' A S L b5 b6 b7 b8 m st ls inn := by
  have bx : ∀ {b T v}, Bx ρ w0 w b T v → Bx (cutR ρ' w') w0 w' b T v := fun {b T v} hb => by
    have hb' : Bx ρ' w0 w' b T v := ⟨hb.cl.chg hC fun e => (by have := hX _ e; rw [hb.ro] at this; cases this), (hr _ hb.cl.lt).trans hb.ro, hb.ge⟩
    exact hb'.go (R0.cut _ _)
  have sl : SL w0 ρ' w' A S L m st ls :=
    ⟨Chg.newer h.sl.ext hC fun x hx e => (by have := hX x e; rw [h.sl.r0 x hx] at this; cases this), fun q hq => (hr q (by have := h.sl.ext.size; omega)).trans (h.sl.r0 q hq),
     h.sl.hA.chg hr hC (fun b hb e => (by have := hX b e; rw [hb] at this; cases this)) (fun b ⟨r, hb, _⟩ e => (by have := hX b e; rw [hb] at this; cases this)),
     h.sl.hS.chg hr hC (fun b hb e => (by have := hX b e; rcases hb with hb | hb <;> (rw [hb] at this; cases this))), h.sl.hL.chg hr hC (fun b hb e => (by have := hX b e; rcases hb with hb | hb <;> (rw [hb] at this; cases this)))⟩
  exact ⟨sl.cut, bx h.h5, bx h.h6, bx h.h7, bx h.h8, cut_none _ _⟩
set_option maxHeartbeats 4000000 in
theorem c_AdoptPlain {w : World} (hG : Glob w) {v0 v1 : Value} {ah wi : List Nat} (h0 : U8s w v0 ah) (h1 : U8s w v1 wi) {K : Value → World → Prop} (k : ∀ w', Ext w w' → K (.bool true) w') :
    Cf Tryd.prog n_decanterlaw15_AdoptPlain #[v0, v1] w K := by
  obtain ⟨a0, c0, rfl⟩ := h0.val
  obtain ⟨a1, c1, rfl⟩ := h1.val
  refine L_decanterlaw15_AdoptPlain _ _ _ _ ?_
  unfold S_decanterlaw15_AdoptPlain
  refine c_speaks15 hG fun wa hEa => Vl.not (Cond_bool (fun h => by cases h) fun _ => ?_)
  have sp : ∀ {wx : World}, Ext w wx → Cf Tryd.prog n_decanterlaw15_speaks #[] wx K := fun hx => c_speaks15 (hG.ext hx) fun w2 hE2 => k w2 (hx.then hE2)
  refine Vl.len (Vl.gtr (Cond_bool (fun _ => sp hEa) fun hx => ?_))
  have hx : ah.length ≤ 20 := by have := of_decide_eq_false hx; omega
  refine Vl.len (Vl.gtr (Cond_bool (fun _ => sp hEa) fun hy => ?_))
  have hy : wi.length ≤ 20 := by have := of_decide_eq_false hy; omega
  have hGa := hG.ext hEa
  have h0 := h0.ext hEa
  have h1 := h1.ext hEa
  have k : ∀ w', Ext wa w' → K (.bool true) w' := fun w' hE => k w' (hEa.then hE)
  clear sp
  -- an arena in its box
  refine c_arena_New (fresh0 0 wa) fun ρ1 w1 A hR1 hE1 hA1 => ?_
  refine Vl.alloc (z := .pointer none) (by intro w; kernel_rfl) fun w2 hn2 => ?_
  refine Ef.set hn2.new (by simp) (fun w3 hu3 => ?_)
  have hu3 : Upd w2 w3 w1.heap.size 47 [.pointer (some ⟨A, 0, none⟩)] := hu3
  have hx0 : BX wa w3 (cutR (putR ρ1 w1 w1.heap.size (9, .agt)) w3) w3 A w1.heap.size none none none none := by
    have hr : RExt ρ1 (putR ρ1 w1 w1.heap.size (9, .agt)) w1 := putR_ext _ _ _ _
    have hb : putR ρ1 w1 w1.heap.size (9, .agt) w1.heap.size = some (9, .agt) := putR_at _ _ _ _ (Nat.le_refl _)
    have hA2 : AInv (putR ρ1 w1 w1.heap.size (9, .agt)) 0 w2 A m0 := hA1.chg hr hn2.ext (fun _ _ => id) fun _ _ => id
    have hE3 : Ext wa w3 := Chg.newer (hE1.then hn2.ext) hu3.chg fun x hx e => by
      have e : x = w1.heap.size := e
      have := hE1.size
      omega
    have hs2 : w2.heap.size = w1.heap.size + 1 := hn2.size
    refine ⟨hE3, Chg.refl _ _, fun q hq => ?_, cut_none _ _, (hA2.chgOne hb rfl hu3.chg).cut, ?_, (fun _ e => (by cases e)), (fun _ e => (by cases e)), (fun _ _ e => (by cases e)), (fun _ _ e => (by cases e))⟩
    · have h1 := hE1.size
      have h3 := hE3.size
      exact (((cutR_ext _ w3 q (by omega)).trans (hr q (by omega))).trans (hR1.1 q hq))
    · have hB : Bx (putR ρ1 w1 w1.heap.size (9, .agt)) wa w3 w1.heap.size 47 (.pointer (some ⟨A, 0, none⟩)) := ⟨hu3.cl, hb, hE1.size⟩
      exact hB.go (R0.cut _ _)
  generalize cutR (putR ρ1 w1 w1.heap.size (9, .agt)) w3 = ρ3 at hx0
  generalize w1.heap.size = b5 at hx0 hu3 ⊢
  refine Vl.ld hu3.cl rfl (Vl.i (w' := w3) (v := .bool false) (by kernel_rfl) (Cond_bool (fun h => by cases h) fun _ => ?_))
  refine ⟨JX wa (dr w3) A b5, ?_, ?_⟩
  · have hd : BX wa (dr w3) ρ3 (dr w3) A b5 none none none none := by
      have hE := dr_ext w3
      have g := hx0.go (RExt.refl _ _) hE (s' := none) (l' := none) (fun _ e => (by cases e)) (fun _ e => (by cases e))
      have hz : (dr w3).heap.size = w3.heap.size := rfl
      have e : cutR ρ3 (dr w3) = ρ3 := by
        funext q
        unfold cutR
        by_cases hq : q < (dr w3).heap.size
        · rw [if_pos hq]
        · rw [if_neg hq]; exact (hx0.cut q (by omega)).symm
      rw [e] at g
      exact { g with en := Chg.refl _ _, h6 := fun _ _ e => (by cases e), h7 := fun _ _ e => (by cases e) }
    exact ⟨fun x => Ext (dr w3) x, Chg.refl _ _, VQ.ld (fun x hx => (hd.h5.cl.ext hx).cell rfl) (VQ.ld (fun x hx => (hd.h5.cl.ext hx).cell rfl) (have h := hd; ⟨h.sN fun _ _ _ h => ⟨fun x => Ext (dr w3) x, fun _ h => h, h.en, ⟨h.lN fun _ _ _ h => ⟨fun x => Ext (dr w3) x, h.en, ⟨h.a6 fun _ _ _ h => ⟨fun x => Ext (dr w3) x, fun _ h => h, h.en, h.a7 fun _ _ _ h => ⟨fun x => Ext (dr w3) x, fun _ h => h, h.en, h.st6 (by exact trivial) fun _ h => ⟨fun x => Ext (dr w3) x, h.en, h.st7 (by exact trivial) fun _ h => ⟨fun x => Ext (dr w3) x, h.en, h.j⟩⟩⟩⟩, h.a7 fun _ _ _ h => ⟨fun x => Ext (dr w3) x, fun _ h => h, h.en, h.a6 fun _ _ _ h => ⟨fun x => Ext (dr w3) x, fun _ h => h, h.en, h.st6 (by exact trivial) fun _ h => ⟨fun x => Ext (dr w3) x, h.en, h.st7 (by exact trivial) fun _ h => ⟨fun x => Ext (dr w3) x, h.en, h.j⟩⟩⟩⟩, trivial⟩⟩, h.a6 fun _ _ _ h => ⟨fun x => Ext (dr w3) x, fun _ h => h, h.en, ⟨h.lN fun _ _ _ h => ⟨fun x => Ext (dr w3) x, h.en, h.a7 fun _ _ _ h => ⟨fun x => Ext (dr w3) x, fun _ h => h, h.en, h.st6 (by exact trivial) fun _ h => ⟨fun x => Ext (dr w3) x, h.en, h.st7 (by exact trivial) fun _ h => ⟨fun x => Ext (dr w3) x, h.en, h.j⟩⟩⟩⟩, h.a7 fun _ _ _ h => ⟨fun x => Ext (dr w3) x, fun _ h => h, h.en, h.lN fun _ _ _ h => ⟨fun x => Ext (dr w3) x, h.en, h.st6 (by exact trivial) fun _ h => ⟨fun x => Ext (dr w3) x, h.en, h.st7 (by exact trivial) fun _ h => ⟨fun x => Ext (dr w3) x, h.en, h.j⟩⟩⟩⟩, trivial⟩⟩, h.a7 fun _ _ _ h => ⟨fun x => Ext (dr w3) x, fun _ h => h, h.en, ⟨h.lN fun _ _ _ h => ⟨fun x => Ext (dr w3) x, h.en, h.a6 fun _ _ _ h => ⟨fun x => Ext (dr w3) x, fun _ h => h, h.en, h.st6 (by exact trivial) fun _ h => ⟨fun x => Ext (dr w3) x, h.en, h.st7 (by exact trivial) fun _ h => ⟨fun x => Ext (dr w3) x, h.en, h.j⟩⟩⟩⟩, h.a6 fun _ _ _ h => ⟨fun x => Ext (dr w3) x, fun _ h => h, h.en, h.lN fun _ _ _ h => ⟨fun x => Ext (dr w3) x, h.en, h.st6 (by exact trivial) fun _ h => ⟨fun x => Ext (dr w3) x, h.en, h.st7 (by exact trivial) fun _ h => ⟨fun x => Ext (dr w3) x, h.en, h.j⟩⟩⟩⟩, trivial⟩⟩, trivial⟩⟩, h.a6 fun _ _ _ h => ⟨fun x => Ext (dr w3) x, fun _ h => h, h.en, ⟨h.sN fun _ _ _ h => ⟨fun x => Ext (dr w3) x, fun _ h => h, h.en, ⟨h.lN fun _ _ _ h => ⟨fun x => Ext (dr w3) x, h.en, h.a7 fun _ _ _ h => ⟨fun x => Ext (dr w3) x, fun _ h => h, h.en, h.st6 (by exact trivial) fun _ h => ⟨fun x => Ext (dr w3) x, h.en, h.st7 (by exact trivial) fun _ h => ⟨fun x => Ext (dr w3) x, h.en, h.j⟩⟩⟩⟩, h.a7 fun _ _ _ h => ⟨fun x => Ext (dr w3) x, fun _ h => h, h.en, h.lN fun _ _ _ h => ⟨fun x => Ext (dr w3) x, h.en, h.st6 (by exact trivial) fun _ h => ⟨fun x => Ext (dr w3) x, h.en, h.st7 (by exact trivial) fun _ h => ⟨fun x => Ext (dr w3) x, h.en, h.j⟩⟩⟩⟩, trivial⟩⟩, h.a7 fun _ _ _ h => ⟨fun x => Ext (dr w3) x, fun _ h => h, h.en, h.sN fun _ _ _ h => ⟨fun x => Ext (dr w3) x, fun _ h => h, h.en, h.lN fun _ _ _ h => ⟨fun x => Ext (dr w3) x, h.en, h.st6 (by exact trivial) fun _ h => ⟨fun x => Ext (dr w3) x, h.en, h.st7 (by exact trivial) fun _ h => ⟨fun x => Ext (dr w3) x, h.en, h.j⟩⟩⟩⟩⟩, trivial⟩⟩, h.a7 fun _ _ _ h => ⟨fun x => Ext (dr w3) x, fun _ h => h, h.en, ⟨h.sN fun _ _ _ h => ⟨fun x => Ext (dr w3) x, fun _ h => h, h.en, ⟨h.lN fun _ _ _ h => ⟨fun x => Ext (dr w3) x, h.en, h.a6 fun _ _ _ h => ⟨fun x => Ext (dr w3) x, fun _ h => h, h.en, h.st6 (by exact trivial) fun _ h => ⟨fun x => Ext (dr w3) x, h.en, h.st7 (by exact trivial) fun _ h => ⟨fun x => Ext (dr w3) x, h.en, h.j⟩⟩⟩⟩, h.a6 fun _ _ _ h => ⟨fun x => Ext (dr w3) x, fun _ h => h, h.en, h.lN fun _ _ _ h => ⟨fun x => Ext (dr w3) x, h.en, h.st6 (by exact trivial) fun _ h => ⟨fun x => Ext (dr w3) x, h.en, h.st7 (by exact trivial) fun _ h => ⟨fun x => Ext (dr w3) x, h.en, h.j⟩⟩⟩⟩, trivial⟩⟩, h.a6 fun _ _ _ h => ⟨fun x => Ext (dr w3) x, fun _ h => h, h.en, h.sN fun _ _ _ h => ⟨fun x => Ext (dr w3) x, fun _ h => h, h.en, h.lN fun _ _ _ h => ⟨fun x => Ext (dr w3) x, h.en, h.st6 (by exact trivial) fun _ h => ⟨fun x => Ext (dr w3) x, h.en, h.st7 (by exact trivial) fun _ h => ⟨fun x => Ext (dr w3) x, h.en, h.j⟩⟩⟩⟩⟩, trivial⟩⟩, trivial⟩))⟩
  · rintro g ds wo ⟨rfl, ρ, S, L, b6, b7, hg, hb⟩
    have e6 : g 6 = .pointer (some ⟨b6, 0, none⟩) := (List.cons.inj hg).1
    have e7 : g 7 = .pointer (some ⟨b7, 0, none⟩) := (List.cons.inj (List.cons.inj hg).2).1
    rw [e6, e7]
    have h6 := (hb.h6 b6 _ rfl).1
    have h7 := (hb.h7 b7 _ rfl).1
    refine Vl.ld h6.cl rfl (Vl.i (w' := wo) (v := .bool false) (by kernel_rfl) (Cond_bool (fun h => by cases h) fun _ => ?_))
    refine Vl.ld h7.cl rfl (Vl.i (w' := wo) (v := .bool false) (by kernel_rfl) (Cond_bool (fun h => by cases h) fun _ => ?_))
    refine Vl.alloc (z := .int .i64 0) (by intro w; kernel_rfl) fun w5 hn5 => ?_
    refine Ef.set hn5.new (by simp) fun w6 hu6 => ?_
    have hu6 : Upd w5 w6 wo.heap.size 3 [.int .i64 (0 : Nat)] := hu6
    have hP : PL wa (cutR (putR ρ wo wo.heap.size (9, .agt)) w6) w6 A S L b5 b6 b7 wo.heap.size m0 (List.range' 1 0) [] 0 := by
      have hr : RExt ρ (putR ρ wo wo.heap.size (9, .agt)) wo := putR_ext _ _ _ _
      have hb8 : putR ρ wo wo.heap.size (9, .agt) wo.heap.size = some (9, .agt) := putR_at _ _ _ _ (Nat.le_refl _)
      have hE5 : Ext wo w5 := hn5.ext
      have k5 : R0 ρ wo (putR ρ wo wo.heap.size (9, .agt)) w5 := ⟨hr, hE5.to⟩
      have sl : SL wa (putR ρ wo wo.heap.size (9, .agt)) w5 A S L m0 (List.range' 1 0) [] :=
        ⟨hb.ext.then hE5, fun q hq => (hr q (by have := hb.ext.size; omega)).trans (hb.r0 q hq), hb.hA.chg hr hE5 (fun _ _ => id) (fun _ _ => id), (hb.hS S rfl).chg hr hE5 (fun _ _ => id), (hb.hL L rfl).chg hr hE5 (fun _ _ => id)⟩
      have n5 : b5 ≠ wo.heap.size := fun e => by have := hb.h5.cl.lt; omega
      have n6 : b6 ≠ wo.heap.size := fun e => by have := h6.cl.lt; omega
      have n7 : b7 ≠ wo.heap.size := fun e => by have := h7.cl.lt; omega
      have cu : R0 (putR ρ wo wo.heap.size (9, .agt)) w6 (cutR (putR ρ wo wo.heap.size (9, .agt)) w6) w6 := R0.cut _ _
      have h8 : Bx (putR ρ wo wo.heap.size (9, .agt)) wa w6 wo.heap.size 3 (.int .i64 (0 : Nat)) := ⟨hu6.cl, hb8, hb.ext.size⟩
      exact ⟨(sl.x hu6.chg hb8 hb.ext.size).cut, ((hb.h5.go k5).upd hu6 n5).go cu, ((h6.go k5).upd hu6 n6).go cu, ((h7.go k5).upd hu6 n7).go cu, h8.go cu, cut_none _ _⟩
    clear hn5 hu6 h6 h7 hb
    generalize cutR (putR ρ wo wo.heap.size (9, .agt)) w6 = ρ6 at hP
    generalize wo.heap.size = b8 at hP ⊢
    refine Vl.i (v := .func (.func 43) #[] #[.pointer (some ⟨b5, 0, none⟩), .pointer (some ⟨b8, 0, none⟩), .pointer (some ⟨b6, 0, none⟩), .pointer (some ⟨b7, 0, none⟩)]) (w' := w6) (by kernel_rfl) ?_
    refine Vl.len ⟨fun g ds wx => ∃ (n : Nat) (ρ : Roles) (m : AM), g = [.int .i64 n] ∧ ds = [] ∧ n ≤ ah.length ∧ PL wa ρ wx A S L b5 b6 b7 b8 m (List.range' 1 n) [] n ∧ CH n m, fun g _ => ah.length - (intAt g 0).toNat,
      ⟨0, ρ6, m0, rfl, rfl, Nat.zero_le _, hP, CH.m0⟩, ?_⟩
    rintro ga dsa wx ⟨n, ρn, m, hga, rfl, hn, hP, hC⟩
    have e47 : ga 47 = .int .i64 n := (List.cons.inj hga).1
    rw [e47]
    refine Vl.lss (Cond_bool (fun hlt => ?_) fun hge => ?_)
    · have hlt : n < ah.length := by have := of_decide_eq_true hlt; omega
      refine U8s.rd (h0.ext hP.sl.ext) hlt ?_
      refine Vl.i (w' := wx.alloc (.cells (strs ahds).toArray T_string)) (v := .slice (some ⟨wx.heap.size, 0, none⟩) 4 4) (by kernel_rfl) ?_
      have nb := nw_alloc wx (.cells (strs ahds).toArray T_string)
      generalize wx.alloc (.cells (strs ahds).toArray T_string) = wb at nb ⊢
      have cb : Cl wb wx.heap.size T_string (strs ahds) := nb.new
      refine Vl.i (bo_remK (kd := .u8) (b := 4) (by decide)) ?_
      have hi : ah[n] % 4 < ahds.length := Nat.mod_lt _ (by decide)
      refine ix_u8 (l := ahds) cb hi ?_
      have hz : ahds[ah[n] % 4].size ≤ 5 := of_decide_eq_true (List.all_eq_true.1 ahds_all _ (List.getElem_mem hi))
      generalize ahds[ah[n] % 4] = name at hz
      have hP := hP.e nb.ext
      refine Cv.fn (c_enter (c := 2 * n + 1) (B := 5 * n) (listed := false) hP hC.ok (by omega) (by rw [hC.el]; omega) hC.tx (by omega) (by simp; omega) (by simp) (fun z hz => by cases hz) fun ρ' w' hP' _ _ => ?_)
      refine Vl.add ⟨⟨n + 1, ρ', _, rfl, rfl, by omega, ?_, hC.enter hz⟩, ?_⟩
      · rw [hC.el] at hP'
        have e : List.range' 1 n ++ [n + 1] = List.range' 1 (n + 1) := by
          rw [List.range'_concat]; congr 2; omega
        rw [e] at hP'
        exact hP'
      · show ah.length - ((n : Int) + 1).toNat < ah.length - (n : Int).toNat
        omega
    · have hge : n = ah.length := by have := of_decide_eq_false hge; omega
      subst hge
      refine Cv.fn (c_enter (c := 2 * ah.length + 1) (B := 5 * ah.length) (listed := true) hP hC.ok (by omega) (by rw [hC.el]; omega) hC.tx (by show 5 * ah.length + 1 ≤ _; omega) (by simp; omega) (by simp) (fun z hz => by cases hz) fun ρ1 w1 hP1 _ _ => ?_)
      obtain ⟨nf, _⟩ := enter_names hC.ok (p := ah.length) (by rw [hC.el]; omega) ⟨#[98]⟩
      have hC1 : CH (ah.length + 1) (enterM m ah.length ⟨#[98]⟩) := hC.enter (by decide)
      rw [if_pos rfl, pushL_plain (.inl (by simp)), hC.el] at hP1
      rw [hC.el] at nf ⊢
      have e : List.range' 1 ah.length ++ [ah.length + 1] = List.range' 1 (ah.length + 1) := by
        rw [List.range'_concat]; congr 2; omega
      rw [e] at hP1
      generalize enterM m ah.length ⟨#[98]⟩ = m1 at hP1 nf hC1
      clear hP hC e
      refine Vl.len ⟨fun g ds wx => ∃ (n : Nat) (ρ : Roles) (m : AM) (lw : List Int) (lv : Value), g = [lv, .int .i64 n] ∧ ds = [] ∧ n ≤ wi.length ∧ PL wa ρ wx A S L b5 b6 b7 b8 m (List.range' 1 (ah.length + 1 + n)) (((ah.length + 1 : Nat) : Int) :: lw) (ah.length + 1 + n) ∧ CH (ah.length + 1 + n) m ∧
          AgIn m ⟨#[98]⟩ ah.length n lw ∧ lw.length ≤ n ∧ lw.length ≤ 3 ∧ Row wx T_int 1 lv lw.length (ints lw) ∧ (∀ b, blk lv = some b → ρ b = some (8, .stk)), fun g _ => wi.length - (intAt g 1).toNat,
        ⟨0, ρ1, m1, [], _, rfl, rfl, Nat.zero_le _, hP1, hC1, ⟨nf, fun i h1 h2 => by omega, fun z hz => by cases hz⟩, Nat.zero_le _, Nat.zero_le _, Row.nil _ _ _, fun b hb => by cases hb⟩, ?_⟩
      rintro gb dsb wx ⟨n, ρn, m, lw, lv, hgb, rfl, hn, hP, hC, hA, hlk, hl3, hlv, hlr⟩
      have e13 : gb 13 = lv := (List.cons.inj hgb).1
      have e63 : gb 63 = .int .i64 n := (List.cons.inj (List.cons.inj hgb).2).1
      rw [e13, e63]
      refine Vl.lss (Cond_bool (fun hlt => ?_) fun hge => ?_)
      · have hlt : n < wi.length := by have := of_decide_eq_true hlt; omega
        refine U8s.rd (h1.ext hP.sl.ext) hlt ?_
        generalize wi[n] = u
        have en : m.elems.length = ah.length + 1 + n + 1 := hC.el
        refine ⟨fun vs ds wy => ds = [] ∧ vs = [.int .i64 (m.elems.length : Nat)] ∧ ∃ (listed : Bool) (name : ByteArray) (ρ' : Roles), name ∈ wits ∧ (listed = true → n < 3) ∧ PL wa ρ' wy A S L b5 b6 b7 b8 (enterM m (ah.length + 1 + n) name) (List.range' 1 (ah.length + 1 + n) ++ [m.elems.length])
            (if listed = true then pushL (enterM m (ah.length + 1 + n) name) (((ah.length + 1 : Nat) : Int) :: lw) m.elems.length else (((ah.length + 1 : Nat) : Int) :: lw)) m.elems.length ∧ Row wy T_int 1 lv lw.length (ints lw) ∧ (∀ b, blk lv = some b → ρ' b = some (8, .stk)), ?_, ?_⟩
        · refine Vl.i (w' := wx.alloc (.cells (strs wits).toArray T_string)) (v := .slice (some ⟨wx.heap.size, 0, none⟩) 5 5) (by kernel_rfl) ?_
          have nb := nw_alloc wx (.cells (strs wits).toArray T_string)
          generalize wx.alloc (.cells (strs wits).toArray T_string) = wb at nb ⊢
          have cb : Cl wb wx.heap.size T_string (strs wits) := nb.new
          refine Vl.i (bo_remK (kd := .u8) (b := 5) (by decide)) ?_
          have hi : u % 5 < wits.length := Nat.mod_lt _ (by decide)
          refine ix_u8 (l := wits) cb hi ?_
          have hmem : wits[u % 5] ∈ wits := List.getElem_mem hi
          generalize wits[u % 5] = name at hmem
          have hP := hP.e nb.ext
          have hlv := hlv.ext nb.ext
          have go : ∀ listed : Bool, (listed = true → n < 3) → Cv Tryd.prog (.func (.func 43) #[] #[.pointer (some ⟨b5, 0, none⟩), .pointer (some ⟨b8, 0, none⟩), .pointer (some ⟨b6, 0, none⟩), .pointer (some ⟨b7, 0, none⟩)]) #[.string name, .bool listed] wb fun v wy =>
              ([] : List Deferred) = [] ∧ [v] = [.int .i64 (m.elems.length : Nat)] ∧ ∃ (listed : Bool) (name : ByteArray) (ρ' : Roles), name ∈ wits ∧ (listed = true → n < 3) ∧ PL wa ρ' wy A S L b5 b6 b7 b8 (enterM m (ah.length + 1 + n) name) (List.range' 1 (ah.length + 1 + n) ++ [m.elems.length])
            (if listed = true then pushL (enterM m (ah.length + 1 + n) name) (((ah.length + 1 : Nat) : Int) :: lw) m.elems.length else (((ah.length + 1 : Nat) : Int) :: lw)) m.elems.length ∧ Row wy T_int 1 lv lw.length (ints lw) ∧ (∀ b, blk lv = some b → ρ' b = some (8, .stk)) := fun listed hl => by
            have hz := (wits_are name hmem).2
            refine Cv.fn (c_enter (c := 2 * (ah.length + 1 + n) + 1) (B := 5 * (ah.length + 1 + n)) (listed := listed) hP hC.ok (by omega) (by rw [hC.el]; omega) hC.tx (by omega) (by simp; omega) (by simp; omega) (fun z hz => ?_) fun ρ' w' hP' hr hc => ?_)
            · rcases List.mem_cons.1 hz with rfl | hz
              · exact ⟨_, rfl, by omega⟩
              · obtain ⟨i, e, _, h2⟩ := hA.lw z hz
                exact ⟨i, e, by omega⟩
            · refine ⟨rfl, rfl, listed, name, ρ', hmem, hl, hP', hlv.chg hc fun b hb e => ?_, fun b hb => (hr b (hlv.lt b hb)).trans (hlr b hb)⟩
              have hb := hlr b hb
              rcases e with ⟨r, e⟩ | e
              · rw [hb] at e; cases e
              · rw [e, hP.h8.ro] at hb; cases hb
          refine Vl.i (bo_remK (kd := .u8) (b := 2) (by decide)) (Vl.eql (Cond_bool (fun _ => ?_) fun _ => go false fun h => by cases h))
          refine Vl.i (bo_remK (kd := .u8) (b := 5) (by decide)) (Vl.neq (Cond_bool (fun _ => ?_) fun _ => go false fun h => by cases h))
          refine Vl.i (bo_remK (kd := .u8) (b := 5) (by decide)) (Vl.neq (Cond_bool (fun _ => ?_) fun _ => go false fun h => by cases h))
          exact Vl.lss (go _ fun h => by have := of_decide_eq_true h; omega)
        · rintro gc dsc wy ⟨rfl, hgc, listed, name, ρ', hmem, hl, hP, hlv, hlr⟩
          have e16 : gc 16 = .int .i64 (m.elems.length : Nat) := (List.cons.inj hgc).1
          rw [e16]
          obtain ⟨⟨nb1, nb2⟩, hz⟩ := wits_are name hmem
          obtain ⟨nf, no⟩ := enter_names hC.ok (p := ah.length + 1 + n) (by rw [hC.el]; omega) name
          have hC' : CH (ah.length + 1 + (n + 1)) (enterM m (ah.length + 1 + n) name) := hC.enter hz
          have hAf := no (ah.length + 1) (by omega)
          have hins : ∀ i, ah.length + 1 < i → i ≤ ah.length + 1 + (n + 1) → nameAt (enterM m (ah.length + 1 + n) name) i ≠ ⟨#[98]⟩ ∧ isKind (nameAt (enterM m (ah.length + 1 + n) name) i) 32 = false ∧ isKind (nameAt (enterM m (ah.length + 1 + n) name) i) 16 = false := fun i h1 h2 => by
            by_cases hi : i < m.elems.length
            · rw [no i hi]; exact hA.ins i h1 (by omega)
            · have : i = m.elems.length := by omega
              rw [this, nf]; exact ⟨nb1, nb2⟩
          have e : List.range' 1 (ah.length + 1 + n) ++ [m.elems.length] = List.range' 1 (ah.length + 1 + (n + 1)) := by
            rw [en, ← Nat.add_assoc, List.range'_concat]; congr 2; omega
          rw [e] at hP
          refine Vl.ld hP.h7.cl rfl ?_
          cases listed with
          | true =>
            have hn3 := hl rfl
            rw [if_pos rfl, pushL_plain (.inr ⟨by simp; omega, by
              unfold sameEl
              have e0 : ((((ah.length + 1 : Nat) : Int) :: lw).getD 0 0) = ((ah.length + 1 : Nat) : Int) := rfl
              rw [e0, Int.toNat_natCast, hAf, hA.f, nf]
              simp [Ne.symm nb1]⟩)] at hP
            have eL : (((ah.length + 1 : Nat) : Int) :: lw) ++ [(m.elems.length : Int)] = ((ah.length + 1 : Nat) : Int) :: (lw ++ [(m.elems.length : Int)]) := rfl
            rw [eL] at hP
            refine c_LFind hP.sl.hL (by simp; omega) (Vl.geq (Cond_bool (fun _ => ?_) fun hf => ?_))
            · refine Vl.bs1 (E := T_int) (sz := 1) rfl fun wz hz => ?_
              have cz : Cl wz wy.heap.size T_int [.int .i64 (m.elems.length : Nat)] := hz.new
              have hPz := hP.e hz.ext
              refine Vl.app (m := 1) (sz := 1) (E := T_int) (hlv.ext hz.ext) cz rfl (fun u hu => by have : u = .int .i64 (m.elems.length : Nat) := by simpa using hu
                                                                                                    rw [this]; rfl) (by omega) fun v' w' hr hc hb => ?_
              refine Vl.add ⟨⟨n + 1, cutR (grow ρ' wz v' (8, .stk)) w', _, lw ++ [(m.elems.length : Int)], v', rfl, rfl, by omega, ?_, hC', ⟨?_, hins, ?_⟩, by simp; omega, by simp; omega, ?_, ?_⟩, ?_⟩
              · have hP2 := hPz.oth (grow_ext ρ' wz v' (8, .stk)) hc fun b hb => hlr b hb
                have e2 : ah.length + 1 + (n + 1) = m.elems.length := by omega
                rw [e2]; rw [e2] at hP2; exact hP2
              · rw [hAf]; exact hA.f
              · intro z hz
                rcases List.mem_append.1 hz with hz | hz
                · obtain ⟨i, e, h1, h2⟩ := hA.lw z hz
                  exact ⟨i, e, h1, by omega⟩
                · exact ⟨m.elems.length, by simpa using hz, by omega, by omega⟩
              · have : ints (lw ++ [(m.elems.length : Int)]) = ints lw ++ [.int .i64 (m.elems.length : Nat)] := by unfold ints; simp
                rw [this, List.length_append]
                exact hr
              · intro b hk
                have hlt : b < w'.heap.size := hr.lt b hk
                rw [cutR_ext _ w' b hlt]
                refine grow_role hk fun hl => ?_
                rcases hb b hk with e | ⟨h1, _⟩
                · exact hlr b e
                · omega
              · show wi.length - ((n : Int) + 1).toNat < wi.length - (n : Int).toNat
                omega
            · exfalso
              have := of_decide_eq_false hf
              unfold findL at this
              rw [if_neg (by omega)] at this
              exact this (idx_nn (by simp))
          | false =>
            rw [if_neg (by decide)] at hP
            refine c_LFind hP.sl.hL (by simp; omega) (Vl.geq (Cond_bool (fun hf => ?_) fun hf => ?_))
            · exfalso
              have := of_decide_eq_true hf
              unfold findL at this
              rw [if_neg (by omega), idx_no] at this
              · omega
              · intro hm
                rcases List.mem_cons.1 hm with e | hm
                · omega
                · obtain ⟨i, e, h1, h2⟩ := hA.lw _ hm
                  omega
            · refine Vl.add ⟨⟨n + 1, ρ', _, lw, lv, rfl, rfl, by omega, ?_, hC', ⟨?_, hins, ?_⟩, by omega, by omega, hlv, hlr⟩, ?_⟩
              · have e2 : ah.length + 1 + (n + 1) = m.elems.length := by omega
                rw [e2]; rw [e2] at hP; exact hP
              · rw [hAf]; exact hA.f
              · intro z hz
                obtain ⟨i, e, h1, h2⟩ := hA.lw z hz
                exact ⟨i, e, h1, by omega⟩
              · show wi.length - ((n : Int) + 1).toNat < wi.length - (n : Int).toNat
                omega
      · have hge : n = wi.length := by have := of_decide_eq_false hge; omega
        subst hge
        have tI : ∀ {q : Nat} {Q : Nat → Prop} {u : Value} {l : List TN} {wx wy : World}, RV Q q wx u l → Ext wx wy → RV Q q wy u l := fun h hE => h.chg _ hE (fun _ _ _ => id) fun _ h _ => h
        have rk := hC.up.ranked hC.ok.aok
        have hel : 0 < m.elems.length := by rw [hC.el]; omega
        refine Vl.ld hP.h5.cl rfl ?_
        refine c_Nodes (i := 0) (d := m.nodes.length + 1) hP.sl.hA hC.ok.aok (by omega) rk hel (by show _ - _ < _; omega) fun v2 w2 hv2 hE2 => ?_
        refine c_To12 _ hv2 (export_TB hC.ok (by omega) _ _) fun v3 w3 hv3 hE3 => ?_
        have hP3 := hP.e (hE2.then hE3)
        have q3 : ∀ b, w2.heap.size ≤ b → ρn b = none := fun b hb => hP.cut b (by have := hE2.size; omega)
        refine Vl.ld hP3.h5.cl rfl (Vl.ld hP3.h6.cl rfl (Vl.ld hP3.h7.cl rfl ?_))
        have gok := hC.gok rfl hA hlk
        refine hP3.sl.own.againR hGa gok (by omega) (by omega) fun ρ4 w4 rc h4 => ?_
        obtain ⟨a1, a2, a3, a4⟩ := plain_again hA
        rw [a1]
        rw [a2, a3, a4] at h4
        have bx : ∀ {b T v}, Bx ρn wa w3 b T v → Cl w4 b T [v] := fun h => rc.cell (ownR_else h.ro) h.cl
        have c5 := bx hP3.h5
        have c6 := bx hP3.h6
        have c7 := bx hP3.h7
        have hv3 : RV (fun _ => True) _ w4 v3 (exportM m (m.nodes.length + 1) (elAt m 0)) := hv3.chg _ rc.c (fun b hb _ ⟨r, e⟩ => by rw [ownR_none (q3 b hb)] at e; cases e) fun _ _ _ => trivial
        have hlv : Row w4 T_int 1 lv lw.length (ints lw) := (hlv.ext (hE2.then hE3)).chg rc.c fun b hb ⟨r, e⟩ => by rw [ownR_else (hlr b hb)] at e; cases e
        refine Vl.not (Cond_bool (fun h => by cases h) fun _ => ?_)
        refine Vl.ld c5 rfl (c_Copies h4.hA ?_)
        rw [hC.cp]
        refine Vl.neq (Cond_bool (fun h => by simp at h) fun _ => ?_)
        refine Vl.ld c5 rfl ?_
        refine c_Nodes (i := 0) (d := m.nodes.length + 1) h4.hA hC.ok.aok (by omega) rk hel (by show _ - _ < _; omega) fun v5 w5 hv5 hE5 => ?_
        refine c_To12 _ hv5 (export_TB hC.ok (by omega) _ _) fun v6 w6 hv6 hE6 => ?_
        have hE56 := hE5.then hE6
        refine c_Same12 _ hv6 (tI hv3 hE56) (export_TB hC.ok (by omega) _ _) fun w7 hE7 => Vl.not (Cond_bool (fun h => by cases h) fun _ => ?_)
        have h7 := h4.e (hE56.then hE7)
        have hE47 := hE56.then hE7
        refine Vl.ld (c6.ext hE47) rfl (c_All h7.hS (by simp; omega) fun v8 w8 hr8 hE8 _ => lenRow hr8 (Vl.len (Vl.eql (Cond_bool (fun _ => ?_) fun h => by simp at h))))
        have h8 := h7.e hE8
        have hE48 := hE47.then hE8
        refine Vl.ld (c6.ext hE48) rfl (c_Find h8.hS (by simp; omega) (Vl.lss (Cond_bool (fun _ => ?_) fun h => ?_)))
        · refine Vl.ld (c7.ext hE48) rfl (c_LAll h8.hL (by omega) fun v9 w9 hr9 hE9 _ => ?_)
          refine c_Same14 (l := lw) (Row.iview hr9) (Row.iview (hlv.ext (hE48.then hE9))) (by omega) fun w10 hE10 => Lv.nil (k w10 ((h8.e (hE9.then hE10)).ext))
        · exfalso
          have := of_decide_eq_false h
          rw [idx_no] at this
          · exact this (by decide)
          · intro hm
            obtain ⟨j, hj, e⟩ := List.mem_range'.1 hm
            omega
end Go.Proofs
