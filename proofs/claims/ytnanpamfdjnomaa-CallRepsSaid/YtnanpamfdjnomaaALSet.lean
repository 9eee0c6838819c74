/- AL: what a walk reckons with, as one set. -/
import Derived.Test.YtnanpamfdjnomaaALNe
import Derived.Attr
namespace Go.Proofs.Ytnanpamfdjnomaa.AL
open Go Go.RowKit
attribute [go_sem ↓] arun_skip arun_reg arun_seq arun_block arun_loopH arun_exit arun_ret arun_rawH arun_cond arops_nil arops_plain arops_guard aop_h
attribute [go_sem] exA capA evalA Env.get Env.put argEnv thenA_normal thenA_exit thenA_ret blkA_normal blkA_ret blkA_exit
attribute [go_sem] dOk binA binV binI eqNil pickA unA convA fieldA indexA readA writeA
attribute [go_sem] boundA sliceA buildA fillA putA litsA AV.cells? AV.one PV.one Value.oneCell' AV.list? AV.toPV?
attribute [go_sem] toPVs bytes?_encB appA lenA min2 max2 makeA builtinA resA resA1 resAs Option.map_some
attribute [go_sem] Option.map_none Option.isSome_some Nat.blt_eq if_true if_false List.map_cons List.map_nil List.toList_toArray List.getElem?_cons_zero List.getElem?_cons_succ List.getElem?_nil List.size_toArray
attribute [go_sem] List.length_cons List.length_nil List.take_succ_cons List.take_zero List.drop_succ_cons List.drop_zero List.nil_append List.cons_append List.append_nil List.all_cons List.all_nil Bool.and_true
attribute [go_sem] Bool.true_and true_and and_true objs_newObj toks_newObj next_newObj objs_newTok toks_newTok next_newTok objs_killTok toks_killTok next_killTok
attribute [go_sem] objs_setObj toks_setObj next_setObj objs_dropObj toks_dropObj next_dropObj Nat.add_right_cancel_iff Nat.left_eq_add Nat.add_eq_left Nat.add_left_cancel_iff Nat.succ_ne_self cond_true
attribute [go_sem] cond_false Bool.not_true Bool.not_false List.getD_cons_zero List.getD_cons_succ forall_const Nat.add_zero Nat.zero_add Bool.false_eq_true false_implies true_implies implies_true
attribute [go_sem] ne_eq not_false_eq_true Nat.zero_ne_one Nat.one_ne_zero eq_self and_self decide_true decide_false Option.some.injEq exists_eq_left' or_true true_or
attribute [go_sem] false_or or_false
attribute [go_sem] dreg_nil dreg_cons loadV isFn_move isLoad_move isFn_assign isLoad_assign isFn_pick isLoad_pick isFn_alloc isLoad_alloc isFn_box
attribute [go_sem] isLoad_box isFn_build isLoad_build isFn_buildSlice isLoad_buildSlice isFn_load isLoad_load isFn_store isLoad_store isFn_nilCheck isLoad_nilCheck isFn_binOp
attribute [go_sem] isLoad_binOp isFn_unOp isLoad_unOp isFn_convert isLoad_convert isFn_fieldAddr isLoad_fieldAddr isFn_indexAddr isLoad_indexAddr isFn_extract isLoad_extract isFn_makeSlice
attribute [go_sem] isLoad_makeSlice isFn_slice isLoad_slice isFn_len isFn_cap isFn_min isFn_max isFn_append isLoad_builtin isFn_fn isLoad_fn look_move look_assign look_pick look_alloc look_box
attribute [go_sem] look_build look_buildSlice look_load look_store look_nilCheck look_binOp look_unOp look_convert look_fieldAddr look_indexAddr look_extract look_makeSlice
attribute [go_sem] look_slice look_builtin look_call lk loadA storeless List.contains_cons List.contains_nil Nat.beq_eq_true_eq Option.toList List.not_mem_nil List.mem_cons
attribute [go_sem] forall_eq_or_imp forall_eq Bool.or_false Bool.false_or Bool.or_true Bool.true_or Option.bind_some
attribute [go_sem] ne_0_1 ne_0_2 ne_0_3 ne_0_4 ne_0_5 ne_0_6 ne_0_7 ne_1_0 ne_1_2 ne_1_3 ne_1_4 ne_1_5
attribute [go_sem] ne_1_6 ne_1_7 ne_2_0 ne_2_1 ne_2_3 ne_2_4 ne_2_5 ne_2_6 ne_2_7 ne_3_0 ne_3_1 ne_3_2
attribute [go_sem] ne_3_4 ne_3_5 ne_3_6 ne_3_7 ne_4_0 ne_4_1 ne_4_2 ne_4_3 ne_4_5 ne_4_6 ne_4_7 ne_5_0
attribute [go_sem] ne_5_1 ne_5_2 ne_5_3 ne_5_4 ne_5_6 ne_5_7 ne_6_0 ne_6_1 ne_6_2 ne_6_3 ne_6_4 ne_6_5
attribute [go_sem] ne_6_7 ne_7_0 ne_7_1 ne_7_2 ne_7_3 ne_7_4 ne_7_5 ne_7_6 le_0_0 le_0_1 le_0_2 le_0_3
attribute [go_sem] le_0_4 le_0_5 le_0_6 le_0_7 le_1_0 le_1_1 le_1_2 le_1_3 le_1_4 le_1_5 le_1_6 le_1_7
attribute [go_sem] le_2_0 le_2_1 le_2_2 le_2_3 le_2_4 le_2_5 le_2_6 le_2_7 le_3_0 le_3_1 le_3_2 le_3_3
attribute [go_sem] le_3_4 le_3_5 le_3_6 le_3_7 le_4_0 le_4_1 le_4_2 le_4_3 le_4_4 le_4_5 le_4_6 le_4_7
attribute [go_sem] le_5_0 le_5_1 le_5_2 le_5_3 le_5_4 le_5_5 le_5_6 le_5_7 le_6_0 le_6_1 le_6_2 le_6_3
attribute [go_sem] le_6_4 le_6_5 le_6_6 le_6_7 le_7_0 le_7_1 le_7_2 le_7_3 le_7_4 le_7_5 le_7_6 le_7_7
attribute [go_sem] lt_0_0 lt_0_1 lt_0_2 lt_0_3 lt_0_4 lt_0_5 lt_0_6 lt_0_7 lt_1_0 lt_1_1 lt_1_2 lt_1_3
attribute [go_sem] lt_1_4 lt_1_5 lt_1_6 lt_1_7 lt_2_0 lt_2_1 lt_2_2 lt_2_3 lt_2_4 lt_2_5 lt_2_6 lt_2_7
attribute [go_sem] lt_3_0 lt_3_1 lt_3_2 lt_3_3 lt_3_4 lt_3_5 lt_3_6 lt_3_7 lt_4_0 lt_4_1 lt_4_2 lt_4_3
attribute [go_sem] lt_4_4 lt_4_5 lt_4_6 lt_4_7 lt_5_0 lt_5_1 lt_5_2 lt_5_3 lt_5_4 lt_5_5 lt_5_6 lt_5_7
attribute [go_sem] lt_6_0 lt_6_1 lt_6_2 lt_6_3 lt_6_4 lt_6_5 lt_6_6 lt_6_7 lt_7_0 lt_7_1 lt_7_2 lt_7_3
attribute [go_sem] lt_7_4 lt_7_5 lt_7_6 lt_7_7
attribute [go_sem] dreg_guarded setObj_newObj_if
end Go.Proofs.Ytnanpamfdjnomaa.AL
