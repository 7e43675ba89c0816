/-
  A part of a proof: see the last text of this claim for what is proved.
-/
import Derived.Test.YthdlbokgbkejnaaGreatDoorGH
import Derived.Test.YthdlbokgbkejnaaGreatDoorDM
import Derived.Test.YthdlbokgbkejnaaGreatDoorCD
namespace Go.AM
open Go Go.Proofs Go.IntWalk
attribute [go_sem] ev_skip ev_seq ev_region ev_ret ev_block ev_exit ev_loop ev_cond ev_scope ev_label condK_true condK_false
attribute [go_sem] condK_bool isCut Bool.false_eq_true if_true if_false false_implies true_and and_true true_implies KS_ap KR_ap steps_nil
attribute [go_sem] stepsG_cons thn_n thn_e thn_r blk_n blk_e blk_r ev_op ev_opG opK_true opK_false isPureOp
attribute [go_sem] List.contains_nil List.contains_cons Bool.or_false Bool.false_or cond_true cond_false aopP callP_fn callV_eq mapV allC frzAll
attribute [go_sem] frzL opndV ofV ofV1 oc ox stripC stripV look_cons upd_look pureK_none pureGK_eq
attribute [go_sem] gAt List.getElem?_toArray List.getElem?_cons_succ List.getElem?_cons_zero Option.bind_some Option.isNone_none Option.isNone_some Bool.false_and Bool.and_false Bool.and_self Bool.and_true Bool.true_and
attribute [go_sem] gK_bool gK_whn mkW pickA beq_true beq_false Bool.not_false Bool.not_true keepA binA binP binI
attribute [go_sem] binS eqP unA unP isC extractA List.length_cons List.length_nil List.getD_cons_zero List.getD_cons_succ frzOk frz
attribute [go_sem] AV.freeL AV.free PV.flat PV.flat1 List.all_cons List.all_nil or_true true_or cxP_P cxP_N cxP_Φ cxP_Ψ
attribute [go_sem] cxP_Θ cxP_rows cxP_pins cxQ_P cxQ_N cxQ_Φ cxQ_Ψ cxQ_Θ cxQ_rows cxQ_pins putΘ putΨ
attribute [go_sem] noΘ noΨ ev_call ev_alloc ev_box ev_makeSlice ev_store ev_append binT_i binT_s binT_b binT_ni
attribute [go_sem] binT_np binT_if binT_pp binT_agg keyOk_i keyOk_s keyOk_b keyOk_agg packK_pv packK_agg pvL notIn
attribute [go_sem] ev_range ev_next rangeA nextA ev_makeMap ev_mapUpdate ev_delete mapA delA lookupA zvP keyKind
attribute [go_sem] callK_E callK_Q callK_P qV_1 psiNew_eq aopE newB_some putD_some putD hget hset hdel
attribute [go_sem] storeA putL cellsA partC partA fieldAddrA addOff nilCheckA fieldV buildA packA fieldPlaces
attribute [go_sem] fillA appendA allW killR_look killS AV.kill AV.killL killH ABlk.kill putΦ argL implies_true
attribute [go_sem] indexAddrA loadA partP partL PV.nth isAggD Int.toNat_zero Int.toNat_one List.drop_zero List.take_zero Nat.add_zero Int.le_refl
attribute [go_sem] Int.cast_ofNat_Int not_false_eq_true not_true_eq_false imp_self and_self gt1 gt2 Bool.not_not Bool.cond_false_right Bool.cond_true_left Bool.cond_false_left Bool.cond_true_right
attribute [go_sem] Nat.zero_add Fin_n Fin_r FinQ tapeOk filt AV.refsIn AV.refsInL refsH ABlk.refsIn Option.isSome_some Option.getD_some
attribute [go_sem] Option.getD_none FinN resC resV res1 tupP AV.one List.set_cons_succ List.set_cons_zero Option.some.injEq minmaxA foldI
attribute [go_sem] lenA isSliceD isStrD isSliceOrStr Int.toNat_natCast ne_eq sliceA natOf List.map_cons List.map_nil Option.map_none Option.map_some
attribute [go_sem] Option.toList List.append_nil List.nil_append List.cons_append buildSliceA idxOk elemOk PV.width PV.cells PV.one convP convA
attribute [go_sem] srcA isStrV isByteD isU8 Nat.beq_eq_true_eq beq_self_eq_true
end Go.AM
