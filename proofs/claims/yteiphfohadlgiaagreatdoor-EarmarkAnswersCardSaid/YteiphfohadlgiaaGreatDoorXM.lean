/-
  A part of a proof.
-/
import Derived.Test.YteiphfohadlgiaaGreatDoorXK
set_option linter.unusedSimpArgs false
set_option linter.unusedVariables false
namespace Go.AM
open Go Go.Proofs Go.IntWalk
set_option maxRecDepth 100000
set_option maxHeartbeats 1000000
theorem preLf_eq {l:List PV}:preLf [.sl l]=treeP l:=propext ⟨fun ⟨l',e,h⟩=>by simp only [List.cons.injEq,PV.sl.injEq,and_true] at e;subst e;exact h,fun h=>⟨l,rfl,h⟩⟩
def okAny (_:List PV) (_:List PV):Prop:=True
def lawC (first years:Int) (tree a b c d e f g:List PV):List AV:=[.pv (.int .i64 first),.pv (.int .i64 years),.pv (.sl tree),.pv (.sl a),.pv (.sl b),.pv (.sl c),.pv (.sl d),.pv (.sl e),.pv (.sl f),.pv (.sl g)]
noncomputable def carriedS:QSpec:=qV Tp preRe slV okAny
theorem w_carriedS:QSound GG 25 carriedS:=by
  unfold carriedS
  refine QSound.of_wpcV (C:=cxQ Tryz.prog Φ14 Θ5 noΨ [] [9000] 53) 9000 Tryz.func25 rfl rfl rfl (Fit.all (G:=GG) hΦ14 hΘ5 hnoΨ mixed) rfl (fun args h=>?_) (fun args h=>?_)
  · exact ⟨[],trivial⟩
  · obtain ⟨l,n,rfl,⟨first,years,tree,a,b,c,d,e,f,g,rfl,hf,hy,ht,h9,_⟩,hn⟩:=h
    refine ⟨by simp [cxQ],?_⟩
    refine wpc_sound (T:=plan0) _ _ _ ?_
    have hw1:IntKind.i64.wrap (n+1)=n+1:=i64_in _ (by omega)
    simp only [hw1,lawV,Θ5,Θ4,Θ3,Θ2,Θ1,preN_eq,preP_eq,okP_eq,preR_eq,allI_nil,allI_cons,memI_nil,memI_cons,or_false,false_or,okN,okR,arg1,arg2,ne_eq,not_false_eq_true,intV,Nat.reduceBEq,Φ14,Φ13,Tryz.f25,plan0,go_sem,↓reduceIte,reduceCtorEq,Nat.reduceEqDiff,Nat.reduceLT,↓all_qV,Int.reduceToNat,Int.reduceLT,Int.reduceLE,Nat.reduceAdd,Nat.reduceLeDiff,Nat.reduceMul]
    refine ⟨by omega,fun x hx=>?_⟩
    have hw2:IntKind.i64.wrap (360 * first)=360 * first:=i64_in _ (by omega)
    rw [hw2]
    refine AWp.adoptS (s:=7) (κ:=8000) (k:=5) (by simp [look]) rfl (by decide) ?_
    refine AWp.loop (T:=plan0) (α:=Int × Int × List PV) (fun y=>([(0,.ptr 9000 0),(4,.ptr 4 0),(7,.rs 8000 y.2.2.length),(8,.pv (.int .i64 y.2.1)),(9,.pv (.int .i64 y.1))],[(9000,.obj Tp),(8000,.row 5 y.2.2),(4,.cells (lawC first years tree a b c d e f g))]))
      (fun y=>(0<=y.1/\y.1<=10)/\(0<=y.2.1/\y.2.1+120 * y.1<=40000)/\(y.2.2.length:Int)+y.1<=11) (fun y=>y.1.toNat)
      ⟨(x,360 * first,[]),⟨⟨by omega,by omega⟩,⟨by simp only;omega,by simp only;omega⟩,by simp;omega⟩,⟨by simp [fitR,look,upd],by simp [fitH,hget,hset,lawC],rfl,rfl,rfl⟩⟩ ?_
    rintro ⟨i,day,acc⟩ ⟨⟨g1,g2⟩,⟨g3,g4⟩,g5⟩
    simp only at g1 g2 g3 g4 g5
    have hi1:IntKind.i64.wrap (i-1)=i-1:=i64_in _ (by omega)
    have hal:IntKind.i64.wrap ((acc.length:Int)+1)=(acc.length:Int)+1:=i64_in _ (by omega)
    by_cases hlt:0<i
    · have c0:decide (0<i)=true:=by simp;exact hlt
      simp (config:={maxSteps:=1000000}) only [c0,hi1,lawC,preLf_eq,strV,Θ5,Θ4,Θ3,Θ2,Θ1,preN_eq,preP_eq,okP_eq,preR_eq,allI_nil,allI_cons,memI_nil,memI_cons,or_false,false_or,okN,okR,arg1,arg2,ne_eq,not_false_eq_true,intV,Nat.reduceBEq,plan0,go_sem,↓reduceIte,reduceCtorEq,Nat.reduceEqDiff,Nat.reduceLT,↓all_qV,Int.reduceToNat,Int.reduceLT,Int.reduceLE,Nat.reduceAdd,Nat.reduceLeDiff,Nat.reduceMul]
      intro x0 h0
      have b1:=i64_in (day+x0) (by omega)
      refine ⟨by kernel_rfl,ht,fun cc hcl=>⟨⟨by omega,by omega⟩,fun x2 h2 x3 h3 x4 h4=>?_⟩⟩
      have b2:=i64_in (0-x4) (by omega)
      refine ⟨⟨by omega,by omega,by omega⟩,fun x5 h5=>⟨rfl,?_,Nat.le_refl _,by omega,by simp only [maxLen];omega,⟨i-1,day+x0,acc++[.agg [intV (acc.length+1),intV (day+x0),.str cc,intV (IntKind.i64.wrap (first+x2)),intV x5]]⟩,?_,by simp only;omega,?_⟩⟩
      · intro e he
        simp only [List.mem_singleton] at he
        subst he;rfl
      · exact ⟨⟨by simp only;omega,by simp only;omega⟩,⟨by simp only;omega,by simp only;omega⟩,by simp only [List.length_append,List.length_cons,List.length_nil];omega⟩
      · refine ⟨?_,?_,rfl,rfl,rfl⟩
        · rw [b1];simp [fitR,look]
        · rw [b1,hal,List.take_length];simp [fitH,hget,intV]
    · have c0:decide (0<i)=false:=by simp;omega
      simp only [c0,lawC,plan0,Nat.reduceBEq,go_sem,↓reduceIte,reduceCtorEq,Nat.reduceEqDiff,Nat.reduceLT,↓all_qVs,Int.reduceToNat,Int.reduceLT,Int.reduceLE,Nat.reduceAdd,Nat.reduceLeDiff,Nat.reduceMul]
      rw [List.take_length]
      exact ⟨Nat.le_refl _,acc,rfl,trivial⟩
end Go.AM
namespace Go.AM
open Go Go.Proofs Go.IntWalk
attribute [local go_sem] plan0
set_option maxRecDepth 100000
set_option maxHeartbeats 1000000
theorem PV_default:(default:PV)=.bool false:=rfl
theorem Φ14_N {args:List PV}:Φ14 9 args=(False,default):=rfl
theorem Φ14_leaves {args:List PV}:Φ14 31 args=leavesS args:=rfl
theorem getD_str {lv:List PV} (hlm:∀ e,e∈lv->∃ c,e=.str c/\c.length<=100) {j:Nat} (hj:j<lv.length):∃ c,lv.getD j default=.str c/\c.length<=100:=by
  obtain ⟨cc,e,h⟩:=hlm (lv[j]'hj) (List.getElem_mem _)
  exact ⟨cc,by simp [List.getD_eq_getElem?_getD,hj,e],h⟩
theorem getD_rule {f:List PV} (hfr:∀ x,x∈f->ruleP x) {j:Nat} (hj:j<f.length):∃ n s c p,f.getD j default=.agg [.int .i64 n,.str s,.str c,.int .i64 p]/\s.length<=100/\c.length<=100:=by
  obtain ⟨n,s,c,p,e,h⟩:=hfr (f[j]'hj) (List.getElem_mem _)
  exact ⟨n,s,c,p,by simp [List.getD_eq_getElem?_getD,hj,e],h⟩
noncomputable def transfersS:QSpec:=qV Tp preRe slV okAny
theorem w_transfersS:QSound GG 23 transfersS:=by
  unfold transfersS
  refine QSound.of_wpcV (C:=cxQ Tryz.prog Φ14 Θ5 noΨ [] [9000] 129) 9000 Tryz.func23 rfl rfl rfl (Fit.all (G:=GG) hΦ14 hΘ5 hnoΨ mixed) rfl (fun args h=>?_) (fun args h=>?_)
  · exact ⟨[],trivial⟩
  · obtain ⟨l,n,rfl,⟨first,years,tree,a,b,c,d,e,f,g,rfl,hf,hy,ht,h9,_,_,hfl,hfr⟩,hn⟩:=h
    refine ⟨by simp [cxQ],?_⟩
    refine wpc_sound (T:=plan0) _ _ _ ?_
    have hw1:IntKind.i64.wrap (n+1)=n+1:=i64_in _ (by omega)
    simp only [hw1,lawV,Θ5,Θ4,Θ3,Θ2,Θ1,preN_eq,preP_eq,okP_eq,preR_eq,allI_nil,allI_cons,memI_nil,memI_cons,or_false,false_or,okN,okR,arg1,arg2,ne_eq,not_false_eq_true,intV,Nat.reduceBEq,Φ14,Φ13,leavesS,on_ls_eq,List.take_succ_cons,List.take_nil,Tryz.f23,go_sem,↓reduceIte,reduceCtorEq,Nat.reduceEqDiff,Nat.reduceLT,↓all_qV,Int.reduceToNat,Int.reduceLT,Int.reduceLE,Nat.reduceAdd,Nat.reduceLeDiff,Nat.reduceMul]
    refine ⟨⟨ht.isH,by have:=ht.1;omega⟩,by omega,fun x hx=>?_⟩
    have hlv:=leaves9 ht h9 [] (.inl rfl)
    have hlm:=leavesF_mem (top:=[]) ht
    have hll:(leavesF tree []).length<=100:=Nat.le_trans leavesF_len ht.1
    have hw2:IntKind.i64.wrap (360 * first)=360 * first:=i64_in _ (by omega)
    rw [hw2]
    generalize leavesF tree []=lv at hlv hlm hll
    have hlp:=List.length_pos_iff.2 hlv
    refine AWp.adoptS (s:=7) (κ:=8000) (k:=7) (by simp [look]) rfl (by decide) ?_
    refine AWp.loop (T:=plan0) (α:=Int × Int × List PV) (fun y=>([(0,.ptr 9000 0),(4,.ptr 4 0),(7,.rs 8000 y.2.2.length),(8,.pv (.int .i64 y.2.1)),(9,.pv (.sl lv)),(10,.pv (.int .i64 y.1))],[(9000,.obj Tp),(8000,.row 7 y.2.2),(4,.cells (lawC first years tree a b c d e f g))]))
      (fun y=>(0<=y.1/\y.1<=10)/\(0<=y.2.1/\y.2.1+120 * y.1<=40000)/\(y.2.2.length:Int)+y.1<=11) (fun y=>y.1.toNat)
      ⟨(x,360 * first,[]),⟨⟨by omega,by omega⟩,⟨by simp only;omega,by simp only;omega⟩,by simp;omega⟩,⟨by simp [fitR,look,upd],by simp [fitH,hget,hset,lawC],rfl,rfl,rfl⟩⟩ ?_
    rintro ⟨i,day,acc⟩ ⟨⟨g1,g2⟩,⟨g3,g4⟩,g5⟩
    simp only at g1 g2 g3 g4 g5
    have hi1:IntKind.i64.wrap (i-1)=i-1:=i64_in _ (by omega)
    have hal:IntKind.i64.wrap ((acc.length:Int)+1)=(acc.length:Int)+1:=i64_in _ (by omega)
    by_cases hlt:0<i
    · have c0:decide (0<i)=true:=by simp;exact hlt
      simp only [c0,Θ5,Θ4,Θ3,Θ2,Θ1,preN_eq,preP_eq,okP_eq,preR_eq,allI_nil,allI_cons,memI_nil,memI_cons,or_false,false_or,okN,okR,arg1,arg2,ne_eq,not_false_eq_true,intV,Nat.reduceBEq,Φ14_N,Φ14_leaves,leavesS,on_ls_eq,hi1,lawC,List.take_succ_cons,List.take_nil,go_sem,↓reduceIte,reduceCtorEq,Nat.reduceEqDiff,Nat.reduceLT,↓all_qVz,↓all_qVz',Int.reduceToNat,Int.reduceLT,Int.reduceLE,Nat.reduceAdd,Nat.reduceLeDiff,Nat.reduceMul,ev_callG,gcallK_b,gcallK_w,callGc_true,callGc_false]
      intro x0 h0
      rw [Stop_eq]
      simp (config:={maxSteps:=1000000}) only [Θ5,Θ4,Θ3,Θ2,Θ1,preN_eq,preP_eq,okP_eq,preR_eq,allI_nil,allI_cons,memI_nil,memI_cons,or_false,false_or,okN,okR,arg1,arg2,ne_eq,not_false_eq_true,intV,Nat.reduceBEq,Φ14_N,Φ14_leaves,leavesS,on_ls_eq,hi1,lawC,List.take_succ_cons,List.take_nil,go_sem,↓reduceIte,reduceCtorEq,Nat.reduceEqDiff,Nat.reduceLT,↓all_qVz,↓all_qVz',Int.reduceToNat,Int.reduceLT,Int.reduceLE,Nat.reduceAdd,Nat.reduceLeDiff,Nat.reduceMul,ev_callG,gcallK_b,gcallK_w,callGc_true,callGc_false]
      refine ⟨by omega,fun y hy=>?_⟩
      rw [Stop_eq]
      simp (config:={maxSteps:=1000000}) only [Θ5,Θ4,Θ3,Θ2,Θ1,preN_eq,preP_eq,okP_eq,preR_eq,allI_nil,allI_cons,memI_nil,memI_cons,or_false,false_or,okN,okR,arg1,arg2,ne_eq,not_false_eq_true,intV,Nat.reduceBEq,Φ14_N,Φ14_leaves,leavesS,on_ls_eq,hi1,lawC,List.take_succ_cons,List.take_nil,go_sem,↓reduceIte,reduceCtorEq,Nat.reduceEqDiff,Nat.reduceLT,↓all_qVz,↓all_qVz',Int.reduceToNat,Int.reduceLT,Int.reduceLE,Nat.reduceAdd,Nat.reduceLeDiff,Nat.reduceMul,ev_callG,gcallK_b,gcallK_w,callGc_true,callGc_false]
      have b1:=i64_in (day+y) (by omega)
      refine ⟨by kernel_rfl,⟨by omega,by omega⟩,fun x1 h1=>?_⟩
      rw [Stop_eq]
      simp (config:={maxSteps:=1000000}) only [Θ5,Θ4,Θ3,Θ2,Θ1,preN_eq,preP_eq,okP_eq,preR_eq,allI_nil,allI_cons,memI_nil,memI_cons,or_false,false_or,okN,okR,arg1,arg2,ne_eq,not_false_eq_true,intV,Nat.reduceBEq,Φ14_N,Φ14_leaves,leavesS,on_ls_eq,hi1,lawC,List.take_succ_cons,List.take_nil,go_sem,↓reduceIte,reduceCtorEq,Nat.reduceEqDiff,Nat.reduceLT,↓all_qVz,↓all_qVz',Int.reduceToNat,Int.reduceLT,Int.reduceLE,Nat.reduceAdd,Nat.reduceLeDiff,Nat.reduceMul,ev_callG,gcallK_b,gcallK_w,callGc_true,callGc_false]
      intro x2 h2
      rw [Stop_eq]
      simp (config:={maxSteps:=1000000}) only [Θ5,Θ4,Θ3,Θ2,Θ1,preN_eq,preP_eq,okP_eq,preR_eq,allI_nil,allI_cons,memI_nil,memI_cons,or_false,false_or,okN,okR,arg1,arg2,ne_eq,not_false_eq_true,intV,Nat.reduceBEq,Φ14_N,Φ14_leaves,leavesS,on_ls_eq,hi1,lawC,List.take_succ_cons,List.take_nil,go_sem,↓reduceIte,reduceCtorEq,Nat.reduceEqDiff,Nat.reduceLT,↓all_qVz,↓all_qVz',Int.reduceToNat,Int.reduceLT,Int.reduceLE,Nat.reduceAdd,Nat.reduceLeDiff,Nat.reduceMul,ev_callG,gcallK_b,gcallK_w,callGc_true,callGc_false]
      refine ⟨⟨by omega,by omega⟩,fun k3 h3=>?_⟩
      obtain ⟨j3,rfl⟩:=Int.eq_ofNat_of_zero_le h3.1
      have hj3:j3<lv.length:=by omega
      obtain ⟨s3,hs3,hl3⟩:=getD_str hlm hj3
      rw [Stop_eq]
      simp (config:={maxSteps:=1000000}) only [hs3,Θ5,Θ4,Θ3,Θ2,Θ1,preN_eq,preP_eq,okP_eq,preR_eq,allI_nil,allI_cons,memI_nil,memI_cons,or_false,false_or,okN,okR,arg1,arg2,ne_eq,not_false_eq_true,intV,Nat.reduceBEq,Φ14_N,Φ14_leaves,leavesS,on_ls_eq,hi1,lawC,List.take_succ_cons,List.take_nil,go_sem,↓reduceIte,reduceCtorEq,Nat.reduceEqDiff,Nat.reduceLT,↓all_qVz,↓all_qVz',Int.reduceToNat,Int.reduceLT,Int.reduceLE,Nat.reduceAdd,Nat.reduceLeDiff,Nat.reduceMul,ev_callG,gcallK_b,gcallK_w,callGc_true,callGc_false]
      refine ⟨h3,⟨by omega,by omega⟩,fun k4 h4=>?_⟩
      obtain ⟨j4,rfl⟩:=Int.eq_ofNat_of_zero_le h4.1
      have hj4:j4<lv.length:=by omega
      obtain ⟨s4,hs4,hl4⟩:=getD_str hlm hj4
      rw [Stop_eq]
      simp (config:={maxSteps:=1000000}) only [hs4,Θ5,Θ4,Θ3,Θ2,Θ1,preN_eq,preP_eq,okP_eq,preR_eq,allI_nil,allI_cons,memI_nil,memI_cons,or_false,false_or,okN,okR,arg1,arg2,ne_eq,not_false_eq_true,intV,Nat.reduceBEq,Φ14_N,Φ14_leaves,leavesS,on_ls_eq,hi1,lawC,List.take_succ_cons,List.take_nil,go_sem,↓reduceIte,reduceCtorEq,Nat.reduceEqDiff,Nat.reduceLT,↓all_qVz,↓all_qVz',Int.reduceToNat,Int.reduceLT,Int.reduceLE,Nat.reduceAdd,Nat.reduceLeDiff,Nat.reduceMul,ev_callG,gcallK_b,gcallK_w,callGc_true,callGc_false]
      refine ⟨h4,fun x5 h5=>?_⟩
      rw [Stop_eq]
      simp (config:={maxSteps:=1000000}) only [Θ5,Θ4,Θ3,Θ2,Θ1,preN_eq,preP_eq,okP_eq,preR_eq,allI_nil,allI_cons,memI_nil,memI_cons,or_false,false_or,okN,okR,arg1,arg2,ne_eq,not_false_eq_true,intV,Nat.reduceBEq,Φ14_N,Φ14_leaves,leavesS,on_ls_eq,hi1,lawC,List.take_succ_cons,List.take_nil,go_sem,↓reduceIte,reduceCtorEq,Nat.reduceEqDiff,Nat.reduceLT,↓all_qVz,↓all_qVz',Int.reduceToNat,Int.reduceLT,Int.reduceLE,Nat.reduceAdd,Nat.reduceLeDiff,Nat.reduceMul,ev_callG,gcallK_b,gcallK_w,callGc_true,callGc_false]
      intro x6 h6
      rw [Stop_eq]
      simp (config:={maxSteps:=1000000}) only [Θ5,Θ4,Θ3,Θ2,Θ1,preN_eq,preP_eq,okP_eq,preR_eq,allI_nil,allI_cons,memI_nil,memI_cons,or_false,false_or,okN,okR,arg1,arg2,ne_eq,not_false_eq_true,intV,Nat.reduceBEq,Φ14_N,Φ14_leaves,leavesS,on_ls_eq,hi1,lawC,List.take_succ_cons,List.take_nil,go_sem,↓reduceIte,reduceCtorEq,Nat.reduceEqDiff,Nat.reduceLT,↓all_qVz,↓all_qVz',Int.reduceToNat,Int.reduceLT,Int.reduceLE,Nat.reduceAdd,Nat.reduceLeDiff,Nat.reduceMul,ev_callG,gcallK_b,gcallK_w,callGc_true,callGc_false]
      refine ⟨by omega,fun x7 h7=>?_⟩
      by_cases hfp:0<f.length
      · have cf:decide ((0:Int)<(f.length:Int))=true:=decide_eq_true (by omega)
        rw [Stop_eq]
        simp (config:={maxSteps:=1000000}) only [cf,Θ5,Θ4,Θ3,Θ2,Θ1,preN_eq,preP_eq,okP_eq,preR_eq,allI_nil,allI_cons,memI_nil,memI_cons,or_false,false_or,okN,okR,arg1,arg2,ne_eq,not_false_eq_true,intV,Nat.reduceBEq,Φ14_N,Φ14_leaves,leavesS,on_ls_eq,hi1,lawC,List.take_succ_cons,List.take_nil,go_sem,↓reduceIte,reduceCtorEq,Nat.reduceEqDiff,Nat.reduceLT,↓all_qVz,↓all_qVz',Int.reduceToNat,Int.reduceLT,Int.reduceLE,Nat.reduceAdd,Nat.reduceLeDiff,Nat.reduceMul,ev_callG,gcallK_b,gcallK_w,callGc_true,callGc_false]
        intro x8 h8
        by_cases h9':0<x8
        · have c9:decide (0<x8)=true:=decide_eq_true h9'
          rw [Stop_eq]
          simp (config:={maxSteps:=1000000}) only [c9,Θ5,Θ4,Θ3,Θ2,Θ1,preN_eq,preP_eq,okP_eq,preR_eq,allI_nil,allI_cons,memI_nil,memI_cons,or_false,false_or,okN,okR,arg1,arg2,ne_eq,not_false_eq_true,intV,Nat.reduceBEq,Φ14_N,Φ14_leaves,leavesS,on_ls_eq,hi1,lawC,List.take_succ_cons,List.take_nil,go_sem,↓reduceIte,reduceCtorEq,Nat.reduceEqDiff,Nat.reduceLT,↓all_qVz,↓all_qVz',Int.reduceToNat,Int.reduceLT,Int.reduceLE,Nat.reduceAdd,Nat.reduceLeDiff,Nat.reduceMul,ev_callG,gcallK_b,gcallK_w,callGc_true,callGc_false]
          refine ⟨by kernel_rfl,by omega,fun k5 h5'=>?_⟩
          obtain ⟨j5,rfl⟩:=Int.eq_ofNat_of_zero_le h5'.1
          have hj5:j5<f.length:=by omega
          obtain ⟨nr,sf,sc,pr,hr,hsf,hsc⟩:=getD_rule hfr hj5
          obtain ⟨la,hla⟩:∃ la,leavesF tree sf=la:=⟨_,rfl⟩
          obtain ⟨lb,hlb⟩:∃ lb,leavesF tree sc=lb:=⟨_,rfl⟩
          have hma:∀ e,e∈la->∃ c,e=.str c/\c.length<=100:=by rw [<- hla];exact leavesF_mem ht
          have hmb:∀ e,e∈lb->∃ c,e=.str c/\c.length<=100:=by rw [<- hlb];exact leavesF_mem ht
          have hna:la.length<=100:=by rw [<- hla];exact Nat.le_trans leavesF_len ht.1
          have hnb:lb.length<=100:=by rw [<- hlb];exact Nat.le_trans leavesF_len ht.1
          have h100:=ht.1
          rw [Stop_eq]
          by_cases ha:0<la.length
          · have ca:decide ((0:Int)<(la.length:Int))=true:=decide_eq_true (by omega)
            simp (config:={maxSteps:=1000000}) only [hr,hla,hlb,ca,Θ5,Θ4,Θ3,Θ2,Θ1,preN_eq,preP_eq,okP_eq,preR_eq,allI_nil,allI_cons,memI_nil,memI_cons,or_false,false_or,okN,okR,arg1,arg2,ne_eq,not_false_eq_true,intV,Nat.reduceBEq,Φ14_N,Φ14_leaves,leavesS,on_ls_eq,hi1,lawC,List.take_succ_cons,List.take_nil,go_sem,↓reduceIte,reduceCtorEq,Nat.reduceEqDiff,Nat.reduceLT,↓all_qVz,↓all_qVz',Int.reduceToNat,Int.reduceLT,Int.reduceLE,Nat.reduceAdd,Nat.reduceLeDiff,Nat.reduceMul,ev_callG,gcallK_b,gcallK_w,callGc_true,callGc_false]
            refine ⟨h5',⟨ht.isH,by omega,by omega⟩,by omega,fun k6 h6'=>?_⟩
            obtain ⟨j6,rfl⟩:=Int.eq_ofNat_of_zero_le h6'.1
            have hj6:j6<la.length:=by omega
            obtain ⟨s5,hs5,hl5⟩:=getD_str hma hj6
            rw [Stop_eq]
            by_cases hb:0<lb.length
            · have cb:decide ((0:Int)<(lb.length:Int))=true:=decide_eq_true (by omega)
              simp (config:={maxSteps:=1000000}) only [hs5,hlb,cb,Θ5,Θ4,Θ3,Θ2,Θ1,preN_eq,preP_eq,okP_eq,preR_eq,allI_nil,allI_cons,memI_nil,memI_cons,or_false,false_or,okN,okR,arg1,arg2,ne_eq,not_false_eq_true,intV,Nat.reduceBEq,Φ14_N,Φ14_leaves,leavesS,on_ls_eq,hi1,lawC,List.take_succ_cons,List.take_nil,go_sem,↓reduceIte,reduceCtorEq,Nat.reduceEqDiff,Nat.reduceLT,↓all_qVz,↓all_qVz',Int.reduceToNat,Int.reduceLT,Int.reduceLE,Nat.reduceAdd,Nat.reduceLeDiff,Nat.reduceMul,ev_callG,gcallK_b,gcallK_w,callGc_true,callGc_false]
              refine ⟨h6',⟨ht.isH,by omega,by omega⟩,by omega,fun k7 h7'=>?_⟩
              obtain ⟨j7,rfl⟩:=Int.eq_ofNat_of_zero_le h7'.1
              have hj7:j7<lb.length:=by omega
              obtain ⟨s6,hs6,hl6⟩:=getD_str hmb hj7
              rw [Stop_eq]
              simp (config:={maxSteps:=1000000}) only [hs6,Θ5,Θ4,Θ3,Θ2,Θ1,preN_eq,preP_eq,okP_eq,preR_eq,allI_nil,allI_cons,memI_nil,memI_cons,or_false,false_or,okN,okR,arg1,arg2,ne_eq,not_false_eq_true,intV,Nat.reduceBEq,Φ14_N,Φ14_leaves,leavesS,on_ls_eq,hi1,lawC,List.take_succ_cons,List.take_nil,go_sem,↓reduceIte,reduceCtorEq,Nat.reduceEqDiff,Nat.reduceLT,↓all_qVz,↓all_qVz',Int.reduceToNat,Int.reduceLT,Int.reduceLE,Nat.reduceAdd,Nat.reduceLeDiff,Nat.reduceMul,ev_callG,gcallK_b,gcallK_w,callGc_true,callGc_false]
              refine ⟨h7',?_⟩
              refine ⟨fun c1 hc1=>?_,rfl,fun e he=>?_,Nat.le_refl _,by omega,by simp only [maxLen];omega,⟨i-1,day+y,acc++[.agg [intV (acc.length+1),intV (day+y),intV (IntKind.i64.wrap (first+x1)),intV nr,.str s5,.str s6,intV x7]]⟩,⟨⟨by simp only;omega,by simp only;omega⟩,⟨by simp only;omega,by simp only;omega⟩,by simp only [List.length_append,List.length_cons,List.length_nil];omega⟩,by simp only;omega,?_,?_,rfl,rfl,rfl⟩
              · simp only [List.mem_cons,List.not_mem_nil,or_false] at hc1
                rcases hc1 with rfl | rfl | rfl | rfl | rfl | rfl | rfl <;> exact ⟨rfl,by simp [frzOk]⟩
              · simp only [List.mem_singleton] at he
                subst he;rfl
              · rw [b1];simp [fitR,look]
              · rw [b1,hal,List.take_length];simp [fitH,hget,intV]
            · have cb:decide ((0:Int)<(lb.length:Int))=false:=decide_eq_false (by omega)
              simp (config:={maxSteps:=1000000}) only [hs5,hlb,cb,Θ5,Θ4,Θ3,Θ2,Θ1,preN_eq,preP_eq,okP_eq,preR_eq,allI_nil,allI_cons,memI_nil,memI_cons,or_false,false_or,okN,okR,arg1,arg2,ne_eq,not_false_eq_true,intV,Nat.reduceBEq,Φ14_N,Φ14_leaves,leavesS,on_ls_eq,hi1,lawC,List.take_succ_cons,List.take_nil,go_sem,↓reduceIte,reduceCtorEq,Nat.reduceEqDiff,Nat.reduceLT,↓all_qVz,↓all_qVz',Int.reduceToNat,Int.reduceLT,Int.reduceLE,Nat.reduceAdd,Nat.reduceLeDiff,Nat.reduceMul,ev_callG,gcallK_b,gcallK_w,callGc_true,callGc_false]
              refine ⟨h6',⟨ht.isH,by omega,by omega⟩,?_⟩
              refine ⟨fun c1 hc1=>?_,rfl,fun e he=>?_,Nat.le_refl _,by omega,by simp only [maxLen];omega,⟨i-1,day+y,acc++[.agg [intV (acc.length+1),intV (day+y),intV (IntKind.i64.wrap (first+x1)),intV nr,.str s5,.str s4,intV x7]]⟩,⟨⟨by simp only;omega,by simp only;omega⟩,⟨by simp only;omega,by simp only;omega⟩,by simp only [List.length_append,List.length_cons,List.length_nil];omega⟩,by simp only;omega,?_,?_,rfl,rfl,rfl⟩
              · simp only [List.mem_cons,List.not_mem_nil,or_false] at hc1
                rcases hc1 with rfl | rfl | rfl | rfl | rfl | rfl | rfl <;> exact ⟨rfl,by simp [frzOk]⟩
              · simp only [List.mem_singleton] at he
                subst he;rfl
              · rw [b1];simp [fitR,look]
              · rw [b1,hal,List.take_length];simp [fitH,hget,intV]
          · have ca:decide ((0:Int)<(la.length:Int))=false:=decide_eq_false (by omega)
            by_cases hb:0<lb.length
            · have cb:decide ((0:Int)<(lb.length:Int))=true:=decide_eq_true (by omega)
              simp (config:={maxSteps:=1000000}) only [hr,hla,hlb,ca,cb,Θ5,Θ4,Θ3,Θ2,Θ1,preN_eq,preP_eq,okP_eq,preR_eq,allI_nil,allI_cons,memI_nil,memI_cons,or_false,false_or,okN,okR,arg1,arg2,ne_eq,not_false_eq_true,intV,Nat.reduceBEq,Φ14_N,Φ14_leaves,leavesS,on_ls_eq,hi1,lawC,List.take_succ_cons,List.take_nil,go_sem,↓reduceIte,reduceCtorEq,Nat.reduceEqDiff,Nat.reduceLT,↓all_qVz,↓all_qVz',Int.reduceToNat,Int.reduceLT,Int.reduceLE,Nat.reduceAdd,Nat.reduceLeDiff,Nat.reduceMul,ev_callG,gcallK_b,gcallK_w,callGc_true,callGc_false]
              refine ⟨h5',⟨ht.isH,by omega,by omega⟩,⟨ht.isH,by omega,by omega⟩,by omega,fun k7 h7'=>?_⟩
              obtain ⟨j7,rfl⟩:=Int.eq_ofNat_of_zero_le h7'.1
              have hj7:j7<lb.length:=by omega
              obtain ⟨s6,hs6,hl6⟩:=getD_str hmb hj7
              rw [Stop_eq]
              simp (config:={maxSteps:=1000000}) only [hs6,Θ5,Θ4,Θ3,Θ2,Θ1,preN_eq,preP_eq,okP_eq,preR_eq,allI_nil,allI_cons,memI_nil,memI_cons,or_false,false_or,okN,okR,arg1,arg2,ne_eq,not_false_eq_true,intV,Nat.reduceBEq,Φ14_N,Φ14_leaves,leavesS,on_ls_eq,hi1,lawC,List.take_succ_cons,List.take_nil,go_sem,↓reduceIte,reduceCtorEq,Nat.reduceEqDiff,Nat.reduceLT,↓all_qVz,↓all_qVz',Int.reduceToNat,Int.reduceLT,Int.reduceLE,Nat.reduceAdd,Nat.reduceLeDiff,Nat.reduceMul,ev_callG,gcallK_b,gcallK_w,callGc_true,callGc_false]
              refine ⟨h7',?_⟩
              refine ⟨fun c1 hc1=>?_,rfl,fun e he=>?_,Nat.le_refl _,by omega,by simp only [maxLen];omega,⟨i-1,day+y,acc++[.agg [intV (acc.length+1),intV (day+y),intV (IntKind.i64.wrap (first+x1)),intV nr,.str s3,.str s6,intV x7]]⟩,⟨⟨by simp only;omega,by simp only;omega⟩,⟨by simp only;omega,by simp only;omega⟩,by simp only [List.length_append,List.length_cons,List.length_nil];omega⟩,by simp only;omega,?_,?_,rfl,rfl,rfl⟩
              · simp only [List.mem_cons,List.not_mem_nil,or_false] at hc1
                rcases hc1 with rfl | rfl | rfl | rfl | rfl | rfl | rfl <;> exact ⟨rfl,by simp [frzOk]⟩
              · simp only [List.mem_singleton] at he
                subst he;rfl
              · rw [b1];simp [fitR,look]
              · rw [b1,hal,List.take_length];simp [fitH,hget,intV]
            · have cb:decide ((0:Int)<(lb.length:Int))=false:=decide_eq_false (by omega)
              simp (config:={maxSteps:=1000000}) only [hr,hla,hlb,ca,cb,Θ5,Θ4,Θ3,Θ2,Θ1,preN_eq,preP_eq,okP_eq,preR_eq,allI_nil,allI_cons,memI_nil,memI_cons,or_false,false_or,okN,okR,arg1,arg2,ne_eq,not_false_eq_true,intV,Nat.reduceBEq,Φ14_N,Φ14_leaves,leavesS,on_ls_eq,hi1,lawC,List.take_succ_cons,List.take_nil,go_sem,↓reduceIte,reduceCtorEq,Nat.reduceEqDiff,Nat.reduceLT,↓all_qVz,↓all_qVz',Int.reduceToNat,Int.reduceLT,Int.reduceLE,Nat.reduceAdd,Nat.reduceLeDiff,Nat.reduceMul,ev_callG,gcallK_b,gcallK_w,callGc_true,callGc_false]
              refine ⟨h5',⟨ht.isH,by omega,by omega⟩,⟨ht.isH,by omega,by omega⟩,?_⟩
              refine ⟨fun c1 hc1=>?_,rfl,fun e he=>?_,Nat.le_refl _,by omega,by simp only [maxLen];omega,⟨i-1,day+y,acc++[.agg [intV (acc.length+1),intV (day+y),intV (IntKind.i64.wrap (first+x1)),intV nr,.str s3,.str s4,intV x7]]⟩,⟨⟨by simp only;omega,by simp only;omega⟩,⟨by simp only;omega,by simp only;omega⟩,by simp only [List.length_append,List.length_cons,List.length_nil];omega⟩,by simp only;omega,?_,?_,rfl,rfl,rfl⟩
              · simp only [List.mem_cons,List.not_mem_nil,or_false] at hc1
                rcases hc1 with rfl | rfl | rfl | rfl | rfl | rfl | rfl <;> exact ⟨rfl,by simp [frzOk]⟩
              · simp only [List.mem_singleton] at he
                subst he;rfl
              · rw [b1];simp [fitR,look]
              · rw [b1,hal,List.take_length];simp [fitH,hget,intV]
        · have c9:decide (0<x8)=false:=decide_eq_false h9'
          rw [Stop_eq]
          simp (config:={maxSteps:=1000000}) only [c9,Θ5,Θ4,Θ3,Θ2,Θ1,preN_eq,preP_eq,okP_eq,preR_eq,allI_nil,allI_cons,memI_nil,memI_cons,or_false,false_or,okN,okR,arg1,arg2,ne_eq,not_false_eq_true,intV,Nat.reduceBEq,Φ14_N,Φ14_leaves,leavesS,on_ls_eq,hi1,lawC,List.take_succ_cons,List.take_nil,go_sem,↓reduceIte,reduceCtorEq,Nat.reduceEqDiff,Nat.reduceLT,↓all_qVz,↓all_qVz',Int.reduceToNat,Int.reduceLT,Int.reduceLE,Nat.reduceAdd,Nat.reduceLeDiff,Nat.reduceMul,ev_callG,gcallK_b,gcallK_w,callGc_true,callGc_false]
          refine ⟨fun c1 hc1=>?_,rfl,fun e he=>?_,Nat.le_refl _,by omega,by simp only [maxLen];omega,⟨i-1,day+y,acc++[.agg [intV (acc.length+1),intV (day+y),intV (IntKind.i64.wrap (first+x1)),intV x2,.str s3,.str s4,intV x7]]⟩,⟨⟨by simp only;omega,by simp only;omega⟩,⟨by simp only;omega,by simp only;omega⟩,by simp only [List.length_append,List.length_cons,List.length_nil];omega⟩,by simp only;omega,?_,?_,rfl,rfl,rfl⟩
          · simp only [List.mem_cons,List.not_mem_nil,or_false] at hc1
            rcases hc1 with rfl | rfl | rfl | rfl | rfl | rfl | rfl <;> exact ⟨rfl,by simp [frzOk]⟩
          · simp only [List.mem_singleton] at he
            subst he;rfl
          · rw [b1];simp [fitR,look]
          · rw [b1,hal,List.take_length];simp [fitH,hget,intV]
      · have cf:decide ((0:Int)<(f.length:Int))=false:=decide_eq_false (by omega)
        rw [Stop_eq]
        simp (config:={maxSteps:=1000000}) only [cf,PV_default,Θ5,Θ4,Θ3,Θ2,Θ1,preN_eq,preP_eq,okP_eq,preR_eq,allI_nil,allI_cons,memI_nil,memI_cons,or_false,false_or,okN,okR,arg1,arg2,ne_eq,not_false_eq_true,intV,Nat.reduceBEq,Φ14_N,Φ14_leaves,leavesS,on_ls_eq,hi1,lawC,List.take_succ_cons,List.take_nil,go_sem,↓reduceIte,reduceCtorEq,Nat.reduceEqDiff,Nat.reduceLT,↓all_qVz,↓all_qVz',Int.reduceToNat,Int.reduceLT,Int.reduceLE,Nat.reduceAdd,Nat.reduceLeDiff,Nat.reduceMul,ev_callG,gcallK_b,gcallK_w,callGc_true,callGc_false]
        refine ⟨fun c1 hc1=>?_,rfl,fun e he=>?_,Nat.le_refl _,by omega,by simp only [maxLen];omega,⟨i-1,day+y,acc++[.agg [intV (acc.length+1),intV (day+y),intV (IntKind.i64.wrap (first+x1)),intV x2,.str s3,.str s4,intV x7]]⟩,⟨⟨by simp only;omega,by simp only;omega⟩,⟨by simp only;omega,by simp only;omega⟩,by simp only [List.length_append,List.length_cons,List.length_nil];omega⟩,by simp only;omega,?_,?_,rfl,rfl,rfl⟩
        · simp only [List.mem_cons,List.not_mem_nil,or_false] at hc1
          rcases hc1 with rfl | rfl | rfl | rfl | rfl | rfl | rfl <;> exact ⟨rfl,by simp [frzOk]⟩
        · simp only [List.mem_singleton] at he
          subst he;rfl
        · rw [b1];simp [fitR,look]
        · rw [b1,hal,List.take_length];simp [fitH,hget,intV]
    · have c0:decide (0<i)=false:=by simp;omega
      simp only [c0,lawC,Nat.reduceBEq,go_sem,↓reduceIte,reduceCtorEq,Nat.reduceEqDiff,Nat.reduceLT,↓all_qVs,Int.reduceToNat,Int.reduceLT,Int.reduceLE,Nat.reduceAdd,Nat.reduceLeDiff,Nat.reduceMul]
      rw [List.take_length]
      exact ⟨Nat.le_refl _,acc,rfl,trivial⟩
noncomputable def Θ6 (g:FuncId):Option QSpec:=putΘ (putΘ (putΘ Θ5 24 (qV Tp preRe slV okRe)) 25 (qV Tp preRe slV okAny)) 23 (qV Tp preRe slV okAny) g
theorem hΘ6:QTab GG Θ6:=((hΘ5.put w_receiptsS).put w_carriedS).put w_transfersS
end Go.AM
