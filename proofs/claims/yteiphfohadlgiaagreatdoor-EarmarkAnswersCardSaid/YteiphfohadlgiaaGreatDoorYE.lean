/-
  A part of a proof.
-/
import Derived.Test.YteiphfohadlgiaaGreatDoorY8c
import Derived.Test.YteiphfohadlgiaaGreatDoorYP
set_option linter.unusedSimpArgs false
set_option linter.unusedVariables false
namespace Go.AM
open Go Go.Proofs Go.IntWalk
set_option maxRecDepth 100000
set_option maxHeartbeats 4000000
noncomputable def rvldS:PSpec:=on_i (fun _=>True) (fun n=>.bool (vld n))
theorem w_rvldS:PSound GG 62 rvldS:=by
  refine PSound.of_wpc (C:=cxP Tryz.prog Z5 [] 9) (T:=plan0) Tryz.func62 rfl rfl rfl (Fit.pure (G:=GG) hZ5 mixed) (fun args h=>?_)
  unfold rvldS at h
  obtain ⟨n,rfl,hp⟩:=on_i_inv h
  refine ⟨by simp [cxP],?_⟩
  simp only [rvldS,on_i_eq,Tryz.f62,argL,plan0]
  simp only [go_sem,↓reduceIte,reduceCtorEq,Nat.reduceEqDiff,Nat.reduceLT,↓all_qV,Int.reduceToNat,Int.reduceLT,Int.reduceLE,Nat.reduceAdd,Nat.reduceLeDiff,Nat.reduceMul]
  rfl
def rAmt:PV->Int
  | .agg [_,_,_,.int _ a]=>a
  | _=>0
noncomputable def rcountsS:PSpec:=on_p isR (fun x=>.bool (amt (rAmt x)))
theorem w_rcountsS:PSound GG 54 rcountsS:=by
  refine PSound.of_wpc (C:=cxP Tryz.prog Z5 [] 11) (T:=plan0) Tryz.func54 rfl rfl rfl (Fit.pure (G:=GG) hZ5 mixed) (fun args h=>?_)
  unfold rcountsS at h
  obtain ⟨x,rfl,hp⟩:=on_p_inv h
  refine ⟨by simp [cxP],?_⟩
  simp only [rcountsS,on_p_eq,Tryz.f54,argL,plan0]
  obtain ⟨n,d,c,a,rfl,hc⟩:=hp
  simp only [recV,rAmt,go_sem,↓reduceIte,reduceCtorEq,Nat.reduceEqDiff,Nat.reduceLT,↓all_qV,Int.reduceToNat,Int.reduceLT,Int.reduceLE,Nat.reduceAdd,Nat.reduceLeDiff,Nat.reduceMul,ev_callG,gcallK_b,gcallK_w,callGc_true,callGc_false,List.forall_mem_cons,List.not_mem_nil,PV.one,AV.one]
  first | rfl | (refine ⟨?_,rfl⟩;intros;simp_all)
noncomputable def Z6 (g:FuncId):PSpec:=(putΦ (putΦ Z5 62 rvldS) 54 rcountsS) g
theorem hZ6:TabSound GG Z6:=((hZ5.put w_rvldS).put w_rcountsS)
noncomputable def ryearS:PSpec:=on_i (fun _=>True) (fun n=>.int .i64 (yrOf n))
theorem k_ryearS_62 {args:List PV}:Z6 62 args=rvldS args:=rfl
theorem w_ryearS:PSound GG 63 ryearS:=by
  refine PSound.of_wpc (C:=cxP Tryz.prog Z6 [] 8) (T:=plan0) Tryz.func63 rfl rfl rfl (Fit.pure (G:=GG) hZ6 mixed) (fun args h=>?_)
  unfold ryearS at h
  obtain ⟨n,rfl,hp⟩:=on_i_inv h
  refine ⟨by simp [cxP],?_⟩
  simp only [ryearS,on_i_eq,Tryz.f63,argL,plan0]
  simp only [k_ryearS_62,rvldS,on_i_eq,go_sem,↓reduceIte,reduceCtorEq,Nat.reduceEqDiff,Nat.reduceLT,↓all_qV,Int.reduceToNat,Int.reduceLT,Int.reduceLE,Nat.reduceAdd,Nat.reduceLeDiff,Nat.reduceMul,ev_callG,gcallK_b,gcallK_w,callGc_true,callGc_false,List.forall_mem_cons,List.not_mem_nil,PV.one,AV.one]
  refine ⟨fun h=>?_,fun h=>?_⟩
  · have h1:vld n=false:=by simpa using h
    unfold yrOf;rw [h1];rfl
  · have h1:vld n=true:=by simpa using h
    have h2:0<=n/\n<=36000:=by unfold vld at h1;simpa using h1
    unfold yrOf
    rw [h1,cond_true]
    first | exact ⟨by decide,by rw [Int.tdiv_eq_ediv_of_nonneg h2.1,i64_in _ (by omega)]⟩ | rw [Int.tdiv_eq_ediv_of_nonneg h2.1,i64_in _ (by omega)]
noncomputable def Z7 (g:FuncId):PSpec:=(putΦ Z6 63 ryearS) g
theorem hZ7:TabSound GG Z7:=(hZ6.put w_ryearS)
noncomputable def rreceivedS:PSpec:=on_lsii (fun rs src y d=>(∀ e,e∈rs->isR e)/\rs.length<=4611686018427387904/\src.length<=1000000000000) (fun rs src y d=>.int .i64 (recF rs src y d))
theorem k_rreceivedS_45 {args:List PV}:Z7 45 args=runS args:=rfl
theorem k_rreceivedS_54 {args:List PV}:Z7 54 args=rcountsS args:=rfl
theorem k_rreceivedS_62 {args:List PV}:Z7 62 args=rvldS args:=rfl
theorem k_rreceivedS_63 {args:List PV}:Z7 63 args=ryearS args:=rfl
theorem w_rreceivedS:PSound GG 40 rreceivedS:=by
  refine PSound.of_wpc (C:=cxP Tryz.prog Z7 [] 55) (T:=plan0) Tryz.func40 rfl rfl rfl (Fit.pure (G:=GG) hZ7 mixed) (fun args h=>?_)
  unfold rreceivedS at h
  obtain ⟨rs,src,y,d,rfl,hp⟩:=on_lsii_inv h
  refine ⟨by simp [cxP],?_⟩
  simp only [rreceivedS,on_lsii_eq,Tryz.f40,argL,plan0]
  obtain ⟨hr,hl,hs⟩:=hp
  simp only [go_sem,↓reduceIte,reduceCtorEq,Nat.reduceEqDiff,Nat.reduceLT,↓all_qV,Int.reduceToNat,Int.reduceLT,Int.reduceLE,Nat.reduceAdd,Nat.reduceLeDiff,Nat.reduceMul,ev_callG,gcallK_b,gcallK_w,callGc_true,callGc_false,List.forall_mem_cons,List.not_mem_nil,PV.one,AV.one]
  refine AWp.loop (T:=plan0) (α:=Nat) (fun i=>([(1,.pv (.str src)),(2,.pv (.int .i64 y)),(3,.pv (.int .i64 d)),(9,.pv (.int .i64 (recF (rs.take i) src y d))),(12,.pv (.sl rs)),(13,.pv (.int .i64 rs.length)),(14,.pv (.int .i64 i))],[])) (fun i=>i<=rs.length) (fun i=>rs.length-i)
    ⟨0,Nat.zero_le _,⟨by simp [fitR,look,sumL,recF],trivial,rfl,rfl,rfl⟩⟩ ?_
  intro i hi
  have hi1:IntKind.i64.wrap ((i:Int)+1)=((i+1:Nat):Int):=by rw [i64_in _ (by omega)];omega
  by_cases hlt:i<rs.length
  · have c0:decide ((i:Int)<(rs.length:Int))=true:=by simp;omega
    obtain ⟨n,dd,c,a,he,hc⟩:=hr _ (getD_mem hlt)
    have he3:rs.getD i default=.agg [.int .i64 n,.int .i64 dd,.str c,.int .i64 a]:=he
    have hst:=take_succ_getD hlt
    rw [he3] at hst
    have hb:=recF_le (rs.take i) src y d
    have hb1:=recF_le (rs.take (i+1)) src y d
    have hRx:isR (.agg [.int .i64 n,.int .i64 dd,.str c,.int .i64 a]):=⟨n,dd,c,a,rfl,hc⟩
    have hRa:rAmt (.agg [.int .i64 n,.int .i64 dd,.str c,.int .i64 a])=a:=rfl
    have hcn:cntR src y d (.agg [.int .i64 n,.int .i64 dd,.str c,.int .i64 a])=if (vld dd&&decide (dd<=d)&&yrOf dd == y&&amt a&&undC c src)=true then a else 0:=rfl
    have hperm:(vld dd&&decide (dd<=d)&&yrOf dd == y&&amt a&&undC c src)=(amt a&&undC c src&&vld dd&&yrOf dd == y&&decide (dd<=d)):=by
      cases vld dd <;> cases decide (dd<=d) <;> cases (yrOf dd == y) <;> cases amt a <;> cases undC c src <;> rfl
    rw [hperm] at hcn
    have hti:(rs.take i).length=i:=by rw [List.length_take];omega
    by_cases h10:i<1000
    · have c1:decide ((i:Int)<1000)=true:=by simp;omega
      have hsum:recF (rs.take (i+1)) src y d=recF (rs.take i) src y d+cntR src y d (.agg [.int .i64 n,.int .i64 dd,.str c,.int .i64 a]):=by
        unfold recF
        rw [List.take_of_length_le (by rw [List.length_take];omega:(rs.take (i+1)).length<=1000),List.take_of_length_le (by omega:(rs.take i).length<=1000),hst,List.map_append,sumL_append]
        simp [sumL]
      rw [hcn] at hsum
      generalize recF (rs.take i) src y d=acc at hsum hb ⊢
      simp only [c0,c1,he3,hi1,hRa,List.take_succ_cons,List.take_nil,k_rreceivedS_45,runS,on_ss_eq,k_rreceivedS_54,rcountsS,on_p_eq,k_rreceivedS_62,rvldS,on_i_eq,k_rreceivedS_63,ryearS,plan0,go_sem,↓reduceIte,reduceCtorEq,Nat.reduceEqDiff,Nat.reduceLT,↓all_qV,Int.reduceToNat,Int.reduceLT,Int.reduceLE,Nat.reduceAdd,Nat.reduceLeDiff,Nat.reduceMul,ev_callG,gcallK_b,gcallK_w,callGc_true,callGc_false,List.forall_mem_cons,List.not_mem_nil,PV.one,AV.one]
      repeat' (first | (intro _) | (with_reducible refine And.intro ?_ ?_))
      all_goals try first
        | omega | exact hRx | trivial | exact ⟨hc,hs⟩ | (show checkD _ _ _=true;kernel_rfl)
      · rename_i h9
        rw [if_pos h9] at hsum
        refine ⟨i+1,by omega,by omega,⟨?_,trivial,rfl,rfl,rfl⟩⟩
        rw [hsum]
        simp [fitR,look,i64_in (acc+a) (by omega)]
      · rename_i h9
        rw [if_neg (by rw [h9];decide),Int.add_zero] at hsum
        refine ⟨i+1,by omega,by omega,⟨?_,trivial,rfl,rfl,rfl⟩⟩
        rw [hsum]
        simp [fitR,look]
    · have c1:decide ((i:Int)<1000)=false:=by simp;omega
      have hsum:recF (rs.take (i+1)) src y d=recF (rs.take i) src y d:=by
        unfold recF
        rw [List.take_take,List.take_take,show min 1000 (i+1)=1000 by omega,show min 1000 i=1000 by omega]
      generalize recF (rs.take i) src y d=acc at hsum hb ⊢
      simp only [c0,c1,he3,hi1,hRa,List.take_succ_cons,List.take_nil,k_rreceivedS_45,runS,on_ss_eq,k_rreceivedS_54,rcountsS,on_p_eq,k_rreceivedS_62,rvldS,on_i_eq,k_rreceivedS_63,ryearS,plan0,go_sem,↓reduceIte,reduceCtorEq,Nat.reduceEqDiff,Nat.reduceLT,↓all_qV,Int.reduceToNat,Int.reduceLT,Int.reduceLE,Nat.reduceAdd,Nat.reduceLeDiff,Nat.reduceMul,ev_callG,gcallK_b,gcallK_w,callGc_true,callGc_false,List.forall_mem_cons,List.not_mem_nil,PV.one,AV.one]
      refine ⟨⟨by omega,by omega⟩,i+1,by omega,by omega,⟨?_,trivial,rfl,rfl,rfl⟩⟩
      rw [hsum]
      simp [fitR,look]
  · have c0:decide ((i:Int)<(rs.length:Int))=false:=by simp;omega
    rw [List.take_of_length_le (by omega)]
    simp only [c0,plan0,go_sem,↓reduceIte,reduceCtorEq,Nat.reduceEqDiff,Nat.reduceLT,↓all_qV,Int.reduceToNat,Int.reduceLT,Int.reduceLE,Nat.reduceAdd,Nat.reduceLeDiff,Nat.reduceMul,ev_callG,gcallK_b,gcallK_w,callGc_true,callGc_false,List.forall_mem_cons,List.not_mem_nil,PV.one,AV.one]
noncomputable def Z8 (g:FuncId):PSpec:=(putΦ Z7 40 rreceivedS) g
theorem hZ8:TabSound GG Z8:=(hZ7.put w_rreceivedS)
noncomputable def rcheckS:PSpec:=on_pl (fun l r=>(∃ L:Law,l=L.v/\LawS L)/\(∀ x,x∈r->isR x)/\r.length<=1000000000) (fun l r=>.int .i64 (chkF (lawO l) r))
theorem k_rcheckS_53 {args:List PV}:Z8 53 args=rvalidLS args:=rfl
theorem k_rcheckS_54 {args:List PV}:Z8 54 args=rcountsS args:=rfl
theorem k_rcheckS_55 {args:List PV}:Z8 55 args=rleafS args:=rfl
theorem w_rcheckS:PSound GG 35 rcheckS:=by
  refine PSound.of_wpc (C:=cxP Tryz.prog Z8 [] 95) (T:=plan0) Tryz.func35 rfl rfl rfl (Fit.pure (G:=GG) hZ8 mixed) (fun args h=>?_)
  unfold rcheckS at h
  obtain ⟨l,rs,rfl,hp⟩:=on_pl_inv h
  refine ⟨by simp [cxP],?_⟩
  simp only [rcheckS,on_pl_eq,Tryz.f35,argL,plan0]
  obtain ⟨⟨⟨fi,ye,tr,la,lb,lc,ld,le,lf,lg⟩,rfl,hS⟩,hxs,hrl⟩:=hp
  have hlaw:∃ L':Law,lawV fi ye tr la lb lc ld le lf lg=L'.v/\LawS L':=⟨⟨fi,ye,tr,la,lb,lc,ld,le,lf,lg⟩,rfl,hS⟩
  have hpre:∃ L':Law,lawV fi ye tr la lb lc ld le lf lg=L'.v/\(∀ e,e∈L'.tree->isH e)/\L'.tree.length<=1000000:=⟨⟨fi,ye,tr,la,lb,lc,ld,le,lf,lg⟩,rfl,hS.isH,hS.tl⟩
  have hin:∃ L':Law,lawV fi ye tr la lb lc ld le lf lg=L'.v:=⟨⟨fi,ye,tr,la,lb,lc,ld,le,lf,lg⟩,rfl⟩
  have hvo:lawO (lawV fi ye tr la lb lc ld le lf lg)=⟨fi,ye,tr,la,lb,lc,ld,le,lf,lg⟩:=rfl
  rw [lawO_v]
  obtain ⟨L0,hL0⟩:∃ L0:Law,⟨fi,ye,tr,la,lb,lc,ld,le,lf,lg⟩=L0:=⟨_,rfl⟩
  rw [hL0] at hvo
  clear hS
  have hchk:chkF ⟨fi,ye,tr,la,lb,lc,ld,le,lf,lg⟩ rs=bif validF L0 != 0 then validF L0 else bif decide ((100:Int)<(rs.length:Int)) then 3 else eachF (wrongF L0) recO none rs:=by subst hL0;rfl
  rw [hchk]
  obtain ⟨V,hVf⟩:∃ V,validF L0=V:=⟨_,rfl⟩
  obtain ⟨W,hW⟩:∃ W,wrongF L0=W:=⟨_,rfl⟩
  rw [hVf,hW]
  clear hL0 hchk
  simp only [lawV] at hpre hin hvo hlaw
  simp only [Law.v,lawV,hvo,hVf,List.take_succ_cons,List.take_nil,k_rcheckS_53,rvalidLS,on_p_eq,k_rcheckS_54,rcountsS,k_rcheckS_55,rleafS,on_ps_eq,go_sem,↓reduceIte,reduceCtorEq,Nat.reduceEqDiff,Nat.reduceLT,↓all_qV,Int.reduceToNat,Int.reduceLT,Int.reduceLE,Nat.reduceAdd,Nat.reduceLeDiff,Nat.reduceMul,ev_callG,gcallK_b,gcallK_w,callGc_true,callGc_false,List.forall_mem_cons,List.not_mem_nil,PV.one,AV.one]
  refine ⟨hlaw,fun g1=>by rw [g1];rfl,fun g1=>⟨fun g2=>by rw [g1,g2];rfl,fun g2=>?_⟩⟩
  rw [g1,g2,cond_false,cond_false]
  have hl1:rs.length<=100:=by simp only [decide_eq_false_iff_not] at g2;omega
  refine AWp.loop (T:=plan0) (α:=Nat) (fun i=>([(1,.pv (.sl rs)),(2,.ptr 2 0),(16,.pv (.sl rs)),(17,.pv (.int .i64 rs.length)),(18,.pv (.int .i64 i))],[(2,.cells [.pv (.int .i64 fi),.pv (.int .i64 ye),.pv (.sl tr),.pv (.sl la),.pv (.sl lb),.pv (.sl lc),.pv (.sl ld),.pv (.sl le),.pv (.sl lf),.pv (.sl lg)])])) (fun i=>i<=rs.length/\eachF W recO none rs=eachF W recO (prevE rs i) (rs.drop i)) (fun i=>rs.length-i)
    ⟨0,⟨Nat.zero_le _,rfl⟩,⟨by simp [fitR,look],by simp [fitH,hget],rfl,rfl,rfl⟩⟩ ?_
  rintro i ⟨h1,h2⟩
  have hi1:IntKind.i64.wrap ((i:Int)+1)=((i+1:Nat):Int):=by rw [i64_in _ (by omega)];omega
  rw [h2]
  by_cases hlt:i<rs.length
  · have hsx:=hxs _ (getD_mem hlt)
    have hd:rs.drop i=rs.getD i default::rs.drop (i+1):=by rw [List.drop_eq_getElem_cons hlt];simp [List.getD_eq_getElem?_getD,hlt]
    obtain ⟨x,hg⟩:∃ x,rs.getD i default=x:=⟨_,rfl⟩
    have hpv:prevE rs (i+1)=some x:=by rw [<- hg];exact if_neg (by omega)
    rw [hg] at hsx hd
    rw [hd,eachF_cons]
    clear h2
    have hRx:=hsx
    obtain ⟨n,d,c,a,rfl,hsl⟩:=hsx
    simp only [recV] at hg hpv hRx ⊢
    have hRa:rAmt (.agg [.int .i64 n,.int .i64 d,.str c,.int .i64 a])=a:=rfl
    obtain ⟨b0,e0⟩:∃ b,(lvL L0).contains c=b:=⟨_,rfl⟩
    obtain ⟨b1,e1⟩:∃ b,amt a=b:=⟨_,rfl⟩
    have hE:W (.agg [.int .i64 n,.int .i64 d,.str c,.int .i64 a])=bif (decide (n<1)||decide (1000000<n)||decide (d<0)||decide (35990<d)||!b1||a == 0) then 2 else bif !b0 then 5 else 0:=by
      rw [<- hW,Bool.or_right_comm,<- e0,<- e1];rfl
    rw [hE]
    clear hd
    have hd:True:=trivial
    cases i with
    | zero=>
      have c0:decide ((0:Int)<(rs.length:Int))=true:=by simp;omega
      have w1:IntKind.i64.wrap (0-1)= -1:=by decide
      have w2:IntKind.i64.wrap (0+1)=1:=by decide
      have hp0:prevE rs 0=none:=rfl
      rw [hp0]
      have hpv1:prevE rs 1=some (.agg [.int .i64 n,.int .i64 d,.str c,.int .i64 a]):=hpv
      have hbn:bhF recO none (.agg [.int .i64 n,.int .i64 d,.str c,.int .i64 a])=false:=rfl
      simp only [c0,decide_false,w1,w2,neg1',hg,hvo,hRa,e0,e1,List.take_succ_cons,List.take_nil,k_rcheckS_53,rvalidLS,on_p_eq,k_rcheckS_54,rcountsS,k_rcheckS_55,rleafS,on_ps_eq,plan0,go_sem,↓reduceIte,reduceCtorEq,Nat.reduceEqDiff,Nat.reduceLT,↓all_qV,Int.reduceToNat,Int.reduceLT,Int.reduceLE,Nat.reduceAdd,Nat.reduceLeDiff,Nat.reduceMul,ev_callG,gcallK_b,gcallK_w,callGc_true,callGc_false,List.forall_mem_cons,List.not_mem_nil,PV.one,AV.one]
      clear hd
      repeat' (first | (intro _) | (with_reducible refine And.intro ?_ ?_))
      all_goals try first
        | exact hpre | exact hRx | exact ⟨hlaw,hsl⟩ | exact ⟨hpre,hsl⟩ | exact hsl | exact hin | exact fun _=>hpre | exact fun _=>⟨hpre,hsl⟩ | exact fun _=>hin | trivial | omega | (show checkD _ _ _=true;kernel_rfl)
        | (simp only [*,boolR,cond_true,cond_false,bne_self_eq_false];done)
        | (simp only [*,boolR,cond_true,cond_false,bne_self_eq_false];rfl)
        | (refine ⟨1,⟨by omega,?_⟩,by omega,⟨by simp [fitR,look],by simp [fitH,hget],rfl,rfl,rfl⟩⟩;simp only [*,boolR,cond_true,cond_false,bne_self_eq_false];done)
        | (refine ⟨1,⟨by omega,?_⟩,by omega,⟨by simp [fitR,look],by simp [fitH,hget],rfl,rfl,rfl⟩⟩;simp only [*,boolR,cond_true,cond_false,bne_self_eq_false];rfl)
        | (simp_all;done)
    | succ j=>
      have c0:decide (((j+1:Nat):Int)<(rs.length:Int))=true:=by simp;omega
      have c1:decide ((0:Int)<((j+1:Nat):Int))=true:=by simp
      have w1:IntKind.i64.wrap (((j+1:Nat):Int)-1)=(j:Int):=by rw [i64_in _ (by omega)];omega
      have hsy:=hxs _ (getD_mem (show j<rs.length by omega))
      obtain ⟨z,hz⟩:∃ z,rs.getD j default=z:=⟨_,rfl⟩
      have hp0:prevE rs (j+1)=some z:=by rw [<- hz];rfl
      rw [hp0]
      rw [hz] at hsy
      obtain ⟨n',d',c',a',rfl,_⟩:=hsy
      simp only [recV] at hz ⊢
      have hb:bhF recO (some (.agg [.int .i64 n',.int .i64 d',.str c',.int .i64 a'])) (.agg [.int .i64 n,.int .i64 d,.str c,.int .i64 a])=(decide (d<d')||(d' == d&&decide (n<=n'))):=by
        show decide (0<=orF [cmpI d' d,cmpI n' n])=_
        rw [orc,orF_one,cmpI_pos,cmpI_eq0,cmpI_ge]
      rw [hb]
      simp only [c0,c1,w1,hg,hz,hi1,hvo,hRa,e0,e1,List.take_succ_cons,List.take_nil,k_rcheckS_53,rvalidLS,on_p_eq,k_rcheckS_54,rcountsS,k_rcheckS_55,rleafS,on_ps_eq,plan0,go_sem,↓reduceIte,reduceCtorEq,Nat.reduceEqDiff,Nat.reduceLT,↓all_qV,Int.reduceToNat,Int.reduceLT,Int.reduceLE,Nat.reduceAdd,Nat.reduceLeDiff,Nat.reduceMul,ev_callG,gcallK_b,gcallK_w,callGc_true,callGc_false,List.forall_mem_cons,List.not_mem_nil,PV.one,AV.one]
      clear hd
      repeat' (first | (intro _) | (with_reducible refine And.intro ?_ ?_))
      all_goals try first
        | exact hpre | exact hRx | exact ⟨hlaw,hsl⟩ | exact ⟨hpre,hsl⟩ | exact hsl | exact hin | exact fun _=>hpre | exact fun _=>⟨hpre,hsl⟩ | exact fun _=>hin | trivial | omega | (show checkD _ _ _=true;kernel_rfl)
        | (simp only [*,boolR,cond_true,cond_false,bne_self_eq_false];done)
        | (simp only [*,boolR,cond_true,cond_false,bne_self_eq_false];rfl)
        | (refine ⟨j+1+1,⟨by omega,?_⟩,by omega,⟨by simp [fitR,look],by simp [fitH,hget],rfl,rfl,rfl⟩⟩;simp only [*,boolR,cond_true,cond_false,bne_self_eq_false];done)
        | (refine ⟨j+1+1,⟨by omega,?_⟩,by omega,⟨by simp [fitR,look],by simp [fitH,hget],rfl,rfl,rfl⟩⟩;simp only [*,boolR,cond_true,cond_false,bne_self_eq_false];rfl)
        | (simp_all;done)
  · have c0:decide ((i:Int)<(rs.length:Int))=false:=by simp;omega
    rw [List.drop_eq_nil_of_le (by omega),eachF_nil]
    simp only [c0,plan0,go_sem,↓reduceIte,reduceCtorEq,Nat.reduceEqDiff,Nat.reduceLT,↓all_qV,Int.reduceToNat,Int.reduceLT,Int.reduceLE,Nat.reduceAdd,Nat.reduceLeDiff,Nat.reduceMul]
noncomputable def Z9 (g:FuncId):PSpec:=(putΦ Z8 35 rcheckS) g
theorem hZ9:TabSound GG Z9:=(hZ8.put w_rcheckS)
noncomputable def rshareS:PSpec:=on_plii (fun e rs y d=>(∃ s c p,e=earV s c p/\s.length<=1000000000000)/\(∀ x,x∈rs->isR x)/\rs.length<=4611686018427387904)
  (fun e rs y d=>.tup [.int .i64 (shrF (pctOf e) (recF rs (srcOf e) y d)).1,.int .i64 (shrF (pctOf e) (recF rs (srcOf e) y d)).2])
theorem k_rshareS_40 {args:List PV}:Z9 40 args=rreceivedS args:=rfl
theorem w_rshareS:PSound GG 19 rshareS:=by
  refine PSound.of_wpc (C:=cxP Tryz.prog Z9 [] 35) (T:=plan0) Tryz.func19 rfl rfl rfl (Fit.pure (G:=GG) hZ9 mixed) (fun args h=>?_)
  unfold rshareS at h
  obtain ⟨e,rs,y,d,rfl,hp⟩:=on_plii_inv h
  refine ⟨by simp [cxP],?_⟩
  simp only [rshareS,on_plii_eq,Tryz.f19,argL,plan0]
  obtain ⟨⟨s,c,p,rfl,hs⟩,hr,hl⟩:=hp
  have hb:=recF_le rs s y d
  simp only [earV,k_rshareS_40,rreceivedS,on_lsii_eq,go_sem,↓reduceIte,reduceCtorEq,Nat.reduceEqDiff,Nat.reduceLT,↓all_qV,Int.reduceToNat,Int.reduceLT,Int.reduceLE,Nat.reduceAdd,Nat.reduceLeDiff,Nat.reduceMul]
  refine ⟨⟨hr,hl,hs⟩,fun h1=>?_,fun h1=>⟨by decide,?_⟩⟩
  · rw [show pctOf (.agg [.str s,.str c,.int .i64 p])=p from rfl,show srcOf (.agg [.str s,.str c,.int .i64 p])=s from rfl]
    unfold shrF;rw [if_pos h1]
  · have h2:¬ p<0/\¬ 100<p:=by
      simp only [Bool.or_eq_false_iff,decide_eq_false_iff_not] at h1
      exact h1.1
    have hs2:shrF p (recF rs s y d)=((if recF rs s y d<0 then 0 else recF rs s y d) * p / 100,0):=by unfold shrF;exact if_neg (by rw [h1];decide)
    have e3:(if 0>recF rs s y d then 0 else recF rs s y d)=(if recF rs s y d<0 then 0 else recF rs s y d):=rfl
    rw [show pctOf (.agg [.str s,.str c,.int .i64 p])=p from rfl,show srcOf (.agg [.str s,.str c,.int .i64 p])=s from rfl,hs2,e3]
    generalize hn:(if recF rs s y d<0 then 0 else recF rs s y d)=n
    have hn2:0<=n/\n<=1000000000000000:=by subst hn;split <;> omega
    have h3:0<=n * p:=Int.mul_nonneg hn2.1 (by omega)
    have h4:n * p<=1000000000000000 * 100:=Int.mul_le_mul hn2.2 (by omega) (by omega) (by omega)
    rw [i64_in (n * p) (by omega),Int.tdiv_eq_ediv_of_nonneg h3,i64_in _ (by omega)]
noncomputable def ZA (g:FuncId):PSpec:=(putΦ Z9 19 rshareS) g
theorem hZA:TabSound GG ZA:=(hZ9.put w_rshareS)
noncomputable def rsharesES:PSpec:=on_plii (fun l rs _ _=>factP l rs) (fun l rs y d=>.tup [.sl ((sharesF (lawO l) rs y d).1.map intV),.int .i64 (sharesF (lawO l) rs y d).2])
theorem k_rsharesES_19 {args:List PV}:ZA 19 args=rshareS args:=rfl
theorem k_rsharesES_35 {args:List PV}:ZA 35 args=rcheckS args:=rfl
theorem w_rsharesES:PSound GG 14 rsharesES:=by
  refine PSound.of_wpc (C:=cxP Tryz.prog ZA [] 46) (T:=plan0) Tryz.func14 rfl rfl rfl (Fit.pure (G:=GG) hZA mixed) (fun args h=>?_)
  unfold rsharesES at h
  obtain ⟨l,rs,yr,dd,rfl,hp⟩:=on_plii_inv h
  refine ⟨by simp [cxP],?_⟩
  simp only [rsharesES,on_plii_eq,Tryz.f14,argL,plan0]
  obtain ⟨⟨⟨fi,ye,tr,la,lb,lc,ld,le,lf,lg⟩,rfl,hS⟩,hR,hrl⟩:=hp
  have hV:∃ L':Law,lawV fi ye tr la lb lc ld le lf lg=L'.v/\LawS L':=⟨_,rfl,hS⟩
  have hea:=hS.d
  have hdl:=hS.dl
  rw [lawO_v]
  have hvo:lawO (lawV fi ye tr la lb lc ld le lf lg)=⟨fi,ye,tr,la,lb,lc,ld,le,lf,lg⟩:=rfl
  unfold sharesF
  obtain ⟨V,hVf⟩:∃ V,chkF ⟨fi,ye,tr,la,lb,lc,ld,le,lf,lg⟩ rs=V:=⟨_,rfl⟩
  rw [hVf]
  clear hS
  simp only [lawV] at hV hvo hea hdl
  simp only [Law.v,lawV,hvo,hVf,List.take_succ_cons,List.take_nil,k_rsharesES_19,rshareS,on_plii_eq,k_rsharesES_35,rcheckS,on_pl_eq,go_sem,↓reduceIte,reduceCtorEq,Nat.reduceEqDiff,Nat.reduceLT,↓all_qV,Int.reduceToNat,Int.reduceLT,Int.reduceLE,Nat.reduceAdd,Nat.reduceLeDiff,Nat.reduceMul,ev_callG,gcallK_b,gcallK_w,callGc_true,callGc_false,List.forall_mem_cons,List.not_mem_nil,PV.one,AV.one]
  refine ⟨⟨hV,hR,hrl⟩,fun g1=>by rw [g1];rfl,fun g1=>?_⟩
  rw [g1,cond_false]
  refine AWp.adoptS (s:=11) (κ:=8000) (k:=1) (by simp [look]) (by simp [hget]) (by decide) ?_
  refine AWp.loop (T:=plan0) (α:=Nat × List Int) (fun y=>([(1,.pv (.sl rs)),(2,.pv (.int .i64 yr)),(3,.pv (.int .i64 dd)),(4,.ptr 4 0),(11,.rs 8000 y.2.length),(23,.pv (.sl ld)),(24,.pv (.int .i64 ld.length)),(25,.pv (.int .i64 y.1))],[(4,.cells [.pv (.int .i64 fi),.pv (.int .i64 ye),.pv (.sl tr),.pv (.sl la),.pv (.sl lb),.pv (.sl lc),.pv (.sl ld),.pv (.sl le),.pv (.sl lf),.pv (.sl lg)]),(8000,.row 1 (y.2.map intV))]))
    (fun y=>y.1<=ld.length/\y.2.length<=y.1/\shA rs yr dd ld []=shA rs yr dd (ld.drop y.1) y.2) (fun y=>ld.length-y.1)
    ⟨(0,[]),⟨Nat.zero_le _,Nat.zero_le _,rfl⟩,⟨by simp [fitR,look,upd],by simp [fitH,hget,hset],rfl,rfl,rfl⟩⟩ ?_
  rintro ⟨i,acc⟩ ⟨h1,h3,h2⟩
  simp only at h1 h2 h3
  have hi1:IntKind.i64.wrap ((i:Int)+1)=((i+1:Nat):Int):=by rw [i64_in _ (by omega)];omega
  have tk:(acc.map intV).take acc.length=acc.map intV:=List.take_of_length_le (by simp)
  rw [h2]
  by_cases hlt:i<ld.length
  · have c0:decide ((i:Int)<(ld.length:Int))=true:=by simp;omega
    obtain ⟨s,c,p,he,hs,hc⟩:=hea _ (getD_mem hlt)
    have hdr:ld.drop i=ld.getD i default::ld.drop (i+1):=by rw [List.drop_eq_getElem_cons hlt];simp [List.getD_eq_getElem?_getD,hlt]
    have hE:∃ s1 c1 p1,PV.agg [.str s,.str c,.int .i64 p]=earV s1 c1 p1/\s1.length<=1000000000000:=⟨s,c,p,rfl,by omega⟩
    have ep:pctOf (.agg [.str s,.str c,.int .i64 p])=p:=rfl
    have es:srcOf (.agg [.str s,.str c,.int .i64 p])=s:=rfl
    rw [hdr,he,shA,ep,es]
    rw [hdr,he,shA,ep,es] at h2
    obtain ⟨⟨v,e⟩,hsh⟩:∃ r,shrF p (recF rs s yr dd)=r:=⟨_,rfl⟩
    rw [hsh] at h2 ⊢
    simp only at h2
    simp only [c0,he,hi1,ep,es,hsh,tk,List.length_map,List.take_succ_cons,List.take_nil,k_rsharesES_19,rshareS,on_plii_eq,k_rsharesES_35,rcheckS,on_pl_eq,plan0,go_sem,↓reduceIte,reduceCtorEq,Nat.reduceEqDiff,Nat.reduceLT,↓all_qV,Int.reduceToNat,Int.reduceLT,Int.reduceLE,Nat.reduceAdd,Nat.reduceLeDiff,Nat.reduceMul,ev_callG,gcallK_b,gcallK_w,callGc_true,callGc_false,List.forall_mem_cons,List.not_mem_nil,PV.one,AV.one]
    refine ⟨⟨by omega,by omega⟩,⟨hE,hR,by omega⟩,fun g2=>by rw [g2];rfl,fun g2=>⟨rfl,Nat.le_refl _,by omega,by simp only [maxLen];omega,(i+1,acc++[v]),⟨by simp only;omega,by simp;omega,?_⟩,by simp only;omega,⟨by simp [fitR,look],by simp [fitH,hget,intV],rfl,rfl,rfl⟩⟩⟩
    rw [g2];rfl
  · have c0:decide ((i:Int)<(ld.length:Int))=false:=by simp;omega
    rw [List.drop_eq_nil_of_le (by omega),shA]
    simp only [c0,tk,List.length_map,plan0,go_sem,↓reduceIte,reduceCtorEq,Nat.reduceEqDiff,Nat.reduceLT,↓all_qV,Int.reduceToNat,Int.reduceLT,Int.reduceLE,Nat.reduceAdd,Nat.reduceLeDiff,Nat.reduceMul]
    exact Nat.le_refl _
noncomputable def ZB (g:FuncId):PSpec:=(putΦ ZA 14 rsharesES) g
theorem hZB:TabSound GG ZB:=(hZA.put w_rsharesES)
end Go.AM
namespace Go.AM
open Go Go.Proofs Go.IntWalk
attribute [local go_sem] AV.one List.forall_mem_cons List.not_mem_nil PV.one callGc_false callGc_true ev_callG gcallK_b gcallK_w
set_option maxRecDepth 100000
set_option maxHeartbeats 4000000
theorem eachF_zero {one:PV->Int} {ord:PV->PV->Int}:∀ {l:List PV} {p:Option PV},eachF one ord p l=0->∀ x,x∈l->one x=0
  | [],_,_,x,hx=>by cases hx
  | y::r,p,h,x,hx=>by
    rw [eachF_cons] at h
    cases h1:one y != 0 with
    | true=>
      rw [h1,cond_true] at h
      rw [h] at h1;cases h1
    | false=>
      rw [h1,cond_false] at h
      cases h2:bhF ord p y with
      | true=>rw [h2,cond_true] at h;cases h
      | false=>
        rw [h2,cond_false] at h
        simp only [List.mem_cons] at hx
        rcases hx with rfl | hx
        · simpa using h1
        · exact eachF_zero h x hx
theorem orF_zero:∀ {l:List Int},orF l=0->∀ x,x∈l->x=0
  | [],_,x,hx=>by cases hx
  | y::r,h,x,hx=>by
    rw [orF_app] at h
    cases h1:y != 0 with
    | true=>
      rw [h1,cond_true] at h
      rw [h] at h1;cases h1
    | false=>
      rw [h1,cond_false] at h
      simp only [List.mem_cons] at hx
      rcases hx with rfl | hx
      · simpa using h1
      · exact orF_zero h x hx
theorem PR_cons (c:List UInt8) (e:PV) (es:List PV):PR c (e::es)=(if undC c (srcOf e)=true then pctOf e else 0)+PR c es:=rfl
theorem PR_pos {c:List UInt8}:∀ {es:List PV},(∀ e,e∈es->0<=pctOf e/\pctOf e<=100)->0<=PR c es/\PR c es<=100 * (es.length:Int)
  | [],_=>by simp [PR,sumL]
  | e::es,h=>by
    have h1:=h e (by simp)
    have h2:=PR_pos (c:=c) (es:=es) (fun x hx=>h x (by simp [hx]))
    rw [PR_cons,List.length_cons]
    split <;> omega
theorem shG_eq {c:List UInt8}:∀ {es:List PV} {acc:Int},(∀ e,e∈es->0<=pctOf e/\pctOf e<=100)->0<=acc->acc+100 * (es.length:Int)<=1000000000->shG c es acc=acc+PR c es
  | [],acc,_,_,_=>by simp [shG,PR,sumL]
  | e::es,acc,h,h0,hl=>by
    have h1:=h e (by simp)
    rw [List.length_cons] at hl
    rw [shG,PR_cons]
    cases undC c (srcOf e) with
    | true=>
      rw [cond_true,if_pos rfl,i64_in _ (by omega),shG_eq (fun x hx=>h x (by simp [hx])) (by omega) (by omega)]
      omega
    | false=>
      rw [cond_false,if_neg (by decide),shG_eq (fun x hx=>h x (by simp [hx])) (by omega) (by omega)]
      omega
theorem cond_zero {b:Bool} {x:Int} {k:Int} (hk:k≠0) (h:(bif b then k else x)=0):b=false/\x=0:=by
  cases b with
  | true=>exact absurd h hk
  | false=>exact ⟨rfl,h⟩
theorem cond_self {x z:Int} (h:(bif x != 0 then x else z)=0):x=0/\z=0:=by
  cases h1:x != 0 with
  | true=>rw [h1,cond_true] at h;rw [h] at h1;cases h1
  | false=>rw [h1,cond_false] at h;exact ⟨by simpa using h1,h⟩
theorem shares_ok {L:Law} {rs:List PV} {y d:Int} (hS:LawS L) (hR:∀ x,x∈rs->isR x) (h:(sharesF L rs y d).2=0):(∀ x,x∈(sharesF L rs y d).1->0<=x)/\sumL (sharesF L rs y d).1<=1000000000000000:=by
  unfold sharesF at h ⊢
  have hc:chkF L rs=0:=by
    cases h1:chkF L rs != 0 with
    | true=>rw [h1,cond_true] at h;exact h
    | false=>simpa using h1
  rw [hc]
  simp only [bne_self_eq_false,cond_false]
  unfold chkF at hc
  obtain ⟨hv,hc⟩:=cond_self hc
  obtain ⟨hl,hw⟩:=cond_zero (by decide) hc
  have hl2:rs.length<=100:=by simp only [decide_eq_false_iff_not] at hl;omega
  have hw2:=eachF_zero hw
  unfold validF at hv
  obtain ⟨hy,ho⟩:=cond_self hv
  have ho2:=orF_zero ho
  have he:=eachF_zero (ho2 _ (by simp):eachF (earmarkE L (lvL L)) earO none L.d=0)
  have hs:sharesE L (lvL L)=0:=ho2 _ (by simp)
  have hp:∀ e,e∈L.d->0<=pctOf e/\pctOf e<=100:=fun e hm=>by
    have h1:=he e hm
    obtain ⟨s,c,p,rfl,_⟩:=hS.d e hm
    have h2:(bif (!hasF L s||!(lvL L).contains c) then (5:Int) else bif !amg p 0 100 then 2 else 0)=0:=h1
    have h3:=(cond_zero (by decide) (cond_zero (by decide) h2).2).1
    show 0<=p/\p<=100
    unfold amg at h3
    simpa using h3
  have hdl:=hS.dl
  have hPR:∀ x,x∈rs->PR (rCode x) L.d<=100:=fun x hm=>by
    have h1:=hw2 x hm
    obtain ⟨n,dd,c,a,rfl,_⟩:=hR x hm
    have h2:(bif (decide (n<1)||decide (1000000<n)||decide (dd<0)||decide (35990<dd)||a == 0||!amt a) then (2:Int) else bif !(lvL L).contains c then 5 else 0)=0:=h1
    have h3:=(cond_zero (by decide) (cond_zero (by decide) h2).2).1
    have h4:c∈lvL L:=List.contains_iff_mem.1 (by simpa using h3)
    unfold sharesE sharesG at hs
    have h5:=(cond_zero (by decide) hs).1
    have h6:=List.any_eq_false.1 h5 c h4
    have h7:shG c L.d 0<=100:=by simpa using h6
    rw [shG_eq hp (Int.le_refl _) (by omega)] at h7
    show PR c L.d<=100
    omega
  obtain ⟨_,l,e1,_,e3,e4⟩:=shares_le hR (by omega) y d L.d [] hp
  rw [e1]
  have hH:=HR_le (rs:=rs) (es:=L.d) hPR (fun c=>(PR_pos hp).1) (l:=rs) (fun x hx=>hx)
  refine ⟨by simpa using e3,?_⟩
  simp only [List.nil_append]
  omega
noncomputable def rearnedS:PSpec:=on_plsii (fun l rs _ _ _=>factP l rs) (fun l rs c y d=>.tup [.int .i64 (earnF (lawO l) rs c y d).1,.int .i64 (earnF (lawO l) rs c y d).2])
theorem k_rearnedS_14 {args:List PV}:ZB 14 args=rsharesES args:=rfl
theorem k_rearnedS_33 {args:List PV}:ZB 33 args=addS args:=rfl
theorem w_rearnedS:PSound GG 12 rearnedS:=by
  refine PSound.of_wpc (C:=cxP Tryz.prog ZB [] 54) (T:=plan0) Tryz.func12 rfl rfl rfl (Fit.pure (G:=GG) hZB mixed) (fun args h=>?_)
  unfold rearnedS at h
  obtain ⟨l,rs,code,yr,dd,rfl,hp⟩:=on_plsii_inv h
  refine ⟨by simp [cxP],?_⟩
  simp only [rearnedS,on_plsii_eq,Tryz.f12,argL,plan0]
  have hp0:=hp
  obtain ⟨⟨⟨fi,ye,tr,la,lb,lc,ld,le,lf,lg⟩,rfl,hS⟩,hR,hrl⟩:=hp
  have hea:=hS.d
  have hdl:=hS.dl
  rw [lawO_v]
  have hvo:lawO (lawV fi ye tr la lb lc ld le lf lg)=⟨fi,ye,tr,la,lb,lc,ld,le,lf,lg⟩:=rfl
  unfold earnF
  have hlen:=sharesF_len (L:=⟨fi,ye,tr,la,lb,lc,ld,le,lf,lg⟩) (rs:=rs) (y:=yr) (d:=dd)
  obtain ⟨⟨sh,V⟩,hVf⟩:∃ V,sharesF ⟨fi,ye,tr,la,lb,lc,ld,le,lf,lg⟩ rs yr dd=V:=⟨_,rfl⟩
  rw [hVf] at hlen ⊢
  clear hS
  simp only [Law.v,lawV] at hp0 hvo hea hdl hlen
  simp only [Law.v,lawV,hvo,hVf,List.length_map,List.take_succ_cons,List.take_nil,k_rearnedS_14,rsharesES,on_plii_eq,k_rearnedS_33,addS,on_ii_eq,go_sem,↓reduceIte,reduceCtorEq,Nat.reduceEqDiff,Nat.reduceLT,↓all_qV,Int.reduceToNat,Int.reduceLT,Int.reduceLE,Nat.reduceAdd,Nat.reduceLeDiff,Nat.reduceMul]
  refine ⟨hp0,fun g1=>by rw [g1];rfl,fun g1=>?_⟩
  rw [g1,cond_false]
  have hsl:=hlen (by simpa using g1)
  rw [<- adF_ms _ 0 (by decide)]
  refine AWp.loop (T:=plan0) (α:=Nat × Int) (fun y=>([(2,.pv (.str code)),(5,.ptr 5 0),(12,.pv (.sl (sh.map intV))),(14,.pv (.int .i64 y.2)),(29,.pv (.sl ld)),(30,.pv (.int .i64 ld.length)),(31,.pv (.int .i64 y.1))],[(5,.cells [.pv (.int .i64 fi),.pv (.int .i64 ye),.pv (.sl tr),.pv (.sl la),.pv (.sl lb),.pv (.sl lc),.pv (.sl ld),.pv (.sl le),.pv (.sl lf),.pv (.sl lg)])]))
    (fun y=>y.1<=ld.length/\adF (ownF code ld sh) 0=adF (ownF code (ld.drop y.1) (sh.drop y.1)) y.2) (fun y=>ld.length-y.1)
    ⟨(0,0),⟨Nat.zero_le _,rfl⟩,⟨by simp [fitR,look,upd],by simp [fitH,hget,hset],rfl,rfl,rfl⟩⟩ ?_
  rintro ⟨i,acc⟩ ⟨h1,h2⟩
  simp only at h1 h2
  have hi1:IntKind.i64.wrap ((i:Int)+1)=((i+1:Nat):Int):=by rw [i64_in _ (by omega)];omega
  rw [h2]
  clear h2
  by_cases hlt:i<ld.length
  · have c0:decide ((i:Int)<(ld.length:Int))=true:=by simp;omega
    obtain ⟨s,c,p,he,hs,hc⟩:=hea _ (getD_mem hlt)
    have hdr:ld.drop i=ld.getD i default::ld.drop (i+1):=by rw [List.drop_eq_getElem_cons hlt];simp [List.getD_eq_getElem?_getD,hlt]
    have hjlt:i<sh.length:=by omega
    have hds:sh.drop i=sh.getD i 0::sh.drop (i+1):=by rw [List.drop_eq_getElem_cons hjlt];simp [List.getD_eq_getElem?_getD,hjlt]
    have hgm:=getD_intV hjlt
    have hE:earC (.agg [.str s,.str c,.int .i64 p])=c:=rfl
    rw [hdr,hds,he,ownF,hE]
    generalize sh.getD i 0=v at hgm
    obtain ⟨⟨r,e⟩,hr⟩:∃ r,addF acc v=r:=⟨_,rfl⟩
    have hcc:(bif c == code then v::ownF code (ld.drop (i+1)) (sh.drop (i+1)) else ownF code (ld.drop (i+1)) (sh.drop (i+1)))=bif c == code then v::ownF code (ld.drop (i+1)) (sh.drop (i+1)) else ownF code (ld.drop (i+1)) (sh.drop (i+1)):=rfl
    simp only [c0,he,hgm,hi1,hr,List.length_map,List.take_succ_cons,List.take_nil,k_rearnedS_14,rsharesES,on_plii_eq,k_rearnedS_33,addS,on_ii_eq,plan0,go_sem,↓reduceIte,reduceCtorEq,Nat.reduceEqDiff,Nat.reduceLT,↓all_qV,Int.reduceToNat,Int.reduceLT,Int.reduceLE,Nat.reduceAdd,Nat.reduceLeDiff,Nat.reduceMul]
    have hb1:∀ b:Bool,(!b)=true->b=false:=by decide
    have hb2:∀ b:Bool,(!b)=false->b=true:=by decide
    refine ⟨⟨by omega,by omega⟩,fun g2=>?_,fun g2=>⟨⟨by omega,by omega⟩,fun g3=>?_,fun g3=>?_⟩⟩
    · exact ⟨(i+1,acc),⟨by simp only;omega,by rw [hb1 _ g2,cond_false]⟩,by simp only;omega,⟨by simp [fitR,look],by simp [fitH,hget],rfl,rfl,rfl⟩⟩
    · rw [hb2 _ g2,cond_true,adF,hr];simp only [g3,cond_true]
    · exact ⟨(i+1,r),⟨by simp only;omega,by rw [hb2 _ g2,cond_true,adF,hr];simp only [g3,cond_false]⟩,by simp only;omega,⟨by simp [fitR,look],by simp [fitH,hget],rfl,rfl,rfl⟩⟩
  · have c0:decide ((i:Int)<(ld.length:Int))=false:=by simp;omega
    rw [List.drop_eq_nil_of_le (by omega),ownF,adF]
    simp only [c0,List.length_map,plan0,go_sem,↓reduceIte,reduceCtorEq,Nat.reduceEqDiff,Nat.reduceLT,↓all_qV,Int.reduceToNat,Int.reduceLT,Int.reduceLE,Nat.reduceAdd,Nat.reduceLeDiff,Nat.reduceMul]
noncomputable def ZC (g:FuncId):PSpec:=(putΦ ZB 12 rearnedS) g
theorem hZC:TabSound GG ZC:=(hZB.put w_rearnedS)
noncomputable def rrestS:PSpec:=on_plii (fun l rs _ _=>factP l rs) (fun l rs y d=>.tup [.int .i64 (restF (lawO l) rs y d).1,.int .i64 (restF (lawO l) rs y d).2])
theorem k_rrestS_14 {args:List PV}:ZC 14 args=rsharesES args:=rfl
theorem k_rrestS_33 {args:List PV}:ZC 33 args=addS args:=rfl
theorem k_rrestS_39 {args:List PV}:ZC 39 args=rchS args:=rfl
theorem k_rrestS_40 {args:List PV}:ZC 40 args=rreceivedS args:=rfl
theorem w_rrestS:PSound GG 16 rrestS:=by
  refine PSound.of_wpc (C:=cxP Tryz.prog ZC [] 68) (T:=plan0) Tryz.func16 rfl rfl rfl (Fit.pure (G:=GG) hZC mixed) (fun args h=>?_)
  unfold rrestS at h
  obtain ⟨l,rs,yr,dd,rfl,hp⟩:=on_plii_inv h
  refine ⟨by simp [cxP],?_⟩
  simp only [rrestS,on_plii_eq,Tryz.f16,argL,plan0]
  have hp0:=hp
  obtain ⟨⟨⟨fi,ye,tr,la,lb,lc,ld,le,lf,lg⟩,rfl,hS⟩,hR,hrl⟩:=hp
  have hdl:=hS.dl
  have hH:=hS.isH
  have htl:=hS.tl
  have hkm:∀ c,c∈chC (tr.map hCode) []->c.length<=1000000000000:=fun c hc=>by
    obtain ⟨e,he,rfl⟩:=List.mem_map.1 (List.mem_filter.1 hc).1
    obtain ⟨c,n,e1,h1,_⟩:=hS.tr e he
    rw [e1];exact h1
  rw [lawO_v]
  have hvo:lawO (lawV fi ye tr la lb lc ld le lf lg)=⟨fi,ye,tr,la,lb,lc,ld,le,lf,lg⟩:=rfl
  unfold restF kidsF
  have hlen:=sharesF_len (L:=⟨fi,ye,tr,la,lb,lc,ld,le,lf,lg⟩) (rs:=rs) (y:=yr) (d:=dd)
  obtain ⟨⟨sh,V⟩,hVf⟩:∃ V,sharesF ⟨fi,ye,tr,la,lb,lc,ld,le,lf,lg⟩ rs yr dd=V:=⟨_,rfl⟩
  rw [hVf] at hlen ⊢
  have hok:=shares_ok (L:=⟨fi,ye,tr,la,lb,lc,ld,le,lf,lg⟩) (rs:=rs) (y:=yr) (d:=dd) hS hR
  rw [hVf] at hok
  clear hS
  have hchl:(chC (tr.map hCode) []).length<=1000000:=by
    have:(chC (tr.map hCode) []).length<=(tr.map hCode).length:=List.length_filter_le _ _
    rw [List.length_map] at this
    simp only at htl
    omega
  simp only [Law.v,lawV] at hp0 hvo hdl hlen hH htl
  obtain ⟨ch,hch⟩:∃ ch,chC (tr.map hCode) []=ch:=⟨_,rfl⟩
  rw [hch] at hchl hkm
  simp only [Law.v,lawV,hvo,hVf,hch,List.length_map,List.length_nil,List.take_succ_cons,List.take_nil,k_rrestS_14,rsharesES,on_plii_eq,k_rrestS_33,addS,on_ii_eq,k_rrestS_39,rchS,on_ls_eq,k_rrestS_40,rreceivedS,on_lsii_eq,go_sem,↓reduceIte,reduceCtorEq,Nat.reduceEqDiff,Nat.reduceLT,↓all_qV,Int.reduceToNat,Int.reduceLT,Int.reduceLE,Nat.reduceAdd,Nat.reduceLeDiff,Nat.reduceMul]
  refine ⟨hp0,fun g1=>by rw [g1];rfl,fun g1=>⟨⟨hH,by omega⟩,?_⟩⟩
  rw [g1,cond_false]
  have hsl:=hlen (by simpa using g1)
  have hok2:=hok (by simpa using g1)
  simp only at hok2
  rw [<- restR_eq hok2.1 hok2.2]
  unfold restR
  obtain ⟨ks,hks⟩:∃ ks,ch.map (fun c=>recF rs c yr dd)=ks:=⟨_,rfl⟩
  rw [hks]
  refine AWp.loop (T:=plan0) (α:=Nat × Int) (fun y=>([(1,.pv (.sl rs)),(2,.pv (.int .i64 yr)),(3,.pv (.int .i64 dd)),(10,.pv (.sl (sh.map intV))),(12,.pv (.int .i64 y.2)),(30,.pv (.sl (ch.map PV.str))),(31,.pv (.int .i64 ch.length)),(32,.pv (.int .i64 y.1))],[]))
    (fun y=>y.1<=ch.length/\adF ks 0=adF (ks.drop y.1) y.2) (fun y=>ch.length-y.1)
    ⟨(0,0),⟨Nat.zero_le _,rfl⟩,⟨by simp [fitR,look,upd],trivial,rfl,rfl,rfl⟩⟩ ?_
  rintro ⟨i,acc⟩ ⟨h1,h2⟩
  simp only at h1 h2
  have hi1:IntKind.i64.wrap ((i:Int)+1)=((i+1:Nat):Int):=by rw [i64_in _ (by omega)];omega
  have hkl:ks.length=ch.length:=by rw [<- hks,List.length_map]
  rw [h2]
  clear h2
  by_cases hlt:i<ch.length
  · have c0:decide ((i:Int)<(ch.length:Int))=true:=by simp;omega
    have hg:=getD_strs hlt
    have hsm:ch.getD i []∈ch:=by rw [List.getD_eq_getElem?_getD,List.getElem?_eq_getElem hlt];exact List.getElem_mem _
    have hs1:=hkm _ hsm
    have hdr:ks.drop i=recF rs (ch.getD i []) yr dd::ks.drop (i+1):=by
      rw [List.drop_eq_getElem_cons (by omega)]
      congr 1
      rw [List.getD_eq_getElem?_getD,List.getElem?_eq_getElem hlt]
      subst hks
      simp
    rw [hdr,adF]
    generalize ch.getD i []=s at hg hs1 hsm
    obtain ⟨⟨r,e⟩,hr⟩:∃ r,addF acc (recF rs s yr dd)=r:=⟨_,rfl⟩
    rw [hr]
    simp only [c0,hg,hi1,hr,List.length_map,List.take_succ_cons,List.take_nil,k_rrestS_14,rsharesES,on_plii_eq,k_rrestS_33,addS,on_ii_eq,k_rrestS_39,rchS,on_ls_eq,k_rrestS_40,rreceivedS,on_lsii_eq,plan0,go_sem,↓reduceIte,reduceCtorEq,Nat.reduceEqDiff,Nat.reduceLT,↓all_qV,Int.reduceToNat,Int.reduceLT,Int.reduceLE,Nat.reduceAdd,Nat.reduceLeDiff,Nat.reduceMul]
    refine ⟨⟨by omega,by omega⟩,⟨hR,by omega,hs1⟩,fun g2=>by simp only [g2,cond_true],fun g2=>⟨(i+1,r),⟨by simp only;omega,by rw [g2];rfl⟩,by simp only;omega,⟨by simp [fitR,look],trivial,rfl,rfl,rfl⟩⟩⟩
  · have c0:decide ((i:Int)<(ch.length:Int))=false:=by simp;omega
    rw [List.drop_eq_nil_of_le (by omega),adF]
    simp only [bne_self_eq_false,cond_false]
    simp only [c0,List.length_map,k_rrestS_14,rsharesES,on_plii_eq,k_rrestS_33,addS,on_ii_eq,k_rrestS_39,rchS,on_ls_eq,k_rrestS_40,rreceivedS,on_lsii_eq,plan0,go_sem,↓reduceIte,reduceCtorEq,Nat.reduceEqDiff,Nat.reduceLT,↓all_qV,Int.reduceToNat,Int.reduceLT,Int.reduceLE,Nat.reduceAdd,Nat.reduceLeDiff,Nat.reduceMul]
    refine AWp.loop (T:=plan0) (α:=Nat × Int) (fun y=>([(12,.pv (.int .i64 y.2)),(50,.pv (.sl (sh.map intV))),(51,.pv (.int .i64 sh.length)),(52,.pv (.int .i64 y.1))],[]))
      (fun y=>y.1<=sh.length/\subF sh acc=subF (sh.drop y.1) y.2) (fun y=>sh.length-y.1)
      ⟨(0,acc),⟨Nat.zero_le _,rfl⟩,⟨by simp [fitR,look,upd],trivial,rfl,rfl,rfl⟩⟩ ?_
    rintro ⟨k,n⟩ ⟨g2,g3⟩
    simp only at g2 g3
    rw [g3]
    clear g3
    by_cases klt:k<sh.length
    · have c1:decide ((k:Int)<(sh.length:Int))=true:=by simp;omega
      have hk1:IntKind.i64.wrap ((k:Int)+1)=((k+1:Nat):Int):=by rw [i64_in _ (by omega)];omega
      have hgm:=getD_intV klt
      have hds:sh.drop k=sh.getD k 0::sh.drop (k+1):=by rw [List.drop_eq_getElem_cons klt];simp [List.getD_eq_getElem?_getD,klt]
      rw [hds,subF]
      generalize sh.getD k 0=v at hgm
      obtain ⟨w,hw⟩:∃ w,IntKind.i64.wrap (0-v)=w:=⟨_,rfl⟩
      rw [hw]
      obtain ⟨⟨r,e⟩,hr⟩:∃ r,addF n w=r:=⟨_,rfl⟩
      rw [hr]
      simp only [c1,hgm,hk1,hw,hr,List.length_map,List.take_succ_cons,List.take_nil,k_rrestS_14,rsharesES,on_plii_eq,k_rrestS_33,addS,on_ii_eq,k_rrestS_39,rchS,on_ls_eq,k_rrestS_40,rreceivedS,on_lsii_eq,plan0,go_sem,↓reduceIte,reduceCtorEq,Nat.reduceEqDiff,Nat.reduceLT,↓all_qV,Int.reduceToNat,Int.reduceLT,Int.reduceLE,Nat.reduceAdd,Nat.reduceLeDiff,Nat.reduceMul]
      refine ⟨⟨by omega,by omega⟩,fun g2=>by simp only [g2,cond_true],fun g2=>⟨(k+1,r),⟨by simp only;omega,by rw [g2];rfl⟩,by simp only;omega,⟨by simp [fitR,look],trivial,rfl,rfl,rfl⟩⟩⟩
    · have c1:decide ((k:Int)<(sh.length:Int))=false:=by simp;omega
      rw [List.drop_eq_nil_of_le (by omega),subF]
      simp only [c1,List.length_map,k_rrestS_14,rsharesES,on_plii_eq,k_rrestS_33,addS,on_ii_eq,k_rrestS_39,rchS,on_ls_eq,k_rrestS_40,rreceivedS,on_lsii_eq,plan0,go_sem,↓reduceIte,reduceCtorEq,Nat.reduceEqDiff,Nat.reduceLT,↓all_qV,Int.reduceToNat,Int.reduceLT,Int.reduceLE,Nat.reduceAdd,Nat.reduceLeDiff,Nat.reduceMul]
end Go.AM
