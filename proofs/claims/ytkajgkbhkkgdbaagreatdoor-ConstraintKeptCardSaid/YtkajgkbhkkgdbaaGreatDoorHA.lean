/-
  A part of a proof.
-/
import Derived.Test.YtkajgkbhkkgdbaaGreatDoorFC
set_option linter.unusedSimpArgs false
set_option linter.unusedVariables false
namespace Go.AM
open Go Go.Proofs Go.IntWalk
attribute [local go_sem] plan0
set_option maxRecDepth 100000
set_option maxHeartbeats 4000000
def rgO:PV->PV->Int
 | .agg [.str a,.int _ y,_,_],.agg [.str b,.int _ z,_,_]=>orF [cmpC a b,cmpI y z]
 | _,_=>0
def chkR (L:Law) (rs:List PV):Int:=bif validF L != 0 then validF L else bif decide ((120:Int)<(rs.length:Int)) then 3 else eachF (wrgF L) rgO none rs
def rgsOk (rs:List PV):Prop:=(∀ x,x∈rs->isRg x)/\rs.length<=1000000000
noncomputable def chkGS:PSpec:=on_pl (fun l r=>(∃ L:Law,l=L.v/\LawS L)/\rgsOk r) (fun l r=>.int .i64 (chkR (lawO l) r))
theorem k_chkGS_45 {args:List PV}:E8 45 args=validGS args:=rfl
theorem k_chkGS_50 {args:List PV}:E8 50 args=wrgS args:=rfl
theorem k_chkGS_63 {args:List PV}:E8 63 args=orS args:=rfl
theorem k_chkGS_64 {args:List PV}:E8 64 args=cmpCS args:=rfl
theorem k_chkGS_65 {args:List PV}:E8 65 args=cmpIS args:=rfl
theorem w_chkGS:PSound GG 23 chkGS:=by
 refine PSound.of_wpc (C:=cxP Tryz.prog E8 [] 56) (T:=plan0) Tryz.func23 rfl rfl rfl (Fit.pure (G:=GG) hE8 mixed) (fun args h=>?_)
 unfold chkGS at h
 obtain ⟨l,rs,rfl,hp⟩:=on_pl_inv h
 refine ⟨by simp [cxP],?_⟩
 simp only [chkGS,on_pl_eq,Tryz.f23,argL,plan0]
 obtain ⟨⟨⟨fi,ye,tr,la,lb,lc,ld,le,lf,lg⟩,rfl,hS⟩,hx1,hrl⟩:=hp
 have hV:∃ L':Law,.agg [.int .i64 fi,.int .i64 ye,.sl tr,.sl la,.sl lb,.sl lc,.sl ld,.sl le,.sl lf,.sl lg]=L'.v/\LawS L':=⟨⟨fi,ye,tr,la,lb,lc,ld,le,lf,lg⟩,rfl,hS⟩
 have hlv:lawO (.agg [.int .i64 fi,.int .i64 ye,.sl tr,.sl la,.sl lb,.sl lc,.sl ld,.sl le,.sl lf,.sl lg])=⟨fi,ye,tr,la,lb,lc,ld,le,lf,lg⟩:=rfl
 rw [lawO_v]
 unfold chkR
 obtain ⟨V,hVf⟩:∃ V,validF ⟨fi,ye,tr,la,lb,lc,ld,le,lf,lg⟩=V:=⟨_,rfl⟩
 obtain ⟨W,hWf⟩:∃ W,wrgF ⟨fi,ye,tr,la,lb,lc,ld,le,lf,lg⟩=W:=⟨_,rfl⟩
 rw [hVf,hWf]
 simp only [Law.v,lawV,hlv,hVf,List.take_succ_cons,List.take_nil,k_chkGS_45,validGS,on_p_eq,k_chkGS_50,wrgS,on_pp_eq,k_chkGS_63,orS,on_l_eq,k_chkGS_64,cmpCS,on_ss_eq,k_chkGS_65,cmpIS,on_ii_eq,go_sem,↓reduceIte,reduceCtorEq,Nat.reduceEqDiff,Nat.reduceLT,↓all_qV,Int.reduceToNat,Int.reduceLT,Int.reduceLE,Nat.reduceAdd,Nat.reduceLeDiff,Nat.reduceMul,ev_callG,gcallK_b,gcallK_w,callGc_true,callGc_false,List.forall_mem_cons,List.not_mem_nil,PV.one,AV.one]
 refine ⟨hV,fun g1=>by rw [g1];rfl,fun g1=>⟨fun g2=>by rw [g1,g2];rfl,fun g2=>?_⟩⟩
 rw [g1,g2,cond_false,cond_false]
 have hl1:rs.length<=120:=by simp only [decide_eq_false_iff_not] at g2;omega
 refine AWp.loop (T:=plan0) (α:=Nat) (fun i=>([(1,.pv (.sl rs)),(2,.ptr 2 0),(17,.pv (.sl rs)),(18,.pv (.int .i64 rs.length)),(19,.pv (.int .i64 i))],[(2,.cells [.pv (.int .i64 fi),.pv (.int .i64 ye),.pv (.sl tr),.pv (.sl la),.pv (.sl lb),.pv (.sl lc),.pv (.sl ld),.pv (.sl le),.pv (.sl lf),.pv (.sl lg)])])) (fun i=>i<=rs.length/\eachF W rgO none rs=eachF W rgO (prevE rs i) (rs.drop i)) (fun i=>rs.length-i)
  ⟨0,⟨Nat.zero_le _,rfl⟩,⟨by simp [fitR,look,upd],by simp [fitH,hget,hset],rfl,rfl,rfl⟩⟩ ?_
 rintro i ⟨h1,h2⟩
 have hi1:IntKind.i64.wrap ((i:Int)+1)=((i+1:Nat):Int):=by rw [i64_in _ (by omega)];omega
 rw [h2]
 by_cases hlt:i<rs.length
 · have hgm:=getD_mem hlt
   have hx:=hx1 _ hgm
   have hd:rs.drop i=rs.getD i default::rs.drop (i+1):=by rw [List.drop_eq_getElem_cons hlt];simp [List.getD_eq_getElem?_getD,hlt]
   obtain ⟨x,hg⟩:∃ x,rs.getD i default=x:=⟨_,rfl⟩
   have hpv:prevE rs (i+1)=some x:=by rw [<- hg];exact if_neg (by omega)
   rw [hg] at hx hd
   rw [hd,eachF_cons]
   rw [hd,eachF_cons] at h2
   obtain ⟨c,y,lo,hi,rfl,hcl⟩:=hx
   have hpr:(∃ L':Law,.agg [.int .i64 fi,.int .i64 ye,.sl tr,.sl la,.sl lb,.sl lc,.sl ld,.sl le,.sl lf,.sl lg]=L'.v/\LawS L')/\isRg (.agg [.str c,.int .i64 y,.int .i64 lo,.int .i64 hi]):=⟨hV,c,y,lo,hi,rfl,hcl⟩
   obtain ⟨E,hE⟩:∃ E,W (.agg [.str c,.int .i64 y,.int .i64 lo,.int .i64 hi])=E:=⟨_,rfl⟩
   rw [hE] at h2 ⊢
   cases i with
   | zero=>
     have c0:decide ((0:Int)<(rs.length:Int))=true:=by simp;omega
     have w1:IntKind.i64.wrap (0-1)= -1:=by decide
     have w2:IntKind.i64.wrap (0+1)=1:=by decide
     have hp0:prevE rs 0=none:=rfl
     rw [hp0] at h2 ⊢
     simp only [c0,decide_false,w1,w2,neg1',hg,hlv,hWf,hE,List.take_succ_cons,List.take_nil,k_chkGS_45,validGS,on_p_eq,k_chkGS_50,wrgS,on_pp_eq,k_chkGS_63,orS,on_l_eq,k_chkGS_64,cmpCS,on_ss_eq,k_chkGS_65,cmpIS,on_ii_eq,go_sem,↓reduceIte,reduceCtorEq,Nat.reduceEqDiff,Nat.reduceLT,↓all_qV,Int.reduceToNat,Int.reduceLT,Int.reduceLE,Nat.reduceAdd,Nat.reduceLeDiff,Nat.reduceMul,ev_callG,gcallK_b,gcallK_w,callGc_true,callGc_false,List.forall_mem_cons,List.not_mem_nil,PV.one,AV.one] at h2 ⊢
     refine ⟨by omega,hpr,fun g3=>by rw [g3];rfl,fun g3=>⟨by kernel_rfl,1,⟨by omega,?_⟩,by omega,⟨by simp [fitR,look,upd],by simp [fitH,hget,hset],rfl,rfl,rfl⟩⟩⟩
     rw [g3]
     exact (congrArg (fun p=>eachF W rgO p (List.drop 1 rs)) hpv).symm
   | succ j=>
     have c0:decide (((j+1:Nat):Int)<(rs.length:Int))=true:=by simp;omega
     have c1:decide ((0:Int)<((j+1:Nat):Int))=true:=by simp
     have w1:IntKind.i64.wrap (((j+1:Nat):Int)-1)=(j:Int):=by rw [i64_in _ (by omega)];omega
     have hz1:=hx1 _ (getD_mem (show j<rs.length by omega))
     obtain ⟨z,hz⟩:∃ z,rs.getD j default=z:=⟨_,rfl⟩
     have hp0:prevE rs (j+1)=some z:=by rw [<- hz];rfl
     rw [hp0] at h2 ⊢
     rw [hz] at hz1
     obtain ⟨c',y',lo',hi',rfl,hc'⟩:=hz1
     have hb:bhF rgO (some (.agg [.str c',.int .i64 y',.int .i64 lo',.int .i64 hi'])) (.agg [.str c,.int .i64 y,.int .i64 lo,.int .i64 hi])=decide (0<=orF [cmpC c' c,cmpI y' y]):=rfl
     rw [hb] at h2 ⊢
     obtain ⟨o,ho⟩:∃ o,orF [cmpC c' c,cmpI y' y]=o:=⟨_,rfl⟩
     rw [ho] at h2 ⊢
     simp only [c0,c1,w1,hg,hz,hi1,hlv,hWf,hE,ho,nOf,List.take_succ_cons,List.take_nil,k_chkGS_45,validGS,on_p_eq,k_chkGS_50,wrgS,on_pp_eq,k_chkGS_63,orS,on_l_eq,k_chkGS_64,cmpCS,on_ss_eq,k_chkGS_65,cmpIS,on_ii_eq,go_sem,↓reduceIte,reduceCtorEq,Nat.reduceEqDiff,Nat.reduceLT,↓all_qV,Int.reduceToNat,Int.reduceLT,Int.reduceLE,Nat.reduceAdd,Nat.reduceLeDiff,Nat.reduceMul,ev_callG,gcallK_b,gcallK_w,callGc_true,callGc_false,List.forall_mem_cons,List.not_mem_nil,PV.one,AV.one]
     refine ⟨⟨by omega,by omega⟩,hpr,fun g3=>by rw [g3];rfl,fun g3=>⟨by kernel_rfl,⟨by omega,by omega⟩,⟨hc',hcl⟩,⟨by omega,by omega⟩,⟨[cmpC c' c,cmpI y' y],rfl,by simp⟩,fun g4=>by rw [g3,g4];rfl,fun g4=>⟨j+1+1,⟨by omega,?_⟩,by omega,⟨by simp [fitR,look,upd],by simp [fitH,hget,hset],rfl,rfl,rfl⟩⟩⟩⟩
     rw [g3,g4]
     exact (congrArg (fun p=>eachF W rgO p (List.drop (j+1+1) rs)) hpv).symm
 · have c0:decide ((i:Int)<(rs.length:Int))=false:=by simp;omega
   rw [List.drop_eq_nil_of_le (by omega),eachF_nil]
   simp only [c0,go_sem,↓reduceIte,reduceCtorEq,Nat.reduceEqDiff,Nat.reduceLT,↓all_qV,Int.reduceToNat,Int.reduceLT,Int.reduceLE,Nat.reduceAdd,Nat.reduceLeDiff,Nat.reduceMul]
noncomputable def E20 (g:FuncId):PSpec:=(putΦ E8 23 chkGS) g
theorem hE20:TabSound GG E20:=(hE8.put w_chkGS)
def rkB (c:List UInt8) (y:Int):PV->Bool
 | .agg [.str d,.int _ z,_,_]=>d == c&&z == y
 | _=>false
def rgV:PV->Int × Int
 | .agg [_,_,.int _ lo,.int _ hi]=>(lo,hi)
 | _=>(0,0)
def rgF (c:List UInt8) (y:Int):List PV->Option (Int × Int)
 | []=>none
 | x::r=>bif rkB c y x then some (rgV x) else rgF c y r
def limR (L:Law) (r:List PV):PV->Int × Int
 | .agg [.int _ k,.str c,.int _ y,_,_]=>bif k == 0 then (0,bdF c y 1000000000000000 L.b) else bif k == 1 then (bdF c y 0 L.c,1000000000000000) else (rgF c y r).getD (bdF c y 0 L.a,bdF c y 0 L.a)
 | _=>(0,0)
noncomputable def limGS:PSpec:=on_ppl (fun p a r=>(∃ L:Law,p=.pp (plnV L) 0/\LawS L)/\isArc a/\rgsOk r) (fun p a r=>.tup [.int .i64 (limR (plO p) r a).1,.int .i64 (limR (plO p) r a).2])
theorem k_limGS_114 {args:List PV}:E20 114 args=bndS args:=rfl
theorem k_limGS_115 {args:List PV}:E20 115 args=lineBS args:=rfl
theorem w_limGS:PSound GG 49 limGS:=by
 refine PSound.of_wpc (C:=cxP Tryz.prog E20 [] 65) (T:=plan0) Tryz.func49 rfl rfl rfl (Fit.pure (G:=GG) hE20 mixed) (fun args h=>?_)
 unfold limGS at h
 obtain ⟨p,a,r,rfl,hp⟩:=on_ppl_inv h
 refine ⟨by simp [cxP],?_⟩
 simp only [limGS,on_ppl_eq,Tryz.f49,argL,plan0]
 obtain ⟨⟨⟨fi,ye,tr,la,lb,lc,ld,le,lf,lg⟩,rfl,hS⟩,⟨k,c,y,f,t,rfl,hc⟩,hr1,hrl⟩:=hp
 have hB:=hS.b
 have hBl:=hS.bl
 have hC:=hS.c
 have hCl:=hS.cl
 simp only at hB hBl hC hCl
 have e0:plO (.pp (plnV ⟨fi,ye,tr,la,lb,lc,ld,le,lf,lg⟩) 0)=⟨fi,ye,tr,la,lb,lc,ld,le,lf,lg⟩:=rfl
 have e1:arC (.agg [.int .i64 k,.str c,.int .i64 y,.int .i64 f,.int .i64 t])=c:=rfl
 have e2:arY (.agg [.int .i64 k,.str c,.int .i64 y,.int .i64 f,.int .i64 t])=y:=rfl
 have hlv:lawO (.agg [.int .i64 fi,.int .i64 ye,.sl tr,.sl la,.sl lb,.sl lc,.sl ld,.sl le,.sl lf,.sl lg])=⟨fi,ye,tr,la,lb,lc,ld,le,lf,lg⟩:=rfl
 rw [e0]
 simp only [plnV,limR,hlv,e1,e2,List.take_succ_cons,List.take_nil,k_limGS_114,bndS,on_lpi_eq,k_limGS_115,lineBS,on_psi_eq,go_sem,↓reduceIte,reduceCtorEq,Nat.reduceEqDiff,Nat.reduceLT,↓all_qV,Int.reduceToNat,Int.reduceLT,Int.reduceLE,Nat.reduceAdd,Nat.reduceLeDiff,Nat.reduceMul,ev_callG,gcallK_b,gcallK_w,callGc_true,callGc_false,List.forall_mem_cons,List.not_mem_nil,PV.one,AV.one]
 have hArc:isArc (.agg [.int .i64 k,.str c,.int .i64 y,.int .i64 f,.int .i64 t]):=⟨k,c,y,f,t,rfl,hc⟩
 refine ⟨fun h0=>⟨by kernel_rfl,⟨hB,hBl,hArc⟩,by rw [h0];rfl⟩,fun h0=>⟨fun h1=>⟨by kernel_rfl,⟨hC,hCl,hArc⟩,by rw [h0,h1];rfl⟩,fun h1=>?_⟩⟩
 rw [h0,h1,cond_false,cond_false]
 obtain ⟨ar,har⟩:∃ ar,arcsL fi ye.toNat tr=ar:=⟨_,rfl⟩
 rw [har]
 refine AWp.loop (T:=plan0) (α:=Nat) (fun i=>([(0,.pv (.pp (.agg [.int .i64 fi,.int .i64 ye,.sl tr,.sl la,.sl lb,.sl lc,.sl ld,.sl le,.sl lf,.sl lg,.sl ar]) 0)),(4,.ptr 4 0),(31,.pv (.sl r)),(32,.pv (.int .i64 r.length)),(33,.pv (.int .i64 i))],[(4,.cells [.pv (.int .i64 k),.pv (.str c),.pv (.int .i64 y),.pv (.int .i64 f),.pv (.int .i64 t)])])) (fun i=>i<=r.length/\rgF c y (r.drop i)=rgF c y r) (fun i=>r.length-i)
  ⟨0,⟨Nat.zero_le _,rfl⟩,⟨by simp [fitR,look,upd],by simp [fitH,hget,hset],rfl,rfl,rfl⟩⟩ ?_
 rintro i ⟨g1,g2⟩
 have hi1:IntKind.i64.wrap ((i:Int)+1)=((i+1:Nat):Int):=by rw [i64_in _ (by omega)];omega
 by_cases hlt:i<r.length
 · have c0:decide ((i:Int)<(r.length:Int))=true:=by simp;omega
   have hd:r.drop i=r.getD i default::r.drop (i+1):=by rw [List.drop_eq_getElem_cons hlt];simp [List.getD_eq_getElem?_getD,hlt]
   obtain ⟨d,z,lo,hi,hx,_⟩:=hr1 _ (getD_mem hlt)
   have hk:rkB c y (.agg [.str d,.int .i64 z,.int .i64 lo,.int .i64 hi])=(d == c&&z == y):=rfl
   have hv:rgV (.agg [.str d,.int .i64 z,.int .i64 lo,.int .i64 hi])=(lo,hi):=rfl
   rw [hd,rgF,hx,hk,hv] at g2
   simp only [c0,hx,hi1,hlv,List.take_succ_cons,List.take_nil,k_limGS_114,bndS,on_lpi_eq,k_limGS_115,lineBS,on_psi_eq,go_sem,↓reduceIte,reduceCtorEq,Nat.reduceEqDiff,Nat.reduceLT,↓all_qV,Int.reduceToNat,Int.reduceLT,Int.reduceLE,Nat.reduceAdd,Nat.reduceLeDiff,Nat.reduceMul,ev_callG,gcallK_b,gcallK_w,callGc_true,callGc_false,List.forall_mem_cons,List.not_mem_nil,PV.one,AV.one]
   refine ⟨⟨by omega,by omega⟩,fun h9=>⟨by kernel_rfl,?_⟩,fun h9=>⟨i+1,⟨by omega,?_⟩,by omega,⟨by simp [fitR,look,upd],by simp [fitH,hget,hset],rfl,rfl,rfl⟩⟩⟩
   · rw [h9,cond_true] at g2
     rw [<- g2];rfl
   · rw [h9,cond_false] at g2
     exact g2
 · have c0:decide ((i:Int)<(r.length:Int))=false:=by simp;omega
   rw [List.drop_eq_nil_of_le (by omega),rgF] at g2
   simp only [c0,hlv,List.take_succ_cons,List.take_nil,k_limGS_114,bndS,on_lpi_eq,k_limGS_115,lineBS,on_psi_eq,go_sem,↓reduceIte,reduceCtorEq,Nat.reduceEqDiff,Nat.reduceLT,↓all_qV,Int.reduceToNat,Int.reduceLT,Int.reduceLE,Nat.reduceAdd,Nat.reduceLeDiff,Nat.reduceMul,ev_callG,gcallK_b,gcallK_w,callGc_true,callGc_false,List.forall_mem_cons,List.not_mem_nil,PV.one,AV.one]
   rw [<- g2]
   exact ⟨by kernel_rfl,⟨⟨fi,ye,tr,la,lb,lc,ld,le,lf,lg⟩,rfl,hS⟩,rfl⟩
noncomputable def E21 (g:FuncId):PSpec:=(putΦ E20 49 limGS) g
theorem hE21:TabSound GG E21:=(hE20.put w_limGS)
def netAR (L:Law) (r:List PV) (a:PV):PV:=match a with
 | .agg [_,_,_,.int _ f,.int _ t]=>.agg [.int .i64 f,.int .i64 t,.int .i64 (limR L r a).1,.int .i64 (limR L r a).2]
 | _=>default
def netR (L:Law) (r:List PV):PV × Int:=bif chkR L r != 0 then (.agg [.int .i64 0,.sl []],chkR L r) else (.agg [.int .i64 (netN L),.sl ((arcsL L.first L.years.toNat L.tree).map (netAR L r))],0)
noncomputable def netGS:PSpec:=on_pl (fun l r=>(∃ L:Law,l=L.v/\LawS L)/\rgsOk r) (fun l r=>.tup [(netR (lawO l) r).1,.int .i64 (netR (lawO l) r).2])
theorem chkR_zero {L:Law} {r:List PV} (h:chkR L r=0):validF L=0/\r.length<=120/\eachF (wrgF L) rgO none r=0:=by
 unfold chkR at h
 obtain ⟨h1,h⟩:=bif0 h (fun e=>by simpa using e)
 obtain ⟨h2,h3⟩:=bif0 h (fun _=>by decide)
 have h2:¬ (120:Int)<r.length:=by simpa using h2
 exact ⟨by simpa using h1,by omega,h3⟩
theorem k_netGS_23 {args:List PV}:E21 23 args=chkGS args:=rfl
theorem k_netGS_48 {args:List PV}:E21 48 args=planS args:=rfl
theorem k_netGS_49 {args:List PV}:E21 49 args=limGS args:=rfl
theorem w_netGS:PSound GG 13 netGS:=by
 refine PSound.of_wpc (C:=cxP Tryz.prog E21 [] 62) (T:=plan0) Tryz.func13 rfl rfl rfl (Fit.pure (G:=GG) hE21 mixed) (fun args h=>?_)
 unfold netGS at h
 obtain ⟨l,r,rfl,hp⟩:=on_pl_inv h
 refine ⟨by simp [cxP],?_⟩
 simp only [netGS,on_pl_eq,Tryz.f13,argL,plan0]
 obtain ⟨⟨⟨fi,ye,tr,la,lb,lc,ld,le,lf,lg⟩,rfl,hS⟩,hr⟩:=hp
 have hlv:lawO (.agg [.int .i64 fi,.int .i64 ye,.sl tr,.sl la,.sl lb,.sl lc,.sl ld,.sl le,.sl lf,.sl lg])=⟨fi,ye,tr,la,lb,lc,ld,le,lf,lg⟩:=rfl
 have hV:∃ L':Law,.agg [.int .i64 fi,.int .i64 ye,.sl tr,.sl la,.sl lb,.sl lc,.sl ld,.sl le,.sl lf,.sl lg]=L'.v/\LawS L':=⟨⟨fi,ye,tr,la,lb,lc,ld,le,lf,lg⟩,rfl,hS⟩
 rw [lawO_v]
 unfold netR
 obtain ⟨e,he⟩:∃ e,chkR ⟨fi,ye,tr,la,lb,lc,ld,le,lf,lg⟩ r=e:=⟨_,rfl⟩
 rw [he]
 by_cases h0:e=0
 · subst h0
   obtain ⟨hV0,hr120,_⟩:=chkR_zero he
   have hP:=okPl_valid hS hV0
   have hPl:∃ L':Law,.agg [.int .i64 fi,.int .i64 ye,.sl tr,.sl la,.sl lb,.sl lc,.sl ld,.sl le,.sl lf,.sl lg]=L'.v/\okPl L':=⟨⟨fi,ye,tr,la,lb,lc,ld,le,lf,lg⟩,rfl,hP⟩
   obtain ⟨_,hf,hy,ht⟩:=hP
   simp only at hf hy ht
   have hNn:netN ⟨fi,ye,tr,la,lb,lc,ld,le,lf,lg⟩=1+2 * tr.length * (ye+1):=rfl
   rw [hNn]
   have hAr:=arcs_arc (fi:=fi) (n:=ye.toNat) hS.tr
   have hAl:=arcs_len (fi:=fi) (n:=ye.toNat) (tr:=tr) (by omega) ht
   simp only at hAr
   obtain ⟨ar,har⟩:∃ ar,arcsL fi ye.toNat tr=ar:=⟨_,rfl⟩
   rw [har] at hAr hAl ⊢
   have hpl:plO (.pp (.agg [.int .i64 fi,.int .i64 ye,.sl tr,.sl la,.sl lb,.sl lc,.sl ld,.sl le,.sl lf,.sl lg,.sl ar]) 0)=⟨fi,ye,tr,la,lb,lc,ld,le,lf,lg⟩:=rfl
   have hpv:∃ L:Law,PV.pp (.agg [.int .i64 fi,.int .i64 ye,.sl tr,.sl la,.sl lb,.sl lc,.sl ld,.sl le,.sl lf,.sl lg,.sl ar]) 0=(plnV L).pp 0/\LawS L:=⟨⟨fi,ye,tr,la,lb,lc,ld,le,lf,lg⟩,by unfold plnV;rw [har],hS⟩
   have m0:(0:Int)<=2 * tr.length * (ye+1):=Int.mul_nonneg (by omega) (by omega)
   have m1:(2:Int) * tr.length * (ye+1)<=2000 * 101:=Int.mul_le_mul (by omega) (by omega) (by omega) (by omega)
   have w1:IntKind.i64.wrap (2 * (tr.length:Int))=2 * tr.length:=i64_in _ (by omega)
   have w2:IntKind.i64.wrap (ye+1)=ye+1:=i64_in _ (by omega)
   have w3:IntKind.i64.wrap (2 * (tr.length:Int) * (ye+1))=2 * tr.length * (ye+1):=i64_in _ (by omega)
   have w4:IntKind.i64.wrap (1+2 * (tr.length:Int) * (ye+1))=1+2 * tr.length * (ye+1):=i64_in _ (by omega)
   obtain ⟨nN,hnN⟩:∃ nN,1+2 * (tr.length:Int) * (ye+1)=nN:=⟨_,rfl⟩
   have w5:IntKind.i64.wrap nN=nN:=by rw [<- hnN];exact w4
   have z0:((0:Int) != 0)=false:=rfl
   rw [hnN,z0,cond_false]
   simp only [Law.v,lawV,hlv,he,har,plnV,w1,w2,w3,hnN,w5,z0,decide_false,List.take_succ_cons,List.take_nil,k_netGS_23,chkGS,on_pl_eq,k_netGS_48,planS,on_p_eq,k_netGS_49,limGS,on_ppl_eq,go_sem,↓reduceIte,reduceCtorEq,Nat.reduceEqDiff,Nat.reduceLT,↓all_qV,Int.reduceToNat,Int.reduceLT,Int.reduceLE,Nat.reduceAdd,Nat.reduceLeDiff,Nat.reduceMul,ev_callG,gcallK_b,gcallK_w,callGc_true,callGc_false,List.forall_mem_cons,List.not_mem_nil,PV.one,AV.one]
   refine ⟨⟨hV,hr⟩,hPl,?_⟩
   refine AWp.adoptC (b:=8) (i:=1) (κ:=8000) (k:=4) rfl rfl rfl (by decide) ?_
   refine AWp.loop (T:=plan0) (α:=Nat × List PV) (fun z=>([(1,.pv (.sl r)),(2,.ptr 2 0),(4,.ptr 4 0),(5,.pv (.int .i64 0)),(7,.pv (.pp (.agg [.int .i64 fi,.int .i64 ye,.sl tr,.sl la,.sl lb,.sl lc,.sl ld,.sl le,.sl lf,.sl lg,.sl ar]) 0)),(8,.ptr 8 0),(35,.pv (.sl ar)),(36,.pv (.int .i64 ar.length)),(37,.pv (.int .i64 z.1))],[(2,.cells [.pv (.int .i64 fi),.pv (.int .i64 ye),.pv (.sl tr),.pv (.sl la),.pv (.sl lb),.pv (.sl lc),.pv (.sl ld),.pv (.sl le),.pv (.sl lf),.pv (.sl lg)]),(4,.cells [.pv (.int .i64 0),.nils]),(8,.cells [.pv (.int .i64 nN),.rs 8000 z.2.length]),(8000,.row 4 z.2)])) (fun z=>z.1<=ar.length/\z.2=(ar.take z.1).map (netAR ⟨fi,ye,tr,la,lb,lc,ld,le,lf,lg⟩ r)) (fun z=>ar.length-z.1)
    ⟨(0,[]),⟨Nat.zero_le _,rfl⟩,⟨by simp [fitR,look,upd],by simp [fitH,hget,hset],rfl,rfl,rfl⟩⟩ ?_
   rintro ⟨i,es⟩ ⟨g1,g2⟩
   simp only at g1 g2
   have hel:es.length<=i:=by rw [g2,List.length_map];exact List.length_take_le _ _
   have tk:es.take es.length=es:=List.take_length
   have hi1:IntKind.i64.wrap ((i:Int)+1)=((i+1:Nat):Int):=by rw [i64_in _ (by omega)];omega
   by_cases hlt:i<ar.length
   · have c0:decide ((i:Int)<(ar.length:Int))=true:=by simp;omega
     obtain ⟨k,c,y,f,t,hx,hc⟩:=hAr _ (getD_mem hlt)
     have hIA:isArc (.agg [.int .i64 k,.str c,.int .i64 y,.int .i64 f,.int .i64 t]):=⟨k,c,y,f,t,rfl,hc⟩
     obtain ⟨⟨l1,l2⟩,hl⟩:∃ l,limR ⟨fi,ye,tr,la,lb,lc,ld,le,lf,lg⟩ r (.agg [.int .i64 k,.str c,.int .i64 y,.int .i64 f,.int .i64 t])=l:=⟨_,rfl⟩
     have hna:netAR ⟨fi,ye,tr,la,lb,lc,ld,le,lf,lg⟩ r (.agg [.int .i64 k,.str c,.int .i64 y,.int .i64 f,.int .i64 t])=.agg [.int .i64 f,.int .i64 t,.int .i64 l1,.int .i64 l2]:=by unfold netAR;simp only;rw [hl]
     have hsu:(ar.take (i+1)).map (netAR ⟨fi,ye,tr,la,lb,lc,ld,le,lf,lg⟩ r)=es++[.agg [.int .i64 f,.int .i64 t,.int .i64 l1,.int .i64 l2]]:=by
      rw [take_succ_getD hlt,hx,List.map_append,g2,<- hna];rfl
     simp only [c0,hx,hl,hpl,tk,hi1,List.take_succ_cons,List.take_nil,k_netGS_23,chkGS,on_pl_eq,k_netGS_48,planS,on_p_eq,k_netGS_49,limGS,on_ppl_eq,go_sem,↓reduceIte,reduceCtorEq,Nat.reduceEqDiff,Nat.reduceLT,↓all_qV,Int.reduceToNat,Int.reduceLT,Int.reduceLE,Nat.reduceAdd,Nat.reduceLeDiff,Nat.reduceMul,ev_callG,gcallK_b,gcallK_w,callGc_true,callGc_false,List.forall_mem_cons,List.not_mem_nil,PV.one,AV.one]
     exact ⟨⟨by omega,by omega⟩,⟨hpv,hIA,hr⟩,rfl,Nat.le_refl _,by omega,by simp only [maxLen];omega,(i+1,es++[.agg [.int .i64 f,.int .i64 t,.int .i64 l1,.int .i64 l2]]),⟨by simp only;omega,hsu.symm⟩,by simp only;omega,⟨by simp [fitR,look,upd],by simp [fitH,hget,hset],rfl,rfl,rfl⟩⟩
   · have c0:decide ((i:Int)<(ar.length:Int))=false:=by simp;omega
     have e:i=ar.length:=by omega
     subst e
     rw [List.take_length] at g2
     simp only [c0,tk,loadC_eqN,List.take_succ_cons,List.take_nil,k_netGS_23,chkGS,on_pl_eq,k_netGS_48,planS,on_p_eq,k_netGS_49,limGS,on_ppl_eq,go_sem,↓reduceIte,reduceCtorEq,Nat.reduceEqDiff,Nat.reduceLT,↓all_qV,Int.reduceToNat,Int.reduceLT,Int.reduceLE,Nat.reduceAdd,Nat.reduceLeDiff,Nat.reduceMul,ev_callG,gcallK_b,gcallK_w,callGc_true,callGc_false,List.forall_mem_cons,List.not_mem_nil,PV.one,AV.one]
     exact ⟨Nat.le_refl _,by rw [g2]⟩
 · have z1:(e != 0)=true:=by simpa using h0
   rw [z1,cond_true]
   simp only [Law.v,lawV,hlv,he,z1,loadC_eqN,decide_false,List.take_succ_cons,List.take_nil,k_netGS_23,chkGS,on_pl_eq,k_netGS_48,planS,on_p_eq,k_netGS_49,limGS,on_ppl_eq,go_sem,↓reduceIte,reduceCtorEq,Nat.reduceEqDiff,Nat.reduceLT,↓all_qV,Int.reduceToNat,Int.reduceLT,Int.reduceLE,Nat.reduceAdd,Nat.reduceLeDiff,Nat.reduceMul,ev_callG,gcallK_b,gcallK_w,callGc_true,callGc_false,List.forall_mem_cons,List.not_mem_nil,PV.one,AV.one]
   exact ⟨hV,hr⟩
noncomputable def E22 (g:FuncId):PSpec:=(putΦ E21 13 netGS) g
theorem hE22:TabSound GG E22:=(hE21.put w_netGS)
end Go.AM
namespace Go.AM
open Go Go.Proofs Go.IntWalk
set_option maxRecDepth 100000
set_option maxHeartbeats 1000000
theorem one_line {ls:List PV} (hs:ls.Pairwise lnLt) {c:List UInt8} {y m m':Int} (h1:PV.agg [.str c,.int .i64 y,.int .i64 m]∈ls) (h2:PV.agg [.str c,.int .i64 y,.int .i64 m']∈ls):m=m':=by
 have bad:∀ m1 m2:Int,¬ lnLt (PV.agg [.str c,.int .i64 y,.int .i64 m1]) (PV.agg [.str c,.int .i64 y,.int .i64 m2]):=by
  rintro m1 m2 ⟨a',b',z1,z2,n1,n2,e1,e2,h3⟩
  simp only [PV.agg.injEq,List.cons.injEq,PV.str.injEq,PV.int.injEq,true_and] at e1 e2
  obtain ⟨rfl,rfl,_⟩:=e1
  obtain ⟨rfl,rfl,_⟩:=e2
  have:=cmpL_self (partsR c)
  omega
 obtain ⟨i1,hi1,q1⟩:=List.getElem_of_mem h1
 obtain ⟨i2,hi2,q2⟩:=List.getElem_of_mem h2
 rcases Nat.lt_trichotomy i1 i2 with hlt | heq | hgt
 · have:=List.pairwise_iff_getElem.1 hs i1 i2 hi1 hi2 hlt
   rw [q1,q2] at this;exact (bad _ _ this).elim
 · subst heq
   rw [q1] at q2
   simp only [PV.agg.injEq,List.cons.injEq,PV.int.injEq,true_and,and_true] at q2
   exact q2
 · have:=List.pairwise_iff_getElem.1 hs i2 i1 hi2 hi1 hgt
   rw [q1,q2] at this;exact (bad _ _ this).elim
theorem bd_line {ls:List PV} (hs:ls.Pairwise lnLt) (hl:∀ x,x∈ls->isL3 x) {c:List UInt8} {y m d:Int} (h:PV.agg [.str c,.int .i64 y,.int .i64 m]∈ls):bdF c y d ls=m:=by
 rcases own_find hs hl c y with ⟨m',h1,_,e⟩ | ⟨h1,_⟩
 · rw [e];exact one_line hs h1 h
 · exact absurd h (h1 m)
def sumC (L:Law) (c:List UInt8) (y:Int):Int:=sumL (L.a.map (vlF c y))
theorem tot_sum {L:Law} (h:LawG L) (c:List UInt8) (y:Int):totL L c y=(sumC L c y,0):=
 smF_sum ((LnS.self h).ok h).1 (by have:=h.limit.1;omega) c y
theorem fw_sum {L:Law} {k:Int} (hk:k≠2) {c:List UInt8} {y f t:Int}:fwA L.a (arcV k c y f t)=sumC L c y:=by
 unfold fwA sumC
 exact sumF_congr (fun x _=>by rw [fw1_arc,if_neg hk])
theorem sumC_in {L:Law} (h:LawG L) (c:List UInt8) (y:Int):0<=sumC L c y/\sumC L c y<=1000000000000000:=by
 have:=fwA_in (arcV 0 c y 0 0) ((LnS.self h).ok h).1
 have hl:=h.limit.1
 rw [fw_sum (by decide)] at this
 omega
theorem ceil_arc {L:Law} (h:LawG L) {c:List UInt8} {y m:Int} (hb:bnL L (.agg [.str c,.int .i64 y,.int .i64 m])):(∃ f t,arcV 0 c y f t∈arL L)/\∃ f t,arcV 1 c y f t∈arL L:=by
 obtain ⟨c',y',m',e,hc,hy,_⟩:=hb
 simp only [PV.agg.injEq,List.cons.injEq,PV.str.injEq,PV.int.injEq,true_and,and_true] at e
 obtain ⟨rfl,rfl,_⟩:=e
 obtain ⟨e,he,rfl⟩:=List.mem_map.1 hc
 unfold arL arcsL
 rcases hy with rfl | ⟨j,rfl,hj⟩
 · exact ⟨⟨_,_,List.mem_append_right _ (List.mem_flatMap.2 ⟨e,he,List.mem_cons_of_mem _ List.mem_cons_self⟩)⟩,⟨_,_,List.mem_append_right _ (List.mem_flatMap.2 ⟨e,he,List.mem_cons_self⟩)⟩⟩
 · exact ⟨⟨_,_,List.mem_append_left _ (List.mem_append_left _ (List.mem_flatMap.2 ⟨j,List.mem_range.2 hj,List.mem_flatMap.2 ⟨e,he,List.mem_cons_self⟩⟩))⟩,
     ⟨_,_,List.mem_append_left _ (List.mem_append_left _ (List.mem_flatMap.2 ⟨j,List.mem_range.2 hj,List.mem_flatMap.2 ⟨e,he,List.mem_cons_of_mem _ List.mem_cons_self⟩⟩))⟩⟩
theorem bre_nil {L:Law} (h:LawG L):breL L=[]↔(∀ c y m,PV.agg [.str c,.int .i64 y,.int .i64 m]∈L.b->sumC L c y<=m)/\(∀ c y m,PV.agg [.str c,.int .i64 y,.int .i64 m]∈L.c->m<=sumC L c y):=by
 unfold breL
 rw [List.append_eq_nil_iff,List.flatMap_eq_nil_iff,List.flatMap_eq_nil_iff]
 have e1:∀ c y m,(ceB L (.agg [.str c,.int .i64 y,.int .i64 m])=[]↔sumC L c y<=m):=fun c y m=>by
  unfold ceB
  simp only [tot_sum h]
  by_cases hh:m<sumC L c y
  · have:decide (m<sumC L c y)=true:=by simpa using hh
    rw [this];simp;omega
  · have:decide (m<sumC L c y)=false:=by simpa using hh
    rw [this];simp;omega
 have e2:∀ c y m,(flB L (.agg [.str c,.int .i64 y,.int .i64 m])=[]↔m<=sumC L c y):=fun c y m=>by
  unfold flB
  simp only [tot_sum h]
  by_cases hh:sumC L c y<m
  · have:decide (sumC L c y<m)=true:=by simpa using hh
    rw [this];simp;omega
  · have:decide (sumC L c y<m)=false:=by simpa using hh
    rw [this];simp;omega
 constructor
 · rintro ⟨h1,h2⟩
   exact ⟨fun c y m hm=>(e1 c y m).1 (h1 _ hm),fun c y m hm=>(e2 c y m).1 (h2 _ hm)⟩
 · rintro ⟨h1,h2⟩
   refine ⟨fun x hx=>?_,fun x hx=>?_⟩
   · obtain ⟨c,y,m,rfl,_⟩:=h.ceils.1 x hx
     exact (e1 c y m).2 (h1 c y m hx)
   · obtain ⟨c,y,m,rfl,_⟩:=h.floors.1 x hx
     exact (e2 c y m).2 (h2 c y m hx)
structure LimL (L:Law) (lo hi:PV->Int):Prop where
 c0:∀ c y f t,arcV 0 c y f t∈arL L->lo (arcV 0 c y f t)=0/\hi (arcV 0 c y f t)=bdF c y 1000000000000000 L.b
 c1:∀ c y f t,arcV 1 c y f t∈arL L->lo (arcV 1 c y f t)=bdF c y 0 L.c/\hi (arcV 1 c y f t)=1000000000000000
 c2:∀ c y f t,arcV 2 c y f t∈arL L->lo (arcV 2 c y f t)<=fwA L.a (arcV 2 c y f t)/\fwA L.a (arcV 2 c y f t)<=hi (arcV 2 c y f t)
theorem lim_bre {L:Law} (h:LawG L) {lo hi:PV->Int} (hl:LimL L lo hi):(arL L).all (fun a=>decide (lo a<=fwA L.a a)&&decide (fwA L.a a<=hi a))=(breL L).isEmpty:=by
 rw [Bool.eq_iff_iff,List.all_eq_true,List.isEmpty_iff,bre_nil h]
 have hin:=sumC_in h
 constructor
 · intro hh
   refine ⟨fun c y m hm=>?_,fun c y m hm=>?_⟩
   · obtain ⟨⟨f,t,ha⟩,_⟩:=ceil_arc h (h.ceils.1 _ hm)
     have:=hh _ ha
     rw [(hl.c0 _ _ _ _ ha).2,fw_sum (by decide),bd_line h.ceils.2 h.s.b hm] at this
     simp only [Bool.and_eq_true,decide_eq_true_eq] at this
     exact this.2
   · obtain ⟨_,f,t,ha⟩:=ceil_arc h (h.floors.1 _ hm)
     have:=hh _ ha
     rw [(hl.c1 _ _ _ _ ha).1,fw_sum (by decide),bd_line h.floors.2 h.s.c hm] at this
     simp only [Bool.and_eq_true,decide_eq_true_eq] at this
     exact this.1
 · rintro ⟨h1,h2⟩ a ha
   have k0:∀ c y f t,a=arcV 0 c y f t->(decide (lo a<=fwA L.a a)&&decide (fwA L.a a<=hi a))=true:=by
    rintro c y f t rfl
    rw [(hl.c0 _ _ _ _ ha).1,(hl.c0 _ _ _ _ ha).2,fw_sum (by decide)]
    have:=hin c y
    simp only [Bool.and_eq_true,decide_eq_true_eq]
    refine ⟨this.1,?_⟩
    rcases own_find h.ceils.2 h.s.b c y with ⟨m,hm,_,e⟩ | ⟨_,_,e⟩
    · rw [e];exact h1 c y m hm
    · rw [e];exact this.2
   have k1:∀ c y f t,a=arcV 1 c y f t->(decide (lo a<=fwA L.a a)&&decide (fwA L.a a<=hi a))=true:=by
    rintro c y f t rfl
    rw [(hl.c1 _ _ _ _ ha).1,(hl.c1 _ _ _ _ ha).2,fw_sum (by decide)]
    have:=hin c y
    simp only [Bool.and_eq_true,decide_eq_true_eq]
    refine ⟨?_,this.2⟩
    rcases own_find h.floors.2 h.s.c c y with ⟨m,hm,_,e⟩ | ⟨_,_,e⟩
    · rw [e];exact h2 c y m hm
    · rw [e];exact this.1
   have k2:∀ c y f t,a=arcV 2 c y f t->(decide (lo a<=fwA L.a a)&&decide (fwA L.a a<=hi a))=true:=by
    rintro c y f t rfl
    have:=hl.c2 _ _ _ _ ha
    simp only [Bool.and_eq_true,decide_eq_true_eq]
    exact this
   rcases arcs_mem ha with ⟨j,hj,e,he,e1 | e1⟩ | ⟨s,hs,j,hj,e1⟩ | ⟨e,he,e1 | e1⟩
   · exact k0 _ _ _ _ e1
   · exact k1 _ _ _ _ e1
   · exact k2 _ _ _ _ e1
   · exact k1 _ _ _ _ e1
   · exact k0 _ _ _ _ e1
def rgK (L:Law) (i:Nat) (x:PV):Prop:=∃ c y lo hi m,x=.agg [.str c,.int .i64 y,.int .i64 lo,.int .i64 hi]/\PV.agg [.str c,.int .i64 y,.int .i64 m]∈L.a.take i/\0<=lo/\lo<=m/\m<=hi/\hi<=1000000000000
structure RgS (L:Law) (i:Nat) (r:List PV):Prop where
 len:r.length<=i
 mem:∀ x,x∈r->rgK L i x
 ord:r.Pairwise (fun x y=>rgO x y<0)
theorem RgS.nil (L:Law):RgS L 0 []:=⟨Nat.le_refl _,fun x hx=>(by cases hx),.nil⟩
theorem rgK.up {L:Law} {i:Nat} {x:PV} (h:rgK L i x):rgK L (i+1) x:=by
 obtain ⟨c,y,lo,hi,m,e,hm,h1⟩:=h
 exact ⟨c,y,lo,hi,m,e,List.mem_of_mem_take (i:=i) (by rw [List.take_take,Nat.min_eq_left (by omega)];exact hm),h1⟩
theorem RgS.skip {L:Law} {i:Nat} {r:List PV} (h:RgS L i r):RgS L (i+1) r:=⟨by have:=h.len;omega,fun x hx=>(h.mem x hx).up,h.ord⟩
theorem RgS.add {L:Law} (hG:LawG L) {i:Nat} {r:List PV} (h:RgS L i r) (hi:i<L.a.length) {c:List UInt8} {y m lo hi':Int} (hx:L.a.getD i default=.agg [.str c,.int .i64 y,.int .i64 m]) (h1:0<=lo/\lo<=m/\m<=hi'/\hi'<=1000000000000):RgS L (i+1) (r++[.agg [.str c,.int .i64 y,.int .i64 lo,.int .i64 hi']]):=by
 have ht:L.a.take (i+1)=L.a.take i++[.agg [.str c,.int .i64 y,.int .i64 m]]:=by rw [take_succ_getD hi,hx]
 have hnew:rgK L (i+1) (.agg [.str c,.int .i64 y,.int .i64 lo,.int .i64 hi']):=⟨c,y,lo,hi',m,rfl,by rw [ht];simp,h1⟩
 refine ⟨by have:=h.len;rw [List.length_append,List.length_singleton];omega,fun x hx'=>?_,?_⟩
 · rcases List.mem_append.1 hx' with hx' | hx'
   · exact (h.mem x hx').up
   · rw [List.mem_singleton] at hx';subst hx';exact hnew
 · rw [List.pairwise_append]
   refine ⟨h.ord,List.pairwise_singleton _ _,fun x hx' z hz=>?_⟩
   rw [List.mem_singleton] at hz
   subst hz
   obtain ⟨a,y1,l1,u1,m1,rfl,hm1,_⟩:=h.mem x hx'
   have hp:(L.a.take i++[PV.agg [.str c,.int .i64 y,.int .i64 m]]).Pairwise lnLt:=by rw [<- ht];exact hG.lines.2.sublist (List.take_sublist _ _)
   obtain ⟨a',b',z1,z2,n1,n2,e1,e2,h3⟩:=(List.pairwise_append.1 hp).2.2 _ hm1 _ (List.mem_singleton_self _)
   simp only [PV.agg.injEq,List.cons.injEq,PV.str.injEq,PV.int.injEq,true_and] at e1 e2
   obtain ⟨rfl,rfl,_⟩:=e1
   obtain ⟨rfl,rfl,_⟩:=e2
   have hca:isCode a=true:=by
    obtain ⟨⟨c0,j0,m0,e0,hc0,_⟩,_⟩:=hG.lines.1 _ (List.mem_of_mem_take hm1)
    simp only [PV.agg.injEq,List.cons.injEq,PV.str.injEq,PV.int.injEq,true_and] at e0
    rw [e0.1]
    exact hG.tree.code _ (List.mem_filter.1 hc0).1
   have key:=(linO_neg (m:=0) (n:=0)).2 (show cmpC a c<0\/(cmpC a c=0/\y1<y) by
    rw [cmpC_L (code_parts hca)]
    rcases h3 with h3 | ⟨rfl,h3⟩
    · exact .inl h3
    · exact .inr ⟨cmpL_self _,h3⟩)
   exact key
theorem eachF_pair {one:PV->Int} {ord:PV->PV->Int}:∀ (l:List PV) (p:Option PV),(∀ x,x∈l->one x=0)->l.Pairwise (fun x y=>ord x y<0)->(∀ z,p=some z->∀ x,x∈l->ord z x<0)->eachF one ord p l=0
 | [],_,_,_,_=>rfl
 | x::r,p,h1,h2,h3=>by
   rw [List.pairwise_cons] at h2
   have hb:bhF ord p x=false:=by
    cases p with
    | none=>rfl
    | some z=>
      have:=h3 z rfl x List.mem_cons_self
      simp only [bhF,decide_eq_false_iff_not];omega
   rw [eachF_cons,h1 x List.mem_cons_self,hb]
   simp only [bne_self_eq_false,cond_false]
   exact eachF_pair r (some x) (fun y hy=>h1 y (List.mem_cons_of_mem _ hy)) h2.2 (fun z hz y hy=>by cases hz;exact h2.1 y hy)
theorem RgS.check {L:Law} (hG:LawG L) {i:Nat} {r:List PV} (h:RgS L i r) (hi:i<=120):chkR L r=0:=by
 unfold chkR
 have hl:=h.len
 have e1:decide ((120:Int)<(r.length:Int))=false:=by simp;omega
 rw [hG.v,e1]
 simp only [bne_self_eq_false,cond_false]
 refine eachF_pair r none (fun x hx=>?_) h.ord (fun z hz=>by cases hz)
 obtain ⟨c,y,lo,hi',m,rfl,hm,b1,b2,b3,b4⟩:=h.mem x hx
 obtain ⟨_,he⟩:=hG.lines.1 _ (List.mem_of_mem_take hm)
 simp only [lineE] at he
 obtain ⟨g1,he⟩:=bif0 he (fun _=>by decide)
 obtain ⟨g2,_⟩:=bif0 he (fun _=>by decide)
 have v1:vldM lo=true:=by simp [vldM];omega
 have v2:vldM hi'=true:=by simp [vldM];omega
 have v3:decide (hi'<lo)=false:=by simp;omega
 simp only [wrgF,g1,g2,v1,v2,v3]
 rfl
theorem rgF_mem {c:List UInt8} {y:Int} {v:Int × Int}:∀ {r:List PV},(∀ x,x∈r->isRg x)->rgF c y r=some v->PV.agg [.str c,.int .i64 y,.int .i64 v.1,.int .i64 v.2]∈r
 | [],_,h=>by cases h
 | x::r,hr,h=>by
   obtain ⟨d,z,lo,hi,rfl,_⟩:=hr x List.mem_cons_self
   unfold rgF at h
   by_cases hk:rkB c y (.agg [.str d,.int .i64 z,.int .i64 lo,.int .i64 hi])=true
   · rw [hk,cond_true] at h
     have hv:v=(lo,hi):=(Option.some.inj h).symm
     have:d=c/\z=y:=by simpa [rkB] using hk
     rw [hv,<- this.1,<- this.2]
     exact List.mem_cons_self
   · have hk:rkB c y (.agg [.str d,.int .i64 z,.int .i64 lo,.int .i64 hi])=false:=by simpa using hk
     rw [hk,cond_false] at h
     exact List.mem_cons_of_mem _ (rgF_mem (fun x hx=>hr x (List.mem_cons_of_mem _ hx)) h)
theorem limR_arc (L:Law) (r:List PV) (k:Int) (c:List UInt8) (y f t:Int):limR L r (arcV k c y f t)=bif k == 0 then (0,bdF c y 1000000000000000 L.b) else bif k == 1 then (bdF c y 0 L.c,1000000000000000) else (rgF c y r).getD (bdF c y 0 L.a,bdF c y 0 L.a):=rfl
theorem RgS.isR {L:Law} (hG:LawG L) {i:Nat} {r:List PV} (h:RgS L i r):∀ x,x∈r->isRg x:=fun x hx=>by
 obtain ⟨c,y,lo,hi,m,rfl,hm,_⟩:=h.mem x hx
 obtain ⟨c',y',m',e,hc⟩:=hG.s.a _ (List.mem_of_mem_take hm)
 simp only [PV.agg.injEq,List.cons.injEq,PV.str.injEq,PV.int.injEq,true_and] at e
 exact ⟨c,y,lo,hi,rfl,by rw [e.1];exact hc⟩
theorem RgS.lim {L:Law} (hG:LawG L) {i:Nat} {r:List PV} (h:RgS L i r):LimL L (fun a=>(limR L r a).1) (fun a=>(limR L r a).2):=by
 refine ⟨fun c y f t _=>?_,fun c y f t _=>?_,fun c y f t _=>?_⟩
 · simp only [limR_arc];exact ⟨rfl,rfl⟩
 · simp only [limR_arc];exact ⟨rfl,rfl⟩
 · simp only [limR_arc]
   rw [own_line hG]
   show ((rgF c y r).getD (bdF c y 0 L.a,bdF c y 0 L.a)).1<=_/\_<=((rgF c y r).getD (bdF c y 0 L.a,bdF c y 0 L.a)).2
   cases hv:rgF c y r with
   | none=>exact ⟨Int.le_refl _,Int.le_refl _⟩
   | some v=>
     have hm:=rgF_mem (h.isR hG) hv
     obtain ⟨c',y',lo,hi,m,e,hm',b1,b2,b3,b4⟩:=h.mem _ hm
     simp only [PV.agg.injEq,List.cons.injEq,PV.str.injEq,PV.int.injEq,true_and,and_true] at e
     obtain ⟨rfl,rfl,e1,e2⟩:=e
     rw [bd_line hG.lines.2 hG.s.a (List.mem_of_mem_take hm')]
     show v.1<=m/\m<=v.2
     omega
theorem RgS.limin {L:Law} (hG:LawG L) {i:Nat} {r:List PV} (h:RgS L i r):∀ a,a∈arL L->(0<=(limR L r a).1/\(limR L r a).1<=1000000000000000)/\(0<=(limR L r a).2/\(limR L r a).2<=1000000000000000):=by
 intro a ha
 have hF:=lim_in hG (arc_in hG ha).1
 obtain ⟨k,c,y,f,t,rfl,_⟩:=(arc_in hG ha).1
 rw [limR_arc]
 by_cases h0:k=0
 · subst h0;exact hF
 by_cases h1:k=1
 · subst h1;exact hF
 have e0:(k == 0)=false:=by simpa using h0
 have e1:(k == 1)=false:=by simpa using h1
 rw [e0,e1,cond_false,cond_false]
 cases hv:rgF c y r with
 | none=>
   have:limF L (arcV k c y f t)=(bdF c y 0 L.a,bdF c y 0 L.a):=by
    show (bif k == 0 then _ else bif k == 1 then _ else _)=_
    rw [e0,e1];rfl
   rw [this] at hF
   exact hF
 | some v=>
   obtain ⟨c',y',lo,hi,m,e,hm',b1,b2,b3,b4⟩:=h.mem _ (rgF_mem (h.isR hG) hv)
   simp only [PV.agg.injEq,List.cons.injEq,PV.str.injEq,PV.int.injEq,true_and,and_true] at e
   obtain ⟨_,_,e1,e2⟩:=e
   show (0<=v.1/\v.1<=_)/\(0<=v.2/\v.2<=_)
   omega
theorem netAR_arc {L:Law} {r:List PV} {a:PV} (ha:arcG a):netAR L r a=.agg [.int .i64 (aFr a),.int .i64 (aTo a),.int .i64 (limR L r a).1,.int .i64 (limR L r a).2]:=by
 obtain ⟨k,c,y,f,t,rfl,_⟩:=ha
 rfl
theorem meet_kept {L:Law} (hG:LawG L) {i:Nat} {r:List PV} (h:RgS L i r):meetF (netN L) ((arL L).map (netAR L r)) ((arL L).map (fwA L.a))=(breL L).isEmpty:=by
 have e:(arL L).map (netAR L r)=(arL L).map fun a=>.agg [.int .i64 (aFr a),.int .i64 (aTo a),.int .i64 (limR L r a).1,.int .i64 (limR L r a).2]:=
  List.map_congr_left (fun a ha=>netAR_arc (arc_in hG ha).1)
 rw [e,meet_gen hG (h.limin hG) (LnS.self hG)]
 exact lim_bre hG (h.lim hG)
theorem net_ok {L:Law} (hG:LawG L) {i:Nat} {r:List PV} (h:RgS L i r) (hi:i<=120):netR L r=(.agg [.int .i64 (netN L),.sl ((arL L).map (netAR L r))],0):=by
 unfold netR
 rw [h.check hG hi];rfl
theorem bre_kept {L:Law} (h:LawG L):breF L=(breL L,0)/\keptF L=(breL L).isEmpty:=by
 have e:breF L=(breL L,0):=by unfold breF;rw [h.v];rfl
 refine ⟨e,?_⟩
 unfold keptF
 rw [e]
 cases breL L with
 | nil=>rfl
 | cons x r=>simp;omega
end Go.AM
