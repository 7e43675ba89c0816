/-
  A part of a proof.
-/
import Derived.Test.YtkajgkbhkkgdbaaGreatDoorHA
set_option linter.unusedSimpArgs false
set_option linter.unusedVariables false
namespace Go.AM
open Go Go.Proofs Go.IntWalk
attribute [local go_sem] List.take_nil List.take_succ_cons allI_cons allI_nil arg1 arg2 callGc_false callGc_true ev_callG false_or gcallK_b gcallK_w loadC_eqL memI_cons memI_nil ne_eq not_false_eq_true okN okP_eq okR on__eq on_p_eq on_pl_eq or_false preN_eq preNo_eq9 preP_eq preR_eq preT_eq9 psiNew_eq Θ1 Θ2 Θ3 Θ4 Θ5 Θ6 Θ7 Θ8 Θ9 ΘL ΘY Ψ1
set_option maxRecDepth 100000
set_option maxHeartbeats 1000000
def plK1:Plan:={ keep:=fun _=>none,cut:=fun _=>false,stop:=fun i=>i == 2 }
def plK2:Plan:={ keep:=fun _=>none,cut:=fun _=>false,stop:=fun i=>i == 15 }
noncomputable def exKS:PSpec:=on_l (fun es=>es.length<=9223372036854775807/\∀ e,e∈es->isI e) (fun _=>.bool true)
theorem k_exK_9 {args:List PV}:E22 9 args=breS args:=rfl
theorem k_exK_11 {args:List PV}:E22 11 args=keptS args:=rfl
theorem k_exK_12 {args:List PV}:E22 12 args=awake7S args:=rfl
theorem k_exK_13 {args:List PV}:E22 13 args=netGS args:=rfl
theorem k_exK_14 {args:List PV}:E22 14 args=floS args:=rfl
theorem k_exK_15 {args:List PV}:E22 15 args=meetS args:=rfl
theorem w_exKS:PSound GG 4 exKS:=by
 refine PSound.of_wpc (C:=cxQ Tryz.prog E22 ΘL Ψ1 [] [] 115) (T:=plK1) Tryz.func4 rfl rfl rfl (Fit.all (G:=GG) hE22 hΘL hΨ1 mixed) (fun args h=>?_)
 unfold exKS at h
 obtain ⟨es0,rfl,he1,he2⟩:=on_l_inv h
 have tk:∀ l:List PV,l.take l.length=l:=fun l=>List.take_length
 refine ⟨by simp [cxQ],?_⟩
 simp (config:={maxSteps:=1000000}) only [exKS,on_l_eq,tk,k_exK_9,breS,k_exK_11,keptS,k_exK_12,awake7S,k_exK_13,netGS,k_exK_14,floS,k_exK_15,meetS,newS,okLM,intV,Nat.reduceBEq,plK1,plK2,Nat.reduceBEq,Nat.reduceBEq,Tryz.f4,argL,go_sem,↓reduceIte,reduceCtorEq,Nat.reduceEqDiff,Nat.reduceLT,↓all_qVz,↓all_qVz',Int.reduceToNat,Int.reduceLT,Int.reduceLE,Nat.reduceAdd,Nat.reduceLeDiff,Nat.reduceMul]
 refine ⟨⟨he1,he2⟩,?_⟩
 refine AWp.here (T:=plK2) (α:=Unit) (fun _=>([(2,.pv (.bool false)),(3,.ptr 17 0)],[(17,.obj Tp)])) (fun _=>True) ⟨(),trivial,⟨by simp [fitR,look,upd],by simp [fitH,hget,hset],rfl,rfl,rfl⟩⟩ ?_
 intro _ _
 simp (config:={maxSteps:=1000000}) only [tk,k_exK_9,breS,k_exK_11,keptS,k_exK_12,awake7S,k_exK_13,netGS,k_exK_14,floS,k_exK_15,meetS,newS,okLM,intV,Nat.reduceBEq,plK1,plK2,Nat.reduceBEq,go_sem,↓reduceIte,reduceCtorEq,Nat.reduceEqDiff,Nat.reduceLT,↓all_qVz,↓all_qVz',Int.reduceToNat,Int.reduceLT,Int.reduceLE,Nat.reduceAdd,Nat.reduceLeDiff,Nat.reduceMul]
 intro L hL
 obtain ⟨hS,hV,hY⟩:LawS L/\validF L=0/\yrsO L:=hL
 rw [Stop_eq]
 have hG:=LawG.of hS hV hY
 have hlim:=hG.limit.1
 have fL:=flow_ok hG (LnS.self hG)
 have m0:=meet_kept hG (RgS.nil L)
 have n0:=net_ok hG (RgS.nil L) (by omega)
 have hM:=fun i r (h:RgS L i r)=>meet_kept hG h
 have hN:=fun i r (h:RgS L i r)=>net_ok hG h
 obtain ⟨hB,hK⟩:=bre_kept hG
 have hadd:=fun i r (h:RgS L i r)=>h.add hG
 have hisR:=fun i r (h:RgS L i r)=>h.isR hG
 have hal:(arL L).length<=400000:=arcs_len (by have:=hG.y0;omega) (by have:=hG.t0;omega)
 have hNa:∀ r a,a∈(arL L).map (netAR L r)->isNa a:=fun r a ha=>by
  obtain ⟨b,hb,rfl⟩:=List.mem_map.1 ha
  exact ⟨_,_,_,_,netAR_arc (arc_in hG hb).1⟩
 obtain ⟨⟨fi,ye,tr,la,lb,lc,ld,le,lf,lg⟩,hLe⟩:∃ L':Law,L=L':=⟨_,rfl⟩
 subst hLe
 have hlv:lawO (.agg [.int .i64 fi,.int .i64 ye,.sl tr,.sl la,.sl lb,.sl lc,.sl ld,.sl le,.sl lf,.sl lg])=⟨fi,ye,tr,la,lb,lc,ld,le,lf,lg⟩:=rfl
 have hw:∃ L:Law,PV.agg [.int .i64 fi,.int .i64 ye,.sl tr,.sl la,.sl lb,.sl lc,.sl ld,.sl le,.sl lf,.sl lg]=L.v/\LawS L:=⟨⟨fi,ye,tr,la,lb,lc,ld,le,lf,lg⟩,rfl,hS⟩
 have z0:((0:Int) != 0)=false:=rfl
 have ha:=hS.a
 have hll:=hS.al
 simp only at ha hlim hll hadd fL m0 hM
 obtain ⟨ars,hars⟩:∃ x,arL ⟨fi,ye,tr,la,lb,lc,ld,le,lf,lg⟩=x:=⟨_,rfl⟩
 rw [hars] at fL m0 n0 hM hN hal hNa
 obtain ⟨bs,hbs⟩:∃ x,breL ⟨fi,ye,tr,la,lb,lc,ld,le,lf,lg⟩=x:=⟨_,rfl⟩
 rw [hbs] at m0 hM hB hK
 obtain ⟨NN,hNN⟩:∃ x,netN ⟨fi,ye,tr,la,lb,lc,ld,le,lf,lg⟩=x:=⟨_,rfl⟩
 rw [hNN] at m0 n0 hM hN
 have hno:((ars.map (fwA la)).map intV).map nOf=ars.map (fwA la):=by simp [List.map_map,Function.comp_def,nOf,intV]
 have hmt:∀ A B,meetN (.agg [.int .i64 NN,.sl A]) B=meetF NN A B:=fun A B=>rfl
 have hem:((bs.length:Int) == 0)=bs.isEmpty:=by cases bs with
  | nil=>rfl
  | cons x r=>simp;omega
 simp (config:={maxSteps:=1000000}) only [Law.v,lawV,hlv,z0,fL,n0,hB,hK,hno,hmt,m0,hem,bne_self_eq_false,Bool.or_self,tk,k_exK_9,breS,k_exK_11,keptS,k_exK_12,awake7S,k_exK_13,netGS,k_exK_14,floS,k_exK_15,meetS,newS,okLM,intV,Nat.reduceBEq,plK1,plK2,Nat.reduceBEq,go_sem,↓reduceIte,reduceCtorEq,Nat.reduceEqDiff,Nat.reduceLT,↓all_qVz,↓all_qVz',Int.reduceToNat,Int.reduceLT,Int.reduceLE,Nat.reduceAdd,Nat.reduceLeDiff,Nat.reduceMul]
 have hw':∃ L:Law,PV.agg [.int .i64 fi,.int .i64 ye,.sl tr,.sl la,.sl lb,.sl lc,.sl ld,.sl le,.sl lf,.sl lg]=.agg [.int .i64 L.first,.int .i64 L.years,.sl L.tree,.sl L.a,.sl L.b,.sl L.c,.sl L.d,.sl L.e,.sl L.f,.sl L.g]/\LawS L:=hw
 have hc2:∀ {H:AHeap} {n:Int} {A:List PV},∀ x:AV,x∈[AV.pv (.int .i64 n),AV.pv (.sl A)]->x.one=true/\frzOk H 3 x:=fun x hx=>by
  simp only [List.mem_cons,List.not_mem_nil,or_false] at hx
  rcases hx with rfl | rfl <;> exact ⟨rfl,by simp [frzOk]⟩
 refine ⟨⟨hc10b,hw',fun x hx=>(by cases hx),Nat.zero_le _⟩,⟨hc10b,hw',ha,hll⟩,⟨hc10b,hw'⟩,⟨hc2,⟨NN,_,rfl,hNa [],by rw [List.length_map];omega⟩,⟨_,rfl⟩,by rw [List.length_map,List.length_map];omega⟩,rfl,⟨hc10b,hw'⟩,rfl,?_⟩
 refine AWp.adoptS (s:=11) (κ:=8011) (k:=4) (by simp [look,upd]) rfl (by decide) ?_
 refine AWp.loop (T:=plK2) (α:=Nat × List PV) (fun z=>([(2,.pv (.bool false)),(3,.ptr 17 0),(4,.ptr 4 0),(7,.pv (.sl ((ars.map (fwA la)).map intV))),(9,.pv (.sl bs)),(11,.rs 8011 z.2.length),(65,.pv (.sl la)),(66,.pv (.int .i64 la.length)),(67,.pv (.int .i64 z.1))],
  [(8011,.row 4 z.2),(4,.cells [.pv (.int .i64 fi),.pv (.int .i64 ye),.pv (.sl tr),.pv (.sl la),.pv (.sl lb),.pv (.sl lc),.pv (.sl ld),.pv (.sl le),.pv (.sl lf),.pv (.sl lg)]),(17,.obj Tp)]))
  (fun z=>z.1<=la.length/\RgS ⟨fi,ye,tr,la,lb,lc,ld,le,lf,lg⟩ z.1 z.2) (fun z=>la.length-z.1)
  ⟨(0,[]),⟨Nat.zero_le _,RgS.nil _⟩,⟨by simp [fitR,look,upd],by simp [fitH,hget,hset],rfl,rfl,rfl⟩⟩ ?_
 rintro ⟨i,r⟩ ⟨g1,g2⟩
 simp only at g1 g2
 have hi1:IntKind.i64.wrap ((i:Int)+1)=((i+1:Nat):Int):=by rw [i64_in _ (by omega)];omega
 have hrl:=g2.len
 by_cases hlt:i<la.length
 · have c0:decide ((i:Int)<(la.length:Int))=true:=by simp;omega
   have hm:=getD_mem hlt
   obtain ⟨c,y,m,hx,hc⟩:=ha _ hm
   have hmb:0<=m/\m<=1000000000000:=by
    obtain ⟨⟨c',j',m',e,_,_,h9⟩,_⟩:=hG.lines.1 _ hm
    rw [hx] at e
    simp only [PV.agg.injEq,List.cons.injEq,PV.str.injEq,PV.int.injEq,true_and,and_true] at e
    rw [e.2.2];exact h9
   simp (config:={maxSteps:=1000000}) only [c0,hx,hi1,plan0,tk,k_exK_9,breS,k_exK_11,keptS,k_exK_12,awake7S,k_exK_13,netGS,k_exK_14,floS,k_exK_15,meetS,newS,okLM,intV,Nat.reduceBEq,plK1,plK2,Nat.reduceBEq,go_sem,↓reduceIte,reduceCtorEq,Nat.reduceEqDiff,Nat.reduceLT,↓all_qVz,↓all_qVz',Int.reduceToNat,Int.reduceLT,Int.reduceLE,Nat.reduceAdd,Nat.reduceLeDiff,Nat.reduceMul]
   refine ⟨⟨by omega,by omega⟩,fun n hn=>?_⟩
   rw [Stop_eq]
   simp (config:={maxSteps:=1000000}) only [hi1,plan0,tk,k_exK_9,breS,k_exK_11,keptS,k_exK_12,awake7S,k_exK_13,netGS,k_exK_14,floS,k_exK_15,meetS,newS,okLM,intV,Nat.reduceBEq,plK1,plK2,Nat.reduceBEq,go_sem,↓reduceIte,reduceCtorEq,Nat.reduceEqDiff,Nat.reduceLT,↓all_qVz,↓all_qVz',Int.reduceToNat,Int.reduceLT,Int.reduceLE,Nat.reduceAdd,Nat.reduceLeDiff,Nat.reduceMul]
   refine ⟨fun h0=>⟨by kernel_rfl,fun x hx1=>?_⟩,fun h0=>⟨(i+1,r),⟨by simp only;omega,g2.skip⟩,by simp only;omega,⟨by simp [fitR,look,upd],by simp [fitH,hget,hset],rfl,rfl,rfl⟩⟩⟩
   rw [Stop_eq]
   have w1:IntKind.i64.wrap (m-x)=m-x:=i64_in _ (by omega)
   simp (config:={maxSteps:=1000000}) only [hi1,w1,minmaxA,foldI,plan0,tk,k_exK_9,breS,k_exK_11,keptS,k_exK_12,awake7S,k_exK_13,netGS,k_exK_14,floS,k_exK_15,meetS,newS,okLM,intV,Nat.reduceBEq,plK1,plK2,Nat.reduceBEq,go_sem,↓reduceIte,reduceCtorEq,Nat.reduceEqDiff,Nat.reduceLT,↓all_qVz,↓all_qVz',Int.reduceToNat,Int.reduceLT,Int.reduceLE,Nat.reduceAdd,Nat.reduceLeDiff,Nat.reduceMul]
   intro x2 hx2
   rw [Stop_eq]
   have w2:IntKind.i64.wrap (m+x2)=m+x2:=i64_in _ (by omega)
   simp (config:={maxSteps:=1000000}) only [hi1,w1,w2,minmaxA,foldI,plan0,tk,k_exK_9,breS,k_exK_11,keptS,k_exK_12,awake7S,k_exK_13,netGS,k_exK_14,floS,k_exK_15,meetS,newS,okLM,intV,Nat.reduceBEq,plK1,plK2,Nat.reduceBEq,go_sem,↓reduceIte,reduceCtorEq,Nat.reduceEqDiff,Nat.reduceLT,↓all_qVz,↓all_qVz',Int.reduceToNat,Int.reduceLT,Int.reduceLE,Nat.reduceAdd,Nat.reduceLeDiff,Nat.reduceMul]
   exact ⟨rfl,fun e he=>(by (rw [List.mem_singleton] at he;subst he;rfl)),Nat.le_refl _,by omega,by simp only [maxLen];omega,(i+1,r++[.agg [.str c,.int .i64 y,.int .i64 (if m-x>0 then m-x else 0),.int .i64 (if m+x2<1000000000000 then m+x2 else 1000000000000)]]),
    ⟨by simp only;omega,hadd i r g2 hlt hx ⟨by split <;> omega,by split <;> omega,by split <;> omega,by split <;> omega⟩⟩,by simp only;omega,⟨by simp [fitR,look,upd],by simp [fitH,hget,hset],rfl,rfl,rfl⟩⟩
 · have c0:decide ((i:Int)<(la.length:Int))=false:=by simp;omega
   simp (config:={maxSteps:=1000000}) only [c0,plan0,tk,k_exK_9,breS,k_exK_11,keptS,k_exK_12,awake7S,k_exK_13,netGS,k_exK_14,floS,k_exK_15,meetS,newS,okLM,intV,Nat.reduceBEq,plK1,plK2,Nat.reduceBEq,go_sem,↓reduceIte,reduceCtorEq,Nat.reduceEqDiff,Nat.reduceLT,↓all_qVz,↓all_qVz',Int.reduceToNat,Int.reduceLT,Int.reduceLE,Nat.reduceAdd,Nat.reduceLeDiff,Nat.reduceMul]
   refine AWp.freeze (T:=plan0) 8011 4 (α:=Unit) (fun _=>r) (fun _=>([(2,.pv (.bool false)),(4,.ptr 4 0),(7,.pv (.sl ((ars.map (fwA la)).map intV))),(9,.pv (.sl bs)),(11,.pv (.sl r))],[(4,.cells [.pv (.int .i64 fi),.pv (.int .i64 ye),.pv (.sl tr),.pv (.sl la),.pv (.sl lb),.pv (.sl lc),.pv (.sl ld),.pv (.sl le),.pv (.sl lf),.pv (.sl lg)])])) (fun _=>True)
    ⟨(),trivial,⟨by simp [hget,hset],rfl,⟨.inl (by simp [look]),.inl (by simp [look]),.inl (by simp [look]),.inl (by simp [look]),.inr ⟨r.length,by simp [look],Nat.le_refl _,by rw [List.take_length]⟩,trivial⟩,by simp [fitH,hget,hset],rfl,rfl,rfl⟩⟩ ?_
   intro _ _
   have n1:=hN i r g2 (by omega)
   have m1:=hM i r g2
   have hr1:=hisR i r g2
   simp (config:={maxSteps:=1000000}) only [hlv,z0,n1,hno,hmt,m1,hem,bne_self_eq_false,beq_self_eq_true,plan0,tk,k_exK_9,breS,k_exK_11,keptS,k_exK_12,awake7S,k_exK_13,netGS,k_exK_14,floS,k_exK_15,meetS,newS,okLM,intV,Nat.reduceBEq,plK1,plK2,Nat.reduceBEq,go_sem,↓reduceIte,reduceCtorEq,Nat.reduceEqDiff,Nat.reduceLT,↓all_qVz,↓all_qVz',Int.reduceToNat,Int.reduceLT,Int.reduceLE,Nat.reduceAdd,Nat.reduceLeDiff,Nat.reduceMul]
   exact ⟨⟨hc10b,hw,hr1,by omega⟩,⟨hc2,⟨NN,_,rfl,hNa r,by rw [List.length_map];omega⟩,⟨_,rfl⟩,by rw [List.length_map,List.length_map];omega⟩,rfl⟩
end Go.AM
