/-
  A part of a proof.
-/
import Derived.Test.YtkajgkbhkkgdbaaGreatDoorZ6
import Derived.Test.YtkajgkbhkkgdbaaGreatDoorZL
set_option linter.unusedSimpArgs false
set_option linter.unusedVariables false
namespace Go.AM
open Go Go.Proofs Go.IntWalk
attribute [local go_sem] AV.one List.forall_mem_cons List.not_mem_nil PV.one callGc_false callGc_true ev_callG gcallK_b gcallK_w plan0
set_option maxRecDepth 100000
set_option maxHeartbeats 4000000
noncomputable def lineBS:PSpec:=on_psi (fun l _ _=>∃ L:Law,l=L.v/\LawS L) (fun l c y=>.int .i64 (bdF c y 0 (lawO l).a))
theorem w_lineBS:PSound GG 115 lineBS:=by
 refine PSound.of_wpc (C:=cxP Tryz.prog DX1 [] 29) (T:=plan0) Tryz.func115 rfl rfl rfl (Fit.pure (G:=GG) hDX1 mixed) (fun args h=>?_)
 unfold lineBS at h
 obtain ⟨l,c,y,rfl,hp⟩:=on_psi_inv h
 refine ⟨by simp [cxP],?_⟩
 simp only [lineBS,on_psi_eq,Tryz.f115,argL,plan0]
 obtain ⟨⟨fi,ye,tr,la,lb,lc,ld,le,lf,lg⟩,rfl,hS⟩:=hp
 have hl:=hS.a
 have hn:=hS.al
 rw [lawO_v]
 simp only at hl hn ⊢
 simp only [Law.v,lawV,go_sem,↓reduceIte,reduceCtorEq,Nat.reduceEqDiff,Nat.reduceLT,Nat.reduceAdd,Nat.reduceLeDiff]
 refine AWp.loop (T:=plan0) (α:=Nat) (fun i=>([(1,.pv (.str c)),(2,.pv (.int .i64 y)),(10,.pv (.sl la)),(11,.pv (.int .i64 la.length)),(12,.pv (.int .i64 i))],[])) (fun i=>i<=la.length/\bdF c y 0 (la.drop i)=bdF c y 0 la) (fun i=>la.length-i)
  ⟨0,⟨Nat.zero_le _,rfl⟩,⟨by simp [fitR,look],by simp [fitH],rfl,rfl,rfl⟩⟩ ?_
 rintro i ⟨h1,h2⟩
 have hi1:IntKind.i64.wrap ((i:Int)+1)=((i+1:Nat):Int):=by rw [i64_in _ (by omega)];omega
 by_cases hlt:i<la.length
 · have c0:decide ((i:Int)<(la.length:Int))=true:=by simp;omega
   obtain ⟨s,yy,m,hx,hs⟩:=hl _ (getD_mem hlt)
   have hd:la.drop i=.agg [.str s,.int .i64 yy,.int .i64 m]::la.drop (i+1):=by
    rw [List.drop_eq_getElem_cons hlt,<- hx];simp [List.getD_eq_getElem?_getD,hlt]
   have hb:bdF c y 0 (.agg [.str s,.int .i64 yy,.int .i64 m]::la.drop (i+1))=bif (s == c&&yy == y) then m else bdF c y 0 (la.drop (i+1)):=rfl
   rw [hd,hb] at h2
   simp only [c0,hx,hi1,List.take_succ_cons,List.take_nil,go_sem,↓reduceIte,reduceCtorEq,Nat.reduceEqDiff,Nat.reduceLT,Nat.reduceAdd,Nat.reduceLeDiff]
   refine ⟨⟨by omega,by omega⟩,fun h9=>?_,fun h9=>⟨i+1,⟨by omega,?_⟩,by omega,⟨by simp [fitR,look],by simp [fitH],rfl,rfl,rfl⟩⟩⟩
   · rw [h9,cond_true] at h2
     rw [h2]
   · rw [h9,cond_false] at h2
     exact h2
 · have c0:decide ((i:Int)<(la.length:Int))=false:=by simp;omega
   rw [List.drop_eq_nil_of_le (by omega),bdF] at h2
   simp only [c0,go_sem,↓reduceIte,reduceCtorEq,Nat.reduceEqDiff,Nat.reduceLT,Nat.reduceAdd,Nat.reduceLeDiff]
   rw [<- h2]
noncomputable def DX2 (g:FuncId):PSpec:=(putΦ DX1 115 lineBS) g
theorem hDX2:TabSound GG DX2:=(hDX1.put w_lineBS)
def limF (L:Law):PV->Int × Int
 | .agg [.int _ k,.str c,.int _ y,_,_]=>bif k == 0 then (0,bdF c y 1000000000000000 L.b) else bif k == 1 then (bdF c y 0 L.c,1000000000000000) else (bdF c y 0 L.a,bdF c y 0 L.a)
 | _=>(0,0)
def plO:PV->Law
 | .pp (.agg [.int _ fi,.int _ ye,.sl tr,.sl la,.sl lb,.sl lc,.sl ld,.sl le,.sl lf,.sl lg,_]) _=>⟨fi,ye,tr,la,lb,lc,ld,le,lf,lg⟩
 | _=>⟨0,0,[],[],[],[],[],[],[],[]⟩
def on_ppl (p:PV->PV->List PV->Prop) (f:PV->PV->List PV->PV):PSpec
 | [a0,a1,.sl a2]=>(p a0 a1 a2,f a0 a1 a2)
 | _=>(False,default)
theorem on_ppl_eq {p:PV->PV->List PV->Prop} {f:PV->PV->List PV->PV} {a0:PV} {a1:PV} {a2:List PV}:on_ppl p f [a0,a1,.sl a2]=(p a0 a1 a2,f a0 a1 a2):=rfl
theorem on_ppl_inv {p:PV->PV->List PV->Prop} {f:PV->PV->List PV->PV} {args:List PV} (h:(on_ppl p f args).1):∃ a0:PV,∃ a1:PV,∃ a2:List PV,args=[a0,a1,.sl a2]/\p a0 a1 a2:=by
 unfold on_ppl at h
 split at h
 · exact ⟨_,_,_,rfl,h⟩
 · exact h.elim
noncomputable def limS:PSpec:=on_ppl (fun p a r=>(∃ L:Law,p=.pp (plnV L) 0/\LawS L)/\isArc a/\r=[]) (fun p a _=>.tup [.int .i64 (limF (plO p) a).1,.int .i64 (limF (plO p) a).2])
theorem k_limS_114 {args:List PV}:DX2 114 args=bndS args:=rfl
theorem k_limS_115 {args:List PV}:DX2 115 args=lineBS args:=rfl
theorem w_limS:PSound GG 49 limS:=by
 refine PSound.of_wpc (C:=cxP Tryz.prog DX2 [] 65) (T:=plan0) Tryz.func49 rfl rfl rfl (Fit.pure (G:=GG) hDX2 mixed) (fun args h=>?_)
 unfold limS at h
 obtain ⟨p,a,r,rfl,hp⟩:=on_ppl_inv h
 refine ⟨by simp [cxP],?_⟩
 simp only [limS,on_ppl_eq,Tryz.f49,argL,plan0]
 obtain ⟨⟨⟨fi,ye,tr,la,lb,lc,ld,le,lf,lg⟩,rfl,hS⟩,⟨k,c,y,f,t,rfl,hc⟩,rfl⟩:=hp
 have hA:=hS.a
 have hB:=hS.b
 have hBl:=hS.bl
 have hC:=hS.c
 have hCl:=hS.cl
 simp only at hA hB hBl hC hCl
 have e0:plO (.pp (plnV ⟨fi,ye,tr,la,lb,lc,ld,le,lf,lg⟩) 0)=⟨fi,ye,tr,la,lb,lc,ld,le,lf,lg⟩:=rfl
 have e1:arC (.agg [.int .i64 k,.str c,.int .i64 y,.int .i64 f,.int .i64 t])=c:=rfl
 have e2:arY (.agg [.int .i64 k,.str c,.int .i64 y,.int .i64 f,.int .i64 t])=y:=rfl
 have hlv:lawO (.agg [.int .i64 fi,.int .i64 ye,.sl tr,.sl la,.sl lb,.sl lc,.sl ld,.sl le,.sl lf,.sl lg])=⟨fi,ye,tr,la,lb,lc,ld,le,lf,lg⟩:=rfl
 rw [e0]
 simp only [plnV,limF,e1,e2,List.take_succ_cons,List.take_nil,k_limS_114,bndS,on_lpi_eq,go_sem,↓reduceIte,reduceCtorEq,Nat.reduceEqDiff,Nat.reduceLT,Nat.reduceAdd,Nat.reduceLeDiff]
 have hArc:isArc (.agg [.int .i64 k,.str c,.int .i64 y,.int .i64 f,.int .i64 t]):=⟨k,c,y,f,t,rfl,hc⟩
 refine ⟨fun h0=>⟨by kernel_rfl,⟨hB,hBl,hArc⟩,by rw [h0];rfl⟩,fun h0=>⟨fun h1=>⟨by kernel_rfl,⟨hC,hCl,hArc⟩,by rw [h0,h1];rfl⟩,fun h1=>?_⟩⟩
 rw [h0,h1]
 refine AWp.loop (T:=plan0) (α:=Unit) (fun _=>([(0,.pv (.pp (.agg [.int .i64 fi,.int .i64 ye,.sl tr,.sl la,.sl lb,.sl lc,.sl ld,.sl le,.sl lf,.sl lg,.sl (arcsL fi ye.toNat tr)]) 0)),(4,.ptr 4 0),(31,.pv (.sl [])),(32,.pv (.int .i64 0)),(33,.pv (.int .i64 0))],[(4,.cells [.pv (.int .i64 k),.pv (.str c),.pv (.int .i64 y),.pv (.int .i64 f),.pv (.int .i64 t)])])) (fun _=>True) (fun _=>0)
  ⟨(),trivial,⟨by simp [fitR,look],by simp [fitH,hget],rfl,rfl,rfl⟩⟩ ?_
 intro _ _
 have c0:decide ((0:Int)<0)=false:=rfl
 simp only [hlv,decide_false,List.take_succ_cons,k_limS_115,lineBS,on_psi_eq,go_sem,↓reduceIte,reduceCtorEq,Nat.reduceEqDiff,Nat.reduceLT,Int.reduceLT,Nat.reduceAdd,Nat.reduceLeDiff]
 exact ⟨by kernel_rfl,⟨⟨fi,ye,tr,la,lb,lc,ld,le,lf,lg⟩,rfl,hS⟩⟩
noncomputable def DX3 (g:FuncId):PSpec:=(putΦ DX2 49 limS) g
theorem hDX3:TabSound GG DX3:=(hDX2.put w_limS)
noncomputable def chk0S:PSpec:=on_pl (fun l r=>(∃ L:Law,l=L.v/\LawS L)/\r=[]) (fun l _=>.int .i64 (validF (lawO l)))
theorem k_chk0S_45 {args:List PV}:DX2 45 args=validGS args:=rfl
theorem k_chk0S_63 {args:List PV}:DX2 63 args=orS args:=rfl
theorem k_chk0S_64 {args:List PV}:DX2 64 args=cmpCS args:=rfl
theorem k_chk0S_65 {args:List PV}:DX2 65 args=cmpIS args:=rfl
theorem w_chk0S:PSound GG 23 chk0S:=by
 refine PSound.of_wpc (C:=cxP Tryz.prog DX2 [] 56) (T:=plan0) Tryz.func23 rfl rfl rfl (Fit.pure (G:=GG) hDX2 mixed) (fun args h=>?_)
 unfold chk0S at h
 obtain ⟨l,r,rfl,hp⟩:=on_pl_inv h
 refine ⟨by simp [cxP],?_⟩
 simp only [chk0S,on_pl_eq,Tryz.f23,argL,plan0]
 obtain ⟨⟨⟨fi,ye,tr,la,lb,lc,ld,le,lf,lg⟩,rfl,hS⟩,rfl⟩:=hp
 have hlv:lawO (.agg [.int .i64 fi,.int .i64 ye,.sl tr,.sl la,.sl lb,.sl lc,.sl ld,.sl le,.sl lf,.sl lg])=⟨fi,ye,tr,la,lb,lc,ld,le,lf,lg⟩:=rfl
 rw [lawO_v]
 simp only [Law.v,lawV,hlv,decide_false,List.take_succ_cons,List.take_nil,k_chk0S_45,validGS,on_p_eq,go_sem,↓reduceIte,reduceCtorEq,Nat.reduceEqDiff,Nat.reduceLT,Int.reduceLT,Nat.reduceAdd,Nat.reduceLeDiff]
 refine ⟨⟨⟨fi,ye,tr,la,lb,lc,ld,le,lf,lg⟩,rfl,hS⟩,fun h0=>?_⟩
 have hV:validF ⟨fi,ye,tr,la,lb,lc,ld,le,lf,lg⟩=0:=bne_eq_false_iff_eq.1 h0
 rw [hV]
 refine AWp.loop (T:=plan0) (α:=Unit) (fun _=>([(2,.ptr 2 0),(17,.pv (.sl [])),(18,.pv (.int .i64 0)),(19,.pv (.int .i64 0))],[(2,.cells [.pv (.int .i64 fi),.pv (.int .i64 ye),.pv (.sl tr),.pv (.sl la),.pv (.sl lb),.pv (.sl lc),.pv (.sl ld),.pv (.sl le),.pv (.sl lf),.pv (.sl lg)])])) (fun _=>True) (fun _=>0)
  ⟨(),trivial,⟨by simp [fitR,look],by simp [fitH,hget],rfl,rfl,rfl⟩⟩ ?_
 intro _ _
 simp only [decide_false,List.take_succ_cons,List.take_nil,k_chk0S_63,orS,on_l_eq,k_chk0S_64,cmpCS,k_chk0S_65,cmpIS,go_sem,↓reduceIte,reduceCtorEq,Nat.reduceEqDiff,Nat.reduceLT,Int.reduceLT,Nat.reduceAdd,Nat.reduceLeDiff,Nat.reduceMul]
noncomputable def DX4 (g:FuncId):PSpec:=(putΦ DX3 23 chk0S) g
theorem hDX4:TabSound GG DX4:=(hDX3.put w_chk0S)
def netA (L:Law) (a:PV):PV:=match a with
 | .agg [_,_,_,.int _ f,.int _ t]=>.agg [.int .i64 f,.int .i64 t,.int .i64 (limF L a).1,.int .i64 (limF L a).2]
 | _=>default
def netN (L:Law):Int:=1+2 * L.tree.length * (L.years+1)
def netF (L:Law):PV:=.tup [.agg [.int .i64 (netN L),.sl ((arcsL L.first L.years.toNat L.tree).map (netA L))],.int .i64 0]
theorem arcs_arc {fi:Int} {n:Nat} {tr:List PV} (h:∀ e,e∈tr->isHn e):∀ a,a∈arcsL fi n tr->isArc a:=by
 have hC:∀ e,e∈tr->(hCode e).length<=1000000000000:=fun e he=>by
  obtain ⟨c,nm,rfl,hc,_⟩:=h e he
  exact hc
 intro a ha
 unfold arcsL at ha
 rcases List.mem_append.1 ha with ha | ha
 · rcases List.mem_append.1 ha with ha | ha
   · obtain ⟨j,_,ha⟩:=List.mem_flatMap.1 ha
     obtain ⟨e,he,ha⟩:=List.mem_flatMap.1 ha
     simp only [arc2,List.mem_cons,List.not_mem_nil,or_false] at ha
     rcases ha with rfl | rfl <;> exact ⟨_,_,_,_,_,rfl,hC e he⟩
   · obtain ⟨s,hs,ha⟩:=List.mem_flatMap.1 ha
     obtain ⟨j,_,ha⟩:=List.mem_flatMap.1 ha
     simp only [arc1,List.mem_cons,List.not_mem_nil,or_false] at ha
     have hs':=(List.mem_filter.1 hs).1
     obtain ⟨e,he,rfl⟩:=List.mem_map.1 hs'
     subst ha
     exact ⟨_,_,_,_,_,rfl,hC e he⟩
 · obtain ⟨e,he,ha⟩:=List.mem_flatMap.1 ha
   simp only [arc3,List.mem_cons,List.not_mem_nil,or_false] at ha
   rcases ha with rfl | rfl <;> exact ⟨_,_,_,_,_,rfl,hC e he⟩
theorem arcs_len {fi:Int} {n:Nat} {tr:List PV} (hn:n<=100) (ht:tr.length<=1000):(arcsL fi n tr).length<=400000:=by
 have f1:∀ (l:List PV) (f:PV->List PV),(∀ x,(f x).length=2)->(l.flatMap f).length=2 * l.length:=fun l f h=>by
  induction l with
  | nil=>rfl
  | cons x r ih=>rw [List.flatMap_cons,List.length_append,h,ih,List.length_cons];omega
 have f2:∀ (m:Nat) (f:Nat->List PV) (b:Nat),(∀ x,(f x).length<=b)->((List.range m).flatMap f).length<=m * b:=fun m f b h=>by
  induction m with
  | zero=>simp
  | succ m ih=>rw [fm_range,List.length_append,Nat.succ_mul];have:=h m;omega
 have f3:∀ (l:List (List UInt8)) (f:List UInt8->List PV),(∀ x,(f x).length<=n)->(l.flatMap f).length<=l.length * n:=fun l f h=>by
  induction l with
  | nil=>simp
  | cons x r ih=>rw [List.flatMap_cons,List.length_append,List.length_cons,Nat.succ_mul];have:=h x;omega
 have a1:=f2 n (fun j=>tr.flatMap (arc2 tr fi j)) (2 * tr.length) (fun j=>by rw [f1 _ _ (fun x=>rfl)];exact Nat.le_refl _)
 have a2:=f3 (lvC (tr.map hCode) []) (fun s=>(List.range n).flatMap (arc1 tr fi n s)) (fun s=>by
  have:=f2 n (arc1 tr fi n s) 1 (fun j=>Nat.le_refl _)
  omega)
 have a3:=f1 tr (arc3 tr n) (fun x=>rfl)
 have hll:(lvC (tr.map hCode) []).length<=1000:=Nat.le_trans (List.length_filter_le _ _) (by rw [List.length_map];exact ht)
 have m1:n * (2 * tr.length)<=100 * 2000:=Nat.mul_le_mul hn (by omega)
 have m2:(lvC (tr.map hCode) []).length * n<=1000 * 100:=Nat.mul_le_mul hll hn
 unfold arcsL
 rw [List.length_append,List.length_append]
 omega
theorem loadC_eqN {C:Ctx} {ρ:Nat->AV} {H:AHeap} {t κ o:Nat}:loadC C ⟨ρ,H⟩ t (.ptr κ o)=loadA C.P H t (.ptr κ o):=rfl
noncomputable def net0S:PSpec:=on_pl (fun l r=>(∃ L:Law,l=L.v/\okPl L/\validF L=0)/\r=[]) (fun l _=>netF (lawO l))
theorem k_net0S_23 {args:List PV}:DX4 23 args=chk0S args:=rfl
theorem k_net0S_48 {args:List PV}:DX4 48 args=planS args:=rfl
theorem k_net0S_49 {args:List PV}:DX4 49 args=limS args:=rfl
theorem w_net0S:PSound GG 13 net0S:=by
 refine PSound.of_wpc (C:=cxP Tryz.prog DX4 [] 62) (T:=plan0) Tryz.func13 rfl rfl rfl (Fit.pure (G:=GG) hDX4 mixed) (fun args h=>?_)
 unfold net0S at h
 obtain ⟨l,r,rfl,hp⟩:=on_pl_inv h
 refine ⟨by simp [cxP],?_⟩
 simp only [net0S,on_pl_eq,Tryz.f13,argL,plan0]
 obtain ⟨⟨⟨fi,ye,tr,la,lb,lc,ld,le,lf,lg⟩,rfl,hP,hV⟩,rfl⟩:=hp
 have hS:=hP.1
 have hlv:lawO (.agg [.int .i64 fi,.int .i64 ye,.sl tr,.sl la,.sl lb,.sl lc,.sl ld,.sl le,.sl lf,.sl lg])=⟨fi,ye,tr,la,lb,lc,ld,le,lf,lg⟩:=rfl
 obtain ⟨_,hf,hy,ht⟩:=hP
 simp only at hf hy ht
 rw [lawO_v]
 have hNf:netF ⟨fi,ye,tr,la,lb,lc,ld,le,lf,lg⟩=.tup [.agg [.int .i64 (1+2 * tr.length * (ye+1)),.sl ((arcsL fi ye.toNat tr).map (netA ⟨fi,ye,tr,la,lb,lc,ld,le,lf,lg⟩))],.int .i64 0]:=rfl
 rw [hNf]
 have hAr:=arcs_arc (fi:=fi) (n:=ye.toNat) hS.tr
 have hAl:=arcs_len (fi:=fi) (n:=ye.toNat) (tr:=tr) (by omega) ht
 simp only at hAr
 obtain ⟨ar,har⟩:∃ ar,arcsL fi ye.toNat tr=ar:=⟨_,rfl⟩
 rw [har] at hAr hAl ⊢
 have hpl:plO (.pp (.agg [.int .i64 fi,.int .i64 ye,.sl tr,.sl la,.sl lb,.sl lc,.sl ld,.sl le,.sl lf,.sl lg,.sl ar]) 0)=⟨fi,ye,tr,la,lb,lc,ld,le,lf,lg⟩:=rfl
 have hpv:∃ L:Law,PV.pp (.agg [.int .i64 fi,.int .i64 ye,.sl tr,.sl la,.sl lb,.sl lc,.sl ld,.sl le,.sl lf,.sl lg,.sl ar]) 0=(plnV L).pp 0/\LawS L:=⟨⟨fi,ye,tr,la,lb,lc,ld,le,lf,lg⟩,by unfold plnV;rw [har],hS⟩
 have m0:(0:Int)<=2 * tr.length * (ye+1):=Int.mul_nonneg (by omega) (by omega)
 have m1:(2:Int) * tr.length * (ye+1)<=2000 * 101:=Int.mul_le_mul (by omega) (by omega) (by omega) (by omega)
 have w1:IntKind.i64.wrap (2 * (tr.length:Int))=2 * tr.length:=i64_in _ (by omega)
 have w2:IntKind.i64.wrap (ye+1)=ye+1:=i64_in _ (by omega)
 have w3:IntKind.i64.wrap (2 * (tr.length:Int) * (ye+1))=2 * tr.length * (ye+1):=i64_in _ (by omega)
 have w4:IntKind.i64.wrap (1+2 * (tr.length:Int) * (ye+1))=1+2 * tr.length * (ye+1):=i64_in _ (by omega)
 obtain ⟨nN,hnN⟩:∃ nN,1+2 * (tr.length:Int) * (ye+1)=nN:=⟨_,rfl⟩
 have w5:IntKind.i64.wrap nN=nN:=by rw [<- hnN];exact w4
 have z0:((0:Int) != 0)=false:=rfl
 simp only [Law.v,lawV,hlv,hV,har,plnV,w1,w2,w3,hnN,w5,z0,List.take_succ_cons,List.take_nil,k_net0S_23,chk0S,on_pl_eq,k_net0S_48,planS,on_p_eq,go_sem,↓reduceIte,reduceCtorEq,Nat.reduceEqDiff,Nat.reduceLT,Nat.reduceAdd,Nat.reduceLeDiff]
 refine ⟨⟨⟨fi,ye,tr,la,lb,lc,ld,le,lf,lg⟩,rfl,hS⟩,⟨⟨fi,ye,tr,la,lb,lc,ld,le,lf,lg⟩,rfl,hS,hf,hy,ht⟩,?_⟩
 refine AWp.adoptC (b:=8) (i:=1) (κ:=8000) (k:=4) rfl rfl rfl (by decide) ?_
 refine AWp.loop (T:=plan0) (α:=Nat × List PV) (fun z=>([(1,.pv (.sl [])),(2,.ptr 2 0),(4,.ptr 4 0),(5,.pv (.int .i64 0)),(7,.pv (.pp (.agg [.int .i64 fi,.int .i64 ye,.sl tr,.sl la,.sl lb,.sl lc,.sl ld,.sl le,.sl lf,.sl lg,.sl ar]) 0)),(8,.ptr 8 0),(35,.pv (.sl ar)),(36,.pv (.int .i64 ar.length)),(37,.pv (.int .i64 z.1))],[(2,.cells [.pv (.int .i64 fi),.pv (.int .i64 ye),.pv (.sl tr),.pv (.sl la),.pv (.sl lb),.pv (.sl lc),.pv (.sl ld),.pv (.sl le),.pv (.sl lf),.pv (.sl lg)]),(4,.cells [.pv (.int .i64 0),.nils]),(8,.cells [.pv (.int .i64 nN),.rs 8000 z.2.length]),(8000,.row 4 z.2)])) (fun z=>z.1<=ar.length/\z.2=(ar.take z.1).map (netA ⟨fi,ye,tr,la,lb,lc,ld,le,lf,lg⟩)) (fun z=>ar.length-z.1)
  ⟨(0,[]),⟨Nat.zero_le _,rfl⟩,⟨by simp [fitR,look],by simp [fitH,hget,hset],rfl,rfl,rfl⟩⟩ ?_
 rintro ⟨i,es⟩ ⟨g1,g2⟩
 simp only at g1 g2
 have hel:es.length<=i:=by rw [g2,List.length_map];exact List.length_take_le _ _
 have tk:es.take es.length=es:=List.take_length
 have hi1:IntKind.i64.wrap ((i:Int)+1)=((i+1:Nat):Int):=by rw [i64_in _ (by omega)];omega
 by_cases hlt:i<ar.length
 · have c0:decide ((i:Int)<(ar.length:Int))=true:=by simp;omega
   obtain ⟨k,c,y,f,t,hx,hc⟩:=hAr _ (getD_mem hlt)
   have hIA:isArc (.agg [.int .i64 k,.str c,.int .i64 y,.int .i64 f,.int .i64 t]):=⟨k,c,y,f,t,rfl,hc⟩
   obtain ⟨⟨l1,l2⟩,hl⟩:∃ l,limF ⟨fi,ye,tr,la,lb,lc,ld,le,lf,lg⟩ (.agg [.int .i64 k,.str c,.int .i64 y,.int .i64 f,.int .i64 t])=l:=⟨_,rfl⟩
   have hna:netA ⟨fi,ye,tr,la,lb,lc,ld,le,lf,lg⟩ (.agg [.int .i64 k,.str c,.int .i64 y,.int .i64 f,.int .i64 t])=.agg [.int .i64 f,.int .i64 t,.int .i64 l1,.int .i64 l2]:=by unfold netA;simp only;rw [hl]
   have hsu:(ar.take (i+1)).map (netA ⟨fi,ye,tr,la,lb,lc,ld,le,lf,lg⟩)=es++[.agg [.int .i64 f,.int .i64 t,.int .i64 l1,.int .i64 l2]]:=by
    rw [take_succ_getD hlt,hx,List.map_append,g2,<- hna];rfl
   simp only [c0,hx,hl,hpl,tk,hi1,List.take_succ_cons,List.take_nil,k_net0S_49,limS,on_ppl_eq,go_sem,↓reduceIte,reduceCtorEq,Nat.reduceEqDiff,Nat.reduceLT,Nat.reduceAdd,Nat.reduceLeDiff,Nat.reduceMul]
   exact ⟨⟨by omega,by omega⟩,⟨hpv,hIA⟩,rfl,Nat.le_refl _,by omega,by simp only [maxLen];omega,(i+1,es++[.agg [.int .i64 f,.int .i64 t,.int .i64 l1,.int .i64 l2]]),⟨by simp only;omega,hsu.symm⟩,by simp only;omega,⟨by simp [fitR,look],by simp [fitH,hget],rfl,rfl,rfl⟩⟩
 · have c0:decide ((i:Int)<(ar.length:Int))=false:=by simp;omega
   have e:i=ar.length:=by omega
   subst e
   rw [List.take_length] at g2
   simp only [c0,tk,loadC_eqN,List.take_succ_cons,List.take_nil,k_net0S_49,limS,on_ppl_eq,go_sem,↓reduceIte,reduceCtorEq,Nat.reduceEqDiff,Nat.reduceLT,Nat.reduceAdd,Nat.reduceLeDiff,Nat.reduceMul]
   exact ⟨Nat.le_refl _,by rw [g2]⟩
noncomputable def DX5 (g:FuncId):PSpec:=(putΦ DX4 13 net0S) g
theorem hDX5:TabSound GG DX5:=(hDX4.put w_net0S)
end Go.AM
namespace Go.AM
open Go Go.Proofs Go.IntWalk
set_option maxRecDepth 100000
set_option maxHeartbeats 4000000
def law7:Law:=⟨3,1,[.agg [.str [49],.str [97]],.agg [.str [50],.str [98]]],[.agg [.str [49],.int .i64 3,.int .i64 7]],[.agg [.str [49],.int .i64 (-1),.int .i64 5]],[],[],[],[],[]⟩
theorem law7_valid:validF law7=0:=by decide +kernel
theorem law7_S:LawS law7:=by
 refine ⟨fun e he=>?_,by simp [law7],fun e he=>?_,by simp [law7],fun e he=>?_,by simp [law7],by simp [law7],by simp [law7],by simp [law7],by simp [law7],by simp [law7],by simp [law7],by simp [law7],by simp [law7],by simp [law7],by simp [law7]⟩
 · simp only [law7,List.mem_cons,List.not_mem_nil,or_false] at he
   rcases he with rfl | rfl <;> exact ⟨_,_,rfl,by decide,by decide⟩
 · simp only [law7,List.mem_cons,List.not_mem_nil,or_false] at he
   subst he;exact ⟨_,_,_,rfl,by decide⟩
 · simp only [law7,List.mem_cons,List.not_mem_nil,or_false] at he
   subst he;exact ⟨_,_,_,rfl,by decide⟩
theorem law7_P:okPl law7:=⟨law7_S,by simp [law7],by simp [law7],by simp [law7]⟩
theorem law7_bre:breF law7=([.agg [.int .i64 2,.str [49],.int .i64 (-1),.int .i64 5,.int .i64 7]],0):=by kernel_rfl
def net7:List PV:=(arcsL 3 1 law7.tree).map (netA law7)
theorem law7_net:netF law7=.tup [.agg [.int .i64 9,.sl net7],.int .i64 0]:=by kernel_rfl
theorem net7_len:net7.length=10:=by kernel_rfl
theorem net7_4:net7.getD 4 default=.agg [.int .i64 2,.int .i64 5,.int .i64 7,.int .i64 7]:=by kernel_rfl
theorem law7_kept:keptF law7=false:=by unfold keptF;rw [law7_bre];rfl
noncomputable def awake7S:PSpec:=on_ True (.bool true)
theorem k_awake7S_9 {args:List PV}:DX5 9 args=breS args:=rfl
theorem k_awake7S_11 {args:List PV}:DX5 11 args=keptS args:=rfl
theorem k_awake7S_13 {args:List PV}:DX5 13 args=net0S args:=rfl
theorem w_awake7S:PSound GG 12 awake7S:=by
 refine PSound.of_wpc (C:=cxP Tryz.prog DX5 [] 66) (T:=plan0) Tryz.func12 rfl rfl rfl (Fit.pure (G:=GG) hDX5 mixed) (fun args h=>?_)
 unfold awake7S at h
 obtain ⟨rfl,hp⟩:=on__inv h
 refine ⟨by simp [cxP],?_⟩
 simp only [awake7S,on__eq,Tryz.f12,argL,plan0]
 have hlv:lawO (.agg [.int .i64 3,.int .i64 1,.sl [.agg [.str [49],.str [97]],.agg [.str [50],.str [98]]],.sl [.agg [.str [49],.int .i64 3,.int .i64 7]],.sl [.agg [.str [49],.int .i64 (-1),.int .i64 5]],.sl [],.sl [],.sl [],.sl [],.sl []])=law7:=rfl
 simp only [hlv,law7_net,law7_bre,law7_kept,net7_len,net7_4,List.take_succ_cons,List.take_nil,k_awake7S_9,breS,on_p_eq,k_awake7S_11,keptS,k_awake7S_13,net0S,on_pl_eq,go_sem,↓reduceIte,reduceCtorEq,Nat.reduceEqDiff,Nat.reduceLT,Int.reduceToNat,Int.reduceLT,Int.reduceLE,Nat.reduceAdd,Nat.reduceLeDiff,Nat.reduceMul,ev_callG,List.forall_mem_cons,List.not_mem_nil,PV.one,AV.one]
 exact ⟨⟨law7,rfl,law7_P,law7_valid⟩,⟨law7,rfl,law7_S⟩,by kernel_rfl,fun _=>⟨law7,rfl,law7_S⟩,by kernel_rfl⟩
noncomputable def DX6 (g:FuncId):PSpec:=(putΦ (putΦ DX5 10 rtotalS) 12 awake7S) g
theorem hDX6:TabSound GG DX6:=((hDX5.put w_rtotalS).put w_awake7S)
set_option maxHeartbeats 1000000
theorem preT_eq9 {es:List PV}:preT [.sl es]=(es.length<=9223372036854775807/\∀ e,e∈es->isI e):=propext ⟨fun ⟨es',e,h⟩=>by simp only [List.cons.injEq,PV.sl.injEq,and_true] at e;subst e;exact h,fun h=>⟨es,rfl,h⟩⟩
theorem preNo_eq9:preNo []=True:=propext ⟨fun _=>trivial,fun _=>rfl⟩
theorem hc10b {H:AHeap} {a b:Int} {c d e f g h i j:List PV}:∀ x:AV,x∈[AV.pv (.int .i64 a),AV.pv (.int .i64 b),AV.pv (.sl c),AV.pv (.sl d),AV.pv (.sl e),AV.pv (.sl f),AV.pv (.sl g),AV.pv (.sl h),AV.pv (.sl i),AV.pv (.sl j)]->x.one=true/\frzOk H 3 x:=fun x hx=>by
 simp only [List.mem_cons,List.not_mem_nil,or_false] at hx
 rcases hx with rfl | rfl | rfl | rfl | rfl | rfl | rfl | rfl | rfl | rfl <;> exact ⟨rfl,by simp [frzOk]⟩
end Go.AM
