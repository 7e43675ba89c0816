/-
  A part of a proof.
-/
import Derived.Test.YtkajgkbhkkgdbaaGreatDoorFA
import Derived.Test.YtkajgkbhkkgdbaaGreatDoorZR
import Derived.Test.YtkajgkbhkkgdbaaGreatDoorQM
set_option linter.unusedSimpArgs false
set_option linter.unusedVariables false
namespace Go.AM
open Go Go.Proofs Go.IntWalk
set_option maxRecDepth 100000
set_option maxHeartbeats 2000000
def dlA:PV->PV
 | .fn _ [.pp a _]=>a
 | _=>default
noncomputable def cr1S:PSpec:=on_pp (fun e c=>isL3 e/\∃ a,isArc a/\c=.pp a 0) (fun e c=>match c with
 | .pp a _=>.bool (!cdB (arC a) e)
 | _=>default)
theorem w_cr1S:PSound GG 120 cr1S:=by
 refine PSound.of_wpc (C:=cxP Tryz.prog DX6 [] 9) (T:=plan0) Tryz.func120 rfl rfl rfl (Fit.pure (G:=GG) hDX6 mixed) (fun args h=>?_)
 unfold cr1S at h
 obtain ⟨e,c,rfl,hp⟩:=on_pp_inv h
 refine ⟨by simp [cxP],?_⟩
 simp only [cr1S,on_pp_eq,Tryz.f120,argL,plan0]
 obtain ⟨⟨a,n,m,rfl,_⟩,b,⟨k,c,y,f,t,rfl,_⟩,rfl⟩:=hp
 simp only [cdB,arC,go_sem,↓reduceIte,reduceCtorEq,Nat.reduceEqDiff,Nat.reduceLT,Nat.reduceAdd,Nat.reduceLeDiff,PV.one,AV.one]
noncomputable def E0 (g:FuncId):PSpec:=(putΦ DX6 120 cr1S) g
theorem hE0:TabSound GG E0:=(hDX6.put w_cr1S)
def ixL (c:List UInt8):List PV->Int->Int
 | [],_=> -1
 | e::r,i=>bif !cdB c e then i else ixL c r (i+1)
theorem ixL_all {c:List UInt8}:∀ (l:List PV) (i:Int),0<=i->ixL c l i= -1->l.filter (cdB c)=l
 | [],_,_,_=>rfl
 | e::r,i,hi,h=>by
   unfold ixL at h
   cases h1:cdB c e with
   | true=>
     rw [h1] at h
     rw [List.filter_cons_of_pos h1,ixL_all r (i+1) (by omega) h]
   | false=>
     rw [h1] at h
     have:i= -1:=h
     omega
theorem ixL_at {c:List UInt8}:∀ (l:List PV) (i:Nat),ixL c l i≠ -1->∃ k:Nat,ixL c l i=((i+k:Nat):Int)/\k<l.length/\(l.take (k+1)).filter (cdB c)=l.take k
 | [],_,h=>absurd rfl h
 | e::r,i,h=>by
   unfold ixL at h ⊢
   cases h1:cdB c e with
   | false=>exact ⟨0,rfl,by simp,by simp [h1]⟩
   | true=>
     rw [h1] at h
     obtain ⟨k,e1,e2,e3⟩:=ixL_at r (i+1) (by exact_mod_cast h)
     refine ⟨k+1,?_,by simp only [List.length_cons];omega,?_⟩
     · show ixL c r ((i:Int)+1)=_
       rw [show ((i:Int)+1)=((i+1:Nat):Int) by omega,e1];omega
     · rw [List.take_succ_cons,List.filter_cons_of_pos h1,e3,List.take_succ_cons]
noncomputable def ixlS:PSpec:=on_lp (fun es f=>(∃ a,isArc a/\f=.fn 120 [.pp a 0])/\(∀ e,e∈es->isL3 e)/\es.length<=4611686018427387904) (fun es f=>.int .i64 (ixL (arC (dlA f)) es 0))
theorem w_ixlS:PSound GG 150 ixlS:=by
 refine PSound.of_wpc (C:=cxP Tryz.prog E0 [] 19) (T:=plan0) Tryz.func150 rfl rfl rfl (Fit.pure (G:=GG) hE0 mixed) (fun args h=>?_)
 unfold ixlS at h
 obtain ⟨es,f,rfl,hp⟩:=on_lp_inv h
 refine ⟨by simp [cxP],?_⟩
 simp only [ixlS,on_lp_eq,Tryz.f150,argL,plan0]
 obtain ⟨⟨a,ha,rfl⟩,he,hl⟩:=hp
 have hfn:dlA (.fn 120 [.pp a 0])=a:=rfl
 simp only [hfn,go_sem,↓reduceIte,reduceCtorEq,Nat.reduceLT]
 refine AWp.loop (T:=plan0) (α:=Nat) (fun i=>([(0,.pv (.sl es)),(1,.pv (.fn 120 [.pp a 0])),(7,.pv (.int .i64 es.length)),(8,.pv (.int .i64 i))],[])) (fun i=>i<=es.length/\ixL (arC a) (es.drop i) i=ixL (arC a) es 0) (fun i=>es.length-i)
  ⟨0,⟨Nat.zero_le _,rfl⟩,⟨by simp [fitR,look],trivial,rfl,rfl,rfl⟩⟩ ?_
 rintro i ⟨h1,h2⟩
 have hi1:IntKind.i64.wrap ((i:Int)+1)=((i+1:Nat):Int):=by rw [i64_in _ (by omega)];omega
 by_cases hlt:i<es.length
 · have c0:decide ((i:Int)<(es.length:Int))=true:=by simp;omega
   have hd:es.drop i=es.getD i default::es.drop (i+1):=by rw [List.drop_eq_getElem_cons hlt];simp [List.getD_eq_getElem?_getD,hlt]
   have hcl:=he _ (getD_mem hlt)
   rw [hd,ixL] at h2
   obtain ⟨e,hg⟩:∃ e,es.getD i default=e:=⟨_,rfl⟩
   rw [hg] at hcl h2
   have hC:=hcl
   obtain ⟨c,n,m,rfl,hc⟩:=hcl
   have k1:∀ args,E0 120 args=cr1S args:=fun _=>rfl
   simp only [c0,hg,hi1,k1,cr1S,on_pp_eq,ev_callT,callTK,callP_fnc,List.take_succ_cons,List.take_nil,plan0,go_sem,↓reduceIte,reduceCtorEq,Nat.reduceEqDiff,Nat.reduceLT,Nat.reduceAdd,Nat.reduceLeDiff]
   refine ⟨⟨by omega,by omega⟩,⟨hC,a,ha,rfl⟩,fun h9=>?_,fun h9=>⟨i+1,⟨by omega,?_⟩,by omega,⟨by simp [fitR,look],trivial,rfl,rfl,rfl⟩⟩⟩
   · rw [h9,cond_true] at h2
     rw [h2]
   · rw [h9,cond_false] at h2
     rw [<- h2];simp
 · have c0:decide ((i:Int)<(es.length:Int))=false:=by simp;omega
   rw [List.drop_eq_nil_of_le (by omega),ixL] at h2
   simp only [c0,plan0,go_sem,↓reduceIte,reduceCtorEq,Nat.reduceEqDiff,Nat.reduceLT]
   rw [<- h2]
noncomputable def E1 (g:FuncId):PSpec:=(putΦ E0 150 ixlS) g
theorem hE1:TabSound GG E1:=(hE0.put w_ixlS)
def plF4:Plan:={ keep:=fun _=>none,cut:=fun _=>false,stop:=fun i=>i == 1 }
noncomputable def cloneQ:PSpec:=on_l (fun es=>(∀ e,e∈es->e.width=3/\e.cells.all PV.one=true)/\es.length<=1000000) (fun es=>.sl es)
theorem w_cloneS:ESound GG 119 (psiRow 3 cloneQ):=by
 refine ESound.of_row (C:=cxQ Tryz.prog E1 noΘ noΨ [5] [] 8) (T:=plF4) (t:=2) (k:=3) (by decide) Tryz.func119 rfl rfl rfl rfl (Fit.all (G:=GG) hE1 hnoΘ hnoΨ mixed) (fun args h=>?_)
 unfold cloneQ at h
 obtain ⟨es,rfl,he,hl⟩:=on_l_inv h
 refine ⟨by simp [cxQ],?_⟩
 simp only [cloneQ,on_l_eq,argL,plF4,go_sem,↓reduceIte,reduceCtorEq,Nat.reduceLT]
 refine AWp.nilq (e:=57) rfl Tryz.underlying26 (by decide) (by decide) (fun b hb=>?_)
 refine wpc_sound (T:=plan0) _ _ _ ?_
 simp only [upd_look,ev_rowlit0,Nat.reduceBEq,FinRow,rowIs,plan0,go_sem,↓reduceIte,reduceCtorEq,Nat.reduceEqDiff,Nat.reduceLT,Nat.reduceLeDiff,Nat.reduceMul]
 exact ⟨fun h9=>by rw [hb h9],fun _=>⟨rfl,fun e he'=>(he e he').1,by omega,by simp only [maxLen];omega,Nat.le_refl _,by rw [List.take_length]⟩⟩
noncomputable def ΨC (g:FuncId):Option ESpec:=putΨ noΨ 119 (psiRow 3 cloneQ) g
theorem hΨC:ETab GG ΨC:=hnoΨ.put w_cloneS psiRow_mono
def zLn:PV:=.agg [.str [],.int .i64 0,.int .i64 0]
def dlR (c:List UInt8) (es:List PV):List PV:=es.filter (cdB c)++List.replicate (es.length-(es.filter (cdB c)).length) zLn
def dlP:List PV->List PV->Prop × List PV × Nat
 | es,[f]=>((∃ a,isArc a/\f=.fn 120 [.pp a 0])/\(∀ e,e∈es->isL3 e)/\es.length<=1000000,dlR (arC (dlA f)) es,(es.filter (cdB (arC (dlA f)))).length)
 | es,_=>(False,es,0)
theorem dlR_len {c:List UInt8} {es:List PV}:(dlR c es).length=es.length:=by
 have:=List.length_filter_le (cdB c) es
 unfold dlR
 simp;omega
theorem dlR_flat {c:List UInt8} {es:List PV} (h:∀ e,e∈es->isL3 e):∀ e,e∈dlR c es->e.cells.all flatC=true:=by
 intro e he
 unfold dlR at he
 rcases List.mem_append.1 he with he | he
 · obtain ⟨s,y,m,rfl,_⟩:=h e (List.mem_filter.1 he).1
   rfl
 · rw [(List.mem_replicate.1 he).2];rfl
theorem w_delE:ESound GG 118 (psiPutR 3 dlP):=by
 refine ESound.of_putR (C:=cxQ Tryz.prog E1 noΘ noΨ [] [9001] 42) (T:=plan0) (r:=4) Tryz.func118 rfl rfl rfl rfl rfl (Fit.all (G:=GG) hE1 hnoΘ hnoΨ mixed) (fun es args h hw=>?_)
 obtain ⟨f,rfl⟩:∃ f,args=[f]:=by
  unfold dlP at h
  split at h
  · exact ⟨_,rfl⟩
  · exact h.elim
 obtain ⟨⟨a,ha,rfl⟩,he,hl⟩:=h
 refine ⟨by simp [cxQ],?_⟩
 have hfn:dlA (.fn 120 [.pp a 0])=a:=rfl
 have hv:(dlP es [.fn 120 [.pp a 0]]).2=(dlR (arC a) es,(es.filter (cdB (arC a))).length):=rfl
 rw [hv]
 obtain ⟨c,hc⟩:∃ c,arC a=c:=⟨_,rfl⟩
 have k0:∀ args,E1 150 args=ixlS args:=fun _=>rfl
 have tk:es.take es.length=es:=List.take_length
 simp only [k0,ixlS,on_lp_eq,hfn,hc,tk,FinPutR_r,argL,plan0,go_sem,↓reduceIte,reduceCtorEq,Nat.reduceEqDiff,Nat.reduceLT]
 refine ⟨⟨Nat.le_refl _,⟨a,ha,rfl⟩,he,by omega⟩,fun h0=>?_,fun h0=>?_⟩
 · have h0:ixL c es 0= -1:=by simpa using h0
   have hf:=ixL_all es 0 (Int.le_refl _) h0
   exact ⟨by rw [hf],by unfold dlR;rw [hf];simp⟩
 have h0:ixL c es 0≠ -1:=by simpa using h0
 obtain ⟨k,e1,e2,e3⟩:=ixL_at es 0 (by exact_mod_cast h0)
 have e1:ixL c es 0=(k:Int):=by rw [show (0:Int)=((0:Nat):Int) from rfl,e1];omega
 have hk1:IntKind.i64.wrap ((k:Int)+1)=((k+1:Nat):Int):=by rw [i64_in _ (by omega)];omega
 rw [e1]
 simp only [hk1,go_sem]
 refine AWp.loop (T:=plan0) (α:=Nat × List PV) (fun z=>([(0,.rs 9001 es.length),(1,.pv (.fn 120 [.pp a 0])),(5,.pv (.int .i64 z.2.length)),(6,.pv (.int .i64 z.1))],[(9001,.row 3 (z.2++es.drop z.2.length))]))
  (fun z=>z.1<=es.length/\z.2.length<z.1/\z.2=(es.take z.1).filter (cdB c)) (fun z=>es.length-z.1)
  ⟨(k+1,es.take k),⟨by simp only;omega,by simp only [List.length_take];omega,e3.symm⟩,⟨by simp [fitR,look,Nat.min_eq_left (Nat.le_of_lt e2)],by simp [fitH,hget,Nat.min_eq_left (Nat.le_of_lt e2)],rfl,rfl,rfl⟩⟩ ?_
 rintro ⟨j,K⟩ ⟨g1,g2,g3⟩
 simp only at g1 g2 g3
 have hlen:(K++es.drop K.length).length=es.length:=by rw [List.length_append,List.length_drop];omega
 have hj1:IntKind.i64.wrap ((j:Int)+1)=((j+1:Nat):Int):=by rw [i64_in _ (by omega)];omega
 by_cases hlt:j<es.length
 · have c0:decide ((j:Int)<(es.length:Int))=true:=by simp;omega
   have hg:(K++es.drop K.length).getD j default=es.getD j default:=by
    rw [List.getD_eq_getElem?_getD,List.getD_eq_getElem?_getD,List.getElem?_append_right (by omega),List.getElem?_drop]
    congr 2;omega
   have hm:=he _ (getD_mem hlt)
   obtain ⟨x,hx⟩:∃ x,es.getD j default=x:=⟨_,rfl⟩
   rw [hx] at hm hg
   have hM:=hm
   have hstep:(es.take (j+1)).filter (cdB c)=K++(if cdB c x=true then [x] else []):=by
    rw [take_succ_getD hlt,hx,List.filter_append,<- g3]
    congr 1
    by_cases h9:cdB c x=true
    · rw [if_pos h9,List.filter_cons_of_pos h9];rfl
    · rw [if_neg h9,List.filter_cons_of_neg h9];rfl
   obtain ⟨s,y,m,rfl,hs⟩:=hm
   have k1:∀ args,E1 120 args=cr1S args:=fun _=>rfl
   have hKl:K.length<es.length:=by omega
   have hK1:IntKind.i64.wrap ((K.length:Int)+1)=((K.length+1:Nat):Int):=by rw [i64_in _ (by omega)];omega
   have hold:=he _ (getD_mem hKl)
   obtain ⟨x0,hx0⟩:∃ x0,es.getD K.length default=x0:=⟨_,rfl⟩
   rw [hx0] at hold
   obtain ⟨s0,y0,m0,rfl,_⟩:=hold
   have hn0:(K++es.drop K.length).getD K.length default=.agg [.str s0,.int .i64 y0,.int .i64 m0]:=by
    rw [List.getD_eq_getElem?_getD,List.getElem?_append_right (Nat.le_refl _),Nat.sub_self,List.getElem?_drop,Nat.add_zero,<- List.getD_eq_getElem?_getD,hx0]
   have hset:(K++es.drop K.length).set K.length (.agg [.str s,.int .i64 y,.int .i64 m])=(K++[.agg [.str s,.int .i64 y,.int .i64 m]])++es.drop (K.length+1):=by
    rw [List.set_append_right _ _ (Nat.le_refl _),Nat.sub_self,List.drop_eq_getElem_cons hKl,List.set_cons_zero,List.append_assoc];rfl
   simp only [c0,hg,hn0,hset,hj1,hK1,k1,cr1S,on_pp_eq,hc,Int.toNat_natCast,hlen,boxP,putP,PV.nth,ev_callT,callTK,callP_fnc,FinPutR_r,List.take_succ_cons,List.take_nil,plan0,go_sem,↓reduceIte,reduceCtorEq,Nat.reduceEqDiff,Nat.reduceLT,Nat.reduceAdd,Nat.reduceLeDiff]
   refine ⟨⟨by omega,by omega⟩,by omega,⟨(fun z hz=>by (simp only [List.mem_cons,List.not_mem_nil,or_false] at hz;rcases hz with rfl | rfl | rfl <;> exact ⟨rfl,trivial⟩)),hM,a,ha,rfl⟩,fun h9=>⟨⟨by omega,by omega⟩,(fun z hz=>by (simp only [List.mem_cons,List.not_mem_nil,or_false] at hz;rcases hz with rfl | rfl | rfl <;> exact ⟨rfl,trivial⟩)),hKl,(j+1,K++[.agg [.str s,.int .i64 y,.int .i64 m]]),⟨by simp only;omega,by simp only [List.length_append,List.length_singleton];omega,by simp only;rw [hstep,if_pos h9]⟩,by simp only;omega,⟨by simp [fitR,look],by simp [fitH,hget],rfl,rfl,rfl⟩⟩,
    fun h9=>⟨(j+1,K),⟨by simp only;omega,by simp only;omega,by simp only;rw [hstep,h9];simp⟩,by simp only;omega,⟨by simp [fitR,look],by simp [fitH,hget],rfl,rfl,rfl⟩⟩⟩
 · have c0:decide ((j:Int)<(es.length:Int))=false:=by simp;omega
   have e:j=es.length:=by omega
   subst e
   rw [List.take_length] at g3
   simp only [c0,hlen,Int.toNat_natCast,FinPutR_r,plan0,go_sem,↓reduceIte,reduceCtorEq,Nat.reduceEqDiff,Nat.reduceLT,Nat.reduceAdd,Nat.reduceLeDiff]
   refine ⟨⟨by omega,by omega,by omega⟩,rfl,Nat.le_refl _,(fun z hz=>by (simp only [List.mem_cons,List.not_mem_nil,or_false] at hz;rcases hz with rfl | rfl | rfl <;> exact ⟨rfl,trivial⟩)),rfl,rfl,⟨by omega,by omega⟩,by rw [g3],?_⟩
   show ABlk.row 3 (List.take K.length (K++List.drop K.length es)++List.replicate (es.length-K.length) zLn++List.drop es.length (K++List.drop K.length es))=_
   rw [List.take_left,List.drop_eq_nil_of_le (by omega),List.append_nil]
   unfold dlR
   rw [<- g3]
noncomputable def ΨD (g:FuncId):Option ESpec:=putΨ ΨC 118 (psiPutR 3 dlP) g
theorem hΨD:ETab GG ΨD:=hΨC.put w_delE psiPutR_mono
def plF4b:Plan:={ keep:=fun _=>none,cut:=fun _=>false,stop:=fun i=>i == 3 }
theorem isL3.flat {e:PV} (h:isL3 e):e.width=3/\e.cells.all PV.one=true:=by
 obtain ⟨c,y,a,rfl,_⟩:=h
 exact ⟨rfl,rfl⟩
noncomputable def carS:PSpec:=on_lp (fun ls a=>(∀ e,e∈ls->isL3 e)/\ls.length<=1000000/\isArc a) (fun ls a=>.tup [.int .i64 (carF ls a).1,.int .i64 (carF ls a).2])
theorem k_carS_108 {args:List PV}:E1 108 args=sumS args:=rfl
theorem k_carS_120 {args:List PV}:E1 120 args=cr1S args:=rfl
theorem w_carS:PSound GG 51 carS:=by
 refine PSound.of_wpc (C:=cxQ Tryz.prog E1 noΘ ΨD [] [] 21) (T:=plF4b) Tryz.func51 rfl rfl rfl (Fit.all (G:=GG) hE1 hnoΘ hΨD mixed) (fun args h=>?_)
 unfold carS at h
 obtain ⟨ls,a,rfl,he,hl,ha⟩:=on_lp_inv h
 have hA:=ha
 obtain ⟨k,c,y,f,t,rfl,hc⟩:=ha
 refine ⟨by simp [cxQ],?_⟩
 have e1:carF ls (.agg [.int .i64 k,.str c,.int .i64 y,.int .i64 f,.int .i64 t])=smF (bif k == 2 then ls.filter (cdB c) else ls) c y:=rfl
 simp (config:={maxSteps:=1000000}) only [carS,on_lp_eq,e1,ΨD,ΨC,psiRow_eq,cloneQ,on_l_eq,makeFuncA,pvL,Tryz.f51,argL,plF4b,Nat.reduceBEq,go_sem,↓reduceIte,reduceCtorEq,Nat.reduceEqDiff,Nat.reduceLT,Nat.reduceAdd,Nat.reduceLeDiff]
 have hfl:(ls.filter (cdB c)).length<=ls.length:=List.length_filter_le _ _
 refine ⟨fun h0=>⟨⟨fun e he'=>(he e he').flat,hl⟩,fun es hes=>?_⟩,fun h0=>?_⟩
 · simp only [PV.sl.injEq] at hes
   subst hes
   rw [h0,cond_true]
   refine psiPutR_run (H1:=[(3,.cells [.pv (.int .i64 k),.pv (.str c),.pv (.int .i64 y),.pv (.int .i64 f),.pv (.int .i64 t)])]) (es:=ls) (es':=dlR c ls) (m:=(ls.filter (cdB c)).length) (args:=[.fn 120 [.pp (.agg [.int .i64 k,.str c,.int .i64 y,.int .i64 f,.int .i64 t]) 0]]) rfl rfl rfl ⟨fun z hz=>by simp only [List.mem_singleton] at hz;subst hz;rfl,rfl⟩
    (fun z hz=>by simp only [List.mem_singleton] at hz;subst hz;simp [frzOk,hget];exact ⟨rfl,rfl,rfl,rfl,rfl⟩) (by simp [frz,hget,boxP]) ⟨⟨_,hA,rfl⟩,he,hl⟩ rfl dlR_len (dlR_flat he) ?_
   have htk:(dlR c ls).take (ls.filter (cdB c)).length=ls.filter (cdB c):=List.take_left' rfl
   have hml:(ls.filter (cdB c)).length<=(dlR c ls).length:=by rw [dlR_len];exact hfl
   by_cases hm:(ls.filter (cdB c)).length=0
   · have hm':ls.filter (cdB c)=[]:=List.eq_nil_of_length_eq_zero hm
     simp only [putRes,hm,if_true]
     refine wpc_sound (T:=plan0) _ _ _ ?_
     simp (config:={maxSteps:=1000000}) only [upd_look,hm',ΨD,ΨC,k_carS_108,sumS,on_lsi_eq,plan0,go_sem,↓reduceIte,reduceCtorEq,Nat.reduceEqDiff,Nat.reduceLT,Nat.reduceAdd,Nat.reduceLeDiff]
     exact ⟨fun e he'=>(List.not_mem_nil he').elim,hc⟩
   · simp only [putRes,hm,if_false]
     refine wpc_sound (T:=plan0) _ _ _ ?_
     simp (config:={maxSteps:=1000000}) only [upd_look,htk,ΨD,ΨC,k_carS_108,sumS,on_lsi_eq,plan0,go_sem,↓reduceIte,reduceCtorEq,Nat.reduceEqDiff,Nat.reduceLT,Nat.reduceAdd,Nat.reduceLeDiff]
     exact ⟨hml,fun e he'=>he e (List.mem_filter.1 he').1,by omega,hc⟩
 · rw [h0,cond_false]
   refine wpc_sound (T:=plan0) _ _ _ ?_
   simp (config:={maxSteps:=1000000}) only [ΨD,ΨC,k_carS_108,sumS,on_lsi_eq,plan0,go_sem,↓reduceIte,reduceCtorEq,Nat.reduceEqDiff,Nat.reduceLT,Nat.reduceAdd,Nat.reduceLeDiff]
   exact ⟨he,by omega,hc⟩
noncomputable def E2 (g:FuncId):PSpec:=(putΦ E1 51 carS) g
theorem hE2:TabSound GG E2:=(hE1.put w_carS)
end Go.AM
namespace Go.AM
open Go Go.Proofs Go.IntWalk
attribute [local go_sem] AV.one List.forall_mem_cons List.not_mem_nil List.take_nil List.take_succ_cons PV.one callGc_false callGc_true ev_callG gcallK_b gcallK_w
set_option maxRecDepth 100000
set_option maxHeartbeats 4000000
noncomputable def leafBS:PSpec:=on_ps (fun l _=>∃ L:Law,l=L.v/\LawS L) (fun l s=>.bool ((lvL (lawO l)).contains s))
theorem k_leafBS_89 {args:List PV}:E2 89 args=lvS args:=rfl
theorem k_leafBS_149 {args:List PV}:E2 149 args=containsS args:=rfl
theorem w_leafBS:PSound GG 116 leafBS:=by
 refine PSound.of_wpc (C:=cxP Tryz.prog E2 [] 10) (T:=plan0) Tryz.func116 rfl rfl rfl (Fit.pure (G:=GG) hE2 mixed) (fun args h=>?_)
 unfold leafBS at h
 obtain ⟨l,s,rfl,hp⟩:=on_ps_inv h
 refine ⟨by simp [cxP],?_⟩
 simp only [leafBS,on_ps_eq,Tryz.f116,argL,plan0]
 obtain ⟨⟨fi,ye,tr,la,lb,lc,ld,le,lf,lg⟩,rfl,hS⟩:=hp
 have hl:=lvL_len ⟨fi,ye,tr,la,lb,lc,ld,le,lf,lg⟩
 rw [lawO_v]
 have h1:=hS.isH
 have h2:=hS.tl
 simp only [lvL] at hl ⊢
 simp only at h1 h2
 simp only [Law.v,lawV,map_sOf,List.length_map,List.length_nil,k_leafBS_89,lvS,on_ls_eq,k_leafBS_149,containsS,go_sem,↓reduceIte,reduceCtorEq,Nat.reduceEqDiff,Nat.reduceLT,Nat.reduceAdd,Nat.reduceLeDiff]
 exact ⟨⟨h1,by omega⟩,⟨_,rfl⟩,by omega⟩
noncomputable def E3 (g:FuncId):PSpec:=(putΦ E2 116 leafBS) g
theorem hE3:TabSound GG E3:=(hE2.put w_leafBS)
def isRg (x:PV):Prop:=∃ c y lo hi,x=.agg [.str c,.int .i64 y,.int .i64 lo,.int .i64 hi]/\c.length<=1000000000000
def wrgF (L:Law):PV->Int
 | .agg [.str c,.int _ y,.int _ lo,.int _ hi]=>bif !(lvL L).contains c then 5 else bif !inF L y then 16 else bif (!vldM lo||!vldM hi||decide (hi<lo)) then 2 else 0
 | _=>0
noncomputable def wrgS:PSpec:=on_pp (fun l x=>(∃ L:Law,l=L.v/\LawS L)/\isRg x) (fun l x=>.int .i64 (wrgF (lawO l) x))
theorem k_wrgS_71 {args:List PV}:E3 71 args=validMS args:=rfl
theorem k_wrgS_116 {args:List PV}:E3 116 args=leafBS args:=rfl
theorem k_wrgS_117 {args:List PV}:E3 117 args=inS args:=rfl
theorem w_wrgS:PSound GG 50 wrgS:=by
 refine PSound.of_wpc (C:=cxP Tryz.prog E3 [] 35) (T:=plan0) Tryz.func50 rfl rfl rfl (Fit.pure (G:=GG) hE3 mixed) (fun args h=>?_)
 unfold wrgS at h
 obtain ⟨l,x,rfl,hp⟩:=on_pp_inv h
 refine ⟨by simp [cxP],?_⟩
 simp only [wrgS,on_pp_eq,Tryz.f50,argL,plan0]
 obtain ⟨⟨⟨fi,ye,tr,la,lb,lc,ld,le,lf,lg⟩,rfl,hS⟩,c,y,lo,hi,rfl,hc⟩:=hp
 have hlv:lawO (.agg [.int .i64 fi,.int .i64 ye,.sl tr,.sl la,.sl lb,.sl lc,.sl ld,.sl le,.sl lf,.sl lg])=⟨fi,ye,tr,la,lb,lc,ld,le,lf,lg⟩:=rfl
 rw [lawO_v]
 simp only [wrgF]
 simp only [Law.v,lawV,hlv,k_wrgS_71,validMS,on_i_eq,k_wrgS_116,leafBS,on_ps_eq,k_wrgS_117,inS,on_pi_eq,go_sem,↓reduceIte,reduceCtorEq,Nat.reduceEqDiff,Nat.reduceLT,Nat.reduceAdd,Nat.reduceLeDiff]
 refine ⟨⟨⟨fi,ye,tr,la,lb,lc,ld,le,lf,lg⟩,rfl,hS⟩,fun h1=>by rw [h1];rfl,fun h1=>⟨⟨⟨fi,ye,tr,la,lb,lc,ld,le,lf,lg⟩,rfl⟩,fun h2=>by rw [h1,h2];rfl,fun h2=>?_⟩⟩
 rw [h1,h2]
 exact ⟨fun h=>by simpa using h,fun h3=>by rw [h3];rfl,fun h3=>by rw [h3];rfl⟩
noncomputable def E4 (g:FuncId):PSpec:=(putΦ E3 50 wrgS) g
theorem hE4:TabSound GG E4:=(hE3.put w_wrgS)
theorem okPl_valid {L:Law} (hS:LawS L) (h:validF L=0):okPl L:=by
 obtain ⟨h1,_⟩:=validF_zero h
 obtain ⟨⟨a,b,c⟩,h2,_⟩:=yearsE_zero h1
 have:=(valid_hd h2).1
 simp only [amg,Bool.and_eq_true,decide_eq_true_eq] at a b
 exact ⟨hS,by omega,by omega,by omega⟩
theorem wrg_line {L:Law} {c:List UInt8} {y m:Int}:wrgF L (.agg [.str c,.int .i64 y,.int .i64 m,.int .i64 m])=lineE L (lvL L) (.agg [.str c,.int .i64 y,.int .i64 m]):=by
 simp only [wrgF,lineE]
 cases vldM m <;> simp
noncomputable def floS:PSpec:=on_pl (fun l ls=>(∃ L:Law,l=L.v/\LawS L)/\(∀ e,e∈ls->isL3 e)/\ls.length<=1000000) (fun l ls=>.tup [.sl ((flowF (lawO l) ls).1.map intV),.int .i64 (flowF (lawO l) ls).2])
theorem k_floS_45 {args:List PV}:E4 45 args=validGS args:=rfl
theorem k_floS_48 {args:List PV}:E4 48 args=planS args:=rfl
theorem k_floS_50 {args:List PV}:E4 50 args=wrgS args:=rfl
theorem k_floS_51 {args:List PV}:E4 51 args=carS args:=rfl
theorem w_floS:PSound GG 14 floS:=by
 refine PSound.of_wpc (C:=cxP Tryz.prog E4 [] 66) (T:=plan0) Tryz.func14 rfl rfl rfl (Fit.pure (G:=GG) hE4 mixed) (fun args h=>?_)
 unfold floS at h
 obtain ⟨l,ls,rfl,hp⟩:=on_pl_inv h
 refine ⟨by simp [cxP],?_⟩
 simp only [floS,on_pl_eq,Tryz.f14,argL,plan0]
 obtain ⟨⟨⟨fi,ye,tr,la,lb,lc,ld,le,lf,lg⟩,rfl,hS⟩,hls,hll⟩:=hp
 have hlv:lawO (.agg [.int .i64 fi,.int .i64 ye,.sl tr,.sl la,.sl lb,.sl lc,.sl ld,.sl le,.sl lf,.sl lg])=⟨fi,ye,tr,la,lb,lc,ld,le,lf,lg⟩:=rfl
 have hvw:.agg [.int .i64 fi,.int .i64 ye,.sl tr,.sl la,.sl lb,.sl lc,.sl ld,.sl le,.sl lf,.sl lg]=Law.v ⟨fi,ye,tr,la,lb,lc,ld,le,lf,lg⟩:=rfl
 have hw:∃ L:Law,.agg [.int .i64 fi,.int .i64 ye,.sl tr,.sl la,.sl lb,.sl lc,.sl ld,.sl le,.sl lf,.sl lg]=L.v/\LawS L:=⟨⟨fi,ye,tr,la,lb,lc,ld,le,lf,lg⟩,rfl,hS⟩
 rw [lawO_v]
 unfold flowF
 obtain ⟨V,hV⟩:∃ V,validF ⟨fi,ye,tr,la,lb,lc,ld,le,lf,lg⟩=V:=⟨_,rfl⟩
 rw [hV]
 have hwr:∀ c y m,wrgF ⟨fi,ye,tr,la,lb,lc,ld,le,lf,lg⟩ (.agg [.str c,.int .i64 y,.int .i64 m,.int .i64 m])=lineE ⟨fi,ye,tr,la,lb,lc,ld,le,lf,lg⟩ (lvL ⟨fi,ye,tr,la,lb,lc,ld,le,lf,lg⟩) (.agg [.str c,.int .i64 y,.int .i64 m]):=fun c y m=>wrg_line
 simp only [Law.v,lawV,hlv,hV,k_floS_45,validGS,on_p_eq,go_sem,↓reduceIte,reduceCtorEq,Nat.reduceEqDiff,Nat.reduceLT,Nat.reduceAdd,Nat.reduceLeDiff]
 refine ⟨hw,fun h0=>by rw [h0];rfl,fun h0=>?_⟩
 rw [h0,cond_false]
 have hV0:V=0:=bne_eq_false_iff_eq.1 h0
 rw [hV0] at hV
 have hP:=okPl_valid hS hV
 obtain ⟨_,hf,hy,ht⟩:=hP
 have hPl:∃ L:Law,.agg [.int .i64 fi,.int .i64 ye,.sl tr,.sl la,.sl lb,.sl lc,.sl ld,.sl le,.sl lf,.sl lg]=L.v/\okPl L:=⟨⟨fi,ye,tr,la,lb,lc,ld,le,lf,lg⟩,rfl,okPl_valid hS hV⟩
 simp only at hf hy ht
 obtain ⟨W,hW⟩:∃ W,lineE ⟨fi,ye,tr,la,lb,lc,ld,le,lf,lg⟩ (lvL ⟨fi,ye,tr,la,lb,lc,ld,le,lf,lg⟩)=W:=⟨_,rfl⟩
 have hwl:∀ x r,wrlF ⟨fi,ye,tr,la,lb,lc,ld,le,lf,lg⟩ (x::r)=bif W x != 0 then W x else wrlF ⟨fi,ye,tr,la,lb,lc,ld,le,lf,lg⟩ r:=fun x r=>by rw [<- hW];rfl
 have hwn:wrlF ⟨fi,ye,tr,la,lb,lc,ld,le,lf,lg⟩ []=0:=rfl
 rw [hW] at hwr
 obtain ⟨wl,hwlE⟩:∃ f,wrlF ⟨fi,ye,tr,la,lb,lc,ld,le,lf,lg⟩=f:=⟨_,rfl⟩
 rw [hwlE] at hwl hwn ⊢
 refine AWp.loop (T:=plan0) (α:=Nat) (fun i=>([(1,.pv (.sl ls)),(2,.ptr 2 0),(20,.pv (.sl ls)),(21,.pv (.int .i64 ls.length)),(22,.pv (.int .i64 i))],[(2,.cells [.pv (.int .i64 fi),.pv (.int .i64 ye),.pv (.sl tr),.pv (.sl la),.pv (.sl lb),.pv (.sl lc),.pv (.sl ld),.pv (.sl le),.pv (.sl lf),.pv (.sl lg)])])) (fun i=>i<=ls.length/\wl (ls.drop i)=wl ls) (fun i=>ls.length-i)
  ⟨0,⟨Nat.zero_le _,rfl⟩,⟨by simp [fitR,look],by simp [fitH,hget],rfl,rfl,rfl⟩⟩ ?_
 rintro i ⟨h1,h2⟩
 have hi1:IntKind.i64.wrap ((i:Int)+1)=((i+1:Nat):Int):=by rw [i64_in _ (by omega)];omega
 by_cases hlt:i<ls.length
 · have c0:decide ((i:Int)<(ls.length:Int))=true:=by simp;omega
   have hd:ls.drop i=ls.getD i default::ls.drop (i+1):=by rw [List.drop_eq_getElem_cons hlt];simp [List.getD_eq_getElem?_getD,hlt]
   obtain ⟨c,y,m,hx,hc⟩:=hls _ (getD_mem hlt)
   rw [hd,hwl,hx] at h2
   have hpr:(∃ L:Law,.agg [.int .i64 fi,.int .i64 ye,.sl tr,.sl la,.sl lb,.sl lc,.sl ld,.sl le,.sl lf,.sl lg]=L.v/\LawS L)/\isRg (.agg [.str c,.int .i64 y,.int .i64 m,.int .i64 m]):=⟨hw,c,y,m,m,rfl,hc⟩
   simp only [c0,hx,hi1,hlv,hwr,on_p_eq,k_floS_48,planS,k_floS_50,wrgS,on_pp_eq,plan0,go_sem,↓reduceIte,reduceCtorEq,Nat.reduceEqDiff,Nat.reduceLT,Nat.reduceAdd,Nat.reduceLeDiff]
   refine ⟨⟨by omega,by omega⟩,hpr,fun h9=>?_,fun h9=>⟨i+1,⟨by omega,?_⟩,by omega,⟨by simp [fitR,look],by simp [fitH,hget],rfl,rfl,rfl⟩⟩⟩
   · rw [h9,cond_true] at h2
     rw [<- h2,h9];rfl
   · rw [h9,cond_false] at h2
     exact h2
 · have c0:decide ((i:Int)<(ls.length:Int))=false:=by simp;omega
   rw [List.drop_eq_nil_of_le (by omega),hwn] at h2
   rw [<- h2]
   have hge:ls.length<=i:=by omega
   clear h1 h2 hi1 hlt c0 hwl hwn hwlE hwr hW
   have hAr:=arcs_arc (fi:=fi) (n:=ye.toNat) hS.tr
   have hAl:=arcs_len (fi:=fi) (n:=ye.toNat) (tr:=tr) (by omega) ht
   simp only at hAr
   obtain ⟨ar,har⟩:∃ ar,arcsL fi ye.toNat tr=ar:=⟨_,rfl⟩
   rw [har] at hAr hAl ⊢
   have c0:decide (((ls.length:Nat):Int)<(ls.length:Int))=false:=by simp
   have c1:decide ((i:Int)<(ls.length:Int))=false:=by simp;omega
   simp only [c1,hlv,har,plnV,bne_self_eq_false,cond_false,on_p_eq,k_floS_48,planS,k_floS_50,wrgS,on_pp_eq,plan0,go_sem,↓reduceIte,reduceCtorEq,Nat.reduceEqDiff,Nat.reduceLT,Nat.reduceAdd,Nat.reduceLeDiff]
   refine ⟨hPl,?_⟩
   have hcons:∀ a r acc,floG ls (a::r) acc=bif (carF ls a).2 != 0 then ([],(carF ls a).2) else floG ls r (acc++[(carF ls a).1]):=fun a r acc=>rfl
   have hnil:∀ acc,floG ls [] acc=(acc,0):=fun acc=>rfl
   obtain ⟨fg,hfg⟩:∃ f,floG ls=f:=⟨_,rfl⟩
   obtain ⟨cf,hcf⟩:∃ f,carF ls=f:=⟨_,rfl⟩
   rw [hfg] at hcons hnil ⊢
   rw [hcf] at hcons
   refine AWp.adoptS (s:=10) (κ:=8000) (k:=1) (by simp [look]) rfl (by decide) ?_
   refine AWp.loop (T:=plan0) (α:=Nat × List Int) (fun z=>([(1,.pv (.sl ls)),(2,.ptr 2 0),(10,.rs 8000 z.2.length),(45,.pv (.sl ar)),(46,.pv (.int .i64 ar.length)),(47,.pv (.int .i64 z.1))],[(8000,.row 1 (z.2.map intV)),(2,.cells [.pv (.int .i64 fi),.pv (.int .i64 ye),.pv (.sl tr),.pv (.sl la),.pv (.sl lb),.pv (.sl lc),.pv (.sl ld),.pv (.sl le),.pv (.sl lf),.pv (.sl lg)])])) (fun z=>z.1<=ar.length/\z.2.length<=z.1/\fg (ar.drop z.1) z.2=fg ar []) (fun z=>ar.length-z.1)
    ⟨(0,[]),⟨Nat.zero_le _,Nat.le_refl _,rfl⟩,⟨by simp [fitR,look,upd],by simp [fitH,hget,hset],rfl,rfl,rfl⟩⟩ ?_
   rintro ⟨j,es⟩ ⟨g1,g2,g3⟩
   simp only at g1 g2 g3
   have hj1:IntKind.i64.wrap ((j:Int)+1)=((j+1:Nat):Int):=by rw [i64_in _ (by omega)];omega
   have tk:(es.map intV).take es.length=es.map intV:=List.take_of_length_le (by simp)
   by_cases hlt:j<ar.length
   · have c0:decide ((j:Int)<(ar.length:Int))=true:=by simp;omega
     have hd:ar.drop j=ar.getD j default::ar.drop (j+1):=by rw [List.drop_eq_getElem_cons hlt];simp [List.getD_eq_getElem?_getD,hlt]
     obtain ⟨k,c,y,f,t,hx,hc⟩:=hAr _ (getD_mem hlt)
     have hIA:isArc (.agg [.int .i64 k,.str c,.int .i64 y,.int .i64 f,.int .i64 t]):=⟨k,c,y,f,t,rfl,hc⟩
     rw [hd,hcons,hx] at g3
     obtain ⟨⟨v,e⟩,hve⟩:∃ q,cf (.agg [.int .i64 k,.str c,.int .i64 y,.int .i64 f,.int .i64 t])=q:=⟨_,rfl⟩
     rw [hve] at g3
     simp only at g3
     have e0:carF ls (.agg [.int .i64 k,.str c,.int .i64 y,.int .i64 f,.int .i64 t])=(v,e):=by rw [hcf];exact hve
     simp only [c0,hx,e0,hj1,tk,List.length_map,k_floS_51,carS,on_lp_eq,plan0,go_sem,↓reduceIte,reduceCtorEq,Nat.reduceEqDiff,Nat.reduceLT,Nat.reduceAdd,Nat.reduceLeDiff,Nat.reduceMul]
     refine ⟨⟨by omega,by omega⟩,⟨hls,hll,hIA⟩,fun h9=>?_,fun h9=>?_⟩
     · rw [h9,cond_true] at g3
       rw [<- g3];rfl
     · rw [h9,cond_false] at g3
       exact ⟨rfl,Nat.le_refl _,by omega,by simp only [maxLen];omega,(j+1,es++[v]),⟨by simp only;omega,by simp only [List.length_append,List.length_singleton];omega,g3⟩,by simp only;omega,⟨by simp [fitR,look],by simp [fitH,hget,intV],rfl,rfl,rfl⟩⟩
   · have c0:decide ((j:Int)<(ar.length:Int))=false:=by simp;omega
     rw [List.drop_eq_nil_of_le (by omega),hnil] at g3
     rw [<- g3]
     simp only [c0,tk,List.length_map,k_floS_51,carS,on_lp_eq,plan0,go_sem,↓reduceIte,reduceCtorEq,Nat.reduceEqDiff,Nat.reduceLT,Nat.reduceAdd,Nat.reduceLeDiff,Nat.reduceMul]
     exact Nat.le_refl _
noncomputable def E5 (g:FuncId):PSpec:=(putΦ E4 14 floS) g
theorem hE5:TabSound GG E5:=(hE4.put w_floS)
noncomputable def linsS:PSpec:=on_pl (fun l fl=>(∃ L:Law,l=L.v/\LawS L)/\allI fl/\fl.length<=1000000000) (fun l fl=>.tup [.sl (linesF (lawO l) (fl.map nOf)).1,.int .i64 (linesF (lawO l) (fl.map nOf)).2])
theorem k_linsS_45 {args:List PV}:E5 45 args=validGS args:=rfl
theorem k_linsS_48 {args:List PV}:E5 48 args=planS args:=rfl
theorem k_linsS_71 {args:List PV}:E5 71 args=validMS args:=rfl
theorem w_linsS:PSound GG 30 linsS:=by
 refine PSound.of_wpc (C:=cxP Tryz.prog E5 [] 64) (T:=plan0) Tryz.func30 rfl rfl rfl (Fit.pure (G:=GG) hE5 mixed) (fun args h=>?_)
 unfold linsS at h
 obtain ⟨l,fl0,rfl,hp⟩:=on_pl_inv h
 refine ⟨by simp [cxP],?_⟩
 simp only [linsS,on_pl_eq,Tryz.f30,argL,plan0]
 obtain ⟨⟨⟨fi,ye,tr,la,lb,lc,ld,le,lf,lg⟩,rfl,hS⟩,⟨fl,rfl⟩,hll⟩:=hp
 have hlv:lawO (.agg [.int .i64 fi,.int .i64 ye,.sl tr,.sl la,.sl lb,.sl lc,.sl ld,.sl le,.sl lf,.sl lg])=⟨fi,ye,tr,la,lb,lc,ld,le,lf,lg⟩:=rfl
 have hw:∃ L:Law,.agg [.int .i64 fi,.int .i64 ye,.sl tr,.sl la,.sl lb,.sl lc,.sl ld,.sl le,.sl lf,.sl lg]=L.v/\LawS L:=⟨⟨fi,ye,tr,la,lb,lc,ld,le,lf,lg⟩,rfl,hS⟩
 have hno:(fl.map intV).map nOf=fl:=by simp [List.map_map,Function.comp_def,nOf,intV]
 rw [lawO_v,hno]
 rw [List.length_map] at hll
 unfold linesF
 obtain ⟨V,hV⟩:∃ V,validF ⟨fi,ye,tr,la,lb,lc,ld,le,lf,lg⟩=V:=⟨_,rfl⟩
 rw [hV]
 have hAr:=arcs_arc (fi:=fi) (n:=ye.toNat) hS.tr
 simp only at hAr
 obtain ⟨ar,har⟩:∃ ar,arcsL fi ye.toNat tr=ar:=⟨_,rfl⟩
 rw [har] at hAr ⊢
 simp only [Law.v,lawV,hlv,hV,har,plnV,List.length_map,k_linsS_45,validGS,on_p_eq,k_linsS_48,planS,go_sem,↓reduceIte,reduceCtorEq,Nat.reduceEqDiff,Nat.reduceLT,Nat.reduceAdd,Nat.reduceLeDiff]
 refine ⟨hw,fun h0=>by rw [h0];rfl,fun h0=>?_⟩
 have hV0:V=0:=bne_eq_false_iff_eq.1 h0
 rw [hV0] at hV
 have hP:=okPl_valid hS hV
 have hPl:∃ L:Law,.agg [.int .i64 fi,.int .i64 ye,.sl tr,.sl la,.sl lb,.sl lc,.sl ld,.sl le,.sl lf,.sl lg]=L.v/\okPl L:=⟨⟨fi,ye,tr,la,lb,lc,ld,le,lf,lg⟩,rfl,hP⟩
 obtain ⟨_,hf,hy,ht⟩:=hP
 simp only at hf hy ht
 have hAl:=arcs_len (fi:=fi) (n:=ye.toNat) (tr:=tr) (by omega) ht
 rw [har] at hAl
 rw [h0,cond_false]
 refine ⟨hPl,fun h1=>by rw [h1,cond_true],fun h1=>?_⟩
 rw [h1,cond_false]
 have hlen:fl.length=ar.length:=by
  have:=bne_eq_false_iff_eq.1 h1
  omega
 have hcons:∀ a x r acc,linG ((a,x)::r) acc=bif aKd a != 2 then linG r acc else bif !vldM x then ([],2) else bif x != 0 then linG r (acc++[lnOf a x]) else linG r acc:=fun a x r acc=>rfl
 have hnil:∀ acc,linG [] acc=(acc,0):=fun acc=>rfl
 obtain ⟨lg',hlg⟩:∃ f,linG=f:=⟨_,rfl⟩
 rw [hlg] at hcons hnil ⊢
 clear hPl h1 h0
 refine AWp.adoptS (s:=8) (κ:=8000) (k:=3) (by simp [look]) rfl (by decide) ?_
 refine AWp.loop (T:=plan0) (α:=Nat × List PV) (fun z=>([(1,.pv (.sl (fl.map intV))),(2,.ptr 2 0),(8,.rs 8000 z.2.length),(29,.pv (.sl ar)),(30,.pv (.int .i64 ar.length)),(31,.pv (.int .i64 z.1))],[(8000,.row 3 z.2),(2,.cells [.pv (.int .i64 fi),.pv (.int .i64 ye),.pv (.sl tr),.pv (.sl la),.pv (.sl lb),.pv (.sl lc),.pv (.sl ld),.pv (.sl le),.pv (.sl lf),.pv (.sl lg)])])) (fun z=>z.1<=ar.length/\z.2.length<=z.1/\lg' ((ar.zip fl).drop z.1) z.2=lg' (ar.zip fl) []) (fun z=>ar.length-z.1)
  ⟨(0,[]),⟨Nat.zero_le _,Nat.le_refl _,rfl⟩,⟨by simp [fitR,look,upd],by simp [fitH,hget,hset],rfl,rfl,rfl⟩⟩ ?_
 rintro ⟨j,es⟩ ⟨g1,g2,g3⟩
 simp only at g1 g2 g3
 have hj1:IntKind.i64.wrap ((j:Int)+1)=((j+1:Nat):Int):=by rw [i64_in _ (by omega)];omega
 have tk:es.take es.length=es:=List.take_length
 have hzl:(ar.zip fl).length=ar.length:=by rw [List.length_zip,hlen,Nat.min_self]
 by_cases hlt:j<ar.length
 · have c0:decide ((j:Int)<(ar.length:Int))=true:=by simp;omega
   have hd:(ar.zip fl).drop j=(ar.getD j default,fl.getD j 0)::(ar.zip fl).drop (j+1):=by
    rw [List.drop_eq_getElem_cons (by rw [hzl];exact hlt),List.getElem_zip]
    simp [List.getD_eq_getElem?_getD,hlt,show j<fl.length by omega]
   obtain ⟨k,c,y,f,t,hx,hc⟩:=hAr _ (getD_mem hlt)
   have hxi:=getD_intV (show j<fl.length by omega)
   obtain ⟨v,hv⟩:∃ v,fl.getD j 0=v:=⟨_,rfl⟩
   rw [hv] at hxi hd
   have hki:aKd (.agg [.int .i64 k,.str c,.int .i64 y,.int .i64 f,.int .i64 t])=k:=rfl
   have hlo:lnOf (.agg [.int .i64 k,.str c,.int .i64 y,.int .i64 f,.int .i64 t]) v=.agg [.str c,.int .i64 y,.int .i64 v]:=rfl
   rw [hd,hcons,hx,hki,hlo] at g3
   simp only [c0,hx,hxi,hj1,tk,List.length_map,k_linsS_71,validMS,on_i_eq,plan0,go_sem,↓reduceIte,reduceCtorEq,Nat.reduceEqDiff,Nat.reduceLT,Nat.reduceAdd,Nat.reduceLeDiff,Nat.reduceMul]
   refine ⟨⟨by omega,by omega⟩,fun h1=>⟨(j+1,es),⟨by simp only;omega,by simp only;omega,?_⟩,by simp only;omega,⟨by simp [fitR,look],by simp [fitH,hget],rfl,rfl,rfl⟩⟩,fun h1=>⟨⟨by omega,by omega⟩,fun h2=>?_,fun h2=>⟨⟨by omega,by omega⟩,fun h3=>⟨by kernel_rfl,⟨by omega,by omega⟩,rfl,Nat.le_refl _,by omega,by simp only [maxLen];omega,(j+1,es++[.agg [.str c,.int .i64 y,.int .i64 v]]),⟨by simp only;omega,by simp only [List.length_append,List.length_singleton];omega,?_⟩,by simp only;omega,⟨by simp [fitR,look],by simp [fitH,hget],rfl,rfl,rfl⟩⟩,
    fun h3=>⟨(j+1,es),⟨by simp only;omega,by simp only;omega,?_⟩,by simp only;omega,⟨by simp [fitR,look],by simp [fitH,hget],rfl,rfl,rfl⟩⟩⟩⟩⟩
   · rw [h1,cond_true] at g3;exact g3
   · rw [h1,cond_false,h2,cond_true] at g3;rw [<- g3]
   · rw [h1,cond_false,h2,cond_false,h3,cond_true] at g3;exact g3
   · rw [h1,cond_false,h2,cond_false,h3,cond_false] at g3;exact g3
 · have c0:decide ((j:Int)<(ar.length:Int))=false:=by simp;omega
   rw [List.drop_eq_nil_of_le (by omega),hnil] at g3
   rw [<- g3]
   simp only [c0,tk,List.length_map,k_linsS_71,validMS,plan0,go_sem,↓reduceIte,reduceCtorEq,Nat.reduceEqDiff,Nat.reduceLT,Nat.reduceAdd,Nat.reduceLeDiff,Nat.reduceMul]
   exact Nat.le_refl _
noncomputable def E6 (g:FuncId):PSpec:=(putΦ E5 30 linsS) g
theorem hE6:TabSound GG E6:=(hE5.put w_linsS)
end Go.AM
namespace Go.AM
open Go Go.Proofs Go.IntWalk
attribute [local go_sem] callGc_false callGc_true ev_callG gcallK_b gcallK_w
set_option maxRecDepth 100000
set_option maxHeartbeats 4000000
abbrev IMp:=List (Int × Int)
def imV (m:IMp):List (PV × PV):=m.map fun p=>(.int .i64 p.1,.int .i64 p.2)
def iput (k v:Int):IMp->IMp
 | []=>[(k,v)]
 | p::r=>if k == p.1 then (p.1,v)::r else p::iput k v r
def iget (k:Int):IMp->Int
 | []=>0
 | p::r=>if k == p.1 then p.2 else iget k r
theorem imV_put (k v:Int):∀ m,mput (.int .i64 k) (.int .i64 v) (imV m)=imV (iput k v m)
 | []=>rfl
 | p::r=>by
   have ih:=imV_put k v r
   unfold imV at ih ⊢
   simp only [List.map_cons,mput,iput]
   rw [ih]
   simp only [keyEqB]
   split <;> simp_all
theorem imV_get (k:Int):∀ m,mval (.int .i64 0) (.int .i64 k) (imV m)=.int .i64 (iget k m)
 | []=>rfl
 | p::r=>by
   have ih:=imV_get k r
   unfold mval imV at ih ⊢
   simp only [List.map_cons,mget,iget]
   have e:keyEqB (PV.int IntKind.i64 k) (PV.int IntKind.i64 p.1)=(k == p.1):=rfl
   rw [e]
   by_cases h:(k == p.1)=true
   · rw [if_pos h,if_pos h];rfl
   · rw [if_neg h,if_neg h];exact ih
theorem iget_put (k v a:Int):∀ m,iget a (iput k v m)=if a == k then v else iget a m
 | []=>by simp only [iput,iget]
 | p::r=>by
   have ih:=iget_put k v a r
   simp only [iput]
   split
   · rename_i h
     have h:k=p.1:=by simpa using h
     subst h
     simp only [iget]
     split <;> simp_all
   · rename_i h
     have h:k≠p.1:=by simpa using h
     simp only [iget,ih]
     by_cases e:a=p.1
     · have:a≠k:=fun e2=>h (by rw [<- e2,e])
       simp [e]
       intro e3;exact absurd e3.symm h
     · simp [e]
theorem imV_keys {P:Program} {t:TypeId} (h:∀ a:Int,keyOkB P t (.int .i64 a)=true) (m:IMp):∀ p,p∈imV m->keyOkB P t p.1=true:=by
 intro p hp
 obtain ⟨x,_,rfl⟩:=List.mem_map.1 hp
 exact h _
theorem im_get {m:IMp} {i:Nat} {p:PV × PV} (h:(imV m)[i]?=some p):∃ q:Int × Int,m[i]?=some q/\p=(.int .i64 q.1,.int .i64 q.2):=by
 unfold imV at h
 rw [List.getElem?_map] at h
 obtain ⟨q,h1,h2⟩:=Option.map_eq_some_iff.1 h
 exact ⟨q,h1,h2.symm⟩
theorem iput_keys (k v a:Int):∀ m:IMp,a∈(iput k v m).map Prod.fst↔a=k\/a∈m.map Prod.fst
 | []=>by simp [iput]
 | p::r=>by
   have ih:=iput_keys k v a r
   simp only [iput]
   split
   · rename_i h
     have h:k=p.1:=by simpa using h
     subst h;simp
   · simp only [List.map_cons,List.mem_cons,ih]
     constructor
     · rintro (h | h | h) <;> simp [h]
     · rintro (h | h | h) <;> simp [h]
theorem iput_nodup {k v:Int}:∀ {m:IMp},(m.map Prod.fst).Nodup->((iput k v m).map Prod.fst).Nodup
 | [],_=>by simp [iput]
 | p::r,h=>by
   rw [List.map_cons,List.nodup_cons] at h
   simp only [iput]
   split
   · rename_i h1
     rw [List.map_cons,List.nodup_cons];exact h
   · rename_i h1
     have h1:k≠p.1:=by simpa using h1
     rw [List.map_cons,List.nodup_cons]
     refine ⟨fun hm=>?_,iput_nodup h.2⟩
     rcases (iput_keys k v p.1 r).1 hm with h2 | h2
     · exact h1 h2.symm
     · exact h.1 h2
theorem iget_mem {m:IMp} (h:(m.map Prod.fst).Nodup):∀ {p:Int × Int},p∈m->iget p.1 m=p.2:=by
 induction m with
 | nil=>intro p hp;cases hp
 | cons q r ih=>
   intro p hp
   rw [List.map_cons,List.nodup_cons] at h
   simp only [iget]
   rcases List.mem_cons.1 hp with rfl | hp
   · simp
   · have:(p.1 == q.1)=false:=by
       simp only [beq_eq_false_iff_ne,ne_eq]
       intro e
       exact h.1 (List.mem_map.2 ⟨p,hp,e⟩)
     rw [this]
     exact ih h.2 hp
theorem iget_no {k:Int}:∀ {m:IMp},k∉m.map Prod.fst->iget k m=0
 | [],_=>rfl
 | p::r,h=>by
   simp only [List.map_cons,List.mem_cons,not_or] at h
   have:(k == p.1)=false:=by simpa using h.1
   simp only [iget,this]
   exact iget_no h.2
def isNa (a:PV):Prop:=∃ f t lo hi,a=.agg [.int .i64 f,.int .i64 t,.int .i64 lo,.int .i64 hi]
def insB (pl k:Int):Bool:=decide (0<=k)&&decide (k<pl)
def ttB (k:Int):Bool:=decide (0<=k)&&decide (k<=1000000000000000)
def mtA (pl:Int):PV × Int->Bool
 | (.agg [.int _ f,.int _ t,.int _ lo,.int _ hi],x)=>insB pl f&&insB pl t&&ttB lo&&ttB hi&&!decide (x<lo)&&!decide (hi<x)
 | _=>false
def nFr:PV->Int
 | .agg [.int _ f,_,_,_]=>f
 | _=>0
def nTo:PV->Int
 | .agg [_,.int _ t,_,_]=>t
 | _=>0
def balN (p:Int) (l:List (PV × Int)):Int:=sumL (l.map fun z=>z.2 * (dlt p (nTo z.1)-dlt p (nFr z.1)))
def meetF (pl:Int) (arcs:List PV) (fl:List Int):Bool:=
 (fl.length:Int) == arcs.length&&((arcs.zip fl).all (mtA pl)&&(arcs.zip fl).all (fun z=>IntKind.i64.wrap (balN (nFr z.1) (arcs.zip fl)) == 0&&IntKind.i64.wrap (balN (nTo z.1) (arcs.zip fl)) == 0))
theorem balN_snoc (p:Int) (l:List (PV × Int)) (z:PV × Int):balN p (l++[z])=balN p l+z.2 * (dlt p (nTo z.1)-dlt p (nFr z.1)):=by
 unfold balN
 rw [List.map_append,sumL_append]
 simp [sumL]
theorem wrap_eq (n:Int):∃ q:Int,IntKind.i64.wrap n=n+18446744073709551616 * q/\ -9223372036854775808<=IntKind.i64.wrap n/\IntKind.i64.wrap n<9223372036854775808:=by
 have e:IntKind.i64.wrap n=if n % 18446744073709551616>=9223372036854775808 then n % 18446744073709551616-18446744073709551616 else n % 18446744073709551616:=by
  simp [IntKind.wrap,IntKind.bits,IntKind.signed]
 have h1:=Int.emod_add_mul_ediv n 18446744073709551616
 have h2:=Int.emod_nonneg n (show (18446744073709551616:Int)≠0 by decide)
 have h3:=Int.emod_lt_of_pos n (show (0:Int)<18446744073709551616 by decide)
 rw [e]
 split
 · exact ⟨-(n / 18446744073709551616)-1,by omega,by omega,by omega⟩
 · exact ⟨-(n / 18446744073709551616),by omega,by omega,by omega⟩
theorem wrap_congr {a b q:Int} (h:a=b+18446744073709551616 * q):IntKind.i64.wrap a=IntKind.i64.wrap b:=by
 obtain ⟨qa,h1,h2,h3⟩:=wrap_eq a
 obtain ⟨qb,h4,h5,h6⟩:=wrap_eq b
 omega
theorem wrap_sub (a b:Int):IntKind.i64.wrap (IntKind.i64.wrap a-b)=IntKind.i64.wrap (a-b):=by
 obtain ⟨q,h1,_⟩:=wrap_eq a
 exact wrap_congr (q:=q) (by omega)
theorem wrap_add (a b:Int):IntKind.i64.wrap (IntKind.i64.wrap a+b)=IntKind.i64.wrap (a+b):=by
 obtain ⟨q,h1,_⟩:=wrap_eq a
 exact wrap_congr (q:=q) (by omega)
theorem wrap_sub' (a b:Int):IntKind.i64.wrap (IntKind.i64.wrap (IntKind.i64.wrap a-b)+b)=IntKind.i64.wrap a:=by
 obtain ⟨q,h1,_⟩:=wrap_eq a
 obtain ⟨q2,h2,_⟩:=wrap_eq (IntKind.i64.wrap a-b)
 exact wrap_congr (q:=q+q2) (by omega)
def on_ip (p:Int->PV->Prop) (f:Int->PV->PV):PSpec
 | [.int .i64 a0,a1]=>(p a0 a1,f a0 a1)
 | _=>(False,default)
theorem on_ip_eq {p:Int->PV->Prop} {f:Int->PV->PV} {a0:Int} {a1:PV}:on_ip p f [.int .i64 a0,a1]=(p a0 a1,f a0 a1):=rfl
theorem on_ip_inv {p:Int->PV->Prop} {f:Int->PV->PV} {args:List PV} (h:(on_ip p f args).1):∃ a0:Int,∃ a1:PV,args=[.int .i64 a0,a1]/\p a0 a1:=by
 unfold on_ip at h
 split at h
 · exact ⟨_,_,rfl,h⟩
 · exact h.elim
noncomputable def insS:PSpec:=on_ip (fun _ c=>∃ pl arcs,c=.pp (.agg [.int .i64 pl,.sl arcs]) 0) (fun k c=>match c with
 | .pp (.agg [.int _ pl,_]) _=>.bool (insB pl k)
 | _=>default)
theorem w_insS:PSound GG 52 insS:=by
 refine PSound.of_wpc (C:=cxP Tryz.prog E6 [] 12) (T:=plan0) Tryz.func52 rfl rfl rfl (Fit.pure (G:=GG) hE6 mixed) (fun args h=>?_)
 unfold insS at h
 obtain ⟨k,c,rfl,hp⟩:=on_ip_inv h
 refine ⟨by simp [cxP],?_⟩
 simp only [insS,on_ip_eq,Tryz.f52,argL,plan0]
 obtain ⟨pl,arcs,rfl⟩:=hp
 simp only [insB,go_sem,↓reduceIte,reduceCtorEq,Nat.reduceEqDiff,Nat.reduceLT,Nat.reduceAdd,Nat.reduceLeDiff]
noncomputable def ttS:PSpec:=on_i (fun _=>True) (fun k=>.bool (ttB k))
theorem w_ttS:PSound GG 53 ttS:=by
 refine PSound.of_wpc (C:=cxP Tryz.prog E6 [] 9) (T:=plan0) Tryz.func53 rfl rfl rfl (Fit.pure (G:=GG) hE6 mixed) (fun args h=>?_)
 unfold ttS at h
 obtain ⟨k,rfl,hp⟩:=on_i_inv h
 refine ⟨by simp [cxP],?_⟩
 simp only [ttS,on_i_eq,Tryz.f53,argL,plan0]
 simp only [ttB,go_sem,↓reduceIte,reduceCtorEq,Nat.reduceEqDiff,Nat.reduceLT]
noncomputable def E7 (g:FuncId):PSpec:=(putΦ (putΦ E6 52 insS) 53 ttS) g
theorem hE7:TabSound GG E7:=((hE6.put w_insS).put w_ttS)
theorem keyI {a:Int}:keyOkB Tryz.prog 3 (.int .i64 a)=true:=by kernel_rfl
def meetN:PV->List Int->Bool
 | .agg [.int _ pl,.sl ar],fl=>meetF pl ar fl
 | _,_=>false
structure okI (pl:Int) (zs:List (PV × Int)) (i:Nat) (M:IMp):Prop where
 nd:(M.map Prod.fst).Nodup
 bal:∀ p,iget p M=IntKind.i64.wrap (balN p (zs.take i))
 key:∀ p,p∈M.map Prod.fst->∃ z,z∈zs.take i/\(p=nFr z.1\/p=nTo z.1)
 all:(zs.take i).all (mtA pl)=true
theorem okI.zero (pl:Int) (zs:List (PV × Int)):okI pl zs 0 []:=⟨by simp,fun p=>by simp [iget,balN,sumL];rfl,fun p hp=>by simp at hp,by simp⟩
def stp (M:IMp) (f t x:Int):IMp:=iput t (IntKind.i64.wrap (iget t (iput f (IntKind.i64.wrap (iget f M-x)) M)+x)) (iput f (IntKind.i64.wrap (iget f M-x)) M)
theorem okI.step {pl:Int} {zs:List (PV × Int)} {i:Nat} {M:IMp} (h:okI pl zs i M) {z:PV × Int} (hz:zs[i]?=some z) (hm:mtA pl z=true):okI pl zs (i+1) (stp M (nFr z.1) (nTo z.1) z.2):=by
 have ht:zs.take (i+1)=zs.take i++[z]:=by rw [List.take_add_one,hz];rfl
 refine ⟨iput_nodup (iput_nodup h.nd),fun p=>?_,fun p hp=>?_,by rw [ht,List.all_append,h.all];simpa using hm⟩
 · unfold stp
   rw [ht,balN_snoc,iget_put,iget_put,iget_put,h.bal,h.bal,h.bal]
   unfold dlt
   generalize nFr z.1=f
   generalize nTo z.1=t
   generalize z.2=x
   by_cases h1:p=t
   · subst h1
     by_cases h2:p=f
     · subst h2
       simp only [beq_self_eq_true,if_true]
       rw [wrap_sub',Int.sub_self,Int.mul_zero,Int.add_zero]
     · have e1:(p == f)=false:=by simpa using h2
       have e2:(if f=p then (1:Int) else 0)=0:=if_neg (fun e=>h2 e.symm)
       simp only [beq_self_eq_true,if_true,e1,e2,Bool.false_eq_true,if_false]
       rw [wrap_add]
       congr 1;omega
   · have e0:(p == t)=false:=by simpa using h1
     have e3:(if t=p then (1:Int) else 0)=0:=if_neg (fun e=>h1 e.symm)
     simp only [e0,e3,Bool.false_eq_true,if_false]
     by_cases h2:p=f
     · subst h2
       simp only [beq_self_eq_true,if_true]
       rw [wrap_sub]
       congr 1;omega
     · have e1:(p == f)=false:=by simpa using h2
       have e2:(if f=p then (1:Int) else 0)=0:=if_neg (fun e=>h2 e.symm)
       simp only [e1,e2,Bool.false_eq_true,if_false]
       congr 1;omega
 · unfold stp at hp
   rw [ht]
   rcases (iput_keys _ _ p _).1 hp with e | hp
   · exact ⟨z,by simp,.inr e⟩
   · rcases (iput_keys _ _ p _).1 hp with e | hp
     · exact ⟨z,by simp,.inl e⟩
     · obtain ⟨y,hy,e⟩:=h.key p hp
       exact ⟨y,List.mem_append_left _ hy,e⟩
def plF5:Plan:={ keep:=fun _=>none,cut:=fun _=>false,stop:=fun i=>i == 14 }
noncomputable def meetS:PSpec:=on_pl (fun n fl=>(∃ pl ar,n=.agg [.int .i64 pl,.sl ar]/\(∀ a,a∈ar->isNa a)/\ar.length<=1000000000)/\allI fl/\fl.length<=1000000000) (fun n fl=>.bool (meetN n (fl.map nOf)))
theorem w_meetS:PSound GG 15 meetS:=by
 refine PSound.of_wpc (C:=cxP Tryz.prog E7 [] 99) (T:=plF5) Tryz.func15 rfl rfl rfl (Fit.pure (G:=GG) hE7 mixed) (fun args h=>?_)
 unfold meetS at h
 obtain ⟨n,fl0,rfl,⟨pl,ar,rfl,hAr,hAl⟩,⟨fl,rfl⟩,hfl⟩:=on_pl_inv h
 refine ⟨by simp [cxP],?_⟩
 have hno:(fl.map intV).map nOf=fl:=by simp [List.map_map,Function.comp_def,nOf,intV]
 rw [List.length_map] at hfl
 have hm:meetN (.agg [.int .i64 pl,.sl ar]) fl=meetF pl ar fl:=rfl
 have kI:∀ args,E7 52 args=insS args:=fun _=>rfl
 have kT:∀ args,E7 53 args=ttS args:=fun _=>rfl
 simp only [meetS,on_pl_eq,hno,hm,makeFuncA,pvL,List.length_map,Tryz.f15,argL,plF5,go_sem,↓reduceIte,reduceCtorEq,Nat.reduceEqDiff,Nat.reduceLT,Nat.reduceAdd,Nat.reduceLeDiff]
 unfold meetF
 refine ⟨fun h0=>?_,fun h0=>?_⟩
 · have:((fl.length:Int) == ar.length)=false:=by simpa using h0
   rw [this];rfl
 have hlen:fl.length=ar.length:=by
  have:=bne_eq_false_iff_eq.1 h0
  omega
 have e0:((fl.length:Int) == ar.length)=true:=by simp;omega
 rw [e0,Bool.true_and]
 clear h0
 obtain ⟨zs,hzs⟩:∃ zs,ar.zip fl=zs:=⟨_,rfl⟩
 rw [hzs]
 have hzl:zs.length=ar.length:=by rw [<- hzs,List.length_zip,hlen,Nat.min_self]
 refine AWp.loop (T:=plF5) (α:=Nat × IMp) (fun z=>([(1,.pv (.sl (fl.map intV))),(2,.ptr 2 0),(4,.pv (.bool false)),(5,.clo 52 [.ptr 2 0]),(6,.pv (.fn 53 [])),(7,.mp 19),(21,.pv (.sl ar)),(22,.pv (.int .i64 ar.length)),(23,.pv (.int .i64 z.1))],[(2,.cells [.pv (.int .i64 pl),.pv (.sl ar)]),(19,.map (imV z.2))]))
  (fun z=>z.1<=ar.length/\okI pl zs z.1 z.2) (fun z=>ar.length-z.1)
  ⟨(0,[]),⟨Nat.zero_le _,okI.zero pl zs⟩,⟨by simp [fitR,look],by simp [fitH,hget,imV],rfl,rfl,rfl⟩⟩ ?_
 rintro ⟨i,M⟩ ⟨g1,g2⟩
 simp only at g1 g2
 have hi1:IntKind.i64.wrap ((i:Int)+1)=((i+1:Nat):Int):=by rw [i64_in _ (by omega)];omega
 by_cases hlt:i<ar.length
 · have c0:decide ((i:Int)<(ar.length:Int))=true:=by simp;omega
   obtain ⟨f,t,lo,hi,hx⟩:=hAr _ (getD_mem hlt)
   have hxi:=getD_intV (show i<fl.length by omega)
   obtain ⟨x,hv⟩:∃ v,fl.getD i 0=v:=⟨_,rfl⟩
   rw [hv] at hxi
   have hz:zs[i]?=some (.agg [.int .i64 f,.int .i64 t,.int .i64 lo,.int .i64 hi],x):=by
    rw [List.getD_eq_getElem?_getD,List.getElem?_eq_getElem hlt] at hx
    rw [List.getD_eq_getElem?_getD,List.getElem?_eq_getElem (show i<fl.length by omega)] at hv
    simp only [Option.getD_some] at hx hv
    rw [<- hzs]
    exact List.getElem?_zip_eq_some.2 ⟨by rw [List.getElem?_eq_getElem hlt,hx],by rw [List.getElem?_eq_getElem (show i<fl.length by omega),hv]⟩
   have sk:=fun m=>imV_keys (P:=Tryz.prog) (t:=3) (fun a=>keyI) m
   simp (config:={maxSteps:=1000000}) only [c0,hx,hxi,hi1,kI,kT,insS,ttS,on_ip_eq,on_i_eq,imV_get,imV_put,callTGK,ev_callTG,ev_callT,callTK,callP_clo,boxP,List.cons_append,List.nil_append,List.length_map,List.take_succ_cons,List.take_nil,plF5,go_sem,↓reduceIte,reduceCtorEq,Nat.reduceEqDiff,Nat.reduceLT,Nat.reduceAdd,Nat.reduceLeDiff]
   have hmt:mtA pl (.agg [.int .i64 f,.int .i64 t,.int .i64 lo,.int .i64 hi],x)= !(!insB pl f||!insB pl t||!ttB lo||!ttB hi||decide (x<lo)||decide (hi<x)):=by
    simp only [mtA,Bool.not_or,Bool.not_not]
   refine ⟨⟨by omega,by omega⟩,by kernel_rfl,⟨(fun z hz=>by (simp only [List.mem_cons,List.not_mem_nil,or_false] at hz;rcases hz with rfl | rfl <;> exact ⟨rfl,trivial⟩)),pl,ar,rfl⟩,fun _=>⟨(fun z hz=>by (simp only [List.mem_cons,List.not_mem_nil,or_false] at hz;rcases hz with rfl | rfl <;> exact ⟨rfl,trivial⟩)),pl,ar,rfl⟩,fun h=>by simpa using h,fun _=>⟨by omega,by omega⟩,fun _=>⟨by omega,by omega⟩,fun h9=>?_,
    fun h9=>⟨by kernel_rfl,sk _,⟨by omega,by omega⟩,sk _,by kernel_rfl,sk _,⟨by omega,by omega⟩,sk _,(i+1,stp M f t x),⟨by simp only;omega,g2.step hz (by rw [hmt,h9];rfl)⟩,by simp only;omega,⟨by simp [fitR,look],by simp [fitH,hget,stp],rfl,rfl,rfl⟩⟩⟩
   rw [h9] at hmt
   have:zs.all (mtA pl)=false:=List.all_eq_false.2 ⟨_,List.mem_of_getElem? hz,by rw [hmt];simp⟩
   rw [this];rfl
 · have c0:decide ((i:Int)<(ar.length:Int))=false:=by simp;omega
   simp (config:={maxSteps:=1000000}) only [c0,plF5,go_sem,↓reduceIte,reduceCtorEq,Nat.reduceEqDiff,Nat.reduceLT,Nat.reduceAdd,Nat.reduceLeDiff]
   have hi:i=zs.length:=by omega
   subst hi
   have hall:=g2.all
   have hbal:=g2.bal
   have hkey:=g2.key
   rw [List.take_length] at hall
   simp only [List.take_length] at hbal hkey
   rw [hall,Bool.true_and]
   have hnd:=g2.nd
   clear g1 g2 hi1 hlt c0
   obtain ⟨res,hres⟩:∃ r,(zs.all fun z=>IntKind.i64.wrap (balN (nFr z.1) zs) == 0&&IntKind.i64.wrap (balN (nTo z.1) zs) == 0)=r:=⟨_,rfl⟩
   rw [hres]
   have hbad:∀ q,q∈M->q.2≠0->res=false:=by
    intro q hq h0
    have e:=iget_mem hnd hq
    rw [hbal] at e
    obtain ⟨z,hz,hp⟩:=hkey q.1 (List.mem_map.2 ⟨q,hq,rfl⟩)
    rw [<- hres]
    refine List.all_eq_false.2 ⟨z,hz,?_⟩
    rcases hp with hp | hp
    · rw [<- hp,e];simp [h0]
    · rw [<- hp,e];simp [h0]
   have hgood:(∀ q,q∈M->q.2=0)->res=true:=by
    intro h0
    have hz:∀ p,IntKind.i64.wrap (balN p zs)=0:=by
     intro p
     rw [<- hbal]
     by_cases hp:p∈M.map Prod.fst
     · obtain ⟨q,hq,rfl⟩:=List.mem_map.1 hp
       rw [iget_mem hnd hq];exact h0 q hq
     · exact iget_no hp
    rw [<- hres,List.all_eq_true]
    intro z _
    rw [hz,hz];rfl
   refine AWp.mapRangeV 19 (imV M) (fun χ=>([(4,.pv (.bool false))],[])) (res=false) ([(4,.pv (.bool false))],[]) (fun χ=>∀ i q,M[i]?=some q->χ i=true->q.2=0) (fun i q _ h=>by cases h)
    (hout:=rfl) (hpin:=fun κ hκ=>by simp [cxP] at hκ) (hops:=⟨⟨rfl,rfl,rfl⟩,⟨rfl,rfl,rfl⟩,⟨rfl,rfl,rfl⟩,⟨rfl,rfl,rfl⟩,⟨rfl,rfl,rfl⟩,⟨rfl,rfl,rfl⟩,⟨rfl,rfl,rfl⟩⟩) (hne:=by decide) (hlt:=by decide)
    (hm:=by simp [look]) (hH:=by simp [hget]) (ht:=Tryz.underlying112) (h0:=by simp [fitR,look]) (h0H:=?_) (hok:=fun χ=>?_) (hbody:=fun x χ i p hp hχ hP=>?_) (hokJ:=fun hJ=>?_) (hend:=fun χ hP hall=>?_)
   · exact trivial
   · refine ⟨rfl,rfl,rfl,fun s=>?_,rfl,fun y hy=>?_⟩
     · unfold look
       split <;> rfl
     · simp only [List.mem_cons,List.not_mem_nil,or_false] at hy
       rcases hy with rfl | rfl | rfl | rfl | rfl | rfl | rfl <;> rfl
   · refine wpc_sound (T:=plan0) _ _ _ ?_
     show wpc (cxP Tryz.prog E7 [] 99) _ _ _ _
     obtain ⟨q,hq,rfl⟩:=im_get hp
     simp only [plan0,go_sem,↓reduceIte,Nat.reduceLT]
     refine ⟨fun h9=>⟨hbad q (List.mem_of_getElem? hq) (by simpa using h9),⟨by simp [fitR,look],trivial,rfl,rfl,rfl⟩⟩,fun h9=>⟨fun i2 q2 h1 h2=>?_,⟨by simp [fitR,look],trivial,rfl,rfl,rfl⟩⟩⟩
     unfold setχ at h2
     by_cases e:i2=i
     · subst e
       rw [hq] at h1
       cases h1
       simpa using h9
     · have e2:(i2 == i)=false:=by simpa using e
       rw [e2,Bool.or_false] at h2
       exact hP i2 q2 h1 h2
   · refine ⟨rfl,fun s=>by (unfold look;split <;> rfl),rfl,?_⟩
     show Fin (cxP Tryz.prog E7 [] 99) [ResultVar.tmp 4] (.bool res) AX.ret _
     rw [hJ]
     simp only [go_sem,↓reduceIte]
   · have hr:res=true:=hgood (fun q hq=>by
       obtain ⟨i2,h2⟩:=List.mem_iff_getElem?.1 hq
       exact hP i2 q h2 (hall i2 (by unfold imV;rw [List.length_map];exact (List.getElem?_eq_some_iff.1 h2).1)))
     rw [hr]
     simp only [go_sem,↓reduceIte,Nat.reduceEqDiff,Nat.reduceLT]
noncomputable def E8 (g:FuncId):PSpec:=(putΦ E7 15 meetS) g
theorem hE8:TabSound GG E8:=(hE7.put w_meetS)
end Go.AM
