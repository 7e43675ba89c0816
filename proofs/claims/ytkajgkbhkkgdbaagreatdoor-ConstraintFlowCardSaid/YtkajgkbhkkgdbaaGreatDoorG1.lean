/-
  A part of a proof.
-/
import Derived.Test.YtkajgkbhkkgdbaaGreatDoorFC
set_option linter.unusedSimpArgs false
set_option linter.unusedVariables false
namespace Go.AM
open Go Go.Proofs Go.IntWalk
attribute [local go_sem] callGc_false callGc_true ev_callG gcallK_b gcallK_w
set_option maxRecDepth 100000
set_option maxHeartbeats 1000000
noncomputable def lnsS:PSpec:=on_ll (fun a b=>a=b/\(∀ x,x∈a->isL3 x)/\a.length<=1000000000) (fun _ _=>.bool true)
theorem w_lnsS:PSound GG 32 lnsS:=by
 refine PSound.of_wpc (C:=cxP Tryz.prog E8 [] 26) (T:=plan0) Tryz.func32 rfl rfl rfl (Fit.pure (G:=GG) hE8 mixed) (fun args h=>?_)
 unfold lnsS at h
 obtain ⟨l,l2,rfl,hp⟩:=on_ll_inv h
 refine ⟨by simp [cxP],?_⟩
 simp only [lnsS,on_ll_eq,Tryz.f32,argL,plan0]
 obtain ⟨rfl,hl,hn⟩:=hp
 simp only [bne_self_eq_false,go_sem,↓reduceIte,reduceCtorEq,Nat.reduceEqDiff,Nat.reduceLT]
 refine AWp.loop (T:=plan0) (α:=Nat) (fun i=>([(0,.pv (.sl l)),(1,.pv (.sl l)),(12,.pv (.int .i64 l.length)),(13,.pv (.int .i64 i))],[])) (fun i=>i<=l.length) (fun i=>l.length-i)
  ⟨0,Nat.zero_le _,⟨by simp [fitR,look],trivial,rfl,rfl,rfl⟩⟩ ?_
 rintro i h1
 have hi1:IntKind.i64.wrap ((i:Int)+1)=((i+1:Nat):Int):=by rw [i64_in _ (by omega)];omega
 by_cases hlt:i<l.length
 · have c0:decide ((i:Int)<(l.length:Int))=true:=by simp;omega
   obtain ⟨c,y,m,hx,hc⟩:=hl _ (getD_mem hlt)
   simp only [c0,hx,hi1,List.take_succ_cons,List.take_nil,plan0,go_sem,↓reduceIte,reduceCtorEq,Nat.reduceEqDiff,Nat.reduceLT,Nat.reduceAdd,Nat.reduceLeDiff]
   have hk:keyEqL [PV.str c,.int .i64 y,.int .i64 m] [PV.str c,.int .i64 y,.int .i64 m]=true:=by simp [keyEqL,keyEq1]
   exact ⟨by kernel_rfl,⟨by omega,by omega⟩,⟨by omega,by omega⟩,by kernel_rfl,fun h9=>by (rw [hk] at h9;cases h9),fun _=>⟨i+1,by omega,by omega,⟨by simp [fitR,look],trivial,rfl,rfl,rfl⟩⟩⟩
 · have c0:decide ((i:Int)<(l.length:Int))=false:=by simp;omega
   simp only [c0,plan0,go_sem,↓reduceIte,reduceCtorEq,Nat.reduceEqDiff,Nat.reduceLT]
noncomputable def E9 (g:FuncId):PSpec:=(putΦ E8 32 lnsS) g
theorem hE9:TabSound GG E9:=(hE8.put w_lnsS)
def nzB (x:PV):Bool:=!(amF x == 0)
def freL (L:Law):Law:=⟨L.first,L.years,L.tree,L.a.filter nzB,[],[],L.d,L.e,L.f,L.g⟩
theorem freL_G {L:Law} (h:LawG L):LawG (freL L):=by
 have hv:=valid_less h.s h.v nzB (fun _=>false) (fun _=>false)
 have e:∀ l:List PV,l.filter (fun _=>false)=[]:=fun l=>List.filter_eq_nil_iff.2 (fun _ _=>by simp)
 rw [e,e] at hv
 exact LawG.of ⟨h.s.tr,h.s.tl,fun x hx=>h.s.a x (List.mem_filter.1 hx).1,Nat.le_trans (List.length_filter_le _ _) h.s.al,fun x hx=>(by cases hx),Nat.zero_le _,fun x hx=>(by cases hx),Nat.zero_le _,h.s.d,h.s.dl,h.s.e,h.s.el,h.s.f,h.s.fl,h.s.g,h.s.gl⟩ hv
  (fun x hx=>hx.elim (fun hx=>h.y x (.inl (List.mem_filter.1 hx).1)) (fun hx=>hx.elim (fun hx=>by cases hx) (fun hx=>by cases hx)))
theorem nz_W {L:Law} (h:LawG L):LnW L (L.a.filter nzB) where
 mem:=fun x hx=>(List.mem_filter.1 hx).1
 len:=Nat.le_trans (List.length_filter_le _ _) h.limit.1
 ord:=h.lines.2.filter _
 nz:=fun c y hx=>by
  have h9:=(List.mem_filter.1 hx).2
  have h8:nzB (PV.agg [.str c,.int .i64 y,.int .i64 0])=false:=rfl
  rw [h8] at h9;cases h9
def plG1:Plan:={ keep:=fun _=>none,cut:=fun _=>false,stop:=fun i=>i == 2 }
def plG2:Plan:={ keep:=fun _=>none,cut:=fun _=>false,stop:=fun i=>i == 13 }
noncomputable def exFS:PSpec:=on_l (fun es=>es.length<=9223372036854775807/\∀ e,e∈es->isI e) (fun _=>.bool true)
theorem k_exF_12 {args:List PV}:E9 12 args=awake7S args:=rfl
theorem k_exF_13 {args:List PV}:E9 13 args=net0S args:=rfl
theorem k_exF_14 {args:List PV}:E9 14 args=floS args:=rfl
theorem k_exF_15 {args:List PV}:E9 15 args=meetS args:=rfl
theorem k_exF_30 {args:List PV}:E9 30 args=linsS args:=rfl
theorem k_exF_32 {args:List PV}:E9 32 args=lnsS args:=rfl
theorem w_exFS:PSound GG 6 exFS:=by
 refine PSound.of_wpc (C:=cxQ Tryz.prog E9 ΘL Ψ1 [] [] 150) (T:=plG1) Tryz.func6 rfl rfl rfl (Fit.all (G:=GG) hE9 hΘL hΨ1 mixed) (fun args h=>?_)
 unfold exFS at h
 obtain ⟨es0,rfl,he1,he2⟩:=on_l_inv h
 have tk:∀ l:List PV,l.take l.length=l:=fun l=>List.take_length
 refine ⟨by simp [cxQ],?_⟩
 simp (config:={maxSteps:=1000000}) only [exFS,on_l_eq,ΘL,Θ9,ΘY,Θ8,Θ7,Θ6,Θ5,Θ4,Θ3,Θ2,Θ1,Ψ1,newS,preT_eq9,psiNew_eq,Nat.reduceBEq,plG1,Nat.reduceBEq,Nat.reduceBEq,Tryz.f6,argL,go_sem,↓reduceIte,reduceCtorEq,Nat.reduceEqDiff,Nat.reduceLT]
 refine ⟨⟨he1,he2⟩,?_⟩
 refine AWp.here (T:=plG2) (α:=Unit) (fun _=>([(2,.pv (.bool false)),(3,.ptr 23 0)],[(23,.obj Tp)])) (fun _=>True) ⟨(),trivial,⟨by simp [fitR,look],by simp [fitH,hget],rfl,rfl,rfl⟩⟩ ?_
 intro _ _
 simp (config:={maxSteps:=1000000}) only [ΘL,Ψ1,preNo_eq9,okLM,ne_eq,not_false_eq_true,Nat.reduceBEq,plG2,Nat.reduceBEq,go_sem,↓reduceIte,reduceCtorEq,Nat.reduceEqDiff,Nat.reduceLT,↓all_qVz,Nat.reduceAdd,Nat.reduceLeDiff]
 intro L hL
 obtain ⟨hS,hV,hY⟩:LawS L/\validF L=0/\yrsO L:=hL
 rw [Stop_eq]
 have hG:=LawG.of hS hV hY
 have hls:=hG.lines.1
 have hlim:=hG.limit.1
 obtain ⟨⟨fi,ye,tr,la,lb,lc,ld,le,lf,lg⟩,hLe⟩:∃ L':Law,L=L':=⟨_,rfl⟩
 subst hLe
 have hlv:lawO (.agg [.int .i64 fi,.int .i64 ye,.sl tr,.sl la,.sl lb,.sl lc,.sl ld,.sl le,.sl lf,.sl lg])=⟨fi,ye,tr,la,lb,lc,ld,le,lf,lg⟩:=rfl
 have hw:∃ L:Law,PV.agg [.int .i64 fi,.int .i64 ye,.sl tr,.sl la,.sl lb,.sl lc,.sl ld,.sl le,.sl lf,.sl lg]=L.v/\LawS L:=⟨⟨fi,ye,tr,la,lb,lc,ld,le,lf,lg⟩,rfl,hS⟩
 have z0:((0:Int) != 0)=false:=rfl
 have ha:=hS.a
 simp only at ha hls hlim
 simp (config:={maxSteps:=1000000}) only [Law.v,lawV,ne_eq,not_false_eq_true,Nat.reduceBEq,Nat.reduceBEq,go_sem,↓reduceIte,reduceCtorEq,Nat.reduceEqDiff,Nat.reduceLT,Nat.reduceAdd,Nat.reduceLeDiff]
 refine AWp.adoptS (s:=7) (κ:=8007) (k:=3) (by simp [look]) rfl (by decide) ?_
 refine AWp.adoptS (s:=6) (κ:=8006) (k:=3) (by simp [look,upd]) rfl (by decide) ?_
 refine AWp.adoptS (s:=5) (κ:=8005) (k:=3) (by simp [look,upd]) rfl (by decide) ?_
 refine AWp.loop (T:=plG2) (α:=Nat × List PV × List PV) (fun z=>([(2,.pv (.bool false)),(3,.ptr 23 0),(4,.ptr 4 0),(5,.rs 8005 z.2.1.length),(6,.rs 8006 z.2.2.length),(7,.rs 8007 ((la.take z.1).filter nzB).length),(27,.pv (.sl la)),(28,.pv (.int .i64 la.length)),(29,.pv (.int .i64 z.1))],
  [(8005,.row 3 z.2.1),(8006,.row 3 z.2.2),(8007,.row 3 ((la.take z.1).filter nzB)),(4,.cells [.pv (.int .i64 fi),.pv (.int .i64 ye),.pv (.sl tr),.pv (.sl la),.pv (.sl lb),.pv (.sl lc),.pv (.sl ld),.pv (.sl le),.pv (.sl lf),.pv (.sl lg)]),(23,.obj Tp)]))
  (fun z=>z.1<=la.length/\(z.2.1.length<=z.1/\z.2.2.length<=z.1)/\(∀ x,x∈z.2.1->x∈la)/\(∀ x,x∈z.2.2->x∈la)/\∀ a,fwA z.2.1 a+fwA z.2.2 a=fwA ((la.take z.1).filter nzB) a) (fun z=>la.length-z.1)
  ⟨(0,[],[]),⟨Nat.zero_le _,⟨Nat.zero_le _,Nat.zero_le _⟩,fun x hx=>(by cases hx),fun x hx=>(by cases hx),fun a=>rfl⟩,⟨by simp [fitR,look,upd],by simp [fitH,hget,hset],rfl,rfl,rfl⟩⟩ ?_
 rintro ⟨i,so,re⟩ ⟨g1,⟨g2,g3⟩,g4,g5,g6⟩
 simp only at g1 g2 g3 g4 g5 g6
 have hi1:IntKind.i64.wrap ((i:Int)+1)=((i+1:Nat):Int):=by rw [i64_in _ (by omega)];omega
 obtain ⟨wh,hwh⟩:∃ w,(la.take i).filter nzB=w:=⟨_,rfl⟩
 have hwl:wh.length<=i:=by rw [<- hwh];exact Nat.le_trans (List.length_filter_le _ _) (by rw [List.length_take];omega)
 rw [hwh] at g6
 simp only [hwh]
 by_cases hlt:i<la.length
 · have c0:decide ((i:Int)<(la.length:Int))=true:=by simp;omega
   have hm:=getD_mem hlt
   obtain ⟨c,y,m,hx,hc⟩:=ha _ hm
   rw [hx] at hm
   have hstep:(la.take (i+1)).filter nzB=wh++(if m=0 then [] else [.agg [.str c,.int .i64 y,.int .i64 m]]):=by
    rw [take_succ_getD hlt,hx,List.filter_append,hwh]
    congr 1
    by_cases h9:m=0
    · subst h9;rw [if_pos rfl];rfl
    · rw [if_neg h9,List.filter_cons_of_pos (by simp [nzB,amF,h9])];rfl
   simp (config:={maxSteps:=1000000}) only [c0,hx,hi1,tk,ΘL,Θ9,ΘY,Θ8,Θ7,Θ6,Θ5,Θ4,Θ3,Θ2,Θ1,Ψ1,preN_eq,okN,arg1,ne_eq,not_false_eq_true,intV,Nat.reduceBEq,List.take_succ_cons,List.take_nil,plG2,Nat.reduceBEq,go_sem,↓reduceIte,reduceCtorEq,Nat.reduceEqDiff,Nat.reduceLT,↓all_qVz,Int.reduceLE,Nat.reduceAdd,Nat.reduceLeDiff,Nat.reduceMul]
   refine ⟨⟨by omega,by omega⟩,fun h0=>?_,fun h0=>⟨hc3b,rfl,fun e he=>(by (rw [List.mem_singleton] at he;subst he;rfl)),Nat.le_refl _,by omega,by simp only [maxLen];omega,fun n hn=>?_⟩⟩
   · have e1:(la.take (i+1)).filter nzB=wh:=by rw [hstep,if_pos (eq_of_beq h0),List.append_nil]
     exact ⟨(i+1,so,re),⟨by simp only;omega,⟨by simp only;omega,by simp only;omega⟩,g4,g5,by simp only;rw [e1];exact g6⟩,by simp only;omega,⟨by simp [fitR,look,e1],by simp [fitH,hget,e1],rfl,rfl,rfl⟩⟩
   have e1:(la.take (i+1)).filter nzB=wh++[.agg [.str c,.int .i64 y,.int .i64 m]]:=by rw [hstep,if_neg (by simpa using h0)]
   rw [Stop_eq]
   simp (config:={maxSteps:=1000000}) only [hi1,tk,List.take_succ_cons,List.take_nil,go_sem,↓reduceIte,reduceCtorEq,Nat.reduceEqDiff,Nat.reduceLT,Nat.reduceAdd,Nat.reduceLeDiff,Nat.reduceMul]
   refine ⟨fun h1=>⟨hc3b,rfl,fun e he=>(by (rw [List.mem_singleton] at he;subst he;rfl)),Nat.le_refl _,by omega,by simp only [maxLen];omega,(i+1,so++[.agg [.str c,.int .i64 y,.int .i64 m]],re),⟨by simp only;omega,⟨by simp only [List.length_append,List.length_singleton];omega,by simp only;omega⟩,fun z hz=>(List.mem_append.1 hz).elim (g4 z) (fun h=>(by (rw [List.mem_singleton] at h;subst h;exact hm))),g5,fun a=>(by (simp only;rw [e1,fwA_two,fwA_two,<- g6];omega))⟩,by simp only;omega,⟨by simp [fitR,look,e1],by simp [fitH,hget,e1],rfl,rfl,rfl⟩⟩,
    fun h1=>⟨hc3b,rfl,fun e he=>(by (rw [List.mem_singleton] at he;subst he;rfl)),Nat.le_refl _,by omega,by simp only [maxLen];omega,(i+1,so,re++[.agg [.str c,.int .i64 y,.int .i64 m]]),⟨by simp only;omega,⟨by simp only;omega,by simp only [List.length_append,List.length_singleton];omega⟩,g4,fun z hz=>(List.mem_append.1 hz).elim (g5 z) (fun h=>(by (rw [List.mem_singleton] at h;subst h;exact hm))),fun a=>(by (simp only;rw [e1,fwA_two,fwA_two,<- g6];omega))⟩,by simp only;omega,⟨by simp [fitR,look,e1],by simp [fitH,hget,e1],rfl,rfl,rfl⟩⟩⟩
 · have c0:decide ((i:Int)<(la.length:Int))=false:=by simp;omega
   simp (config:={maxSteps:=1000000}) only [c0,tk,ΘL,Θ9,ΘY,Θ8,Θ7,Θ6,Θ5,Θ4,Θ3,Θ2,Θ1,Ψ1,preN_eq,okN,arg1,ne_eq,not_false_eq_true,intV,Nat.reduceBEq,plG2,Nat.reduceBEq,go_sem,↓reduceIte,reduceCtorEq,Nat.reduceEqDiff,Nat.reduceLT,↓all_qVz,Int.reduceLE,Nat.reduceAdd,Nat.reduceLeDiff,Nat.reduceMul]
   have hi:i=la.length:=by omega
   subst hi
   rw [List.take_length] at hwh
   refine AWp.freeze (T:=plG2) 8007 3 (α:=Unit) (fun _=>wh) (fun _=>([(2,.pv (.bool false)),(4,.ptr 4 0),(5,.rs 8005 so.length),(6,.rs 8006 re.length),(7,.pv (.sl wh))],[(8005,.row 3 so),(8006,.row 3 re),(4,.cells [.pv (.int .i64 fi),.pv (.int .i64 ye),.pv (.sl tr),.pv (.sl la),.pv (.sl lb),.pv (.sl lc),.pv (.sl ld),.pv (.sl le),.pv (.sl lf),.pv (.sl lg)])])) (fun _=>True)
    ⟨(),trivial,⟨by simp [hget],rfl,⟨.inl (by simp [look]),.inl (by simp [look]),.inl (by simp [look]),.inl (by simp [look]),.inr ⟨wh.length,by simp [look],Nat.le_refl _,by rw [List.take_length]⟩,trivial⟩,by simp [fitH,hget],rfl,rfl,rfl⟩⟩ ?_
   intro _ _
   simp only [plG2,go_sem,↓reduceIte]
   refine AWp.freeze (T:=plG2) 8006 3 (α:=Unit) (fun _=>re) (fun _=>([(2,.pv (.bool false)),(4,.ptr 4 0),(5,.rs 8005 so.length),(6,.pv (.sl re)),(7,.pv (.sl wh))],[(8005,.row 3 so),(4,.cells [.pv (.int .i64 fi),.pv (.int .i64 ye),.pv (.sl tr),.pv (.sl la),.pv (.sl lb),.pv (.sl lc),.pv (.sl ld),.pv (.sl le),.pv (.sl lf),.pv (.sl lg)])])) (fun _=>True)
    ⟨(),trivial,⟨by simp [hget],rfl,⟨.inl (by simp [look]),.inl (by simp [look]),.inl (by simp [look]),.inr ⟨re.length,by simp [look],Nat.le_refl _,by rw [List.take_length]⟩,.inl (by simp [look]),trivial⟩,by simp [fitH,hget],rfl,rfl,rfl⟩⟩ ?_
   intro _ _
   simp only [plG2,go_sem,↓reduceIte]
   refine AWp.freeze (T:=plan0) 8005 3 (α:=Unit) (fun _=>so) (fun _=>([(2,.pv (.bool false)),(4,.ptr 4 0),(5,.pv (.sl so)),(6,.pv (.sl re)),(7,.pv (.sl wh))],[(4,.cells [.pv (.int .i64 fi),.pv (.int .i64 ye),.pv (.sl tr),.pv (.sl la),.pv (.sl lb),.pv (.sl lc),.pv (.sl ld),.pv (.sl le),.pv (.sl lf),.pv (.sl lg)])])) (fun _=>True)
    ⟨(),trivial,⟨by simp [hget],rfl,⟨.inl (by simp [look]),.inl (by simp [look]),.inr ⟨so.length,by simp [look],Nat.le_refl _,by rw [List.take_length]⟩,.inl (by simp [look]),.inl (by simp [look]),trivial⟩,by simp [fitH,hget],rfl,rfl,rfl⟩⟩ ?_
   intro _ _
   have sS:LnS ⟨fi,ye,tr,la,lb,lc,ld,le,lf,lg⟩ so:=⟨g4,by omega⟩
   have sR:LnS ⟨fi,ye,tr,la,lb,lc,ld,le,lf,lg⟩ re:=⟨g5,by omega⟩
   have sW:LnW ⟨fi,ye,tr,la,lb,lc,ld,le,lf,lg⟩ wh:=by rw [<- hwh];exact nz_W hG
   have fS:=flow_ok hG sS
   have fR:=flow_ok hG sR
   have fW:=flow_ok hG sW.toLnS
   have bk:=lines_ok hG sW
   have iS:∀ x,x∈so->isL3 x:=fun x hx=>ha x (g4 x hx)
   have iR:∀ x,x∈re->isL3 x:=fun x hx=>ha x (g5 x hx)
   have iW:∀ x,x∈wh->isL3 x:=fun x hx=>ha x (sW.mem x hx)
   have hfree:=meet_free (freL_G hG) rfl rfl
   have hFG:=freL_G hG
   have hFe:freL ⟨fi,ye,tr,la,lb,lc,ld,le,lf,lg⟩=⟨fi,ye,tr,wh,[],[],ld,le,lf,lg⟩:=by rw [<- hwh];rfl
   rw [hFe] at hFG hfree
   have hal:(arL ⟨fi,ye,tr,la,lb,lc,ld,le,lf,lg⟩).length<=400000:=arcs_len (by have:=hG.y0;simp only at this ⊢;omega) (by have:=hG.t0;simp only at this ⊢;omega)
   have har:arL ⟨fi,ye,tr,wh,[],[],ld,le,lf,lg⟩=arL ⟨fi,ye,tr,la,lb,lc,ld,le,lf,lg⟩:=rfl
   rw [har] at hfree
   obtain ⟨ars,hars⟩:∃ x,arL ⟨fi,ye,tr,la,lb,lc,ld,le,lf,lg⟩=x:=⟨_,rfl⟩
   rw [hars] at fS fR fW bk hfree hal
   have hno:((ars.map (fwA wh)).map intV).map nOf=ars.map (fwA wh):=by simp [List.map_map,Function.comp_def,nOf,intV]
   have z1:((ars.length:Int) != ars.length)=false:=by simp
   simp (config:={maxSteps:=1000000}) only [hlv,fS,fR,fW,hno,bk,z0,z1,List.length_map,Bool.or_self,Bool.not_true,plan0,on_pl_eq,k_exF_14,floS,k_exF_30,linsS,k_exF_32,lnsS,on_ll_eq,ΘL,Θ9,ΘY,Θ8,Θ7,Θ6,Θ5,Θ4,Θ3,Θ2,Θ1,Ψ1,false_or,List.take_succ_cons,List.take_nil,go_sem,↓reduceIte,reduceCtorEq,Nat.reduceEqDiff,Nat.reduceLT,Nat.reduceAdd,Nat.reduceLeDiff]
   refine ⟨⟨hc10b,hw,iS,by omega⟩,⟨hc10b,hw,iR,by omega⟩,⟨hc10b,hw,iW,by omega⟩,⟨hc10b,hw,⟨_,rfl⟩,by omega⟩,⟨iW,by omega⟩,?_⟩
   have hbW:=fun a=>fwA_in a (sW.toLnS.ok hG).1
   refine AWp.loop (T:=plan0) (α:=Nat) (fun j=>([(2,.pv (.bool false)),(4,.ptr 4 0),(7,.pv (.sl wh)),(10,.pv (.sl ((ars.map (fwA so)).map intV))),(12,.pv (.sl ((ars.map (fwA re)).map intV))),(14,.pv (.sl ((ars.map (fwA wh)).map intV))),(110,.pv (.sl ((ars.map (fwA wh)).map intV))),(111,.pv (.int .i64 ars.length)),(112,.pv (.int .i64 j))],[(4,.cells [.pv (.int .i64 fi),.pv (.int .i64 ye),.pv (.sl tr),.pv (.sl la),.pv (.sl lb),.pv (.sl lc),.pv (.sl ld),.pv (.sl le),.pv (.sl lf),.pv (.sl lg)])])) (fun j=>j<=ars.length) (fun j=>ars.length-j)
    ⟨0,Nat.zero_le _,⟨by simp [fitR,look],by simp [fitH,hget],rfl,rfl,rfl⟩⟩ ?_
   rintro j h1
   have hj1:IntKind.i64.wrap ((j:Int)+1)=((j+1:Nat):Int):=by rw [i64_in _ (by omega)];omega
   by_cases hjt:j<ars.length
   · have c1:decide ((j:Int)<(ars.length:Int))=true:=by simp;omega
     have gx:∀ f:PV->Int,((ars.map f).map intV).getD j default=.int .i64 (f (ars.getD j default)):=fun f=>by
      rw [List.getD_eq_getElem?_getD,List.getD_eq_getElem?_getD,List.getElem?_map,List.getElem?_map,List.getElem?_eq_getElem hjt];rfl
     have hb:=hbW (ars.getD j default)
     have hwr:IntKind.i64.wrap (fwA so (ars.getD j default)+fwA re (ars.getD j default))=fwA wh (ars.getD j default):=by rw [g6];exact i64_in _ (by omega)
     have z2:(fwA wh (ars.getD j default) != fwA wh (ars.getD j default))=false:=by simp
     simp (config:={maxSteps:=1000000}) only [c1,gx,hwr,z2,hj1,List.length_map,plan0,k_exF_13,net0S,on_pl_eq,ΘL,Θ9,ΘY,Θ8,Θ7,Θ6,Θ5,Θ4,Θ3,Θ2,Θ1,Ψ1,ne_eq,not_false_eq_true,List.take_succ_cons,List.take_nil,go_sem,↓reduceIte,reduceCtorEq,Nat.reduceEqDiff,Nat.reduceLT,Nat.reduceAdd,Nat.reduceLeDiff]
     exact ⟨by kernel_rfl,⟨by omega,by omega⟩,⟨by omega,by omega⟩,⟨by omega,by omega⟩,j+1,by omega,by omega,⟨by simp [fitR,look],by simp [fitH,hget],rfl,rfl,rfl⟩⟩
   · have c1:decide ((j:Int)<(ars.length:Int))=false:=by simp;omega
     have hlv2:lawO (.agg [.int .i64 fi,.int .i64 ye,.sl tr,.sl wh,.sl [],.sl [],.sl ld,.sl le,.sl lf,.sl lg])=⟨fi,ye,tr,wh,[],[],ld,le,lf,lg⟩:=rfl
     have hnf:netF ⟨fi,ye,tr,wh,[],[],ld,le,lf,lg⟩=.tup [.agg [.int .i64 (netN ⟨fi,ye,tr,wh,[],[],ld,le,lf,lg⟩),.sl (ars.map (netA ⟨fi,ye,tr,wh,[],[],ld,le,lf,lg⟩))],.int .i64 0]:=by rw [<- hars];rfl
     obtain ⟨NN,hNN⟩:∃ n,netN ⟨fi,ye,tr,wh,[],[],ld,le,lf,lg⟩=n:=⟨_,rfl⟩
     obtain ⟨NA,hNA⟩:∃ n,ars.map (netA ⟨fi,ye,tr,wh,[],[],ld,le,lf,lg⟩)=n:=⟨_,rfl⟩
     rw [hNN,hNA] at hnf hfree
     have hmt:meetN (.agg [.int .i64 NN,.sl NA]) (ars.map (fwA wh))=true:=hfree
     simp (config:={maxSteps:=1000000}) only [c1,hlv2,hnf,hno,hmt,List.length_map,plan0,k_exF_12,awake7S,on__eq,k_exF_13,net0S,on_pl_eq,k_exF_15,meetS,ΘL,Θ9,ΘY,Θ8,Θ7,Θ6,Θ5,Θ4,Θ3,Θ2,Θ1,Ψ1,false_or,ne_eq,not_false_eq_true,List.take_succ_cons,List.take_nil,go_sem,↓reduceIte,reduceCtorEq,Nat.reduceEqDiff,Nat.reduceLT,Nat.reduceAdd,Nat.reduceLeDiff]
     refine ⟨⟨fun z hz=>?_,⟨fi,ye,tr,wh,[],[],ld,le,lf,lg⟩,rfl,okPl_valid hFG.s hFG.v,hFG.v⟩,fun z hz=>?_,⟨NN,NA,rfl,fun a ha'=>?_,by rw [<- hNA,List.length_map];omega⟩,⟨_,rfl⟩,by omega⟩
     · simp only [List.mem_cons,List.not_mem_nil,or_false] at hz
       rcases hz with rfl | rfl | rfl | rfl | rfl | rfl | rfl | rfl | rfl | rfl <;> exact ⟨rfl,by simp [frzOk]⟩
     · simp only [List.mem_cons,List.not_mem_nil,or_false] at hz
       rcases hz with rfl | rfl <;> exact ⟨rfl,by simp [frzOk]⟩
     · rw [<- hNA] at ha'
       obtain ⟨b,hb,rfl⟩:=List.mem_map.1 ha'
       rw [<- hars,<- har] at hb
       exact ⟨_,_,_,_,netA_arc (arc_in hFG hb).1⟩
end Go.AM
