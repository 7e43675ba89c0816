/-
  A part of a proof.
-/
import Derived.Test.YtkajgkbhkkgdbaaGreatDoorZR
import Derived.Test.YtkajgkbhkkgdbaaGreatDoorZL
set_option linter.unusedSimpArgs false
set_option linter.unusedVariables false
namespace Go.AM
open Go Go.Proofs Go.IntWalk
attribute [local go_sem] List.take_nil List.take_succ_cons allI_cons allI_nil arg1 arg2 callGc_false callGc_true ev_callG false_or gcallK_b gcallK_w intV loadC_eqL memI_cons memI_nil ne_eq not_false_eq_true okN okP_eq okR on__eq on_p_eq on_psi_eq or_false preN_eq preP_eq preR_eq psiNew_eq Θ1 Θ2 Θ3 Θ4 Θ5 Θ6 Θ7 Θ8 Θ9 ΘL ΘY Ψ1
set_option maxRecDepth 100000
set_option maxHeartbeats 1000000
theorem preT_eq9 {es:List PV}:preT [.sl es]=(es.length<=9223372036854775807/\∀ e,e∈es->isI e):=propext ⟨fun ⟨es',e,h⟩=>by simp only [List.cons.injEq,PV.sl.injEq,and_true] at e;subst e;exact h,fun h=>⟨es,rfl,h⟩⟩
theorem preNo_eq9:preNo []=True:=propext ⟨fun _=>trivial,fun _=>rfl⟩
def qC (L:Law) (x:PV):Bool:=(ceB L x).isEmpty
def qF (L:Law) (x:PV):Bool:=(flB L x).isEmpty
def lessL (L:Law):Law:=⟨L.first,L.years,L.tree,L.a,L.b.filter (qC L),L.c.filter (qF L),L.d,L.e,L.f,L.g⟩
theorem lessL_S {L:Law} (h:LawS L):LawS (lessL L):=⟨h.tr,h.tl,h.a,h.al,fun x hx=>h.b x (List.mem_filter.1 hx).1,Nat.le_trans (List.length_filter_le _ _) h.bl,fun x hx=>h.c x (List.mem_filter.1 hx).1,Nat.le_trans (List.length_filter_le _ _) h.cl,h.d,h.dl,h.e,h.el,h.f,h.fl,h.g,h.gl⟩
theorem lessL_valid {L:Law} (hS:LawS L) (h:validF L=0):validF (lessL L)=0:=by
  have:=valid_less hS h (fun _=>true) (qC L) (qF L)
  rw [show L.a.filter (fun _=>true)=L.a from List.filter_eq_self.2 (fun _ _=>rfl)] at this
  exact this
theorem ceB_less (L:Law) (x:PV):ceB (lessL L) x=ceB L x:=rfl
theorem flB_less (L:Law) (x:PV):flB (lessL L) x=flB L x:=rfl
theorem lessL_bre (L:Law):breL (lessL L)=[]:=by
  unfold breL
  rw [List.append_eq_nil_iff,List.flatMap_eq_nil_iff,List.flatMap_eq_nil_iff]
  exact ⟨fun x hx=>by rw [ceB_less];exact List.isEmpty_iff.1 (List.mem_filter.1 hx).2,fun x hx=>by rw [flB_less];exact List.isEmpty_iff.1 (List.mem_filter.1 hx).2⟩
theorem lessL_kept {L:Law} (hS:LawS L) (h:validF L=0):keptF (lessL L)=true:=by
  unfold keptF breF
  rw [lessL_valid hS h,lessL_bre];rfl
theorem breF_0 {L:Law} (h:validF L=0):breF L=(breL L,0):=by unfold breF;rw [h];rfl
theorem hc10b {H:AHeap} {a b:Int} {c d e f g h i j:List PV}:∀ x:AV,x∈[AV.pv (.int .i64 a),AV.pv (.int .i64 b),AV.pv (.sl c),AV.pv (.sl d),AV.pv (.sl e),AV.pv (.sl f),AV.pv (.sl g),AV.pv (.sl h),AV.pv (.sl i),AV.pv (.sl j)]->x.one=true/\frzOk H 3 x:=fun x hx=>by
  simp only [List.mem_cons,List.not_mem_nil,or_false] at hx
  rcases hx with rfl | rfl | rfl | rfl | rfl | rfl | rfl | rfl | rfl | rfl <;> exact ⟨rfl,by simp [frzOk]⟩
theorem got_at {f:PV->List PV} {l:List PV} {i:Nat} (h:i<l.length) {w:PV} (hw:f (l.getD i default)=[w]) (p tail:List PV) {n:Nat} (hn:n=p.length+((l.take i).flatMap f).length):n<(p++(l.flatMap f++tail)).length/\(p++(l.flatMap f++tail)).getD n default=w:=by
  have e:l.flatMap f=(l.take i).flatMap f++(w::(l.drop (i+1)).flatMap f):=by
    conv=>lhs;rw [<- List.take_append_drop (i+1) l]
    rw [List.flatMap_append,fm_succ h,hw]
    simp
  rw [e,hn]
  refine ⟨by simp only [List.length_append,List.length_cons];omega,?_⟩
  rw [List.getD_eq_getElem?_getD,List.getElem?_append_right (by omega),List.append_assoc,List.getElem?_append_right (by omega)]
  have:p.length+((l.take i).flatMap f).length-p.length-((l.take i).flatMap f).length=0:=by omega
  rw [this];rfl
theorem hc3b {H:AHeap} {a:List UInt8} {b c:Int}:∀ x:AV,x∈[AV.pv (.str a),AV.pv (.int .i64 b),AV.pv (.int .i64 c)]->x.one=true/\frzOk H 3 x:=fun x hx=>by
  simp only [List.mem_cons,List.not_mem_nil,or_false] at hx
  rcases hx with rfl | rfl | rfl <;> exact ⟨rfl,by simp [frzOk]⟩
def planB9:Plan:={ keep:=fun _=>none,cut:=fun _=>false,stop:=fun i=>i == 2 }
def planC9:Plan:={ keep:=fun _=>none,cut:=fun _=>false,stop:=fun i=>i == 8 }
noncomputable def exBS:PSpec:=on_l (fun es=>es.length<=9223372036854775807/\∀ e,e∈es->isI e) (fun _=>.bool true)
theorem k_exB_9 {args:List PV}:DX6 9 args=breS args:=rfl
theorem k_exB_10 {args:List PV}:DX6 10 args=rtotalS args:=rfl
theorem k_exB_11 {args:List PV}:DX6 11 args=keptS args:=rfl
theorem k_exB_12 {args:List PV}:DX6 12 args=awake7S args:=rfl
theorem w_exBS:PSound GG 3 exBS:=by
  refine PSound.of_wpc (C:=cxQ Tryz.prog DX6 ΘL Ψ1 [] [] 128) (T:=planB9) Tryz.func3 rfl rfl rfl (Fit.all (G:=GG) hDX6 hΘL hΨ1 mixed) (fun args h=>?_)
  unfold exBS at h
  obtain ⟨es0,rfl,he1,he2⟩:=on_l_inv h
  have tk:∀ l:List PV,l.take l.length=l:=fun l=>List.take_length
  refine ⟨by simp [cxQ],?_⟩
  simp (config:={maxSteps:=1000000}) only [exBS,on_l_eq,tk,k_exB_9,breS,k_exB_10,rtotalS,k_exB_11,keptS,k_exB_12,awake7S,newS,preT_eq9,preNo_eq9,okLM,Nat.reduceBEq,planB9,planC9,Nat.reduceBEq,Nat.reduceBEq,Tryz.f3,argL,go_sem,↓reduceIte,reduceCtorEq,Nat.reduceEqDiff,Nat.reduceLT,↓all_qVz,↓all_qVz',Int.reduceToNat,Int.reduceLT,Int.reduceLE,Nat.reduceAdd,Nat.reduceLeDiff,Nat.reduceMul]
  refine ⟨⟨he1,he2⟩,?_⟩
  refine AWp.here (T:=planC9) (α:=Unit) (fun _=>([(2,.pv (.bool false)),(3,.ptr 18 0)],[(18,.obj Tp)])) (fun _=>True) ⟨(),trivial,⟨by simp [fitR,look,upd],by simp [fitH,hget,hset],rfl,rfl,rfl⟩⟩ ?_
  intro _ _
  simp (config:={maxSteps:=1000000}) only [tk,k_exB_9,breS,k_exB_10,rtotalS,k_exB_11,keptS,k_exB_12,awake7S,newS,preT_eq9,preNo_eq9,okLM,Nat.reduceBEq,planB9,planC9,Nat.reduceBEq,go_sem,↓reduceIte,reduceCtorEq,Nat.reduceEqDiff,Nat.reduceLT,↓all_qVz,↓all_qVz',Int.reduceToNat,Int.reduceLT,Int.reduceLE,Nat.reduceAdd,Nat.reduceLeDiff,Nat.reduceMul]
  intro L hL
  obtain ⟨hS,hV⟩:LawS L/\validF L=0:=hL
  rw [Stop_eq]
  obtain ⟨got,hgot⟩:∃ g,breL L=g:=⟨_,rfl⟩
  have hbre:=breF_0 hV
  rw [hgot] at hbre
  obtain ⟨⟨fi,ye,tr,la,lb,lc,ld,le,lf,lg⟩,hLe⟩:∃ L':Law,L=L':=⟨_,rfl⟩
  subst hLe
  have hlv:lawO (.agg [.int .i64 fi,.int .i64 ye,.sl tr,.sl la,.sl lb,.sl lc,.sl ld,.sl le,.sl lf,.sl lg])=⟨fi,ye,tr,la,lb,lc,ld,le,lf,lg⟩:=rfl
  have hw:∃ L:Law,PV.agg [.int .i64 fi,.int .i64 ye,.sl tr,.sl la,.sl lb,.sl lc,.sl ld,.sl le,.sl lf,.sl lg]=L.v/\LawS L:=⟨⟨fi,ye,tr,la,lb,lc,ld,le,lf,lg⟩,rfl,hS⟩
  have z0:((0:Int) != 0)=false:=rfl
  simp (config:={maxSteps:=1000000}) only [Law.v,lawV,hlv,hbre,z0,tk,k_exB_9,breS,k_exB_10,rtotalS,k_exB_11,keptS,k_exB_12,awake7S,newS,preT_eq9,preNo_eq9,okLM,Nat.reduceBEq,planB9,planC9,Nat.reduceBEq,go_sem,↓reduceIte,reduceCtorEq,Nat.reduceEqDiff,Nat.reduceLT,↓all_qVz,↓all_qVz',Int.reduceToNat,Int.reduceLT,Int.reduceLE,Nat.reduceAdd,Nat.reduceLeDiff,Nat.reduceMul]
  refine ⟨⟨hc10b,⟨fi,ye,tr,la,lb,lc,ld,le,lf,lg⟩,rfl,hS⟩,?_⟩
  have hb:=hS.b
  have hbl:=hS.bl
  have hc:=hS.c
  have hcl:=hS.cl
  simp only at hb hbl hc hcl
  have hgot:lb.flatMap (ceB ⟨fi,ye,tr,la,lb,lc,ld,le,lf,lg⟩)++lc.flatMap (flB ⟨fi,ye,tr,la,lb,lc,ld,le,lf,lg⟩)=got:=hgot
  obtain ⟨fc,hfc⟩:∃ f,ceB ⟨fi,ye,tr,la,lb,lc,ld,le,lf,lg⟩=f:=⟨_,rfl⟩
  obtain ⟨ff,hff⟩:∃ f,flB ⟨fi,ye,tr,la,lb,lc,ld,le,lf,lg⟩=f:=⟨_,rfl⟩
  have hcl1:∀ x,(fc x).length<=1:=fun x=>by rw [<- hfc];exact ceB_len _ x
  have hfl1:∀ x,(ff x).length<=1:=fun x=>by rw [<- hff];exact flB_len _ x
  obtain ⟨tt,htt⟩:∃ f,totL ⟨fi,ye,tr,la,lb,lc,ld,le,lf,lg⟩=f:=⟨_,rfl⟩
  have hce:∀ c y m,fc (.agg [.str c,.int .i64 y,.int .i64 m])=bif decide (m<(tt c y).1) then [.agg [.int .i64 2,.str c,.int .i64 y,.int .i64 m,.int .i64 (tt c y).1]] else []:=fun c y m=>by rw [<- hfc,<- htt];rfl
  have hfe:∀ c y m,ff (.agg [.str c,.int .i64 y,.int .i64 m])=bif decide ((tt c y).1<m) then [.agg [.int .i64 3,.str c,.int .i64 y,.int .i64 m,.int .i64 (tt c y).1]] else []:=fun c y m=>by rw [<- hff,<- htt];rfl
  have hle:lessL ⟨fi,ye,tr,la,lb,lc,ld,le,lf,lg⟩=⟨fi,ye,tr,la,lb.filter (fun x=>(fc x).isEmpty),lc.filter (fun x=>(ff x).isEmpty),ld,le,lf,lg⟩:=by
    rw [<- hfc,<- hff];rfl
  have hkept:=lessL_kept hS hV
  have hSk:=lessL_S hS
  rw [hle] at hkept hSk
  rw [hfc,hff] at hgot
  clear hfc hff hbre
  refine AWp.adoptC (b:=7) (i:=4) (κ:=8004) (k:=3) rfl rfl rfl (by decide) ?_
  refine AWp.adoptC (b:=7) (i:=5) (κ:=8005) (k:=3) rfl rfl rfl (by decide) ?_
  refine wpc_sound (T:=plan0) _ _ _ ?_
  simp (config:={maxSteps:=1000000}) only [tk,k_exB_9,breS,k_exB_10,rtotalS,k_exB_11,keptS,k_exB_12,awake7S,newS,preT_eq9,preNo_eq9,okLM,Nat.reduceBEq,planB9,planC9,Nat.reduceBEq,plan0,go_sem,↓reduceIte,reduceCtorEq,Nat.reduceEqDiff,Nat.reduceLT,↓all_qVz,↓all_qVz',Int.reduceToNat,Int.reduceLT,Int.reduceLE,Nat.reduceAdd,Nat.reduceLeDiff,Nat.reduceMul]
  refine AWp.loop (T:=plan0) (α:=Nat × List PV) (fun z=>([(2,.pv (.bool false)),(4,.ptr 4 0),(5,.pv (.sl got)),(7,.ptr 7 0),(8,.pv (.int .i64 ((lb.take z.1).flatMap fc).length)),(32,.pv (.sl lb)),(33,.pv (.int .i64 lb.length)),(34,.pv (.int .i64 z.1))],[(4,.cells [.pv (.int .i64 fi),.pv (.int .i64 ye),.pv (.sl tr),.pv (.sl la),.pv (.sl lb),.pv (.sl lc),.pv (.sl ld),.pv (.sl le),.pv (.sl lf),.pv (.sl lg)]),(7,.cells [.pv (.int .i64 fi),.pv (.int .i64 ye),.pv (.sl tr),.pv (.sl la),.rs 8004 z.2.length,.rs 8005 0,.pv (.sl ld),.pv (.sl le),.pv (.sl lf),.pv (.sl lg)]),(8004,.row 3 z.2),(8005,.row 3 [])])) (fun z=>z.1<=lb.length/\z.2=(lb.take z.1).filter (fun x=>(fc x).isEmpty)) (fun z=>lb.length-z.1)
    ⟨(0,[]),⟨Nat.zero_le _,rfl⟩,⟨by simp [fitR,look,upd],by simp [fitH,hget,hset],rfl,rfl,rfl⟩⟩ ?_
  rintro ⟨i,ck⟩ ⟨g1,g2⟩
  simp only at g1 g2
  have hck:ck.length<=i:=by rw [g2];exact Nat.le_trans (List.length_filter_le _ _) (List.length_take_le _ _)
  have hn1:=fm_take hcl1 lb i
  have hi1:IntKind.i64.wrap ((i:Int)+1)=((i+1:Nat):Int):=by rw [i64_in _ (by omega)];omega
  by_cases hlt:i<lb.length
  · have c0:decide ((i:Int)<(lb.length:Int))=true:=by simp;omega
    obtain ⟨c,y,m,hx,hcl3⟩:=hb _ (getD_mem hlt)
    have hsu:=fm_succ (f:=fc) hlt
    have hfs:(lb.take (i+1)).filter (fun x=>(fc x).isEmpty)=ck++(if (fc (lb.getD i default)).isEmpty=true then [lb.getD i default] else []):=by
      rw [take_succ_getD hlt,List.filter_append,<- g2,List.filter_cons,List.filter_nil]
    by_cases hq:(tt c y).1<=m
    · have d1:decide ((tt c y).1<=m)=true:=decide_eq_true hq
      have d2:decide (m<(tt c y).1)=false:=decide_eq_false (by omega)
      rw [hx,hce,d2,cond_false] at hsu hfs
      rw [List.append_nil] at hsu
      have hfs:(lb.take (i+1)).filter (fun x=>(fc x).isEmpty)=ck++[.agg [.str c,.int .i64 y,.int .i64 m]]:=hfs
      simp (config:={maxSteps:=1000000}) only [c0,d1,hx,hi1,hlv,htt,tk,k_exB_9,breS,k_exB_10,rtotalS,k_exB_11,keptS,k_exB_12,awake7S,newS,preT_eq9,preNo_eq9,okLM,Nat.reduceBEq,planB9,planC9,Nat.reduceBEq,plan0,go_sem,↓reduceIte,reduceCtorEq,Nat.reduceEqDiff,Nat.reduceLT,↓all_qVz,↓all_qVz',Int.reduceToNat,Int.reduceLT,Int.reduceLE,Nat.reduceAdd,Nat.reduceLeDiff,Nat.reduceMul]
      refine ⟨⟨by omega,by omega⟩,⟨hc10b,hw,hcl3⟩,hc3b,rfl,fun e he=>(by simp only [List.mem_singleton] at he;subst he;rfl),Nat.le_refl _,by omega,by simp only [maxLen];omega,(i+1,ck++[.agg [.str c,.int .i64 y,.int .i64 m]]),⟨by simp only;omega,hfs.symm⟩,by simp only;omega,?_⟩
      simp only [hsu]
      exact ⟨by simp [fitR,look,upd],by simp [fitH,hget,hset],rfl,rfl,rfl⟩
    · have d1:decide ((tt c y).1<=m)=false:=decide_eq_false hq
      have d2:decide (m<(tt c y).1)=true:=decide_eq_true (by omega)
      rw [hx,hce,d2,cond_true] at hsu hfs
      have hfs:(lb.take (i+1)).filter (fun x=>(fc x).isEmpty)=ck:=by rw [hfs];exact List.append_nil ck
      obtain ⟨n,hn⟩:∃ n,((lb.take i).flatMap fc).length=n:=⟨_,rfl⟩
      have hga:=got_at (f:=fc) hlt (by rw [hx,hce,d2,cond_true]) [] (lc.flatMap ff) (n:=n) (by rw [<- hn];simp)
      rw [List.nil_append,hgot] at hga
      obtain ⟨ga,gb⟩:=hga
      have d3:decide ((got.length:Int)<=(n:Int))=false:=decide_eq_false (by omega)
      have hkr:∀ s:Int,keyEqL [.int .i64 2,.str c,.int .i64 y,.int .i64 m,.int .i64 s] [.int .i64 2,.str c,.int .i64 y,.int .i64 m,.int .i64 s]=true:=fun s=>by simp [keyEqL,keyEq1]
      have hn2:((lb.take (i+1)).flatMap fc).length=n+1:=by rw [hsu,List.length_append,hn];rfl
      have hn3:IntKind.i64.wrap ((n:Int)+1)=((n+1:Nat):Int):=by rw [i64_in _ (by omega)];omega
      simp (config:={maxSteps:=1000000}) only [c0,d1,d3,gb,hkr,hn,hn3,hx,hi1,hlv,htt,tk,k_exB_9,breS,k_exB_10,rtotalS,k_exB_11,keptS,k_exB_12,awake7S,newS,preT_eq9,preNo_eq9,okLM,Nat.reduceBEq,planB9,planC9,Nat.reduceBEq,plan0,go_sem,↓reduceIte,reduceCtorEq,Nat.reduceEqDiff,Nat.reduceLT,↓all_qVz,↓all_qVz',Int.reduceToNat,Int.reduceLT,Int.reduceLE,Nat.reduceAdd,Nat.reduceLeDiff,Nat.reduceMul]
      refine ⟨⟨by omega,by omega⟩,⟨hc10b,hw,hcl3⟩,by kernel_rfl,⟨by omega,by omega⟩,by kernel_rfl,(i+1,ck),⟨by simp only;omega,hfs.symm⟩,by simp only;omega,?_⟩
      simp only [hn2]
      exact ⟨by simp [fitR,look,upd],by simp [fitH,hget,hset],rfl,rfl,rfl⟩
  · have c0:decide ((i:Int)<(lb.length:Int))=false:=by simp;omega
    have e:i=lb.length:=by omega
    subst e
    rw [List.take_length] at g2
    simp (config:={maxSteps:=1000000}) only [c0,tk,k_exB_9,breS,k_exB_10,rtotalS,k_exB_11,keptS,k_exB_12,awake7S,newS,preT_eq9,preNo_eq9,okLM,Nat.reduceBEq,planB9,planC9,Nat.reduceBEq,plan0,go_sem,↓reduceIte,reduceCtorEq,Nat.reduceEqDiff,Nat.reduceLT,↓all_qVz,↓all_qVz',Int.reduceToNat,Int.reduceLT,Int.reduceLE,Nat.reduceAdd,Nat.reduceLeDiff,Nat.reduceMul]
    clear g1 hi1 hlt c0
    rw [List.take_length] at hn1
    refine AWp.loop (T:=plan0) (α:=Nat × List PV) (fun z=>([(2,.pv (.bool false)),(4,.ptr 4 0),(5,.pv (.sl got)),(7,.ptr 7 0),(8,.pv (.int .i64 (((lb.flatMap fc).length+((lc.take z.1).flatMap ff).length:Nat):Int))),(75,.pv (.sl lc)),(76,.pv (.int .i64 lc.length)),(77,.pv (.int .i64 z.1))],[(4,.cells [.pv (.int .i64 fi),.pv (.int .i64 ye),.pv (.sl tr),.pv (.sl la),.pv (.sl lb),.pv (.sl lc),.pv (.sl ld),.pv (.sl le),.pv (.sl lf),.pv (.sl lg)]),(7,.cells [.pv (.int .i64 fi),.pv (.int .i64 ye),.pv (.sl tr),.pv (.sl la),.rs 8004 ck.length,.rs 8005 z.2.length,.pv (.sl ld),.pv (.sl le),.pv (.sl lf),.pv (.sl lg)]),(8004,.row 3 ck),(8005,.row 3 z.2)])) (fun z=>z.1<=lc.length/\z.2=(lc.take z.1).filter (fun x=>(ff x).isEmpty)) (fun z=>lc.length-z.1)
      ⟨(0,[]),⟨Nat.zero_le _,rfl⟩,⟨by simp [fitR,look,upd],by simp [fitH,hget,hset],rfl,rfl,rfl⟩⟩ ?_
    rintro ⟨i,cf⟩ ⟨g1,g4⟩
    simp only at g1 g4
    have hcf:cf.length<=i:=by rw [g4];exact Nat.le_trans (List.length_filter_le _ _) (List.length_take_le _ _)
    have hn1:=fm_take hfl1 lc i
    have hi1:IntKind.i64.wrap ((i:Int)+1)=((i+1:Nat):Int):=by rw [i64_in _ (by omega)];omega
    by_cases hlt:i<lc.length
    · have c0:decide ((i:Int)<(lc.length:Int))=true:=by simp;omega
      obtain ⟨c,y,m,hx,hcl3⟩:=hc _ (getD_mem hlt)
      have hsu:=fm_succ (f:=ff) hlt
      have hfs:(lc.take (i+1)).filter (fun x=>(ff x).isEmpty)=cf++(if (ff (lc.getD i default)).isEmpty=true then [lc.getD i default] else []):=by
        rw [take_succ_getD hlt,List.filter_append,<- g4,List.filter_cons,List.filter_nil]
      by_cases hq:m<=(tt c y).1
      · have d1:decide (m<=(tt c y).1)=true:=decide_eq_true hq
        have d2:decide ((tt c y).1<m)=false:=decide_eq_false (by omega)
        rw [hx,hfe,d2,cond_false] at hsu hfs
        rw [List.append_nil] at hsu
        have hfs:(lc.take (i+1)).filter (fun x=>(ff x).isEmpty)=cf++[.agg [.str c,.int .i64 y,.int .i64 m]]:=hfs
        simp (config:={maxSteps:=1000000}) only [c0,d1,hx,hi1,hlv,htt,tk,k_exB_9,breS,k_exB_10,rtotalS,k_exB_11,keptS,k_exB_12,awake7S,newS,preT_eq9,preNo_eq9,okLM,Nat.reduceBEq,planB9,planC9,Nat.reduceBEq,plan0,go_sem,↓reduceIte,reduceCtorEq,Nat.reduceEqDiff,Nat.reduceLT,↓all_qVz,↓all_qVz',Int.reduceToNat,Int.reduceLT,Int.reduceLE,Nat.reduceAdd,Nat.reduceLeDiff,Nat.reduceMul]
        refine ⟨⟨by omega,by omega⟩,⟨hc10b,hw,hcl3⟩,hc3b,rfl,fun e he=>(by simp only [List.mem_singleton] at he;subst he;rfl),Nat.le_refl _,by omega,by simp only [maxLen];omega,(i+1,cf++[.agg [.str c,.int .i64 y,.int .i64 m]]),⟨by simp only;omega,hfs.symm⟩,by simp only;omega,?_⟩
        simp only [hsu]
        exact ⟨by simp [fitR,look,upd],by simp [fitH,hget,hset],rfl,rfl,rfl⟩
      · have d1:decide (m<=(tt c y).1)=false:=decide_eq_false hq
        have d2:decide ((tt c y).1<m)=true:=decide_eq_true (by omega)
        rw [hx,hfe,d2,cond_true] at hsu hfs
        have hfs:(lc.take (i+1)).filter (fun x=>(ff x).isEmpty)=cf:=by rw [hfs];exact List.append_nil cf
        obtain ⟨n,hn⟩:∃ n,(lb.flatMap fc).length+((lc.take i).flatMap ff).length=n:=⟨_,rfl⟩
        have hga:=got_at (f:=ff) hlt (by rw [hx,hfe,d2,cond_true]) (lb.flatMap fc) [] (n:=n) hn.symm
        rw [List.append_nil,hgot] at hga
        obtain ⟨ga,gb⟩:=hga
        have d3:decide ((got.length:Int)<=(n:Int))=false:=decide_eq_false (by omega)
        have hkr:∀ s:Int,keyEqL [.int .i64 3,.str c,.int .i64 y,.int .i64 m,.int .i64 s] [.int .i64 3,.str c,.int .i64 y,.int .i64 m,.int .i64 s]=true:=fun s=>by simp [keyEqL,keyEq1]
        have hn2:(lb.flatMap fc).length+((lc.take (i+1)).flatMap ff).length=n+1:=by rw [hsu,List.length_append,<- Nat.add_assoc,hn];rfl
        have hn3:IntKind.i64.wrap ((n:Int)+1)=((n+1:Nat):Int):=by rw [i64_in _ (by omega)];omega
        simp (config:={maxSteps:=1000000}) only [c0,d1,d3,gb,hkr,hn,hn3,hx,hi1,hlv,htt,tk,k_exB_9,breS,k_exB_10,rtotalS,k_exB_11,keptS,k_exB_12,awake7S,newS,preT_eq9,preNo_eq9,okLM,Nat.reduceBEq,planB9,planC9,Nat.reduceBEq,plan0,go_sem,↓reduceIte,reduceCtorEq,Nat.reduceEqDiff,Nat.reduceLT,↓all_qVz,↓all_qVz',Int.reduceToNat,Int.reduceLT,Int.reduceLE,Nat.reduceAdd,Nat.reduceLeDiff,Nat.reduceMul]
        refine ⟨⟨by omega,by omega⟩,⟨hc10b,hw,hcl3⟩,by kernel_rfl,⟨by omega,by omega⟩,by kernel_rfl,(i+1,cf),⟨by simp only;omega,hfs.symm⟩,by simp only;omega,?_⟩
        simp only [hn2]
        exact ⟨by simp [fitR,look,upd],by simp [fitH,hget,hset],rfl,rfl,rfl⟩
    · have c0:decide ((i:Int)<(lc.length:Int))=false:=by simp;omega
      have e:i=lc.length:=by omega
      subst e
      rw [List.take_length] at g4
      have hgl:((((lb.flatMap fc).length+(lc.flatMap ff).length:Nat):Int) == (got.length:Int))=true:=by rw [<- List.length_append,hgot];simp
      have hlk:lawO (.agg [.int .i64 fi,.int .i64 ye,.sl tr,.sl la,.sl ck,.sl cf,.sl ld,.sl le,.sl lf,.sl lg])=⟨fi,ye,tr,la,ck,cf,ld,le,lf,lg⟩:=rfl
      rw [<- g2,<- g4] at hkept hSk
      have tkc:ck.take ck.length=ck:=List.take_length
      have tkf:cf.take cf.length=cf:=List.take_length
      simp (config:={maxSteps:=1000000}) only [c0,hgl,hlk,hkept,tkc,tkf,tk,k_exB_9,breS,k_exB_10,rtotalS,k_exB_11,keptS,k_exB_12,awake7S,newS,preT_eq9,preNo_eq9,okLM,Nat.reduceBEq,planB9,planC9,Nat.reduceBEq,plan0,go_sem,↓reduceIte,reduceCtorEq,Nat.reduceEqDiff,Nat.reduceLT,↓all_qVz,↓all_qVz',Int.reduceToNat,Int.reduceLT,Int.reduceLE,Nat.reduceAdd,Nat.reduceLeDiff,Nat.reduceMul]
      refine ⟨fun c hc=>?_,⟨fi,ye,tr,la,ck,cf,ld,le,lf,lg⟩,rfl,hSk⟩
      simp only [List.mem_cons,List.not_mem_nil,or_false] at hc
      rcases hc with rfl | rfl | rfl | rfl | rfl | rfl | rfl | rfl | rfl | rfl <;> exact ⟨rfl,by simp [frzOk,hget]⟩
end Go.AM
