/-
  A part of a proof.
-/
import Derived.Test.YtkajgkbhkkgdbaaGreatDoorZ3
set_option linter.unusedSimpArgs false
set_option linter.unusedVariables false
namespace Go.AM
open Go Go.Proofs Go.IntWalk
attribute [local go_sem] AV.one List.forall_mem_cons List.not_mem_nil List.take_nil List.take_succ_cons PV.one callGc_false callGc_true ev_callG gcallK_b gcallK_w
set_option maxRecDepth 100000
set_option maxHeartbeats 2000000
def on_psi (p:PV->List UInt8->Int->Prop) (f:PV->List UInt8->Int->PV):PSpec
 | [a0,.str a1,.int .i64 a2]=>(p a0 a1 a2,f a0 a1 a2)
 | _=>(False,default)
theorem on_psi_eq {p:PV->List UInt8->Int->Prop} {f:PV->List UInt8->Int->PV} {a0:PV} {a1:List UInt8} {a2:Int}:on_psi p f [a0,.str a1,.int .i64 a2]=(p a0 a1 a2,f a0 a1 a2):=rfl
theorem on_psi_inv {p:PV->List UInt8->Int->Prop} {f:PV->List UInt8->Int->PV} {args:List PV} (h:(on_psi p f args).1):∃ a0:PV,∃ a1:List UInt8,∃ a2:Int,args=[a0,.str a1,.int .i64 a2]/\p a0 a1 a2:=by
 unfold on_psi at h
 split at h
 · exact ⟨_,_,_,rfl,h⟩
 · exact h.elim
def totL (L:Law) (c:List UInt8) (y:Int):Int × Int:=smF L.a c y
noncomputable def totalS:PSpec:=on_psi (fun l c _=>(∃ L:Law,l=L.v/\LawS L)/\c.length<=1000000000000) (fun l c y=>.tup [.int .i64 (totL (lawO l) c y).1,.int .i64 (totL (lawO l) c y).2])
theorem k_totalS_108 {args:List PV}:D3 108 args=sumS args:=rfl
theorem w_totalS:PSound GG 46 totalS:=by
 refine PSound.of_wpc (C:=cxP Tryz.prog D3 [] 15) (T:=plan0) Tryz.func46 rfl rfl rfl (Fit.pure (G:=GG) hD3 mixed) (fun args h=>?_)
 unfold totalS at h
 obtain ⟨l,c,y,rfl,hp⟩:=on_psi_inv h
 refine ⟨by simp [cxP],?_⟩
 simp only [totalS,on_psi_eq,Tryz.f46,argL,plan0]
 obtain ⟨⟨⟨fi,ye,tr,la,lb,lc,ld,le,lf,lg⟩,rfl,hS⟩,hc⟩:=hp
 have ha:=hS.a
 have hal:=hS.al
 rw [lawO_v]
 simp only [totL] at ha hal ⊢
 simp only [Law.v,lawV,k_totalS_108,sumS,on_lsi_eq,go_sem,↓reduceIte,reduceCtorEq,Nat.reduceEqDiff,Nat.reduceLT,Nat.reduceAdd,Nat.reduceLeDiff]
 exact ⟨ha,by omega,hc⟩
noncomputable def D4 (g:FuncId):PSpec:=(putΦ D3 46 totalS) g
theorem hD4:TabSound GG D4:=(hD3.put w_totalS)
noncomputable def rtotalS:PSpec:=on_psi (fun l c _=>(∃ L:Law,l=L.v/\LawS L)/\c.length<=1000000000000) (fun l c y=>.tup [.int .i64 (totL (lawO l) c y).1,.int .i64 (totL (lawO l) c y).2])
theorem k_rtotalS_47 {args:List PV}:Z6 47 args=rsumS args:=rfl
theorem w_rtotalS:PSound GG 10 rtotalS:=by
 refine PSound.of_wpc (C:=cxP Tryz.prog Z6 [] 15) (T:=plan0) Tryz.func10 rfl rfl rfl (Fit.pure (G:=GG) hZ6 mixed) (fun args h=>?_)
 unfold rtotalS at h
 obtain ⟨l,c,y,rfl,hp⟩:=on_psi_inv h
 refine ⟨by simp [cxP],?_⟩
 simp only [rtotalS,on_psi_eq,Tryz.f10,argL,plan0]
 obtain ⟨⟨⟨fi,ye,tr,la,lb,lc,ld,le,lf,lg⟩,rfl,hS⟩,hc⟩:=hp
 have ha:=hS.a
 have hal:=hS.al
 rw [lawO_v]
 simp only [totL] at ha hal ⊢
 simp only [Law.v,lawV,k_rtotalS_47,rsumS,on_lsi_eq,go_sem,↓reduceIte,reduceCtorEq,Nat.reduceEqDiff,Nat.reduceLT,Nat.reduceAdd,Nat.reduceLeDiff]
 exact ⟨ha,by omega,hc⟩
noncomputable def Z7 (g:FuncId):PSpec:=(putΦ Z6 10 rtotalS) g
def ceB (L:Law):PV->List PV
 | .agg [.str c,.int _ y,.int _ m]=>bif decide (m<(totL L c y).1) then [.agg [.int .i64 2,.str c,.int .i64 y,.int .i64 m,.int .i64 (totL L c y).1]] else []
 | _=>[]
def flB (L:Law):PV->List PV
 | .agg [.str c,.int _ y,.int _ m]=>bif decide ((totL L c y).1<m) then [.agg [.int .i64 3,.str c,.int .i64 y,.int .i64 m,.int .i64 (totL L c y).1]] else []
 | _=>[]
def breL (L:Law):List PV:=L.b.flatMap (ceB L)++L.c.flatMap (flB L)
def breF (L:Law):List PV × Int:=bif validF L != 0 then ([],validF L) else (breL L,0)
theorem bif_len {b:Bool} {x:PV}:(bif b then [x] else []).length<=1:=by cases b <;> simp
theorem ceB_len (L:Law) (x:PV):(ceB L x).length<=1:=by
 unfold ceB
 split
 · exact bif_len
 · simp
theorem flB_len (L:Law) (x:PV):(flB L x).length<=1:=by
 unfold flB
 split
 · exact bif_len
 · simp
theorem fm_succ {f:PV->List PV} {l:List PV} {i:Nat} (h:i<l.length):(l.take (i+1)).flatMap f=(l.take i).flatMap f++f (l.getD i default):=by
 rw [List.take_add_one,List.flatMap_append]
 simp [List.getElem?_eq_getElem h,List.getD_eq_getElem?_getD]
theorem flatMap_len {f:PV->List PV} (h:∀ x,(f x).length<=1):∀ l:List PV,(l.flatMap f).length<=l.length
 | []=>Nat.le_refl _
 | x::r=>by
   have:=flatMap_len h r
   have:=h x
   simp only [List.flatMap_cons,List.length_append,List.length_cons]
   omega
theorem fm_take {f:PV->List PV} (h:∀ x,(f x).length<=1) (l:List PV) (i:Nat):((l.take i).flatMap f).length<=i:=
 Nat.le_trans (flatMap_len h _) (List.length_take_le _ _)
noncomputable def breS:PSpec:=on_p (fun l=>∃ L:Law,l=L.v/\LawS L) (fun l=>.tup [.sl (breF (lawO l)).1,.int .i64 (breF (lawO l)).2])
theorem k_breS_45 {args:List PV}:D4 45 args=validGS args:=rfl
theorem k_breS_46 {args:List PV}:D4 46 args=totalS args:=rfl
theorem w_breS:PSound GG 9 breS:=by
 refine PSound.of_wpc (C:=cxP Tryz.prog D4 [] 74) (T:=plan0) Tryz.func9 rfl rfl rfl (Fit.pure (G:=GG) hD4 mixed) (fun args h=>?_)
 unfold breS at h
 obtain ⟨x,rfl,hp⟩:=on_p_inv h
 refine ⟨by simp [cxP],?_⟩
 simp only [breS,on_p_eq,Tryz.f9,argL,plan0]
 obtain ⟨⟨fi,ye,tr,la,lb,lc,ld,le,lf,lg⟩,rfl,hS⟩:=hp
 have hV:∃ L':Law,lawV fi ye tr la lb lc ld le lf lg=L'.v/\LawS L':=⟨_,rfl,hS⟩
 have hvo:lawO (lawV fi ye tr la lb lc ld le lf lg)=⟨fi,ye,tr,la,lb,lc,ld,le,lf,lg⟩:=rfl
 rw [lawO_v]
 unfold breF breL
 have hb:=hS.b
 have hbl:=hS.bl
 have hc:=hS.c
 have hcl:=hS.cl
 simp only at hb hbl hc hcl
 simp only [lawV] at hvo
 have hw:∃ L:Law,PV.agg [.int .i64 fi,.int .i64 ye,.sl tr,.sl la,.sl lb,.sl lc,.sl ld,.sl le,.sl lf,.sl lg]=L.v/\LawS L:=⟨_,rfl,hS⟩
 obtain ⟨fc,hfc⟩:∃ f,ceB ⟨fi,ye,tr,la,lb,lc,ld,le,lf,lg⟩=f:=⟨_,rfl⟩
 obtain ⟨ff,hff⟩:∃ f,flB ⟨fi,ye,tr,la,lb,lc,ld,le,lf,lg⟩=f:=⟨_,rfl⟩
 have hcl1:∀ x,(fc x).length<=1:=fun x=>by rw [<- hfc];exact ceB_len _ x
 have hfl1:∀ x,(ff x).length<=1:=fun x=>by rw [<- hff];exact flB_len _ x
 have hce:∀ c y m,fc (.agg [.str c,.int .i64 y,.int .i64 m])=bif decide (m<(totL ⟨fi,ye,tr,la,lb,lc,ld,le,lf,lg⟩ c y).1) then [.agg [.int .i64 2,.str c,.int .i64 y,.int .i64 m,.int .i64 (totL ⟨fi,ye,tr,la,lb,lc,ld,le,lf,lg⟩ c y).1]] else []:=fun c y m=>by rw [<- hfc];rfl
 have hfe:∀ c y m,ff (.agg [.str c,.int .i64 y,.int .i64 m])=bif decide ((totL ⟨fi,ye,tr,la,lb,lc,ld,le,lf,lg⟩ c y).1<m) then [.agg [.int .i64 3,.str c,.int .i64 y,.int .i64 m,.int .i64 (totL ⟨fi,ye,tr,la,lb,lc,ld,le,lf,lg⟩ c y).1]] else []:=fun c y m=>by rw [<- hff];rfl
 rw [hfc,hff]
 obtain ⟨V,hV0⟩:∃ V,validF ⟨fi,ye,tr,la,lb,lc,ld,le,lf,lg⟩=V:=⟨_,rfl⟩
 rw [hV0]
 obtain ⟨tt,htt⟩:∃ f,totL ⟨fi,ye,tr,la,lb,lc,ld,le,lf,lg⟩=f:=⟨_,rfl⟩
 simp only [htt] at hce hfe
 clear hfc hff
 simp only [Law.v,lawV,hvo,hV0,k_breS_45,validGS,on_p_eq,go_sem,↓reduceIte,reduceCtorEq,Nat.reduceEqDiff,Nat.reduceLT,Nat.reduceAdd,Nat.reduceLeDiff]
 refine ⟨hw,fun h0=>by rw [h0];rfl,fun h0=>?_⟩
 rw [h0]
 refine AWp.adoptS (s:=5) (κ:=8000) (k:=5) (by simp [look]) rfl (by decide) ?_
 refine AWp.loop (T:=plan0) (α:=Nat × List PV) (fun z=>([(1,.ptr 1 0),(5,.rs 8000 z.2.length),(20,.pv (.sl lb)),(21,.pv (.int .i64 lb.length)),(22,.pv (.int .i64 z.1))],[(8000,.row 5 z.2),(1,.cells [.pv (.int .i64 fi),.pv (.int .i64 ye),.pv (.sl tr),.pv (.sl la),.pv (.sl lb),.pv (.sl lc),.pv (.sl ld),.pv (.sl le),.pv (.sl lf),.pv (.sl lg)])])) (fun z=>z.1<=lb.length/\z.2=(lb.take z.1).flatMap fc) (fun z=>lb.length-z.1)
  ⟨(0,[]),⟨Nat.zero_le _,rfl⟩,⟨by simp [fitR,look,upd],by simp [fitH,hget,hset],rfl,rfl,rfl⟩⟩ ?_
 rintro ⟨i,es⟩ ⟨g1,g2⟩
 simp only at g1 g2
 have hel:es.length<=i:=by rw [g2];exact fm_take hcl1 _ _
 have tk:es.take es.length=es:=List.take_length
 have hi1:IntKind.i64.wrap ((i:Int)+1)=((i+1:Nat):Int):=by rw [i64_in _ (by omega)];omega
 by_cases hlt:i<lb.length
 · have c0:decide ((i:Int)<(lb.length:Int))=true:=by simp;omega
   obtain ⟨c,y,m,hx,hcl3⟩:=hb _ (getD_mem hlt)
   have hsu:=fm_succ (f:=fc) hlt
   rw [hx,hce,<- g2] at hsu
   simp only [c0,hx,tk,hi1,hvo,htt,k_breS_46,totalS,on_psi_eq,plan0,go_sem,↓reduceIte,reduceCtorEq,Nat.reduceEqDiff,Nat.reduceLT,Nat.reduceAdd,Nat.reduceLeDiff,Nat.reduceMul]
   refine ⟨⟨by omega,by omega⟩,⟨hw,hcl3⟩,fun h1=>?_,fun h1=>?_⟩
   · rw [h1,cond_true] at hsu
     exact ⟨rfl,Nat.le_refl _,by omega,by simp only [maxLen];omega,(i+1,es++[.agg [.int .i64 2,.str c,.int .i64 y,.int .i64 m,.int .i64 (tt c y).1]]),⟨by simp only;omega,hsu.symm⟩,by simp only;omega,⟨by simp [fitR,look],by simp [fitH,hget],rfl,rfl,rfl⟩⟩
   · rw [h1,cond_false,List.append_nil] at hsu
     exact ⟨(i+1,es),⟨by simp only;omega,hsu.symm⟩,by simp only;omega,⟨by simp [fitR,look],by simp [fitH,hget],rfl,rfl,rfl⟩⟩
 · have c0:decide ((i:Int)<(lb.length:Int))=false:=by simp;omega
   simp only [c0,tk,k_breS_46,totalS,plan0,go_sem,↓reduceIte,reduceCtorEq,Nat.reduceEqDiff,Nat.reduceLT,Nat.reduceAdd,Nat.reduceLeDiff,Nat.reduceMul]
   have e:i=lb.length:=by omega
   subst e
   rw [List.take_length] at g2
   clear g1 hi1 hlt c0
   refine AWp.loop (T:=plan0) (α:=Nat × List PV) (fun z=>([(1,.ptr 1 0),(5,.rs 8000 z.2.length),(47,.pv (.sl lc)),(48,.pv (.int .i64 lc.length)),(49,.pv (.int .i64 z.1))],[(8000,.row 5 z.2),(1,.cells [.pv (.int .i64 fi),.pv (.int .i64 ye),.pv (.sl tr),.pv (.sl la),.pv (.sl lb),.pv (.sl lc),.pv (.sl ld),.pv (.sl le),.pv (.sl lf),.pv (.sl lg)])])) (fun z=>z.1<=lc.length/\z.2=es++(lc.take z.1).flatMap ff) (fun z=>lc.length-z.1)
    ⟨(0,es),⟨Nat.zero_le _,(List.append_nil es).symm⟩,⟨by simp [fitR,look],by simp [fitH,hget],rfl,rfl,rfl⟩⟩ ?_
   rintro ⟨i,fs⟩ ⟨g1,g3⟩
   simp only at g1 g3
   have hfl:fs.length<=lb.length+i:=by
    have:=fm_take hfl1 lc i
    rw [g3,List.length_append];omega
   have tk:fs.take fs.length=fs:=List.take_length
   have hi1:IntKind.i64.wrap ((i:Int)+1)=((i+1:Nat):Int):=by rw [i64_in _ (by omega)];omega
   by_cases hlt:i<lc.length
   · have c0:decide ((i:Int)<(lc.length:Int))=true:=by simp;omega
     obtain ⟨c,y,m,hx,hcl3⟩:=hc _ (getD_mem hlt)
     have hsu:=fm_succ (f:=ff) hlt
     rw [hx,hfe] at hsu
     simp only [c0,hx,tk,hi1,hvo,htt,k_breS_46,totalS,on_psi_eq,plan0,go_sem,↓reduceIte,reduceCtorEq,Nat.reduceEqDiff,Nat.reduceLT,Nat.reduceAdd,Nat.reduceLeDiff,Nat.reduceMul]
     refine ⟨⟨by omega,by omega⟩,⟨hw,hcl3⟩,fun h1=>?_,fun h1=>?_⟩
     · rw [h1,cond_true] at hsu
       exact ⟨rfl,Nat.le_refl _,by omega,by simp only [maxLen];omega,(i+1,fs++[.agg [.int .i64 3,.str c,.int .i64 y,.int .i64 m,.int .i64 (tt c y).1]]),⟨by simp only;omega,by simp only;rw [hsu,g3,List.append_assoc]⟩,by simp only;omega,⟨by simp [fitR,look],by simp [fitH,hget],rfl,rfl,rfl⟩⟩
     · rw [h1,cond_false,List.append_nil] at hsu
       exact ⟨(i+1,fs),⟨by simp only;omega,by simp only;rw [hsu,g3]⟩,by simp only;omega,⟨by simp [fitR,look],by simp [fitH,hget],rfl,rfl,rfl⟩⟩
   · have c0:decide ((i:Int)<(lc.length:Int))=false:=by simp;omega
     simp only [c0,tk,k_breS_46,totalS,plan0,go_sem,↓reduceIte,reduceCtorEq,Nat.reduceEqDiff,Nat.reduceLT,Nat.reduceAdd,Nat.reduceLeDiff,Nat.reduceMul]
     have e:i=lc.length:=by omega
     subst e
     rw [List.take_length] at g3
     exact ⟨Nat.le_refl _,by rw [g3,g2]⟩
noncomputable def D5 (g:FuncId):PSpec:=(putΦ D4 9 breS) g
theorem hD5:TabSound GG D5:=(hD4.put w_breS)
def keptF (L:Law):Bool:=(breF L).2 == 0&&(((breF L).1.length:Int) == 0)
noncomputable def keptS:PSpec:=on_p (fun l=>∃ L:Law,l=L.v/\LawS L) (fun l=>.bool (keptF (lawO l)))
theorem k_keptS_9 {args:List PV}:D5 9 args=breS args:=rfl
theorem w_keptS:PSound GG 11 keptS:=by
 refine PSound.of_wpc (C:=cxP Tryz.prog D5 [] 17) (T:=plan0) Tryz.func11 rfl rfl rfl (Fit.pure (G:=GG) hD5 mixed) (fun args h=>?_)
 unfold keptS at h
 obtain ⟨x,rfl,hp⟩:=on_p_inv h
 refine ⟨by simp [cxP],?_⟩
 simp only [keptS,on_p_eq,Tryz.f11,argL,plan0]
 obtain ⟨⟨fi,ye,tr,la,lb,lc,ld,le,lf,lg⟩,rfl,hS⟩:=hp
 have hvo:lawO (lawV fi ye tr la lb lc ld le lf lg)=⟨fi,ye,tr,la,lb,lc,ld,le,lf,lg⟩:=rfl
 rw [lawO_v]
 simp only [lawV] at hvo
 have hw:∃ L:Law,PV.agg [.int .i64 fi,.int .i64 ye,.sl tr,.sl la,.sl lb,.sl lc,.sl ld,.sl le,.sl lf,.sl lg]=L.v/\LawS L:=⟨_,rfl,hS⟩
 unfold keptF
 obtain ⟨⟨b1,b2⟩,hb⟩:∃ b,breF ⟨fi,ye,tr,la,lb,lc,ld,le,lf,lg⟩=b:=⟨_,rfl⟩
 rw [hb]
 simp only [Law.v,lawV,hvo,hb,k_keptS_9,breS,on_p_eq,go_sem,↓reduceIte,reduceCtorEq,Nat.reduceEqDiff,Nat.reduceLT,Nat.reduceAdd,Nat.reduceLeDiff]
 exact ⟨⟨fi,ye,tr,la,lb,lc,ld,le,lf,lg⟩,rfl,hS⟩
noncomputable def D6 (g:FuncId):PSpec:=(putΦ D5 11 keptS) g
theorem hD6:TabSound GG D6:=(hD5.put w_keptS)
end Go.AM
namespace Go.AM
open Go Go.Proofs Go.IntWalk
set_option maxRecDepth 100000
set_option maxHeartbeats 1000000
theorem bif0 {b:Bool} {x y:Int} (h:(bif b then x else y)=0) (hx:b=true->x≠0):b=false/\y=0:=by
 cases b with
 | true=>exact absurd h (hx rfl)
 | false=>exact ⟨rfl,h⟩
theorem orF_zero:∀ l:List Int,orF l=0↔∀ x,x∈l->x=0
 | []=>by simp [orF]
 | x::r=>by
   have ih:=orF_zero r
   unfold orF
   by_cases h:x=0
   · subst h
     have:((0:Int) != 0)=false:=rfl
     rw [this,cond_false,ih]
     simp
   · have:(x != 0)=true:=by simpa using h
     rw [this,cond_true]
     exact ⟨fun e=>absurd e h,fun e=>e x List.mem_cons_self⟩
theorem eachF_mem {one:PV->Int} {ord:PV->PV->Int}:∀ (l:List PV) (p:Option PV),eachF one ord p l=0->∀ x,x∈l->one x=0
 | [],_,_,_,hx=>by cases hx
 | y::r,p,h0,x,hx=>by
   rw [eachF_cons] at h0
   obtain ⟨h1,h0⟩:=bif0 h0 (fun e=>by simpa using e)
   obtain ⟨_,h3⟩:=bif0 h0 (fun _=>by decide)
   rcases List.mem_cons.1 hx with rfl | hx
   · simpa using h1
   · exact eachF_mem r (some y) h3 x hx
theorem fstG_zero {l:List PV}:∀ (k i:Nat),(fstG l k i).2=0->∀ j,i<=j->j<i+k->hdF l j=0
 | 0,i,_,j,h1,h2=>by omega
 | k+1,i,h,j,h1,h2=>by
   unfold fstG at h
   have h0:hdF l i=0:=by
    cases hc:(hdF l i != 0) with
    | false=>simpa using hc
    | true=>rw [hc,cond_true] at h;exact h
   rw [h0] at h
   by_cases e:j=i
   · rw [e];exact h0
   · exact fstG_zero k (i+1) h j (by omega) (by omega)
theorem valid_hd {l:List PV} (h:(fstF l).2=0):l.length<=60/\∀ j,j<l.length->hdF l j=0:=by
 unfold fstF at h
 cases hc:decide (60<(l.length:Int)) with
 | true=>rw [hc,cond_true] at h;exact absurd h (by decide)
 | false=>
   rw [hc,cond_false] at h
   have:=of_decide_eq_false hc
   exact ⟨by omega,fun j hj=>fstG_zero _ _ h j (Nat.zero_le _) (by omega)⟩
theorem valid_code {l:List PV} (h:(fstF l).2=0) {s:List UInt8} (hs:s∈l.map hCode):isCode s=true:=by
 obtain ⟨e,he,rfl⟩:=List.mem_map.1 hs
 obtain ⟨j,hj,e2⟩:=List.getElem_of_mem he
 have h1:=(valid_hd h).2 j hj
 have h2:l.getD j default=e:=by rw [List.getD_eq_getElem?_getD,List.getElem?_eq_getElem hj,e2];rfl
 unfold hdF at h1
 rw [h2] at h1
 simpa using (bif0 h1 (fun _=>by decide)).1
theorem code_parts {s:List UInt8} (h:isCode s=true):0<(partsR s).length:=by
 unfold isCode at h
 simpa using h
theorem cmpL_neg:∀ p q:List Int,cmpL q p= -cmpL p q
 | [],[]=>rfl
 | [],_::_=>rfl
 | _::_,[]=>rfl
 | x::p,y::q=>by
   have ih:=cmpL_neg p q
   simp only [cmpL]
   (repeat' split) <;> omega
theorem cmpL_le:∀ p q r:List Int,cmpL p q<=0->cmpL q r<=0->cmpL p r<=0
 | [],_,[],_,_=>by simp [cmpL]
 | [],_,_::_,_,_=>by simp [cmpL]
 | _::_,[],_,h,_=>by simp [cmpL] at h
 | _::_,_::_,[],_,h=>by simp [cmpL] at h
 | x::p,y::q,z::r,h1,h2=>by
   have ih:=cmpL_le p q r
   simp only [cmpL] at h1 h2 ⊢
   revert h1 h2
   (repeat' split) <;> omega
theorem cmpC_L {a b:List UInt8} (h:0<(partsR a).length):cmpC a b=cmpL (partsR a) (partsR b):=by
 unfold cmpC
 have:(((partsR a).length:Int) == 0)=false:=by simp;intro e;rw [e] at h;simp at h
 rw [this];rfl
theorem cmpI_cases (a b:Int):(a<b/\cmpI a b= -1)\/(a=b/\cmpI a b=0)\/(b<a/\cmpI a b=1):=by
 unfold cmpI
 rcases Int.lt_trichotomy a b with h | h | h
 · exact .inl ⟨h,by simp [h]⟩
 · exact .inr (.inl ⟨h,by simp [h]⟩)
 · exact .inr (.inr ⟨h,by simp [h,show ¬ a<b by omega]⟩)
theorem linO_neg {a b:List UInt8} {y z m n:Int}:linO (.agg [.str a,.int .i64 y,.int .i64 m]) (.agg [.str b,.int .i64 z,.int .i64 n])<0↔cmpC a b<0\/(cmpC a b=0/\y<z):=by
 have e:linO (.agg [.str a,.int .i64 y,.int .i64 m]) (.agg [.str b,.int .i64 z,.int .i64 n])=orF [cmpC a b,cmpI y z]:=rfl
 rw [e]
 simp only [orF]
 rcases cmpI_cases y z with ⟨h1,h2⟩ | ⟨h1,h2⟩ | ⟨h1,h2⟩ <;> rw [h2] <;> by_cases h0:cmpC a b=0
 all_goals first
  | (rw [h0];simp;omega)
  | (have:(cmpC a b != 0)=true:=by simpa using h0
     rw [this,cond_true];omega)
theorem yearsE_zero {L:Law} (h:yearsE L=0):(amg L.first 0 99=true/\amg L.years 1 4=true/\L.first+L.years<=100)/\(fstF L.tree).2=0/\limitE L=false:=by
 unfold yearsE at h
 obtain ⟨h1,h⟩:=bif0 h (fun _=>by decide)
 obtain ⟨h2,h⟩:=bif0 h (fun e=>by simpa using e)
 obtain ⟨h3,_⟩:=bif0 h (fun _=>by decide)
 simp only [Bool.or_eq_false_iff,Bool.not_eq_false',decide_eq_false_iff_not] at h1
 obtain ⟨⟨a,b⟩,c⟩:=h1
 refine ⟨⟨a,b,?_⟩,by simpa using h2,h3⟩
 simp only [amg,Bool.and_eq_true,decide_eq_true_eq] at a b
 rw [i64_in _ (by omega)] at c
 omega
theorem validF_zero {L:Law} (h:validF L=0):yearsE L=0/\eachF (lineE L (lvL L)) linO none L.a=0/\eachF (boundE L) linO none L.b=0/\eachF (boundE L) linO none L.c=0/\eachF (earmarkE L (lvL L)) earO none L.d=0/\
 sharesE L (lvL L)=0/\eachF (condE L (lvL L)) anyO none L.e=0/\eachF (ruleE L) rulO none L.f=0/\amE L (lvL L) none L.g=0:=by
 unfold validF at h
 obtain ⟨h1,h⟩:=bif0 h (fun e=>by simpa using e)
 rw [orF_zero] at h
 refine ⟨by simpa using h1,h _ ?_,h _ ?_,h _ ?_,h _ ?_,h _ ?_,h _ ?_,h _ ?_,h _ ?_⟩ <;> simp
theorem boundE_code {L:Law} (hv:(fstF L.tree).2=0) {s:List UInt8} {y m:Int} (h:boundE L (.agg [.str s,.int .i64 y,.int .i64 m])=0):isCode s=true/\hasF L s=true/\(y= -1\/inF L y=true)/\vldM m=true:=by
 simp only [boundE] at h
 obtain ⟨h1,h⟩:=bif0 h (fun _=>by decide)
 obtain ⟨h2,h⟩:=bif0 h (fun _=>by decide)
 obtain ⟨h3,_⟩:=bif0 h (fun _=>by decide)
 have h1:hasF L s=true:=by simpa using h1
 refine ⟨valid_code hv ?_,h1,?_,by simpa using h3⟩
 · unfold hasF at h1
   obtain ⟨e,he,h4⟩:=List.any_eq_true.1 h1
   exact List.mem_map.2 ⟨e,he,by simpa using h4⟩
 · simp only [Bool.and_eq_false_iff] at h2
   rcases h2 with h2 | h2
   · left;simpa using h2
   · right;simpa using h2
theorem lineE_code {L:Law} (hv:(fstF L.tree).2=0) {s:List UInt8} {y m:Int} (h:lineE L (lvL L) (.agg [.str s,.int .i64 y,.int .i64 m])=0):isCode s=true/\s∈lvL L/\inF L y=true/\vldM m=true:=by
 simp only [lineE] at h
 obtain ⟨h1,h⟩:=bif0 h (fun _=>by decide)
 obtain ⟨h2,h⟩:=bif0 h (fun _=>by decide)
 obtain ⟨h3,_⟩:=bif0 h (fun _=>by decide)
 have h1:s∈lvL L:=by simpa using h1
 exact ⟨valid_code hv (lvL_mem h1),h1,by simpa using h2,by simpa using h3⟩
end Go.AM
