/-
  A part of a proof.
-/
import Derived.Test.YtkajgkbhkkgdbaaGreatDoorYD
set_option linter.unusedSimpArgs false
set_option linter.unusedVariables false
namespace Go.AM
open Go Go.Proofs Go.IntWalk
set_option maxRecDepth 100000
set_option maxHeartbeats 4000000
noncomputable def Z3 (g:FuncId):PSpec:=(putΦ (putΦ (putΦ (putΦ (putΦ Z2 82 rlinesS) 83 rboundsS) 85 rcondsS) 86 rrulesS) 129 rchangesS) g
theorem hZ3:TabSound GG Z3:=(((((hZ2.put w_rlinesS).put w_rboundsS).put w_rcondsS).put w_rrulesS).put w_rchangesS)
noncomputable def rearS:PSpec:=on_p (fun l=>∃ L:Law,l=L.v/\LawS L) (fun l=>.int .i64 (orF [eachF (earmarkE (lawO l) (lvL (lawO l))) earO none (lawO l).d,sharesE (lawO l) (lvL (lawO l))]))
theorem k_rearS_39 {args:List PV}:Z3 39 args=rlvS args:=rfl
theorem k_rearS_66 {args:List PV}:Z3 66 args=rleafS args:=rfl
theorem k_rearS_69 {args:List PV}:Z3 69 args=rcmS args:=rfl
theorem k_rearS_77 {args:List PV}:Z3 77 args=runS args:=rfl
theorem k_rearS_79 {args:List PV}:Z3 79 args=rhasLS args:=rfl
theorem w_rearS:PSound GG 84 rearS:=by
 refine PSound.of_wpc (C:=cxP Tryz.prog Z3 [] 99) (T:=plan0) Tryz.func84 rfl rfl rfl (Fit.pure (G:=GG) hZ3 mixed) (fun args h=>?_)
 unfold rearS at h
 obtain ⟨x,rfl,hp⟩:=on_p_inv h
 refine ⟨by simp [cxP],?_⟩
 simp only [rearS,on_p_eq,Tryz.f84,argL,plan0]
 obtain ⟨⟨fi,ye,tr,la,lb,lc,ld,le,lf,lg⟩,rfl,hS⟩:=hp
 have hxs:=hS.d
 have hll:=hS.dl
 have hH:=hS.isH
 have htl:=hS.tl
 obtain ⟨hvl,hvm⟩:=hS.lvS
 have hpre:∃ L':Law,lawV fi ye tr la lb lc ld le lf lg=L'.v/\(∀ e,e∈L'.tree->isH e)/\L'.tree.length<=1000000:=⟨⟨fi,ye,tr,la,lb,lc,ld,le,lf,lg⟩,rfl,hS.isH,hS.tl⟩
 have hin:∃ L':Law,lawV fi ye tr la lb lc ld le lf lg=L'.v:=⟨⟨fi,ye,tr,la,lb,lc,ld,le,lf,lg⟩,rfl⟩
 have hvo:lawO (lawV fi ye tr la lb lc ld le lf lg)=⟨fi,ye,tr,la,lb,lc,ld,le,lf,lg⟩:=rfl
 rw [lawO_v]
 obtain ⟨L0,hL0⟩:∃ L0:Law,⟨fi,ye,tr,la,lb,lc,ld,le,lf,lg⟩=L0:=⟨_,rfl⟩
 rw [hL0] at hvo
 obtain ⟨W,hW⟩:∃ W,earmarkE ⟨fi,ye,tr,la,lb,lc,ld,le,lf,lg⟩ (lvL ⟨fi,ye,tr,la,lb,lc,ld,le,lf,lg⟩)=W:=⟨_,rfl⟩
 have hsh:sharesE ⟨fi,ye,tr,la,lb,lc,ld,le,lf,lg⟩ (lvL ⟨fi,ye,tr,la,lb,lc,ld,le,lf,lg⟩)=sharesG (lvL ⟨fi,ye,tr,la,lb,lc,ld,le,lf,lg⟩) ld:=rfl
 rw [hW,hsh]
 rw [hL0] at hW
 obtain ⟨lv,hlv⟩:∃ lv,lvL ⟨fi,ye,tr,la,lb,lc,ld,le,lf,lg⟩=lv:=⟨_,rfl⟩
 rw [hlv] at hvl hvm ⊢
 have hlv2:lvC (tr.map hCode) []=lv:=hlv
 clear hS hL0 hlv hsh
 simp only [lawV] at hpre hin hvo hxs hll hH htl
 simp only [Law.v,lawV,go_sem,↓reduceIte,reduceCtorEq,Nat.reduceEqDiff,Nat.reduceLT,Nat.reduceAdd,Nat.reduceLeDiff,PV.one,AV.one]
 refine AWp.loop (T:=plan0) (α:=Nat) (fun i=>([(1,.ptr 1 0),(14,.pv (.sl ld)),(15,.pv (.int .i64 ld.length)),(16,.pv (.int .i64 i))],[(1,.cells [.pv (.int .i64 fi),.pv (.int .i64 ye),.pv (.sl tr),.pv (.sl la),.pv (.sl lb),.pv (.sl lc),.pv (.sl ld),.pv (.sl le),.pv (.sl lf),.pv (.sl lg)])])) (fun i=>i<=ld.length/\eachF W earO none ld=eachF W earO (prevE ld i) (ld.drop i)) (fun i=>ld.length-i)
  ⟨0,⟨Nat.zero_le _,rfl⟩,⟨by simp [fitR,look],by simp [fitH,hget],rfl,rfl,rfl⟩⟩ ?_
 rintro i ⟨h1,h2⟩
 have hi1:IntKind.i64.wrap ((i:Int)+1)=((i+1:Nat):Int):=by rw [i64_in _ (by omega)];omega
 rw [h2]
 by_cases hlt:i<ld.length
 · have hsx:=hxs _ (getD_mem hlt)
   have hd:ld.drop i=ld.getD i default::ld.drop (i+1):=by rw [List.drop_eq_getElem_cons hlt];simp [List.getD_eq_getElem?_getD,hlt]
   obtain ⟨x,hg⟩:∃ x,ld.getD i default=x:=⟨_,rfl⟩
   have hpv:prevE ld (i+1)=some x:=by rw [<- hg];exact if_neg (by omega)
   rw [hg] at hsx hd
   rw [hd,eachF_cons]
   clear h2
   obtain ⟨s,c,p,rfl,hsl,hsl2⟩:=hsx
   have hE:W (.agg [.str s,.str c,.int .i64 p])=bif (!hasF L0 s||!(lvL L0).contains c) then 5 else bif !amg p 0 100 then 2 else 0:=by rw [<- hW];rfl
   rw [hE]
   obtain ⟨b0,e0⟩:∃ b,hasF L0 s=b:=⟨_,rfl⟩
   obtain ⟨b1,e1⟩:∃ b,(lvL L0).contains c=b:=⟨_,rfl⟩
   obtain ⟨b2,e2⟩:∃ b,amg p 0 100=b:=⟨_,rfl⟩
   simp only [e0,e1,e2] at hE ⊢
   cases i with
   | zero=>
     have c0:decide ((0:Int)<(ld.length:Int))=true:=by simp;omega
     have w1:IntKind.i64.wrap (0-1)= -1:=by decide
     have w2:IntKind.i64.wrap (0+1)=1:=by decide
     have hp0:prevE ld 0=none:=rfl
     rw [hp0]
     have hpv1:prevE ld 1=some (.agg [.str s,.str c,.int .i64 p]):=hpv
     have hbn:bhF earO none (.agg [.str s,.str c,.int .i64 p])=false:=rfl
     simp only [c0,decide_false,w1,w2,neg1',hg,hvo,e0,e1,amg_not,e2,List.take_succ_cons,List.take_nil,k_rearS_39,rlvS,on_ls_eq,k_rearS_66,rleafS,on_ps_eq,k_rearS_69,rcmS,on_ss_eq,k_rearS_79,rhasLS,plan0,go_sem,↓reduceIte,reduceCtorEq,Nat.reduceEqDiff,Nat.reduceLT,Int.reduceLT,Int.reduceLE,Nat.reduceAdd,Nat.reduceLeDiff,ev_callG,List.forall_mem_cons,List.not_mem_nil,PV.one,AV.one]
     clear hd
     repeat' (first | (intro _) | (with_reducible refine And.intro ?_ ?_))
     all_goals try first
      | exact hpre | exact ⟨hlaw,hsl⟩ | exact ⟨hpre,hsl⟩ | exact hsl | exact hin | exact fun _=>hpre | exact fun _=>⟨hpre,hsl⟩ | exact fun _=>hin | trivial | omega | (show checkD _ _ _=true;kernel_rfl)
      | (simp only [*,cond_true,cond_false,bne_self_eq_false];done)
      | (simp only [*,cond_true,cond_false,bne_self_eq_false];rfl)
      | (refine ⟨1,⟨by omega,?_⟩,by omega,⟨by simp [fitR,look],by simp [fitH,hget],rfl,rfl,rfl⟩⟩;simp only [*,cond_false,bne_self_eq_false];done)
      | (refine ⟨1,⟨by omega,?_⟩,by omega,⟨by simp [fitR,look],by simp [fitH,hget],rfl,rfl,rfl⟩⟩;simp only [*,boolR,cond_true,cond_false,bne_self_eq_false];rfl)
      | (simp_all;done)
   | succ j=>
     have c0:decide (((j+1:Nat):Int)<(ld.length:Int))=true:=by simp;omega
     have c1:decide ((0:Int)<((j+1:Nat):Int))=true:=by simp
     have w1:IntKind.i64.wrap (((j+1:Nat):Int)-1)=(j:Int):=by rw [i64_in _ (by omega)];omega
     have hsy:=hxs _ (getD_mem (show j<ld.length by omega))
     obtain ⟨z,hz⟩:∃ z,ld.getD j default=z:=⟨_,rfl⟩
     have hp0:prevE ld (j+1)=some z:=by rw [<- hz];rfl
     rw [hp0]
     rw [hz] at hsy
     obtain ⟨s',c',p',rfl,hsl',hsl2'⟩:=hsy
     have hb:bhF earO (some (.agg [.str s',.str c',.int .i64 p'])) (.agg [.str s,.str c,.int .i64 p])=(decide (0<cmpC s' s)||(cmpC s' s == 0&&decide (0<=cmpC c' c))):=by
      show decide (0<=orF [cmpC s' s,cmpC c' c])=_
      rw [orc,orF_one]
     rw [hb]
     simp only [c0,c1,w1,hg,hz,hi1,hvo,e0,e1,amg_not,e2,List.take_succ_cons,List.take_nil,k_rearS_39,rlvS,on_ls_eq,k_rearS_66,rleafS,on_ps_eq,k_rearS_69,rcmS,on_ss_eq,k_rearS_79,rhasLS,plan0,go_sem,↓reduceIte,reduceCtorEq,Nat.reduceEqDiff,Nat.reduceLT,Nat.reduceAdd,Nat.reduceLeDiff,ev_callG,List.forall_mem_cons,List.not_mem_nil,PV.one,AV.one]
     clear hd
     repeat' (first | (intro _) | (with_reducible refine And.intro ?_ ?_))
     all_goals try first
      | exact hpre | exact ⟨hlaw,hsl⟩ | exact ⟨hpre,hsl⟩ | exact hsl | exact hin | exact fun _=>hpre | exact fun _=>⟨hpre,hsl⟩ | exact fun _=>hin | trivial | omega | (show checkD _ _ _=true;kernel_rfl)
      | (simp only [*,boolR,cond_true,cond_false,bne_self_eq_false];done)
      | (simp only [*,cond_true,cond_false,bne_self_eq_false];rfl)
      | (refine ⟨j+1+1,⟨by omega,?_⟩,by omega,⟨by simp [fitR,look],by simp [fitH,hget],rfl,rfl,rfl⟩⟩;simp only [*,cond_false,bne_self_eq_false];done)
      | (refine ⟨j+1+1,⟨by omega,?_⟩,by omega,⟨by simp [fitR,look],by simp [fitH,hget],rfl,rfl,rfl⟩⟩;simp only [*,boolR,cond_true,cond_false,bne_self_eq_false];rfl)
      | (simp_all;done)
 · have c0:decide ((i:Int)<(ld.length:Int))=false:=by simp;omega
   rw [List.drop_eq_nil_of_le (by omega),eachF_nil]
   have ho:orF [0,sharesG lv ld]=sharesG lv ld:=orF_one _
   rw [ho]
   clear h2
   simp only [c0,hlv2,List.length_map,List.length_nil,k_rearS_39,rlvS,on_ls_eq,k_rearS_79,rhasLS,plan0,go_sem,↓reduceIte,reduceCtorEq,Nat.reduceEqDiff,Nat.reduceLT,Nat.reduceAdd,Nat.reduceLeDiff,PV.one,AV.one]
   refine ⟨⟨hH,by omega⟩,?_⟩
   refine AWp.loop (T:=plan0) (α:=Nat) (fun i=>([(1,.ptr 1 0),(74,.pv (.sl (lv.map PV.str))),(75,.pv (.int .i64 lv.length)),(76,.pv (.int .i64 i))],[(1,.cells [.pv (.int .i64 fi),.pv (.int .i64 ye),.pv (.sl tr),.pv (.sl la),.pv (.sl lb),.pv (.sl lc),.pv (.sl ld),.pv (.sl le),.pv (.sl lf),.pv (.sl lg)])])) (fun i=>i<=lv.length/\(lv.take i).any (fun s=>decide ((100:Int)<shG s ld 0))=false) (fun i=>lv.length-i)
    ⟨0,⟨Nat.zero_le _,rfl⟩,⟨by simp [fitR,look],by simp [fitH,hget],rfl,rfl,rfl⟩⟩ ?_
   rintro i ⟨h1,h2⟩
   have hi1:IntKind.i64.wrap ((i:Int)+1)=((i+1:Nat):Int):=by rw [i64_in _ (by omega)];omega
   by_cases hlt:i<lv.length
   · have c0:decide ((i:Int)<(lv.length:Int))=true:=by simp;omega
     have hg:=getD_strs hlt
     have hsm:lv.getD i []∈lv:=by rw [List.getD_eq_getElem?_getD,List.getElem?_eq_getElem hlt];exact List.getElem_mem _
     have hs1:=hvm _ hsm
     have htk:lv.take (i+1)=lv.take i++[lv.getD i []]:=by rw [List.take_add_one];simp [List.getElem?_eq_getElem hlt,List.getD_eq_getElem?_getD]
     generalize lv.getD i []=s at hg hs1 hsm htk
     simp only [c0,hg,List.length_map,plan0,go_sem,↓reduceIte,reduceCtorEq,Nat.reduceEqDiff,Nat.reduceLT,Nat.reduceAdd,Nat.reduceLeDiff]
     refine ⟨by omega,?_⟩
     refine AWp.loop (T:=plan0) (α:=Nat × Int) (fun j=>([(1,.ptr 1 0),(9,.pv (.str s)),(10,.pv (.int .i64 j.2)),(74,.pv (.sl (lv.map PV.str))),(75,.pv (.int .i64 lv.length)),(76,.pv (.int .i64 i)),(81,.pv (.sl ld)),(82,.pv (.int .i64 ld.length)),(83,.pv (.int .i64 j.1))],[(1,.cells [.pv (.int .i64 fi),.pv (.int .i64 ye),.pv (.sl tr),.pv (.sl la),.pv (.sl lb),.pv (.sl lc),.pv (.sl ld),.pv (.sl le),.pv (.sl lf),.pv (.sl lg)])])) (fun j=>j.1<=ld.length/\shG s ld 0=shG s (ld.drop j.1) j.2) (fun j=>ld.length-j.1)
      ⟨(0,0),⟨Nat.zero_le _,rfl⟩,⟨by simp [fitR,look],by simp [fitH,hget],rfl,rfl,rfl⟩⟩ ?_
     rintro ⟨j,acc⟩ ⟨g1,g2⟩
     simp only at g1 g2
     have hj1:IntKind.i64.wrap ((j:Int)+1)=((j+1:Nat):Int):=by rw [i64_in _ (by omega)];omega
     by_cases jlt:j<ld.length
     · have c1:decide ((j:Int)<(ld.length:Int))=true:=by simp;omega
       obtain ⟨t,c,p,he,ht,hc⟩:=hxs _ (getD_mem jlt)
       have hdr:ld.drop j=ld.getD j default::ld.drop (j+1):=by rw [List.drop_eq_getElem_cons jlt];simp [List.getD_eq_getElem?_getD,jlt]
       rw [hdr,he,shG] at g2
       have e1:srcOf (.agg [.str t,.str c,.int .i64 p])=t:=rfl
       have e2:pctOf (.agg [.str t,.str c,.int .i64 p])=p:=rfl
       rw [e1,e2] at g2
       simp only [c1,he,hj1,List.take_succ_cons,List.take_nil,on_ss_eq,k_rearS_77,runS,plan0,go_sem,↓reduceIte,reduceCtorEq,Nat.reduceEqDiff,Nat.reduceLT,Nat.reduceAdd,Nat.reduceLeDiff,PV.one,AV.one]
       and_intros
       all_goals try first | omega | trivial
       · intro hu
         rw [hu,cond_true] at g2
         exact ⟨(j+1,IntKind.i64.wrap (acc+p)),⟨by simp only;omega,g2⟩,by simp only;omega,⟨by simp [fitR,look],by simp [fitH,hget],rfl,rfl,rfl⟩⟩
       · intro hu
         rw [hu,cond_false] at g2
         exact ⟨(j+1,acc),⟨by simp only;omega,g2⟩,by simp only;omega,⟨by simp [fitR,look],by simp [fitH,hget],rfl,rfl,rfl⟩⟩
     · have c1:decide ((j:Int)<(ld.length:Int))=false:=by simp;omega
       rw [List.drop_eq_nil_of_le (by omega),shG] at g2
       simp only [c1,hi1,List.length_map,plan0,go_sem,↓reduceIte,reduceCtorEq,Nat.reduceEqDiff,Nat.reduceLT,Nat.reduceAdd,Nat.reduceLeDiff,PV.one,AV.one]
       refine ⟨fun h9=>?_,fun h9=>⟨i+1,⟨by omega,?_⟩,by omega,⟨by simp [fitR,look],by simp [fitH,hget],rfl,rfl,rfl⟩⟩⟩
       · have:lv.any (fun s=>decide ((100:Int)<shG s ld 0))=true:=List.any_eq_true.2 ⟨s,hsm,by rw [g2];exact h9⟩
         unfold sharesG
         rw [this];rfl
       · rw [htk,List.any_append,h2,List.any_cons,g2,h9];rfl
   · have c0:decide ((i:Int)<(lv.length:Int))=false:=by simp;omega
     rw [List.take_of_length_le (by omega)] at h2
     unfold sharesG
     rw [h2]
     simp only [c0,cond_false,List.length_map,plan0,go_sem,↓reduceIte,reduceCtorEq,Nat.reduceEqDiff,Nat.reduceLT,Nat.reduceAdd,Nat.reduceLeDiff]
noncomputable def ramS:PSpec:=on_p (fun l=>∃ L:Law,l=L.v/\LawS L) (fun l=>.int .i64 (amE (lawO l) (lvL (lawO l)) none (lawO l).g))
theorem k_ramS_129 {args:List PV}:Z3 129 args=rchangesS args:=rfl
theorem w_ramS:PSound GG 87 ramS:=by
 refine PSound.of_wpc (C:=cxP Tryz.prog Z3 [] 82) (T:=plan0) Tryz.func87 rfl rfl rfl (Fit.pure (G:=GG) hZ3 mixed) (fun args h=>?_)
 unfold ramS at h
 obtain ⟨x,rfl,hp⟩:=on_p_inv h
 refine ⟨by simp [cxP],?_⟩
 simp only [ramS,on_p_eq,Tryz.f87,argL,plan0]
 obtain ⟨⟨fi,ye,tr,la,lb,lc,ld,le,lf,lg⟩,rfl,hS⟩:=hp
 have hxs:=hS.g
 have hll:=hS.gl
 have hlaw:∃ L':Law,lawV fi ye tr la lb lc ld le lf lg=L'.v/\LawS L':=⟨⟨fi,ye,tr,la,lb,lc,ld,le,lf,lg⟩,rfl,hS⟩
 have hpre:∃ L':Law,lawV fi ye tr la lb lc ld le lf lg=L'.v/\(∀ e,e∈L'.tree->isH e)/\L'.tree.length<=1000000:=⟨⟨fi,ye,tr,la,lb,lc,ld,le,lf,lg⟩,rfl,hS.isH,hS.tl⟩
 have hin:∃ L':Law,lawV fi ye tr la lb lc ld le lf lg=L'.v:=⟨⟨fi,ye,tr,la,lb,lc,ld,le,lf,lg⟩,rfl⟩
 have hvo:lawO (lawV fi ye tr la lb lc ld le lf lg)=⟨fi,ye,tr,la,lb,lc,ld,le,lf,lg⟩:=rfl
 rw [lawO_v]
 obtain ⟨L0,hL0⟩:∃ L0:Law,⟨fi,ye,tr,la,lb,lc,ld,le,lf,lg⟩=L0:=⟨_,rfl⟩
 rw [hL0] at hvo
 have hres:amE ⟨fi,ye,tr,la,lb,lc,ld,le,lf,lg⟩ (lvL ⟨fi,ye,tr,la,lb,lc,ld,le,lf,lg⟩) none lg=amE L0 (lvL L0) none lg:=by subst hL0;rfl
 rw [hres]
 clear hS hL0 hres
 simp only [lawV] at hpre hin hvo hxs hll hlaw
 simp only [Law.v,lawV,go_sem,↓reduceIte,reduceCtorEq,Nat.reduceEqDiff,Nat.reduceLT,Nat.reduceAdd,Nat.reduceLeDiff,PV.one,AV.one]
 refine AWp.loop (T:=plan0) (α:=Nat) (fun i=>([(1,.ptr 1 0),(7,.pv (.sl lg)),(8,.pv (.int .i64 lg.length)),(9,.pv (.int .i64 i))],[(1,.cells [.pv (.int .i64 fi),.pv (.int .i64 ye),.pv (.sl tr),.pv (.sl la),.pv (.sl lb),.pv (.sl lc),.pv (.sl ld),.pv (.sl le),.pv (.sl lf),.pv (.sl lg)])])) (fun i=>i<=lg.length/\amE L0 (lvL L0) none lg=amE L0 (lvL L0) (prevE lg i) (lg.drop i)) (fun i=>lg.length-i)
  ⟨0,⟨Nat.zero_le _,rfl⟩,⟨by simp [fitR,look],by simp [fitH,hget],rfl,rfl,rfl⟩⟩ ?_
 rintro i ⟨h1,h2⟩
 have hi1:IntKind.i64.wrap ((i:Int)+1)=((i+1:Nat):Int):=by rw [i64_in _ (by omega)];omega
 rw [h2]
 by_cases hlt:i<lg.length
 · have hsx:=hxs _ (getD_mem hlt)
   have hd:lg.drop i=lg.getD i default::lg.drop (i+1):=by rw [List.drop_eq_getElem_cons hlt];simp [List.getD_eq_getElem?_getD,hlt]
   obtain ⟨x,hg⟩:∃ x,lg.getD i default=x:=⟨_,rfl⟩
   have hpv:prevE lg (i+1)=some x:=by rw [<- hg];exact if_neg (by omega)
   rw [hg] at hsx hd
   rw [hd,amE_cons]
   clear h2
   obtain ⟨d,n,ch,rfl,hx4,hchl⟩:=hsx
   have k1:chK (.agg [.int .i64 d,.int .i64 n,.sl ch])=d:=rfl
   have k2:amdN (.agg [.int .i64 d,.int .i64 n,.sl ch])=n:=rfl
   have k3:amdL (.agg [.int .i64 d,.int .i64 n,.sl ch])=ch:=rfl
   have hsl:(∀ x,x∈ch->isX4 x)/\ch.length<=1000000:=⟨hx4,hchl⟩
   rw [k1,k2,k3]
   obtain ⟨b0,e0⟩:∃ b,amg d 0 35990=b:=⟨_,rfl⟩
   obtain ⟨b1,e1⟩:∃ b,amg n 1 1000000=b:=⟨_,rfl⟩
   obtain ⟨E,e2⟩:∃ b,eachF (changeE L0 (lvL L0)) chaO none ch=b:=⟨_,rfl⟩
   simp only [e0,e1,e2]
   cases i with
   | zero=>
     have c0:decide ((0:Int)<(lg.length:Int))=true:=by simp;omega
     have w1:IntKind.i64.wrap (0-1)= -1:=by decide
     have w2:IntKind.i64.wrap (0+1)=1:=by decide
     have hp0:prevE lg 0=none:=rfl
     rw [hp0]
     have hpv1:prevE lg 1=some (.agg [.int .i64 d,.int .i64 n,.sl ch]):=hpv
     have hbn:bhF amdO none (.agg [.int .i64 d,.int .i64 n,.sl ch])=false:=rfl
     simp only [c0,decide_false,w1,w2,neg1',hg,hvo,amg_not,amg_not2,e0,e1,e2,List.take_succ_cons,List.take_nil,k_ramS_129,rchangesS,on_pl_eq,plan0,go_sem,↓reduceIte,reduceCtorEq,Nat.reduceEqDiff,Nat.reduceLT,Int.reduceLT,Int.reduceLE,Nat.reduceAdd,Nat.reduceLeDiff,List.forall_mem_cons,List.not_mem_nil,PV.one,AV.one]
     clear hd
     repeat' (first | (intro _) | (with_reducible refine And.intro ?_ ?_))
     all_goals try first
      | exact hpre | exact ⟨hlaw,hsl⟩ | exact ⟨hpre,hsl⟩ | exact hsl | exact hin | exact fun _=>hpre | exact fun _=>⟨hpre,hsl⟩ | exact fun _=>hin | trivial | omega | (show checkD _ _ _=true;kernel_rfl)
      | (simp only [*,cond_true,cond_false];done)
      | (simp only [*,cond_false];rfl)
      | (refine ⟨1,⟨by omega,?_⟩,by omega,⟨by simp [fitR,look],by simp [fitH,hget],rfl,rfl,rfl⟩⟩;simp only [*,cond_false];done)
      | (refine ⟨1,⟨by omega,?_⟩,by omega,⟨by simp [fitR,look],by simp [fitH,hget],rfl,rfl,rfl⟩⟩;simp only [*,boolR,cond_true,cond_false,bne_self_eq_false];rfl)
      | (simp_all;done)
   | succ j=>
     have c0:decide (((j+1:Nat):Int)<(lg.length:Int))=true:=by simp;omega
     have c1:decide ((0:Int)<((j+1:Nat):Int))=true:=by simp
     have w1:IntKind.i64.wrap (((j+1:Nat):Int)-1)=(j:Int):=by rw [i64_in _ (by omega)];omega
     have hsy:=hxs _ (getD_mem (show j<lg.length by omega))
     obtain ⟨z,hz⟩:∃ z,lg.getD j default=z:=⟨_,rfl⟩
     have hp0:prevE lg (j+1)=some z:=by rw [<- hz];rfl
     rw [hp0]
     rw [hz] at hsy
     obtain ⟨d',n',ch',rfl,_⟩:=hsy
     have hb:bhF amdO (some (.agg [.int .i64 d',.int .i64 n',.sl ch'])) (.agg [.int .i64 d,.int .i64 n,.sl ch])=(decide (d<d')||(d' == d&&decide (n<=n'))):=by
      show decide (0<=orF [cmpI d' d,cmpI n' n])=_
      rw [orc,orF_one,cmpI_pos,cmpI_eq0,cmpI_ge]
     rw [hb]
     simp only [c0,c1,w1,hg,hz,hi1,hvo,amg_not,amg_not2,e0,e1,e2,List.take_succ_cons,List.take_nil,k_ramS_129,rchangesS,on_pl_eq,plan0,go_sem,↓reduceIte,reduceCtorEq,Nat.reduceEqDiff,Nat.reduceLT,Nat.reduceAdd,Nat.reduceLeDiff,List.forall_mem_cons,List.not_mem_nil,PV.one,AV.one]
     clear hd
     repeat' (first | (intro _) | (with_reducible refine And.intro ?_ ?_))
     all_goals try first
      | exact hpre | exact ⟨hlaw,hsl⟩ | exact ⟨hpre,hsl⟩ | exact hsl | exact hin | exact fun _=>hpre | exact fun _=>⟨hpre,hsl⟩ | exact fun _=>hin | trivial | omega | (show checkD _ _ _=true;kernel_rfl)
      | (simp only [*,boolR,cond_true,cond_false];done)
      | (simp only [*,cond_false];rfl)
      | (refine ⟨j+1+1,⟨by omega,?_⟩,by omega,⟨by simp [fitR,look],by simp [fitH,hget],rfl,rfl,rfl⟩⟩;simp only [*,cond_false];done)
      | (refine ⟨j+1+1,⟨by omega,?_⟩,by omega,⟨by simp [fitR,look],by simp [fitH,hget],rfl,rfl,rfl⟩⟩;simp only [*,boolR,cond_true,cond_false,bne_self_eq_false];rfl)
      | (simp_all;done)
 · have c0:decide ((i:Int)<(lg.length:Int))=false:=by simp;omega
   rw [List.drop_eq_nil_of_le (by omega),amE_nil]
   simp only [c0,plan0,go_sem,↓reduceIte,reduceCtorEq,Nat.reduceEqDiff,Nat.reduceLT,Nat.reduceAdd,Nat.reduceLeDiff]
noncomputable def Z4 (g:FuncId):PSpec:=(putΦ (putΦ Z3 84 rearS) 87 ramS) g
theorem hZ4:TabSound GG Z4:=((hZ3.put w_rearS).put w_ramS)
theorem years_cond (fi ye:Int):(decide (fi<0)||decide (99<fi)||decide (ye<1)||decide (4<ye)||decide (99<IntKind.i64.wrap (IntKind.i64.wrap (fi+ye)-1)))=(!amg fi 0 99||!amg ye 1 4||decide (100<IntKind.i64.wrap (fi+ye))):=by
 rw [amg_not,amg_not2]
 by_cases h1:0<=fi/\fi<=99
 · by_cases h2:1<=ye/\ye<=4
   · have w1:IntKind.i64.wrap (fi+ye)=fi+ye:=i64_in _ (by omega)
     have w2:IntKind.i64.wrap (fi+ye-1)=fi+ye-1:=i64_in _ (by omega)
     rw [w1,w2]
     congr 1
     rw [Bool.eq_iff_iff];simp;omega
   · have:amg ye 1 4=false:=by unfold amg;simp;omega
     rw [this];simp
 · have:amg fi 0 99=false:=by unfold amg;simp;omega
   rw [this];simp
theorem orF_app (a:Int) (r:List Int):orF (a::r)=bif a != 0 then a else orF r:=rfl
theorem orF_nest (a b c d e f g h i:Int):orF [a,b,c,d,orF [e,f],g,h,i]=bif a != 0 then a else orF [b,c,d,e,f,g,h,i]:=by
 have h1:∀ e f r,orF (orF [e,f]::r)=orF (e::f::r):=fun e f r=>by
  by_cases he:e=0
  · subst he
    show orF (orF [f]::r)=orF (f::r)
    rw [orF_one]
  · have h2:(e != 0)=true:=by simpa using he
    have h3:orF [e,f]=e:=by rw [orF_app,h2,cond_true]
    rw [h3,orF_app,orF_app,h2];rfl
 rw [orF_app a,orF_app b,orF_app c,orF_app d,h1,<- orF_app d,<- orF_app c,<- orF_app b]
noncomputable def rvalidLS:PSpec:=on_p (fun l=>∃ L:Law,l=L.v/\LawS L) (fun l=>.int .i64 (validF (lawO l)))
theorem k_rvalidLS_80 {args:List PV}:Z4 80 args=rvalS args:=rfl
theorem k_rvalidLS_81 {args:List PV}:Z4 81 args=rlimS args:=rfl
theorem k_rvalidLS_82 {args:List PV}:Z4 82 args=rlinesS args:=rfl
theorem k_rvalidLS_83 {args:List PV}:Z4 83 args=rboundsS args:=rfl
theorem k_rvalidLS_84 {args:List PV}:Z4 84 args=rearS args:=rfl
theorem k_rvalidLS_85 {args:List PV}:Z4 85 args=rcondsS args:=rfl
theorem k_rvalidLS_86 {args:List PV}:Z4 86 args=rrulesS args:=rfl
theorem k_rvalidLS_87 {args:List PV}:Z4 87 args=ramS args:=rfl
theorem w_rvalidLS:PSound GG 44 rvalidLS:=by
 refine PSound.of_wpc (C:=cxP Tryz.prog Z4 [] 69) (T:=plan0) Tryz.func44 rfl rfl rfl (Fit.pure (G:=GG) hZ4 mixed) (fun args h=>?_)
 unfold rvalidLS at h
 obtain ⟨x,rfl,hp⟩:=on_p_inv h
 refine ⟨by simp [cxP],?_⟩
 simp only [rvalidLS,on_p_eq,Tryz.f44,argL,plan0]
 obtain ⟨⟨fi,ye,tr,la,lb,lc,ld,le,lf,lg⟩,rfl,hS⟩:=hp
 have hlaw:∃ L':Law,lawV fi ye tr la lb lc ld le lf lg=L'.v/\LawS L':=⟨⟨fi,ye,tr,la,lb,lc,ld,le,lf,lg⟩,rfl,hS⟩
 have hT:=hS.tr
 have htl:=hS.tl
 have h3:=hS.b
 have h4:=hS.bl
 have h5:=hS.c
 have h6:=hS.cl
 have hvo:lawO (lawV fi ye tr la lb lc ld le lf lg)=⟨fi,ye,tr,la,lb,lc,ld,le,lf,lg⟩:=rfl
 rw [lawO_v]
 obtain ⟨y1,hy1⟩:∃ b,(!amg fi 0 99||!amg ye 1 4||decide (100<IntKind.i64.wrap (fi+ye)))=b:=⟨_,rfl⟩
 have hY:yearsE ⟨fi,ye,tr,la,lb,lc,ld,le,lf,lg⟩=bif y1 then 2 else bif (fstF tr).2 != 0 then (fstF tr).2 else bif limitE ⟨fi,ye,tr,la,lb,lc,ld,le,lf,lg⟩ then 3 else 0:=by rw [<- hy1];rfl
 unfold validF
 rw [hY]
 obtain ⟨F,hF⟩:∃ F,(fstF tr).2=F:=⟨_,rfl⟩
 obtain ⟨e0,q0⟩:∃ e,(bif limitE ⟨fi,ye,tr,la,lb,lc,ld,le,lf,lg⟩ then (3:Int) else 0)=e:=⟨_,rfl⟩
 obtain ⟨e1,q1⟩:∃ e,eachF (lineE ⟨fi,ye,tr,la,lb,lc,ld,le,lf,lg⟩ (lvL ⟨fi,ye,tr,la,lb,lc,ld,le,lf,lg⟩)) linO none la=e:=⟨_,rfl⟩
 obtain ⟨e2,q2⟩:∃ e,eachF (boundE ⟨fi,ye,tr,la,lb,lc,ld,le,lf,lg⟩) linO none lb=e:=⟨_,rfl⟩
 obtain ⟨e3,q3⟩:∃ e,eachF (boundE ⟨fi,ye,tr,la,lb,lc,ld,le,lf,lg⟩) linO none lc=e:=⟨_,rfl⟩
 obtain ⟨e4,q4⟩:∃ e,eachF (earmarkE ⟨fi,ye,tr,la,lb,lc,ld,le,lf,lg⟩ (lvL ⟨fi,ye,tr,la,lb,lc,ld,le,lf,lg⟩)) earO none ld=e:=⟨_,rfl⟩
 obtain ⟨e5,q5⟩:∃ e,sharesE ⟨fi,ye,tr,la,lb,lc,ld,le,lf,lg⟩ (lvL ⟨fi,ye,tr,la,lb,lc,ld,le,lf,lg⟩)=e:=⟨_,rfl⟩
 obtain ⟨e6,q6⟩:∃ e,eachF (condE ⟨fi,ye,tr,la,lb,lc,ld,le,lf,lg⟩ (lvL ⟨fi,ye,tr,la,lb,lc,ld,le,lf,lg⟩)) anyO none le=e:=⟨_,rfl⟩
 obtain ⟨e7,q7⟩:∃ e,eachF (ruleE ⟨fi,ye,tr,la,lb,lc,ld,le,lf,lg⟩) rulO none lf=e:=⟨_,rfl⟩
 obtain ⟨e8,q8⟩:∃ e,amE ⟨fi,ye,tr,la,lb,lc,ld,le,lf,lg⟩ (lvL ⟨fi,ye,tr,la,lb,lc,ld,le,lf,lg⟩) none lg=e:=⟨_,rfl⟩
 have hR:∀ g1:y1=false,∀ g2:(F != 0)=false,(bif (bif y1 then 2 else bif F != 0 then F else e0) != 0 then (bif y1 then 2 else bif F != 0 then F else e0) else orF [e1,e2,e3,e4,e5,e6,e7,e8])=orF [e0,e1,e2,e3,orF [e4,e5],e6,e7,e8]:=fun g1 g2=>by
  rw [g1,g2,orF_nest];rfl
 rw [hF,q0]
 simp only [q1,q2,q3,q4,q5,q6,q7,q8]
 clear hS
 simp only [lawV] at hlaw hvo hT htl h3 h4 h5 h6
 have hyc:=years_cond fi ye
 rw [hy1] at hyc
 simp only [Law.v,lawV,hvo,hyc,hF,q0,q1,q2,q3,q4,q5,q6,q7,q8,List.take_succ_cons,List.take_nil,k_rvalidLS_80,rvalS,on_l_eq,k_rvalidLS_81,rlimS,on_p_eq,k_rvalidLS_82,rlinesS,k_rvalidLS_83,rboundsS,on_pl_eq,k_rvalidLS_84,rearS,k_rvalidLS_85,rcondsS,k_rvalidLS_86,rrulesS,k_rvalidLS_87,ramS,go_sem,↓reduceIte,reduceCtorEq,Nat.reduceEqDiff,Nat.reduceLT,Nat.reduceAdd,Nat.reduceLeDiff,Nat.reduceMul,List.forall_mem_cons,List.not_mem_nil,PV.one,AV.one]
 refine ⟨fun g1=>by rw [g1];rfl,fun g1=>⟨⟨hT,by omega⟩,fun g2=>by rw [g1];simp only [cond_false,g2,cond_true],fun g2=>⟨by kernel_rfl,?_⟩⟩⟩
 rw [hR g1 g2]
 have hk1:=And.intro hlaw (And.intro h3 h4)
 have hk2:=And.intro hlaw (And.intro h5 h6)
 repeat' (with_reducible refine And.intro ?_ ?_)
 all_goals try first | exact hlaw | exact hk1 | exact hk2 | assumption
 obtain ⟨es,hes⟩:∃ es,[e0,e1,e2,e3,orF [e4,e5],e6,e7,e8]=es:=⟨_,rfl⟩
 have hm:[PV.int .i64 e0,.int .i64 e1,.int .i64 e2,.int .i64 e3,.int .i64 (orF [e4,e5]),.int .i64 e6,.int .i64 e7,.int .i64 e8]=es.map intV:=by rw [<- hes];rfl
 have hl8:es.length=8:=by rw [<- hes];rfl
 simp only [hm,hes]
 refine AWp.loop (T:=plan0) (α:=Nat) (fun i=>([(59,.pv (.sl (es.map intV))),(60,.pv (.int .i64 8)),(61,.pv (.int .i64 i))],[])) (fun i=>i<=es.length/\orF (es.drop i)=orF es) (fun i=>es.length-i)
  ⟨0,⟨Nat.zero_le _,rfl⟩,⟨by simp [fitR,look],trivial,rfl,rfl,rfl⟩⟩ ?_
 rintro i ⟨h1,h2⟩
 have hi1:IntKind.i64.wrap ((i:Int)+1)=((i+1:Nat):Int):=by rw [i64_in _ (by omega)];omega
 by_cases hlt:i<es.length
 · have c0:decide ((i:Int)<8)=true:=by simp;omega
   have k1:=getD_intV hlt
   rw [List.drop_eq_getElem_cons hlt,orF] at h2
   have z2:es.getD i 0=es[i]:=by simp [List.getD_eq_getElem?_getD,hlt]
   rw [z2] at k1
   simp only [c0,k1,hi1,List.length_map,plan0,go_sem,↓reduceIte,reduceCtorEq,Nat.reduceEqDiff,Nat.reduceLT,Nat.reduceLeDiff]
   refine ⟨⟨by omega,by omega⟩,fun h3=>?_,fun h3=>⟨i+1,⟨by omega,?_⟩,by omega,⟨by simp [fitR,look],trivial,rfl,rfl,rfl⟩⟩⟩
   · rw [h3] at h2;rw [<- h2];rfl
   · rw [h3] at h2;exact h2
 · have c0:decide ((i:Int)<8)=false:=by simp;omega
   rw [List.drop_eq_nil_of_le (by omega)] at h2
   simp only [c0,List.length_map,plan0,go_sem,↓reduceIte,Nat.reduceEqDiff,Nat.reduceLT]
   rw [<- h2];rfl
noncomputable def Z5 (g:FuncId):PSpec:=(putΦ Z4 44 rvalidLS) g
theorem hZ5:TabSound GG Z5:=(hZ4.put w_rvalidLS)
end Go.AM
