/-
  A part of a proof.
-/
import Derived.Test.YteiphfohadlgiaaGreatDoorY9m
set_option linter.unusedSimpArgs false
set_option linter.unusedVariables false
namespace Go.AM
open Go Go.Proofs Go.IntWalk
set_option maxRecDepth 100000
set_option maxHeartbeats 8000000
def okHd:PV->Bool
  | .agg [.str c,.str n]=>decide (c.length<=60)&&decide (n.length<=100)
  | _=>false
def smT (l:List PV):Bool:=decide (l.length<=80)&&l.all okHd
noncomputable def smallS:PSpec:=on_l (fun l=>(∀ e,e∈l->∃ c n,e=hV c n)/\l.length<=9223372036854775807) (fun l=>.bool (smT l))
theorem w_smallS:PSound GG 41 smallS:=by
  refine PSound.of_wpc (C:=cxP Tryz.prog Ξ0 [] 25) (T:=plan0) Tryz.func41 rfl rfl rfl (Fit.pure (G:=GG) hΞ0 mixed) (fun args h=>?_)
  unfold smallS at h
  obtain ⟨l,rfl,hp⟩:=on_l_inv h
  refine ⟨by simp [cxP],?_⟩
  simp only [smallS,on_l_eq,Tryz.f41,argL,plan0]
  obtain ⟨hl,hn⟩:=hp
  simp only [go_sem,↓reduceIte,reduceCtorEq,Nat.reduceEqDiff,Nat.reduceLT,↓all_qV,Int.reduceToNat,Int.reduceLT,Int.reduceLE,Nat.reduceAdd,Nat.reduceLeDiff,Nat.reduceMul]
  refine ⟨fun h1=>?_,fun h1=>?_⟩
  · have:smT l=false:=by
      unfold smT
      have:decide (l.length<=80)=false:=by simp at h1 ⊢;omega
      rw [this];rfl
    rw [this]
  have h80:l.length<=80:=by simp at h1;omega
  refine AWp.loop (T:=plan0) (α:=Nat) (fun i=>([(8,.pv (.sl l)),(9,.pv (.int .i64 l.length)),(10,.pv (.int .i64 i))],[])) (fun i=>i<=l.length/\(l.take i).all okHd=true) (fun i=>l.length-i)
    ⟨0,⟨Nat.zero_le _,rfl⟩,⟨by simp [fitR,look],trivial,rfl,rfl,rfl⟩⟩ ?_
  rintro i ⟨g1,g2⟩
  have hi1:IntKind.i64.wrap ((i:Int)+1)=((i+1:Nat):Int):=by rw [i64_in _ (by omega)];omega
  by_cases hlt:i<l.length
  · have c0:decide ((i:Int)<(l.length:Int))=true:=by simp;omega
    obtain ⟨c,n,he⟩:=hl _ (getD_mem hlt)
    have he3:l.getD i default=.agg [.str c,.str n]:=he
    have hm:=getD_mem hlt
    have htk:=take_succ_getD hlt
    rw [he3] at hm htk
    have hok:okHd (.agg [.str c,.str n])= !(decide ((60:Int)<(c.length:Int))||decide ((100:Int)<(n.length:Int))):=by
      show (decide (c.length<=60)&&decide (n.length<=100))=_
      rw [Bool.eq_iff_iff];simp only [Bool.and_eq_true,decide_eq_true_eq,Bool.not_eq_true',Bool.or_eq_false_iff,decide_eq_false_iff_not];omega
    simp only [c0,he3,hi1,List.length_map,List.take_succ_cons,List.take_nil,plan0,go_sem,↓reduceIte,reduceCtorEq,Nat.reduceEqDiff,Nat.reduceLT,↓all_qV,Int.reduceToNat,Int.reduceLT,Int.reduceLE,Nat.reduceAdd,Nat.reduceLeDiff,Nat.reduceMul]
    refine ⟨⟨by omega,by omega⟩,fun h9=>?_,fun h9=>⟨i+1,⟨by omega,?_⟩,by omega,⟨by simp [fitR,look],trivial,rfl,rfl,rfl⟩⟩⟩
    · have:l.all okHd=false:=List.all_eq_false.2 ⟨_,hm,by rw [hok,h9];simp⟩
      unfold smT
      rw [this,Bool.and_false]
    · rw [htk,List.all_append,g2,List.all_cons,hok,h9];rfl
  · have c0:decide ((i:Int)<(l.length:Int))=false:=by simp;omega
    rw [List.take_of_length_le (by omega)] at g2
    have:smT l=true:=by
      unfold smT
      rw [g2,decide_eq_true h80];rfl
    simp only [c0,this,plan0,go_sem,↓reduceIte,reduceCtorEq,Nat.reduceEqDiff,Nat.reduceLT,↓all_qV,Int.reduceToNat,Int.reduceLT,Int.reduceLE,Nat.reduceAdd,Nat.reduceLeDiff,Nat.reduceMul]
noncomputable def intsS:PSpec:=on_ll (fun a b=>allI a/\allI b/\a.length<=4611686018427387904) (fun a b=>.bool (a.map nOf == b.map nOf))
theorem w_intsS:PSound GG 17 intsS:=by
  refine PSound.of_wpc (C:=cxP Tryz.prog Ξ0 [] 26) (T:=plan0) Tryz.func17 rfl rfl rfl (Fit.pure (G:=GG) hΞ0 mixed) (fun args h=>?_)
  unfold intsS at h
  obtain ⟨p,q,rfl,hp⟩:=on_ll_inv h
  refine ⟨by simp [cxP],?_⟩
  simp only [intsS,on_ll_eq,Tryz.f17,argL,plan0]
  obtain ⟨⟨a,rfl⟩,⟨b,rfl⟩,hl⟩:=hp
  have hn:∀ l:List Int,(l.map intV).map nOf=l:=fun l=>by simp [List.map_map,Function.comp_def,nOf,intV]
  simp only [List.length_map] at hl
  simp only [hn,List.length_map,go_sem,↓reduceIte,reduceCtorEq,Nat.reduceEqDiff,Nat.reduceLT,↓all_qV,Int.reduceToNat,Int.reduceLT,Int.reduceLE,Nat.reduceAdd,Nat.reduceLeDiff,Nat.reduceMul]
  refine ⟨fun h=>?_,fun h=>?_⟩
  · have:¬ a=b:=fun e=>by subst e;simp at h
    simp [this]
  · have h9:(a.length:Int)=b.length:=by simpa using h
    have hab:a.length=b.length:=by omega
    refine AWp.loop (T:=plan0) (α:=Nat) (fun i=>([(0,.pv (.sl (a.map intV))),(1,.pv (.sl (b.map intV))),(12,.pv (.int .i64 a.length)),(13,.pv (.int .i64 i))],[])) (fun i=>i<=a.length/\a.take i=b.take i) (fun i=>a.length-i)
      ⟨0,⟨Nat.zero_le _,rfl⟩,⟨by simp [fitR,look],trivial,rfl,rfl,rfl⟩⟩ ?_
    rintro i ⟨h1,h2⟩
    have hi1:i<a.length->IntKind.i64.wrap ((i:Int)+1)=((i+1:Nat):Int):=fun _=>by rw [i64_in _ (by omega)];omega
    by_cases hlt:i<a.length
    · have c0:decide ((i:Int)<(a.length:Int))=true:=by simp;omega
      have g1:=getD_intV hlt
      have g2:=getD_intV (l:=b) (i:=i) (by omega)
      simp only [c0,g1,g2,hi1 hlt,List.length_map,plan0,go_sem,↓reduceIte,reduceCtorEq,Nat.reduceEqDiff,Nat.reduceLT,↓all_qV,Int.reduceToNat,Int.reduceLT,Int.reduceLE,Nat.reduceAdd,Nat.reduceLeDiff,Nat.reduceMul]
      refine ⟨by kernel_rfl,by omega,by omega,fun h3=>?_,fun h3=>⟨i+1,⟨by omega,?_⟩,by omega,⟨by simp [fitR,look],trivial,rfl,rfl,rfl⟩⟩⟩
      · have:¬ a=b:=fun e=>by subst e;simp at h3
        simp [this]
      · have h4:a.getD i 0=b.getD i 0:=by simpa using h3
        rw [List.take_add_one,List.take_add_one,h2]
        simp only [List.getD_eq_getElem?_getD,List.getElem?_eq_getElem hlt,List.getElem?_eq_getElem (show i<b.length by omega),Option.getD_some,Option.toList_some] at h4 ⊢
        rw [h4]
    · have c0:decide ((i:Int)<(a.length:Int))=false:=by simp;omega
      simp only [c0,plan0,go_sem,↓reduceIte,reduceCtorEq,Nat.reduceEqDiff,Nat.reduceLT,↓all_qV,Int.reduceToNat,Int.reduceLT,Int.reduceLE,Nat.reduceAdd,Nat.reduceLeDiff,Nat.reduceMul]
      have e1:i=a.length:=by omega
      rw [List.take_of_length_le (by omega),List.take_of_length_le (by omega)] at h2
      simp [h2]
noncomputable def M2 (g:FuncId):PSpec:=(putΦ (putΦ Ξ0 17 intsS) 41 smallS) g
theorem hM2:TabSound GG M2:=((hΞ0.put w_intsS).put w_smallS)
def t60:PV->Bool
  | .agg (.str s::_)=>decide (s.length<=60)
  | _=>false
def ear100:PV->Bool
  | .agg [.str s,.str c,_]=>decide (s.length+c.length<=100)
  | _=>false
def con100:PV->Bool
  | .agg [.str c,_,_,_,_,.str s,_]=>decide (s.length+c.length<=100)
  | _=>false
def rul100:PV->Bool
  | .agg [_,.str s,.str c,_]=>decide (s.length+c.length<=100)
  | _=>false
def chg60:PV->Bool
  | .agg [_,.str c,_,_]=>decide (c.length<=60)
  | _=>false
def am30:PV->Bool
  | .agg [_,_,.sl ch]=>decide (ch.length<=30)&&ch.all chg60
  | _=>false
structure LawR (L:Law):Prop where
  tr:∀ e,e∈L.tree->∃ c n,e=hV c n
  tl:L.tree.length<=9223372036854775807
  a:∀ x,x∈L.a->∃ s y m,x=.agg [.str s,.int .i64 y,.int .i64 m]
  al:L.a.length<=9223372036854775807
  b:∀ x,x∈L.b->∃ s y m,x=.agg [.str s,.int .i64 y,.int .i64 m]
  bl:L.b.length<=9223372036854775807
  c:∀ x,x∈L.c->∃ s y m,x=.agg [.str s,.int .i64 y,.int .i64 m]
  cl:L.c.length<=9223372036854775807
  d:∀ x,x∈L.d->∃ s c p,x=.agg [.str s,.str c,.int .i64 p]/\s.length<=1000000000000000/\c.length<=1000000000000000
  dl:L.d.length<=9223372036854775807
  e:∀ x,x∈L.e->∃ c y am k d s l,x=.agg [.str c,.int .i64 y,.int .i64 am,.int .i64 k,.int .i64 d,.str s,.int .i64 l]/\c.length<=1000000000000000/\s.length<=1000000000000000
  el:L.e.length<=9223372036854775807
  f:∀ x,x∈L.f->∃ n s c p,x=.agg [.int .i64 n,.str s,.str c,.int .i64 p]/\s.length<=1000000000000000/\c.length<=1000000000000000
  fl:L.f.length<=9223372036854775807
  g:∀ x,x∈L.g->∃ d n ch,x=.agg [.int .i64 d,.int .i64 n,.sl ch]/\(∀ y,y∈ch->∃ k c y' m,y=.agg [.int .i64 k,.str c,.int .i64 y',.int .i64 m])/\ch.length<=9223372036854775807
  gl:L.g.length<=9223372036854775807
def longB (L:Law):Bool:=!smT L.tree||decide ((150:Int)<(L.a.length:Int))||decide ((80:Int)<(L.b.length:Int))||decide ((80:Int)<(L.c.length:Int))||decide ((30:Int)<(L.d.length:Int))||decide ((30:Int)<(L.e.length:Int))||decide ((30:Int)<(L.f.length:Int))||decide ((30:Int)<(L.g.length:Int))
def smL (L:Law):Bool:=!longB L&&(L.a.all t60&&(L.b.all t60&&(L.c.all t60&&(L.d.all ear100&&(L.e.all con100&&(L.f.all rul100&&L.g.all am30))))))
noncomputable def smallLS:PSpec:=on_p (fun l=>∃ L:Law,l=L.v/\LawR L) (fun l=>.bool (smL (lawO l)))
theorem k_smallLS_41 {args:List PV}:M2 41 args=smallS args:=rfl
theorem w_smallLS:PSound GG 20 smallLS:=by
  refine PSound.of_wpc (C:=cxP Tryz.prog M2 [] 171) (T:=plan0) Tryz.func20 rfl rfl rfl (Fit.pure (G:=GG) hM2 mixed) (fun args h=>?_)
  unfold smallLS at h
  obtain ⟨l,rfl,hp⟩:=on_p_inv h
  refine ⟨by simp [cxP],?_⟩
  simp only [smallLS,on_p_eq,Tryz.f20,argL,plan0]
  obtain ⟨⟨fi,ye,tr,la,lb,lc,ld,le,lf,lg⟩,rfl,hR⟩:=hp
  have hT:=hR.tr
  have hTl:=hR.tl
  have hA:=hR.a
  have hAl:=hR.al
  have hB:=hR.b
  have hBl:=hR.bl
  have hC:=hR.c
  have hCl:=hR.cl
  have hD:=hR.d
  have hDl:=hR.dl
  have hE:=hR.e
  have hEl:=hR.el
  have hF:=hR.f
  have hFl:=hR.fl
  have hG:=hR.g
  have hGl:=hR.gl
  rw [lawO_v]
  clear hR
  simp only at hT hTl hA hAl hB hBl hC hCl hD hDl hE hEl hF hFl hG hGl
  have hlong:longB ⟨fi,ye,tr,la,lb,lc,ld,le,lf,lg⟩=(!smT tr||decide ((150:Int)<(la.length:Int))||decide ((80:Int)<(lb.length:Int))||decide ((80:Int)<(lc.length:Int))||decide ((30:Int)<(ld.length:Int))||decide ((30:Int)<(le.length:Int))||decide ((30:Int)<(lf.length:Int))||decide ((30:Int)<(lg.length:Int))):=rfl
  have hsm:smL ⟨fi,ye,tr,la,lb,lc,ld,le,lf,lg⟩=(!longB ⟨fi,ye,tr,la,lb,lc,ld,le,lf,lg⟩&&(la.all t60&&(lb.all t60&&(lc.all t60&&(ld.all ear100&&(le.all con100&&(lf.all rul100&&lg.all am30))))))):=rfl
  rw [hsm,hlong]
  clear hsm hlong
  simp only [Law.v,lawV,List.take_succ_cons,List.take_nil,k_smallLS_41,smallS,on_l_eq,go_sem,↓reduceIte,reduceCtorEq,Nat.reduceEqDiff,Nat.reduceLT,↓all_qV,Int.reduceToNat,Int.reduceLT,Int.reduceLE,Nat.reduceAdd,Nat.reduceLeDiff,Nat.reduceMul,ev_callG,gcallK_b,gcallK_w,callGc_true,callGc_false,List.forall_mem_cons,List.not_mem_nil,PV.one,AV.one]
  generalize hX:(!smT tr||decide ((150:Int)<(la.length:Int))||decide ((80:Int)<(lb.length:Int))||decide ((80:Int)<(lc.length:Int))||decide ((30:Int)<(ld.length:Int))||decide ((30:Int)<(le.length:Int))||decide ((30:Int)<(lf.length:Int))||decide ((30:Int)<(lg.length:Int)))=X
  clear hX
  refine ⟨⟨hT,hTl⟩,fun h=>by simpa using h,fun h1=>by rw [h1];rfl,fun h1=>?_⟩
  rw [h1,Bool.not_false,Bool.true_and]
  refine AWp.loop (T:=plan0) (α:=Nat) (fun i=>([(1,.ptr 1 0),(66,.pv (.sl la)),(67,.pv (.int .i64 la.length)),(68,.pv (.int .i64 i))],[(1,.cells [.pv (.int .i64 fi),.pv (.int .i64 ye),.pv (.sl tr),.pv (.sl la),.pv (.sl lb),.pv (.sl lc),.pv (.sl ld),.pv (.sl le),.pv (.sl lf),.pv (.sl lg)])])) (fun i=>i<=la.length/\(la.take i).all t60=true) (fun i=>la.length-i)
    ⟨0,⟨Nat.zero_le _,rfl⟩,⟨by simp [fitR,look],by simp [fitH,hget],rfl,rfl,rfl⟩⟩ ?_
  rintro i ⟨g1,g2⟩
  have hi1:i<la.length->IntKind.i64.wrap ((i:Int)+1)=((i+1:Nat):Int):=fun _=>by rw [i64_in _ (by omega)];omega
  by_cases hlt:i<la.length
  · have c0:decide ((i:Int)<(la.length:Int))=true:=by simp;omega
    have hm:=getD_mem hlt
    have htk:=take_succ_getD hlt
    obtain ⟨s,y,m,he3⟩:=hA _ hm
    rw [he3] at hm htk
    have hok:t60 (.agg [.str s,.int .i64 y,.int .i64 m])= !(decide ((60:Int)<(s.length:Int))):=by
      show decide (s.length<=60)=_
      rw [Bool.eq_iff_iff];simp;omega
    simp only [c0,he3,hi1 hlt,List.length_map,List.take_succ_cons,List.take_nil,plan0,go_sem,↓reduceIte,reduceCtorEq,Nat.reduceEqDiff,Nat.reduceLT,↓all_qV,Int.reduceToNat,Int.reduceLT,Int.reduceLE,Nat.reduceAdd,Nat.reduceLeDiff,Nat.reduceMul,ev_callG,gcallK_b,gcallK_w,callGc_true,callGc_false,List.forall_mem_cons,List.not_mem_nil,PV.one,AV.one]
    refine ⟨⟨by omega,by omega⟩,fun h9=>?_,fun h9=>⟨i+1,⟨by omega,?_⟩,by omega,⟨by simp [fitR,look],by simp [fitH,hget],rfl,rfl,rfl⟩⟩⟩
    · have hf:la.all t60=false:=List.all_eq_false.2 ⟨_,hm,by rw [hok,h9];simp⟩
      simp only [hf,Bool.false_and,Bool.and_false]
    · rw [htk,List.all_append,g2,List.all_cons,hok,h9];rfl
  · have c0:decide ((i:Int)<(la.length:Int))=false:=by simp;omega
    rw [List.take_of_length_le (by omega)] at g2
    have kA:la.all t60=true:=g2
    clear g1 g2 hi1
    simp only [c0,List.length_cons,List.length_nil,List.take_succ_cons,List.take_nil,k_smallLS_41,smallS,on_l_eq,plan0,go_sem,↓reduceIte,reduceCtorEq,Nat.reduceEqDiff,Nat.reduceLT,↓all_qV,Int.reduceToNat,Int.reduceLT,Int.reduceLE,Nat.reduceAdd,Nat.reduceLeDiff,Nat.reduceMul,ev_callG,gcallK_b,gcallK_w,callGc_true,callGc_false,List.forall_mem_cons,List.not_mem_nil,PV.one,AV.one]
    clear c0
    rw [kA,Bool.true_and]
    refine AWp.loop (T:=plan0) (α:=Nat) (fun k=>([(1,.ptr 1 0),(81,.pv (.sl [.sl lb,.sl lc])),(82,.pv (.int .i64 2)),(83,.pv (.int .i64 k))],[(1,.cells [.pv (.int .i64 fi),.pv (.int .i64 ye),.pv (.sl tr),.pv (.sl la),.pv (.sl lb),.pv (.sl lc),.pv (.sl ld),.pv (.sl le),.pv (.sl lf),.pv (.sl lg)])])) (fun k=>k<=2/\(1<=k->lb.all t60=true)/\(2<=k->lc.all t60=true)) (fun k=>2-k)
      ⟨0,⟨by omega,by omega,by omega⟩,⟨by simp [fitR,look],by simp [fitH,hget],rfl,rfl,rfl⟩⟩ ?_
    rintro k ⟨k1,k2,k3⟩
    have hk:k=0\/k=1\/k=2:=by omega
    rcases hk with rfl | rfl | rfl
    · have x0:decide ((0:Int)<2)=true:=by decide
      have w0:IntKind.i64.wrap ((0:Int)+1)=1:=by decide
      simp only [x0,List.length_cons,List.length_nil,List.take_succ_cons,List.take_nil,decide_true,decide_false,plan0,go_sem,↓reduceIte,reduceCtorEq,Nat.reduceEqDiff,Nat.reduceLT,↓all_qV,Int.reduceToNat,Int.reduceLT,Int.reduceLE,Nat.reduceAdd,Nat.reduceLeDiff,Nat.reduceMul,ev_callG,gcallK_b,gcallK_w,callGc_true,callGc_false,List.forall_mem_cons,List.not_mem_nil,PV.one,AV.one]
      refine AWp.loop (T:=plan0) (α:=Nat) (fun i=>([(1,.ptr 1 0),(81,.pv (.sl [.sl lb,.sl lc])),(82,.pv (.int .i64 2)),(83,.pv (.int .i64 0)),(87,.pv (.sl lb)),(88,.pv (.int .i64 lb.length)),(89,.pv (.int .i64 i))],[(1,.cells [.pv (.int .i64 fi),.pv (.int .i64 ye),.pv (.sl tr),.pv (.sl la),.pv (.sl lb),.pv (.sl lc),.pv (.sl ld),.pv (.sl le),.pv (.sl lf),.pv (.sl lg)])])) (fun i=>i<=lb.length/\(lb.take i).all t60=true) (fun i=>lb.length-i)
        ⟨0,⟨Nat.zero_le _,rfl⟩,⟨by simp [fitR,look],by simp [fitH,hget],rfl,rfl,rfl⟩⟩ ?_
      rintro i ⟨g1,g2⟩
      have hi1:i<lb.length->IntKind.i64.wrap ((i:Int)+1)=((i+1:Nat):Int):=fun _=>by rw [i64_in _ (by omega)];omega
      by_cases hlt:i<lb.length
      · have c0:decide ((i:Int)<(lb.length:Int))=true:=by simp;omega
        have hm:=getD_mem hlt
        have htk:=take_succ_getD hlt
        obtain ⟨s,y,m,he3⟩:=hB _ hm
        rw [he3] at hm htk
        have hok:t60 (.agg [.str s,.int .i64 y,.int .i64 m])= !(decide ((60:Int)<(s.length:Int))):=by
          show decide (s.length<=60)=_
          rw [Bool.eq_iff_iff];simp;omega
        simp only [c0,he3,hi1 hlt,List.length_map,List.take_succ_cons,List.take_nil,plan0,go_sem,↓reduceIte,reduceCtorEq,Nat.reduceEqDiff,Nat.reduceLT,↓all_qV,Int.reduceToNat,Int.reduceLT,Int.reduceLE,Nat.reduceAdd,Nat.reduceLeDiff,Nat.reduceMul,ev_callG,gcallK_b,gcallK_w,callGc_true,callGc_false,List.forall_mem_cons,List.not_mem_nil,PV.one,AV.one]
        refine ⟨⟨by omega,by omega⟩,fun h9=>?_,fun h9=>⟨i+1,⟨by omega,?_⟩,by omega,⟨by simp [fitR,look],by simp [fitH,hget],rfl,rfl,rfl⟩⟩⟩
        · have hf:lb.all t60=false:=List.all_eq_false.2 ⟨_,hm,by rw [hok,h9];simp⟩
          simp only [hf,Bool.false_and,Bool.and_false]
        · rw [htk,List.all_append,g2,List.all_cons,hok,h9];rfl
      · have c0:decide ((i:Int)<(lb.length:Int))=false:=by simp;omega
        rw [List.take_of_length_le (by omega)] at g2
        have kX:lb.all t60=true:=g2
        simp only [c0,w0,List.length_cons,List.length_nil,List.take_succ_cons,List.take_nil,decide_true,decide_false,plan0,go_sem,↓reduceIte,reduceCtorEq,Nat.reduceEqDiff,Nat.reduceLT,↓all_qV,Int.reduceToNat,Int.reduceLT,Int.reduceLE,Nat.reduceAdd,Nat.reduceLeDiff,Nat.reduceMul,ev_callG,gcallK_b,gcallK_w,callGc_true,callGc_false,List.forall_mem_cons,List.not_mem_nil,PV.one,AV.one]
        exact ⟨1,⟨by omega,fun _=>kX,fun h=>by omega⟩,by omega,⟨by simp [fitR,look],by simp [fitH,hget],rfl,rfl,rfl⟩⟩
    · have x0:decide ((1:Int)<2)=true:=by decide
      have w1:IntKind.i64.wrap ((1:Int)+1)=2:=by decide
      simp only [x0,List.length_cons,List.length_nil,List.take_succ_cons,List.take_nil,decide_true,decide_false,plan0,go_sem,↓reduceIte,reduceCtorEq,Nat.reduceEqDiff,Nat.reduceLT,↓all_qV,Int.reduceToNat,Int.reduceLT,Int.reduceLE,Nat.reduceAdd,Nat.reduceLeDiff,Nat.reduceMul,ev_callG,gcallK_b,gcallK_w,callGc_true,callGc_false,List.forall_mem_cons,List.not_mem_nil,PV.one,AV.one]
      refine AWp.loop (T:=plan0) (α:=Nat) (fun i=>([(1,.ptr 1 0),(81,.pv (.sl [.sl lb,.sl lc])),(82,.pv (.int .i64 2)),(83,.pv (.int .i64 1)),(87,.pv (.sl lc)),(88,.pv (.int .i64 lc.length)),(89,.pv (.int .i64 i))],[(1,.cells [.pv (.int .i64 fi),.pv (.int .i64 ye),.pv (.sl tr),.pv (.sl la),.pv (.sl lb),.pv (.sl lc),.pv (.sl ld),.pv (.sl le),.pv (.sl lf),.pv (.sl lg)])])) (fun i=>i<=lc.length/\(lc.take i).all t60=true) (fun i=>lc.length-i)
        ⟨0,⟨Nat.zero_le _,rfl⟩,⟨by simp [fitR,look],by simp [fitH,hget],rfl,rfl,rfl⟩⟩ ?_
      rintro i ⟨g1,g2⟩
      have hi1:i<lc.length->IntKind.i64.wrap ((i:Int)+1)=((i+1:Nat):Int):=fun _=>by rw [i64_in _ (by omega)];omega
      by_cases hlt:i<lc.length
      · have c0:decide ((i:Int)<(lc.length:Int))=true:=by simp;omega
        have hm:=getD_mem hlt
        have htk:=take_succ_getD hlt
        obtain ⟨s,y,m,he3⟩:=hC _ hm
        rw [he3] at hm htk
        have hok:t60 (.agg [.str s,.int .i64 y,.int .i64 m])= !(decide ((60:Int)<(s.length:Int))):=by
          show decide (s.length<=60)=_
          rw [Bool.eq_iff_iff];simp;omega
        simp only [c0,he3,hi1 hlt,List.length_map,List.take_succ_cons,List.take_nil,plan0,go_sem,↓reduceIte,reduceCtorEq,Nat.reduceEqDiff,Nat.reduceLT,↓all_qV,Int.reduceToNat,Int.reduceLT,Int.reduceLE,Nat.reduceAdd,Nat.reduceLeDiff,Nat.reduceMul,ev_callG,gcallK_b,gcallK_w,callGc_true,callGc_false,List.forall_mem_cons,List.not_mem_nil,PV.one,AV.one]
        refine ⟨⟨by omega,by omega⟩,fun h9=>?_,fun h9=>⟨i+1,⟨by omega,?_⟩,by omega,⟨by simp [fitR,look],by simp [fitH,hget],rfl,rfl,rfl⟩⟩⟩
        · have hf:lc.all t60=false:=List.all_eq_false.2 ⟨_,hm,by rw [hok,h9];simp⟩
          simp only [hf,Bool.false_and,Bool.and_false]
        · rw [htk,List.all_append,g2,List.all_cons,hok,h9];rfl
      · have c0:decide ((i:Int)<(lc.length:Int))=false:=by simp;omega
        rw [List.take_of_length_le (by omega)] at g2
        have kX:lc.all t60=true:=g2
        simp only [c0,w1,List.length_cons,List.length_nil,List.take_succ_cons,List.take_nil,decide_true,decide_false,plan0,go_sem,↓reduceIte,reduceCtorEq,Nat.reduceEqDiff,Nat.reduceLT,↓all_qV,Int.reduceToNat,Int.reduceLT,Int.reduceLE,Nat.reduceAdd,Nat.reduceLeDiff,Nat.reduceMul,ev_callG,gcallK_b,gcallK_w,callGc_true,callGc_false,List.forall_mem_cons,List.not_mem_nil,PV.one,AV.one]
        exact ⟨2,⟨by omega,fun _=>k2 (by omega),fun _=>kX⟩,by omega,⟨by simp [fitR,look],by simp [fitH,hget],rfl,rfl,rfl⟩⟩
    · have kB:=k2 (by omega)
      have kC:=k3 (by omega)
      clear k1 k2 k3
      rw [kB,kC,Bool.true_and,Bool.true_and]
      have x0:decide ((2:Int)<2)=false:=by decide
      simp only [x0,List.length_cons,List.length_nil,List.take_succ_cons,List.take_nil,decide_true,decide_false,plan0,go_sem,↓reduceIte,reduceCtorEq,Nat.reduceEqDiff,Nat.reduceLT,↓all_qV,Int.reduceToNat,Int.reduceLT,Int.reduceLE,Nat.reduceAdd,Nat.reduceLeDiff,Nat.reduceMul,ev_callG,gcallK_b,gcallK_w,callGc_true,callGc_false,List.forall_mem_cons,List.not_mem_nil,PV.one,AV.one]
      refine AWp.loop (T:=plan0) (α:=Nat) (fun i=>([(1,.ptr 1 0),(100,.pv (.sl ld)),(101,.pv (.int .i64 ld.length)),(102,.pv (.int .i64 i))],[(1,.cells [.pv (.int .i64 fi),.pv (.int .i64 ye),.pv (.sl tr),.pv (.sl la),.pv (.sl lb),.pv (.sl lc),.pv (.sl ld),.pv (.sl le),.pv (.sl lf),.pv (.sl lg)])])) (fun i=>i<=ld.length/\(ld.take i).all ear100=true) (fun i=>ld.length-i)
        ⟨0,⟨Nat.zero_le _,rfl⟩,⟨by simp [fitR,look],by simp [fitH,hget],rfl,rfl,rfl⟩⟩ ?_
      rintro i ⟨g1,g2⟩
      have hi1:i<ld.length->IntKind.i64.wrap ((i:Int)+1)=((i+1:Nat):Int):=fun _=>by rw [i64_in _ (by omega)];omega
      by_cases hlt:i<ld.length
      · have c0:decide ((i:Int)<(ld.length:Int))=true:=by simp;omega
        have hm:=getD_mem hlt
        have htk:=take_succ_getD hlt
        obtain ⟨s,c,p,he3,hs,hc⟩:=hD _ hm
        rw [he3] at hm htk
        have hok:ear100 (.agg [.str s,.str c,.int .i64 p])= !(decide ((100:Int)<(s.length:Int)+(c.length:Int))):=by
          show decide (s.length+c.length<=100)=_
          rw [Bool.eq_iff_iff];simp;omega
        simp only [c0,he3,hi1 hlt,i64_in ((s.length:Int)+(c.length:Int)) (by omega),List.length_map,List.take_succ_cons,List.take_nil,plan0,go_sem,↓reduceIte,reduceCtorEq,Nat.reduceEqDiff,Nat.reduceLT,↓all_qV,Int.reduceToNat,Int.reduceLT,Int.reduceLE,Nat.reduceAdd,Nat.reduceLeDiff,Nat.reduceMul,ev_callG,gcallK_b,gcallK_w,callGc_true,callGc_false,List.forall_mem_cons,List.not_mem_nil,PV.one,AV.one]
        refine ⟨⟨by omega,by omega⟩,fun h9=>?_,fun h9=>⟨i+1,⟨by omega,?_⟩,by omega,⟨by simp [fitR,look],by simp [fitH,hget],rfl,rfl,rfl⟩⟩⟩
        · have hf:ld.all ear100=false:=List.all_eq_false.2 ⟨_,hm,by rw [hok,h9];simp⟩
          simp only [hf,Bool.false_and,Bool.and_false]
        · rw [htk,List.all_append,g2,List.all_cons,hok,h9];rfl
      · have c0:decide ((i:Int)<(ld.length:Int))=false:=by simp;omega
        rw [List.take_of_length_le (by omega)] at g2
        have kD:ld.all ear100=true:=g2
        clear g1 g2 hi1
        rw [kD,Bool.true_and]
        simp only [c0,List.length_cons,List.length_nil,List.take_succ_cons,List.take_nil,decide_true,decide_false,plan0,go_sem,↓reduceIte,reduceCtorEq,Nat.reduceEqDiff,Nat.reduceLT,↓all_qV,Int.reduceToNat,Int.reduceLT,Int.reduceLE,Nat.reduceAdd,Nat.reduceLeDiff,Nat.reduceMul,ev_callG,gcallK_b,gcallK_w,callGc_true,callGc_false,List.forall_mem_cons,List.not_mem_nil,PV.one,AV.one]
        clear c0
        refine AWp.loop (T:=plan0) (α:=Nat) (fun i=>([(1,.ptr 1 0),(116,.pv (.sl le)),(117,.pv (.int .i64 le.length)),(118,.pv (.int .i64 i))],[(1,.cells [.pv (.int .i64 fi),.pv (.int .i64 ye),.pv (.sl tr),.pv (.sl la),.pv (.sl lb),.pv (.sl lc),.pv (.sl ld),.pv (.sl le),.pv (.sl lf),.pv (.sl lg)])])) (fun i=>i<=le.length/\(le.take i).all con100=true) (fun i=>le.length-i)
          ⟨0,⟨Nat.zero_le _,rfl⟩,⟨by simp [fitR,look],by simp [fitH,hget],rfl,rfl,rfl⟩⟩ ?_
        rintro i ⟨g1,g2⟩
        have hi1:i<le.length->IntKind.i64.wrap ((i:Int)+1)=((i+1:Nat):Int):=fun _=>by rw [i64_in _ (by omega)];omega
        by_cases hlt:i<le.length
        · have c0:decide ((i:Int)<(le.length:Int))=true:=by simp;omega
          have hm:=getD_mem hlt
          have htk:=take_succ_getD hlt
          obtain ⟨c,y,am,k,d,s,l,he3,hc,hs⟩:=hE _ hm
          rw [he3] at hm htk
          have hok:con100 (.agg [.str c,.int .i64 y,.int .i64 am,.int .i64 k,.int .i64 d,.str s,.int .i64 l])= !(decide ((100:Int)<(s.length:Int)+(c.length:Int))):=by
            show decide (s.length+c.length<=100)=_
            rw [Bool.eq_iff_iff];simp;omega
          simp only [c0,he3,hi1 hlt,i64_in ((s.length:Int)+(c.length:Int)) (by omega),List.length_map,List.take_succ_cons,List.take_nil,plan0,go_sem,↓reduceIte,reduceCtorEq,Nat.reduceEqDiff,Nat.reduceLT,↓all_qV,Int.reduceToNat,Int.reduceLT,Int.reduceLE,Nat.reduceAdd,Nat.reduceLeDiff,Nat.reduceMul,ev_callG,gcallK_b,gcallK_w,callGc_true,callGc_false,List.forall_mem_cons,List.not_mem_nil,PV.one,AV.one]
          refine ⟨⟨by omega,by omega⟩,fun h9=>?_,fun h9=>⟨i+1,⟨by omega,?_⟩,by omega,⟨by simp [fitR,look],by simp [fitH,hget],rfl,rfl,rfl⟩⟩⟩
          · have hf:le.all con100=false:=List.all_eq_false.2 ⟨_,hm,by rw [hok,h9];simp⟩
            simp only [hf,Bool.false_and,Bool.and_false]
          · rw [htk,List.all_append,g2,List.all_cons,hok,h9];rfl
        · have c0:decide ((i:Int)<(le.length:Int))=false:=by simp;omega
          rw [List.take_of_length_le (by omega)] at g2
          have kE:le.all con100=true:=g2
          clear g1 g2 hi1
          rw [kE,Bool.true_and]
          simp only [c0,List.length_cons,List.length_nil,List.take_succ_cons,List.take_nil,decide_true,decide_false,plan0,go_sem,↓reduceIte,reduceCtorEq,Nat.reduceEqDiff,Nat.reduceLT,↓all_qV,Int.reduceToNat,Int.reduceLT,Int.reduceLE,Nat.reduceAdd,Nat.reduceLeDiff,Nat.reduceMul,ev_callG,gcallK_b,gcallK_w,callGc_true,callGc_false,List.forall_mem_cons,List.not_mem_nil,PV.one,AV.one]
          clear c0
          refine AWp.loop (T:=plan0) (α:=Nat) (fun i=>([(1,.ptr 1 0),(132,.pv (.sl lf)),(133,.pv (.int .i64 lf.length)),(134,.pv (.int .i64 i))],[(1,.cells [.pv (.int .i64 fi),.pv (.int .i64 ye),.pv (.sl tr),.pv (.sl la),.pv (.sl lb),.pv (.sl lc),.pv (.sl ld),.pv (.sl le),.pv (.sl lf),.pv (.sl lg)])])) (fun i=>i<=lf.length/\(lf.take i).all rul100=true) (fun i=>lf.length-i)
            ⟨0,⟨Nat.zero_le _,rfl⟩,⟨by simp [fitR,look],by simp [fitH,hget],rfl,rfl,rfl⟩⟩ ?_
          rintro i ⟨g1,g2⟩
          have hi1:i<lf.length->IntKind.i64.wrap ((i:Int)+1)=((i+1:Nat):Int):=fun _=>by rw [i64_in _ (by omega)];omega
          by_cases hlt:i<lf.length
          · have c0:decide ((i:Int)<(lf.length:Int))=true:=by simp;omega
            have hm:=getD_mem hlt
            have htk:=take_succ_getD hlt
            obtain ⟨n,s,c,p,he3,hs,hc⟩:=hF _ hm
            rw [he3] at hm htk
            have hok:rul100 (.agg [.int .i64 n,.str s,.str c,.int .i64 p])= !(decide ((100:Int)<(s.length:Int)+(c.length:Int))):=by
              show decide (s.length+c.length<=100)=_
              rw [Bool.eq_iff_iff];simp;omega
            simp only [c0,he3,hi1 hlt,i64_in ((s.length:Int)+(c.length:Int)) (by omega),List.length_map,List.take_succ_cons,List.take_nil,plan0,go_sem,↓reduceIte,reduceCtorEq,Nat.reduceEqDiff,Nat.reduceLT,↓all_qV,Int.reduceToNat,Int.reduceLT,Int.reduceLE,Nat.reduceAdd,Nat.reduceLeDiff,Nat.reduceMul,ev_callG,gcallK_b,gcallK_w,callGc_true,callGc_false,List.forall_mem_cons,List.not_mem_nil,PV.one,AV.one]
            refine ⟨⟨by omega,by omega⟩,fun h9=>?_,fun h9=>⟨i+1,⟨by omega,?_⟩,by omega,⟨by simp [fitR,look],by simp [fitH,hget],rfl,rfl,rfl⟩⟩⟩
            · have hf:lf.all rul100=false:=List.all_eq_false.2 ⟨_,hm,by rw [hok,h9];simp⟩
              simp only [hf,Bool.false_and,Bool.and_false]
            · rw [htk,List.all_append,g2,List.all_cons,hok,h9];rfl
          · have c0:decide ((i:Int)<(lf.length:Int))=false:=by simp;omega
            rw [List.take_of_length_le (by omega)] at g2
            have kF:lf.all rul100=true:=g2
            clear g1 g2 hi1
            rw [kF,Bool.true_and]
            simp only [c0,List.length_cons,List.length_nil,List.take_succ_cons,List.take_nil,decide_true,decide_false,plan0,go_sem,↓reduceIte,reduceCtorEq,Nat.reduceEqDiff,Nat.reduceLT,↓all_qV,Int.reduceToNat,Int.reduceLT,Int.reduceLE,Nat.reduceAdd,Nat.reduceLeDiff,Nat.reduceMul,ev_callG,gcallK_b,gcallK_w,callGc_true,callGc_false,List.forall_mem_cons,List.not_mem_nil,PV.one,AV.one]
            clear c0
            refine AWp.loop (T:=plan0) (α:=Nat) (fun i=>([(1,.ptr 1 0),(148,.pv (.sl lg)),(149,.pv (.int .i64 lg.length)),(150,.pv (.int .i64 i))],[(1,.cells [.pv (.int .i64 fi),.pv (.int .i64 ye),.pv (.sl tr),.pv (.sl la),.pv (.sl lb),.pv (.sl lc),.pv (.sl ld),.pv (.sl le),.pv (.sl lf),.pv (.sl lg)])])) (fun i=>i<=lg.length/\(lg.take i).all am30=true) (fun i=>lg.length-i)
              ⟨0,⟨Nat.zero_le _,rfl⟩,⟨by simp [fitR,look],by simp [fitH,hget],rfl,rfl,rfl⟩⟩ ?_
            rintro n0 ⟨m1,m2⟩
            have hn1:n0<lg.length->IntKind.i64.wrap ((n0:Int)+1)=((n0+1:Nat):Int):=fun _=>by rw [i64_in _ (by omega)];omega
            by_cases nlt:n0<lg.length
            · have x1:decide ((n0:Int)<(lg.length:Int))=true:=by simp;omega
              have hgm:=getD_mem nlt
              have htkg:=take_succ_getD nlt
              obtain ⟨d,n,ch,hge,hch,hcl⟩:=hG _ hgm
              rw [hge] at hgm htkg
              have hokg:am30 (.agg [.int .i64 d,.int .i64 n,.sl ch])=(decide (ch.length<=30)&&ch.all chg60):=rfl
              simp only [x1,hge,List.length_cons,List.length_nil,List.take_succ_cons,List.take_nil,decide_true,decide_false,plan0,go_sem,↓reduceIte,reduceCtorEq,Nat.reduceEqDiff,Nat.reduceLT,↓all_qV,Int.reduceToNat,Int.reduceLT,Int.reduceLE,Nat.reduceAdd,Nat.reduceLeDiff,Nat.reduceMul,ev_callG,gcallK_b,gcallK_w,callGc_true,callGc_false,List.forall_mem_cons,List.not_mem_nil,PV.one,AV.one]
              refine ⟨⟨by omega,by omega⟩,fun h9=>?_,fun h9=>?_⟩
              · have h8:decide (ch.length<=30)=false:=by simp only [decide_eq_true_eq] at h9;simp;omega
                have hf:lg.all am30=false:=List.all_eq_false.2 ⟨_,hgm,by rw [hokg,h8];simp⟩
                rw [hf]
              have h8:decide (ch.length<=30)=true:=by simp only [decide_eq_false_iff_not] at h9;simp;omega
              refine AWp.loop (T:=plan0) (α:=Nat) (fun i=>([(1,.ptr 1 0),(148,.pv (.sl lg)),(149,.pv (.int .i64 lg.length)),(150,.pv (.int .i64 n0)),(159,.pv (.sl ch)),(160,.pv (.int .i64 ch.length)),(161,.pv (.int .i64 i))],[(1,.cells [.pv (.int .i64 fi),.pv (.int .i64 ye),.pv (.sl tr),.pv (.sl la),.pv (.sl lb),.pv (.sl lc),.pv (.sl ld),.pv (.sl le),.pv (.sl lf),.pv (.sl lg)])])) (fun i=>i<=ch.length/\(ch.take i).all chg60=true) (fun i=>ch.length-i)
                ⟨0,⟨Nat.zero_le _,rfl⟩,⟨by simp [fitR,look],by simp [fitH,hget],rfl,rfl,rfl⟩⟩ ?_
              rintro i ⟨g1,g2⟩
              have hi1:i<ch.length->IntKind.i64.wrap ((i:Int)+1)=((i+1:Nat):Int):=fun _=>by rw [i64_in _ (by omega)];omega
              by_cases hlt:i<ch.length
              · have c0:decide ((i:Int)<(ch.length:Int))=true:=by simp;omega
                have hm:=getD_mem hlt
                have htk:=take_succ_getD hlt
                obtain ⟨k,c,y,m,he3⟩:=hch _ hm
                rw [he3] at hm htk
                have hok:chg60 (.agg [.int .i64 k,.str c,.int .i64 y,.int .i64 m])= !(decide ((60:Int)<(c.length:Int))):=by
                  show decide (c.length<=60)=_
                  rw [Bool.eq_iff_iff];simp;omega
                simp only [c0,he3,hi1 hlt,List.length_map,List.take_succ_cons,List.take_nil,plan0,go_sem,↓reduceIte,reduceCtorEq,Nat.reduceEqDiff,Nat.reduceLT,↓all_qV,Int.reduceToNat,Int.reduceLT,Int.reduceLE,Nat.reduceAdd,Nat.reduceLeDiff,Nat.reduceMul,ev_callG,gcallK_b,gcallK_w,callGc_true,callGc_false,List.forall_mem_cons,List.not_mem_nil,PV.one,AV.one]
                refine ⟨⟨by omega,by omega⟩,fun h9=>?_,fun h9=>⟨i+1,⟨by omega,?_⟩,by omega,⟨by simp [fitR,look],by simp [fitH,hget],rfl,rfl,rfl⟩⟩⟩
                · have hf:ch.all chg60=false:=List.all_eq_false.2 ⟨_,hm,by rw [hok,h9];simp⟩
                  have hfg:lg.all am30=false:=List.all_eq_false.2 ⟨_,hgm,by rw [hokg,hf];simp⟩
                  simp only [hfg,Bool.false_and,Bool.and_false]
                · rw [htk,List.all_append,g2,List.all_cons,hok,h9];rfl
              · have c0:decide ((i:Int)<(ch.length:Int))=false:=by simp;omega
                rw [List.take_of_length_le (by omega)] at g2
                have kX:ch.all chg60=true:=g2
                simp only [c0,hn1 nlt,List.length_cons,List.length_nil,List.take_succ_cons,List.take_nil,decide_true,decide_false,plan0,go_sem,↓reduceIte,reduceCtorEq,Nat.reduceEqDiff,Nat.reduceLT,↓all_qV,Int.reduceToNat,Int.reduceLT,Int.reduceLE,Nat.reduceAdd,Nat.reduceLeDiff,Nat.reduceMul,ev_callG,gcallK_b,gcallK_w,callGc_true,callGc_false,List.forall_mem_cons,List.not_mem_nil,PV.one,AV.one]
                exact ⟨n0+1,⟨by omega,by rw [htkg,List.all_append,m2,List.all_cons,hokg,h8,kX];rfl⟩,by omega,⟨by simp [fitR,look],by simp [fitH,hget],rfl,rfl,rfl⟩⟩
            · have x1:decide ((n0:Int)<(lg.length:Int))=false:=by simp;omega
              rw [List.take_of_length_le (by omega)] at m2
              rw [m2]
              simp only [x1,List.length_cons,List.length_nil,List.take_succ_cons,List.take_nil,decide_true,decide_false,plan0,go_sem,↓reduceIte,reduceCtorEq,Nat.reduceEqDiff,Nat.reduceLT,↓all_qV,Int.reduceToNat,Int.reduceLT,Int.reduceLE,Nat.reduceAdd,Nat.reduceLeDiff,Nat.reduceMul,ev_callG,gcallK_b,gcallK_w,callGc_true,callGc_false,List.forall_mem_cons,List.not_mem_nil,PV.one,AV.one]
noncomputable def M3 (g:FuncId):PSpec:=(putΦ M2 20 smallLS) g
theorem hM3:TabSound GG M3:=(hM2.put w_smallLS)
def tra100:PV->Bool
  | .agg [_,_,_,_,.str s,.str c,_]=>decide (s.length+c.length<=100)
  | _=>false
noncomputable def smallTS:PSpec:=on_l (fun l=>(∀ x,x∈l->∃ n d y r s c a,x=.agg [.int .i64 n,.int .i64 d,.int .i64 y,.int .i64 r,.str s,.str c,.int .i64 a]/\s.length<=1000000000000000/\c.length<=1000000000000000)/\l.length<=9223372036854775807) (fun l=>.bool (l.all tra100&&decide (l.length<=70)))
theorem w_smallTS:PSound GG 21 smallTS:=by
  refine PSound.of_wpc (C:=cxP Tryz.prog M3 [] 23) (T:=plan0) Tryz.func21 rfl rfl rfl (Fit.pure (G:=GG) hM3 mixed) (fun args h=>?_)
  unfold smallTS at h
  obtain ⟨l,rfl,hp⟩:=on_l_inv h
  refine ⟨by simp [cxP],?_⟩
  simp only [smallTS,on_l_eq,Tryz.f21,argL,plan0]
  obtain ⟨hA,hAl⟩:=hp
  simp only [go_sem,↓reduceIte,reduceCtorEq,Nat.reduceEqDiff,Nat.reduceLT,↓all_qV,Int.reduceToNat,Int.reduceLT,Int.reduceLE,Nat.reduceAdd,Nat.reduceLeDiff,Nat.reduceMul,ev_callG,gcallK_b,gcallK_w,callGc_true,callGc_false,List.forall_mem_cons,List.not_mem_nil,PV.one,AV.one]
  refine AWp.loop (T:=plan0) (α:=Nat) (fun i=>([(0,.pv (.sl l)),(5,.pv (.sl l)),(6,.pv (.int .i64 l.length)),(7,.pv (.int .i64 i))],[])) (fun i=>i<=l.length/\(l.take i).all tra100=true) (fun i=>l.length-i)
    ⟨0,⟨Nat.zero_le _,rfl⟩,⟨by simp [fitR,look],trivial,rfl,rfl,rfl⟩⟩ ?_
  rintro i ⟨g1,g2⟩
  have hi1:i<l.length->IntKind.i64.wrap ((i:Int)+1)=((i+1:Nat):Int):=fun _=>by rw [i64_in _ (by omega)];omega
  by_cases hlt:i<l.length
  · have c0:decide ((i:Int)<(l.length:Int))=true:=by simp;omega
    have hm:=getD_mem hlt
    have htk:=take_succ_getD hlt
    obtain ⟨n,d,y,r,s,c,a,he3,hs,hc⟩:=hA _ hm
    rw [he3] at hm htk
    have hok:tra100 (.agg [.int .i64 n,.int .i64 d,.int .i64 y,.int .i64 r,.str s,.str c,.int .i64 a])= !(decide ((100:Int)<(s.length:Int)+(c.length:Int))):=by
      show decide (s.length+c.length<=100)=_
      rw [Bool.eq_iff_iff];simp;omega
    simp only [c0,he3,hi1 hlt,i64_in ((s.length:Int)+(c.length:Int)) (by omega),List.length_map,List.take_succ_cons,List.take_nil,plan0,go_sem,↓reduceIte,reduceCtorEq,Nat.reduceEqDiff,Nat.reduceLT,↓all_qV,Int.reduceToNat,Int.reduceLT,Int.reduceLE,Nat.reduceAdd,Nat.reduceLeDiff,Nat.reduceMul,ev_callG,gcallK_b,gcallK_w,callGc_true,callGc_false,List.forall_mem_cons,List.not_mem_nil,PV.one,AV.one]
    refine ⟨⟨by omega,by omega⟩,fun h9=>?_,fun h9=>⟨i+1,⟨by omega,?_⟩,by omega,⟨by simp [fitR,look],trivial,rfl,rfl,rfl⟩⟩⟩
    · have hf:l.all tra100=false:=List.all_eq_false.2 ⟨_,hm,by rw [hok,h9];simp⟩
      simp only [hf,Bool.false_and,Bool.and_false]
    · rw [htk,List.all_append,g2,List.all_cons,hok,h9];rfl
  · have c0:decide ((i:Int)<(l.length:Int))=false:=by simp;omega
    rw [List.take_of_length_le (by omega)] at g2
    rw [g2,Bool.true_and]
    have hd:decide (l.length<=70)=decide ((l.length:Int)<=70):=by rw [Bool.eq_iff_iff];simp;omega
    rw [hd]
    simp only [c0,List.length_cons,List.length_nil,plan0,go_sem,↓reduceIte,reduceCtorEq,Nat.reduceEqDiff,Nat.reduceLT,↓all_qV,Int.reduceToNat,Int.reduceLT,Int.reduceLE,Nat.reduceAdd,Nat.reduceLeDiff,Nat.reduceMul,ev_callG,gcallK_b,gcallK_w,callGc_true,callGc_false,List.forall_mem_cons,List.not_mem_nil,PV.one,AV.one]
    trace_state
    try rfl
noncomputable def M4 (g:FuncId):PSpec:=(putΦ M3 21 smallTS) g
theorem hM4:TabSound GG M4:=(hM3.put w_smallTS)
def rc60:PV->Bool
  | .agg [_,_,.str c,_]=>decide (c.length<=60)
  | _=>false
def ca60:PV->Bool
  | .agg [_,_,.str c,_,_]=>decide (c.length<=60)
  | _=>false
structure FactsR (F:Facts):Prop where
  law:LawR F.law
  tr:(∀ x,x∈F.tr->∃ n d y r s c a,x=.agg [.int .i64 n,.int .i64 d,.int .i64 y,.int .i64 r,.str s,.str c,.int .i64 a]/\s.length<=1000000000000000/\c.length<=1000000000000000)/\F.tr.length<=9223372036854775807
  re:(∀ x,x∈F.re->∃ n d c a,x=.agg [.int .i64 n,.int .i64 d,.str c,.int .i64 a])/\F.re.length<=9223372036854775807
  ca:(∀ x,x∈F.ca->∃ n d c y a,x=.agg [.int .i64 n,.int .i64 d,.str c,.int .i64 y,.int .i64 a])/\F.ca.length<=9223372036854775807
def factO:PV->Facts
  | .agg [.int _ f,.int _ y,.sl t,.sl a,.sl b,.sl c,.sl d,.sl e,.sl g,.sl h,.sl r,.sl s,.sl u]=>⟨⟨f,y,t,a,b,c,d,e,g,h⟩,r,s,u⟩
  | _=>⟨⟨0,0,[],[],[],[],[],[],[],[]⟩,[],[],[]⟩
theorem factO_v (F:Facts):factO F.v=F:=rfl
def smFa (F:Facts):Bool:=F.re.all rc60&&(F.ca.all ca60&&(smL F.law&&(F.tr.all tra100&&decide (F.tr.length<=70))&&decide ((F.re.length:Int)<=110)&&decide ((F.ca.length:Int)<=70)))
noncomputable def smallFS:PSpec:=on_p (fun f=>∃ F:Facts,f=F.v/\FactsR F) (fun f=>.bool (smFa (factO f)))
theorem k_smallFS_20 {args:List PV}:M4 20 args=smallLS args:=rfl
theorem k_smallFS_21 {args:List PV}:M4 21 args=smallTS args:=rfl
theorem w_smallFS:PSound GG 4 smallFS:=by
  refine PSound.of_wpc (C:=cxP Tryz.prog M4 [] 51) (T:=plan0) Tryz.func4 rfl rfl rfl (Fit.pure (G:=GG) hM4 mixed) (fun args h=>?_)
  unfold smallFS at h
  obtain ⟨l,rfl,hp⟩:=on_p_inv h
  refine ⟨by simp [cxP],?_⟩
  simp only [smallFS,on_p_eq,Tryz.f4,argL,plan0]
  obtain ⟨⟨⟨fi,ye,tr,la,lb,lc,ld,le,lf,lg⟩,lt,lr,lk⟩,rfl,hR⟩:=hp
  have hL:∃ L:Law,lawV fi ye tr la lb lc ld le lf lg=L.v/\LawR L:=⟨⟨fi,ye,tr,la,lb,lc,ld,le,lf,lg⟩,rfl,hR.law⟩
  have hA:=hR.re.1
  have hAl:=hR.re.2
  have hB:=hR.ca.1
  have hBl:=hR.ca.2
  have hC:=hR.tr
  rw [factO_v]
  clear hR
  simp only at hA hAl hB hBl hC
  have hvo:lawO (lawV fi ye tr la lb lc ld le lf lg)=⟨fi,ye,tr,la,lb,lc,ld,le,lf,lg⟩:=rfl
  have hsm:smFa ⟨⟨fi,ye,tr,la,lb,lc,ld,le,lf,lg⟩,lt,lr,lk⟩=(lr.all rc60&&(lk.all ca60&&(smL ⟨fi,ye,tr,la,lb,lc,ld,le,lf,lg⟩&&(lt.all tra100&&decide (lt.length<=70))&&decide ((lr.length:Int)<=110)&&decide ((lk.length:Int)<=70)))):=rfl
  rw [hsm]
  clear hsm
  simp only [lawV] at hL hvo
  obtain ⟨B,hB0⟩:∃ B,smL ⟨fi,ye,tr,la,lb,lc,ld,le,lf,lg⟩=B:=⟨_,rfl⟩
  rw [hB0]
  simp only [Facts.v,List.take_succ_cons,List.take_nil,k_smallFS_20,smallLS,on_p_eq,k_smallFS_21,smallTS,on_l_eq,go_sem,↓reduceIte,reduceCtorEq,Nat.reduceEqDiff,Nat.reduceLT,↓all_qV,Int.reduceToNat,Int.reduceLT,Int.reduceLE,Nat.reduceAdd,Nat.reduceLeDiff,Nat.reduceMul,ev_callG,gcallK_b,gcallK_w,callGc_true,callGc_false,List.forall_mem_cons,List.not_mem_nil,PV.one,AV.one]
  refine AWp.loop (T:=plan0) (α:=Nat) (fun i=>([(1,.ptr 1 0),(8,.pv (.sl lr)),(9,.pv (.int .i64 lr.length)),(10,.pv (.int .i64 i))],[(1,.cells [.pv (.int .i64 fi),.pv (.int .i64 ye),.pv (.sl tr),.pv (.sl la),.pv (.sl lb),.pv (.sl lc),.pv (.sl ld),.pv (.sl le),.pv (.sl lf),.pv (.sl lg),.pv (.sl lt),.pv (.sl lr),.pv (.sl lk)])])) (fun i=>i<=lr.length/\(lr.take i).all rc60=true) (fun i=>lr.length-i)
    ⟨0,⟨Nat.zero_le _,rfl⟩,⟨by simp [fitR,look],by simp [fitH,hget],rfl,rfl,rfl⟩⟩ ?_
  rintro i ⟨g1,g2⟩
  have hi1:i<lr.length->IntKind.i64.wrap ((i:Int)+1)=((i+1:Nat):Int):=fun _=>by rw [i64_in _ (by omega)];omega
  by_cases hlt:i<lr.length
  · have c0:decide ((i:Int)<(lr.length:Int))=true:=by simp;omega
    have hm:=getD_mem hlt
    have htk:=take_succ_getD hlt
    obtain ⟨n,d,c,a,he3⟩:=hA _ hm
    rw [he3] at hm htk
    have hok:rc60 (.agg [.int .i64 n,.int .i64 d,.str c,.int .i64 a])= !(decide ((60:Int)<(c.length:Int))):=by
      show decide (c.length<=60)=_
      rw [Bool.eq_iff_iff];simp;omega
    simp only [c0,he3,hi1 hlt,List.length_map,List.take_succ_cons,List.take_nil,plan0,go_sem,↓reduceIte,reduceCtorEq,Nat.reduceEqDiff,Nat.reduceLT,↓all_qV,Int.reduceToNat,Int.reduceLT,Int.reduceLE,Nat.reduceAdd,Nat.reduceLeDiff,Nat.reduceMul,ev_callG,gcallK_b,gcallK_w,callGc_true,callGc_false,List.forall_mem_cons,List.not_mem_nil,PV.one,AV.one]
    refine ⟨⟨by omega,by omega⟩,fun h9=>?_,fun h9=>⟨i+1,⟨by omega,?_⟩,by omega,⟨by simp [fitR,look],by simp [fitH,hget],rfl,rfl,rfl⟩⟩⟩
    · have hf:lr.all rc60=false:=List.all_eq_false.2 ⟨_,hm,by rw [hok,h9];simp⟩
      simp only [hf,Bool.false_and,Bool.and_false]
    · rw [htk,List.all_append,g2,List.all_cons,hok,h9];rfl
  · have c0:decide ((i:Int)<(lr.length:Int))=false:=by simp;omega
    rw [List.take_of_length_le (by omega)] at g2
    have kA:lr.all rc60=true:=g2
    clear g1 g2 hi1
    rw [kA,Bool.true_and]
    simp only [c0,List.length_cons,List.length_nil,List.take_succ_cons,List.take_nil,plan0,go_sem,↓reduceIte,reduceCtorEq,Nat.reduceEqDiff,Nat.reduceLT,↓all_qV,Int.reduceToNat,Int.reduceLT,Int.reduceLE,Nat.reduceAdd,Nat.reduceLeDiff,Nat.reduceMul,ev_callG,gcallK_b,gcallK_w,callGc_true,callGc_false,List.forall_mem_cons,List.not_mem_nil,PV.one,AV.one]
    clear c0
    refine AWp.loop (T:=plan0) (α:=Nat) (fun i=>([(1,.ptr 1 0),(20,.pv (.sl lk)),(21,.pv (.int .i64 lk.length)),(22,.pv (.int .i64 i))],[(1,.cells [.pv (.int .i64 fi),.pv (.int .i64 ye),.pv (.sl tr),.pv (.sl la),.pv (.sl lb),.pv (.sl lc),.pv (.sl ld),.pv (.sl le),.pv (.sl lf),.pv (.sl lg),.pv (.sl lt),.pv (.sl lr),.pv (.sl lk)])])) (fun i=>i<=lk.length/\(lk.take i).all ca60=true) (fun i=>lk.length-i)
      ⟨0,⟨Nat.zero_le _,rfl⟩,⟨by simp [fitR,look],by simp [fitH,hget],rfl,rfl,rfl⟩⟩ ?_
    rintro i ⟨g1,g2⟩
    have hi1:i<lk.length->IntKind.i64.wrap ((i:Int)+1)=((i+1:Nat):Int):=fun _=>by rw [i64_in _ (by omega)];omega
    by_cases hlt:i<lk.length
    · have c0:decide ((i:Int)<(lk.length:Int))=true:=by simp;omega
      have hm:=getD_mem hlt
      have htk:=take_succ_getD hlt
      obtain ⟨n,d,c,y,a,he3⟩:=hB _ hm
      rw [he3] at hm htk
      have hok:ca60 (.agg [.int .i64 n,.int .i64 d,.str c,.int .i64 y,.int .i64 a])= !(decide ((60:Int)<(c.length:Int))):=by
        show decide (c.length<=60)=_
        rw [Bool.eq_iff_iff];simp;omega
      simp only [c0,he3,hi1 hlt,List.length_map,List.take_succ_cons,List.take_nil,plan0,go_sem,↓reduceIte,reduceCtorEq,Nat.reduceEqDiff,Nat.reduceLT,↓all_qV,Int.reduceToNat,Int.reduceLT,Int.reduceLE,Nat.reduceAdd,Nat.reduceLeDiff,Nat.reduceMul,ev_callG,gcallK_b,gcallK_w,callGc_true,callGc_false,List.forall_mem_cons,List.not_mem_nil,PV.one,AV.one]
      refine ⟨⟨by omega,by omega⟩,fun h9=>?_,fun h9=>⟨i+1,⟨by omega,?_⟩,by omega,⟨by simp [fitR,look],by simp [fitH,hget],rfl,rfl,rfl⟩⟩⟩
      · have hf:lk.all ca60=false:=List.all_eq_false.2 ⟨_,hm,by rw [hok,h9];simp⟩
        simp only [hf,Bool.false_and,Bool.and_false]
      · rw [htk,List.all_append,g2,List.all_cons,hok,h9];rfl
    · have c0:decide ((i:Int)<(lk.length:Int))=false:=by simp;omega
      rw [List.take_of_length_le (by omega)] at g2
      rw [g2,Bool.true_and]
      simp only [c0,hvo,hB0,List.length_cons,List.length_nil,List.take_succ_cons,List.take_nil,k_smallFS_20,smallLS,on_p_eq,k_smallFS_21,smallTS,on_l_eq,plan0,go_sem,↓reduceIte,reduceCtorEq,Nat.reduceEqDiff,Nat.reduceLT,↓all_qV,Int.reduceToNat,Int.reduceLT,Int.reduceLE,Nat.reduceAdd,Nat.reduceLeDiff,Nat.reduceMul,ev_callG,gcallK_b,gcallK_w,callGc_true,callGc_false,List.forall_mem_cons,List.not_mem_nil,PV.one,AV.one]
      exact ⟨hL,fun _=>hC⟩
noncomputable def M5 (g:FuncId):PSpec:=(putΦ M4 4 smallFS) g
theorem hM5:TabSound GG M5:=(hM4.put w_smallFS)
theorem small_law {L:Law} (hR:LawR L) (h:smL L=true):LawS L:=by
  unfold smL longB at h
  simp only [Bool.and_eq_true,Bool.not_eq_true',Bool.or_eq_false_iff,decide_eq_false_iff_not,Bool.not_eq_false',List.all_eq_true] at h
  obtain ⟨⟨⟨⟨⟨⟨⟨⟨hT,l1⟩,l2⟩,l3⟩,l4⟩,l5⟩,l6⟩,l7⟩,hA,hB,hC,hD,hE,hF,hG⟩:=h
  unfold smT at hT
  simp only [Bool.and_eq_true,decide_eq_true_eq,List.all_eq_true] at hT
  refine ⟨fun e he=>?_,by omega,fun x hx=>?_,by omega,fun x hx=>?_,by omega,fun x hx=>?_,by omega,fun x hx=>?_,by omega,fun x hx=>?_,by omega,fun x hx=>?_,by omega,fun x hx=>?_,by omega⟩
  · obtain ⟨c,n,rfl⟩:=hR.tr e he
    have:(decide (c.length<=60)&&decide (n.length<=100))=true:=hT.2 _ he
    simp only [Bool.and_eq_true,decide_eq_true_eq] at this
    exact ⟨c,n,rfl,by omega,by omega⟩
  · obtain ⟨s,y,m,rfl⟩:=hR.a x hx
    have:decide (s.length<=60)=true:=hA _ hx
    simp only [decide_eq_true_eq] at this
    exact ⟨s,y,m,rfl,by omega⟩
  · obtain ⟨s,y,m,rfl⟩:=hR.b x hx
    have:decide (s.length<=60)=true:=hB _ hx
    simp only [decide_eq_true_eq] at this
    exact ⟨s,y,m,rfl,by omega⟩
  · obtain ⟨s,y,m,rfl⟩:=hR.c x hx
    have:decide (s.length<=60)=true:=hC _ hx
    simp only [decide_eq_true_eq] at this
    exact ⟨s,y,m,rfl,by omega⟩
  · obtain ⟨s,c,p,rfl,_⟩:=hR.d x hx
    have:decide (s.length+c.length<=100)=true:=hD _ hx
    simp only [decide_eq_true_eq] at this
    exact ⟨s,c,p,rfl,by omega,by omega⟩
  · obtain ⟨c,y,am,k,d,s,l,rfl,_⟩:=hR.e x hx
    have:decide (s.length+c.length<=100)=true:=hE _ hx
    simp only [decide_eq_true_eq] at this
    exact ⟨c,y,am,k,d,s,l,rfl,by omega,by omega⟩
  · obtain ⟨n,s,c,p,rfl,_⟩:=hR.f x hx
    have:decide (s.length+c.length<=100)=true:=hF _ hx
    simp only [decide_eq_true_eq] at this
    exact ⟨n,s,c,p,rfl,by omega,by omega⟩
  · obtain ⟨d,n,ch,rfl,hch,_⟩:=hR.g x hx
    have:(decide (ch.length<=30)&&ch.all chg60)=true:=hG _ hx
    simp only [Bool.and_eq_true,decide_eq_true_eq,List.all_eq_true] at this
    refine ⟨d,n,ch,rfl,fun y hy=>?_,by omega⟩
    obtain ⟨k,c,y',m,rfl⟩:=hch y hy
    have h2:decide (c.length<=60)=true:=this.2 _ hy
    simp only [decide_eq_true_eq] at h2
    exact ⟨k,c,y',m,rfl,by omega⟩
theorem small_facts {F:Facts} (hR:FactsR F) (h:smFa F=true):LawS F.law/\(∀ x,x∈F.re->isR x)/\F.re.length<=110:=by
  unfold smFa at h
  simp only [Bool.and_eq_true,decide_eq_true_eq,List.all_eq_true] at h
  obtain ⟨hA,hB,⟨⟨hL,_⟩,hl⟩,_⟩:=h
  refine ⟨small_law hR.law hL,fun x hx=>?_,by omega⟩
  obtain ⟨n,d,c,a,rfl⟩:=hR.re.1 x hx
  have:decide (c.length<=60)=true:=hA _ hx
  simp only [decide_eq_true_eq] at this
  exact ⟨n,d,c,a,rfl,by omega⟩
end Go.AM
