/-
  A part of a proof.
-/
import Derived.Test.YteiphfohadlgiaaGreatDoorY7e
set_option linter.unusedSimpArgs false
set_option linter.unusedVariables false
namespace Go.AM
open Go Go.Proofs Go.IntWalk
set_option maxRecDepth 100000
set_option maxHeartbeats 4000000
def on_pl (p:PV->List PV->Prop) (f:PV->List PV->PV):PSpec
  | [a0,.sl a1]=>(p a0 a1,f a0 a1)
  | _=>(False,default)
theorem on_pl_eq {p:PV->List PV->Prop} {f:PV->List PV->PV} {a0:PV} {a1:List PV}:on_pl p f [a0,.sl a1]=(p a0 a1,f a0 a1):=rfl
theorem on_pl_inv {p:PV->List PV->Prop} {f:PV->List PV->PV} {args:List PV} (h:(on_pl p f args).1):∃ a0:PV,∃ a1:List PV,args=[a0,.sl a1]/\p a0 a1:=by
  unfold on_pl at h
  split at h
  · exact ⟨_,_,rfl,h⟩
  · exact h.elim
def lvL (L:Law):List (List UInt8):=lvC (L.tree.map hCode) []
theorem lvL_mem {L:Law} {s:List UInt8} (h:s∈lvL L):s∈L.tree.map hCode:=(List.mem_filter.1 h).1
theorem lvL_len (L:Law):(lvL L).length<=L.tree.length:=by
  have:=List.length_filter_le (fun c=>isCode c&&(L.tree.map hCode).all (fun x=>!(parC x == c))&&([] == ([]:List UInt8)||undC c [])) (L.tree.map hCode)
  rw [List.length_map] at this
  exact this
theorem LawS.lvS {L:Law} (h:LawS L):(lvL L).length<=1000000/\∀ s,s∈lvL L->s.length<=1000000000000:=by
  refine ⟨Nat.le_trans (lvL_len L) h.tl,fun s hs=>?_⟩
  obtain ⟨e,he,rfl⟩:=List.mem_map.1 (lvL_mem hs)
  obtain ⟨c,n,e1,h1,_⟩:=h.tr e he
  rw [e1];exact h1
theorem LawS.ckS {L:Law} (h:LawS L):isCkS (ckV L (lvL L)):=⟨L,lvL L,rfl,h,h.lvS.1,h.lvS.2⟩
theorem LawS.ck0 {L:Law} (h:LawS L):isCkS (ckV L []):=⟨L,[],rfl,h,Nat.zero_le _,by simp⟩
theorem LawS.isH {L:Law} (h:LawS L):∀ e,e∈L.tree->isH e:=fun e he=>(h.tr e he).isH
def validF (L:Law):Int:=bif yearsE L != 0 then yearsE L else
  orF [eachF (lineE L (lvL L)) linO none L.a,eachF (boundE L) linO none L.b,eachF (boundE L) linO none L.c,eachF (earmarkE L (lvL L)) earO none L.d,sharesE L (lvL L),eachF (condE L (lvL L)) anyO none L.e,eachF (ruleE L) rulO none L.f,amE L (lvL L) none L.g]
noncomputable def validGS:PSpec:=on_p (fun l=>∃ L:Law,l=L.v/\LawS L) (fun l=>.int .i64 (validF (lawO l)))
theorem k_validGS_67 {args:List PV}:C0 67 args=yearsCS args:=rfl
theorem k_validGS_68 {args:List PV}:C0 68 args=lvS args:=rfl
theorem k_validGS_69 {args:List PV}:C0 69 args=anyS args:=rfl
theorem k_validGS_70 {args:List PV}:C0 70 args=orES args:=rfl
theorem k_validGS_71 {args:List PV}:C0 71 args=eaLS args:=rfl
theorem k_validGS_72 {args:List PV}:C0 72 args=linesS args:=rfl
theorem k_validGS_73 {args:List PV}:C0 73 args=lineS args:=rfl
theorem k_validGS_74 {args:List PV}:C0 74 args=eaBS args:=rfl
theorem k_validGS_75 {args:List PV}:C0 75 args=boundsS args:=rfl
theorem k_validGS_76 {args:List PV}:C0 76 args=boundS args:=rfl
theorem k_validGS_77 {args:List PV}:C0 77 args=eaES args:=rfl
theorem k_validGS_78 {args:List PV}:C0 78 args=earmarksS args:=rfl
theorem k_validGS_79 {args:List PV}:C0 79 args=earmarkS args:=rfl
theorem k_validGS_80 {args:List PV}:C0 80 args=sharesCS args:=rfl
theorem k_validGS_81 {args:List PV}:C0 81 args=eaCS args:=rfl
theorem k_validGS_82 {args:List PV}:C0 82 args=condCS args:=rfl
theorem k_validGS_83 {args:List PV}:C0 83 args=eaRS args:=rfl
theorem k_validGS_84 {args:List PV}:C0 84 args=rulesS args:=rfl
theorem k_validGS_85 {args:List PV}:C0 85 args=ruleCS args:=rfl
theorem k_validGS_86 {args:List PV}:C0 86 args=amendCS args:=rfl
theorem w_validGS:PSound GG 49 validGS:=by
  refine PSound.of_wpc (C:=cxP Tryz.prog C0 [] 54) (T:=plan0) Tryz.func49 rfl rfl rfl (Fit.pure (G:=GG) hC0 mixed) (fun args h=>?_)
  unfold validGS at h
  obtain ⟨x,rfl,hp⟩:=on_p_inv h
  refine ⟨by simp [cxP],?_⟩
  simp only [validGS,on_p_eq,Tryz.f49,argL,plan0]
  obtain ⟨L,rfl,hS⟩:=hp
  have hck:=hS.ckS.ck
  have hcs:=hS.ckS
  have hc0:=hS.ck0
  have hH:=hS.isH
  have htl:=hS.tl
  have h1:=hS.a
  have h2:=hS.al
  have h3:=hS.b
  have h4:=hS.bl
  have h5:=hS.c
  have h6:=hS.cl
  have h7:=hS.d
  have h8:=hS.dl
  have h9:=hS.e
  have h10:=hS.el
  have h11:=hS.f
  have h12:=hS.fl
  have hk1:chkL (ckV L (lvL L))=L:=rfl
  have hk2:chkLv (ckV L (lvL L))=lvL L:=map_sOf _
  have hk3:chkL (ckV L [])=L:=rfl
  have hl1:lineK (ckV L (lvL L))=lineE L (lvL L):=by unfold lineK;rw [hk1,hk2]
  have hl2:boundK (ckV L (lvL L))=boundE L:=by unfold boundK;rw [hk1]
  have hl3:earmarkK (ckV L (lvL L))=earmarkE L (lvL L):=by unfold earmarkK;rw [hk1,hk2]
  have hl4:cndK (ckV L (lvL L))=condE L (lvL L):=by unfold cndK;rw [hk1,hk2]
  have hl5:ruleK (ckV L (lvL L))=ruleE L:=by unfold ruleK;rw [hk1]
  rw [lawO_v]
  unfold validF
  have hlv:lvC (L.tree.map hCode) []=lvL L:=rfl
  clear hS
  generalize lvL L=lv at * 
  obtain ⟨L0,hL0⟩:∃ L0,L=L0:=⟨_,rfl⟩
  rw [hL0] at hk1 hk3 hl1 hl2 hl3 hl4 hl5 ⊢
  rw [<- hL0] at hk1 hk3 hl1 hl2 hl3 hl4 hl5
  obtain ⟨fi,ye,tr,la,lb,lc,ld,le,lf,lg⟩:=L
  simp only [ckV,chkV,List.map_nil] at hck hcs hc0 hH htl h1 h2 h3 h4 h5 h6 h7 h8 h9 h10 h11 h12 hlv hk1 hk2 hk3 hl1 hl2 hl3 hl4 hl5
  rw [<- hL0]
  simp only [Law.v,lawV,hlv,mvK,hk1,hk2,hk3,hl1,hl2,hl3,hl4,hl5,makeFuncA,List.length_cons,List.length_nil,List.take_succ_cons,List.take_nil,k_validGS_67,yearsCS,on_p_eq,k_validGS_68,lvS,on_ls_eq,k_validGS_69,anyS,on_pp_eq,k_validGS_70,orES,on_l_eq,k_validGS_71,eaLS,on_lpp_eq,k_validGS_72,linesS,k_validGS_73,lineS,k_validGS_74,eaBS,k_validGS_75,boundsS,k_validGS_76,boundS,k_validGS_77,eaES,k_validGS_78,earmarksS,k_validGS_79,earmarkS,k_validGS_80,sharesCS,k_validGS_81,eaCS,k_validGS_82,condCS,k_validGS_83,eaRS,k_validGS_84,rulesS,k_validGS_85,ruleCS,k_validGS_86,amendCS,go_sem,↓reduceIte,reduceCtorEq,Nat.reduceEqDiff,Nat.reduceLT,↓all_qV,Int.reduceToNat,Int.reduceLT,Int.reduceLE,Nat.reduceAdd,Nat.reduceLeDiff,Nat.reduceMul,ev_callG,gcallK_b,gcallK_w,callGc_true,callGc_false,List.forall_mem_cons,List.not_mem_nil,PV.one,AV.one]
  obtain ⟨Y,hY⟩:∃ Y,yearsE ⟨fi,ye,tr,la,lb,lc,ld,le,lf,lg⟩=Y:=⟨_,rfl⟩
  rw [hY]
  refine ⟨hc0,fun g1=>by rw [g1];rfl,fun g1=>⟨⟨hH,by omega⟩,by kernel_rfl,?_⟩⟩
  rw [g1,cond_false]
  have hol:∀ a b c d e f g h:Int,∃ l:List Int,[PV.int .i64 a,.int .i64 b,.int .i64 c,.int .i64 d,.int .i64 e,.int .i64 f,.int .i64 g,.int .i64 h]=l.map intV/\l.length<=1000000000000:=fun a b c d e f g h=>⟨[a,b,c,d,e,f,g,h],rfl,by simp⟩
  repeat' (with_reducible refine And.intro ?_ ?_)
  all_goals try first
    | exact hol _ _ _ _ _ _ _ _ | exact hcs | exact ⟨_,rfl,hck⟩ | assumption | omega | rfl
set_option maxHeartbeats 2000000
noncomputable def C1 (g:FuncId):PSpec:=(putΦ C0 49 validGS) g
theorem hC1:TabSound GG C1:=(hC0.put w_validGS)
noncomputable def leafBS:PSpec:=on_ps (fun l _=>∃ L:Law,l=L.v/\(∀ e,e∈L.tree->isH e)/\L.tree.length<=1000000) (fun l s=>.bool ((lvL (lawO l)).contains s))
theorem k_leafBS_68 {args:List PV}:C1 68 args=lvS args:=rfl
theorem k_leafBS_118 {args:List PV}:C1 118 args=containsS args:=rfl
theorem w_leafBS:PSound GG 87 leafBS:=by
  refine PSound.of_wpc (C:=cxP Tryz.prog C1 [] 10) (T:=plan0) Tryz.func87 rfl rfl rfl (Fit.pure (G:=GG) hC1 mixed) (fun args h=>?_)
  unfold leafBS at h
  obtain ⟨l,s,rfl,hp⟩:=on_ps_inv h
  refine ⟨by simp [cxP],?_⟩
  simp only [leafBS,on_ps_eq,Tryz.f87,argL,plan0]
  obtain ⟨⟨fi,ye,tr,la,lb,lc,ld,le,lf,lg⟩,rfl,h1,h2⟩:=hp
  have hl:=lvL_len ⟨fi,ye,tr,la,lb,lc,ld,le,lf,lg⟩
  rw [lawO_v]
  simp only [lvL] at hl ⊢
  simp only at h1 h2
  simp only [Law.v,lawV,map_sOf,List.length_map,List.length_nil,List.take_succ_cons,List.take_nil,k_leafBS_68,lvS,on_ls_eq,k_leafBS_118,containsS,go_sem,↓reduceIte,reduceCtorEq,Nat.reduceEqDiff,Nat.reduceLT,↓all_qV,Int.reduceToNat,Int.reduceLT,Int.reduceLE,Nat.reduceAdd,Nat.reduceLeDiff,Nat.reduceMul,ev_callG,gcallK_b,gcallK_w,callGc_true,callGc_false,List.forall_mem_cons,List.not_mem_nil,PV.one,AV.one]
  exact ⟨⟨h1,by omega⟩,⟨_,rfl⟩,by omega⟩
noncomputable def C2 (g:FuncId):PSpec:=(putΦ C1 87 leafBS) g
theorem hC2:TabSound GG C2:=(hC1.put w_leafBS)
def wrongF (L:Law):PV->Int
  | .agg [.int _ n,.int _ d,.str c,.int _ a]=>bif (decide (n<1)||decide (1000000<n)||decide (d<0)||decide (35990<d)||a == 0||!amt a) then 2 else bif !(lvL L).contains c then 5 else 0
  | _=>0
noncomputable def wrongS:PSpec:=on_pp (fun l x=>∃ L:Law,l=L.v/\(∀ e,e∈L.tree->isH e)/\L.tree.length<=1000000/\isR x) (fun l x=>.int .i64 (wrongF (lawO l) x))
theorem k_wrongS_60 {args:List PV}:C2 60 args=amtS args:=rfl
theorem k_wrongS_87 {args:List PV}:C2 87 args=leafBS args:=rfl
theorem w_wrongS:PSound GG 50 wrongS:=by
  refine PSound.of_wpc (C:=cxP Tryz.prog C2 [] 41) (T:=plan0) Tryz.func50 rfl rfl rfl (Fit.pure (G:=GG) hC2 mixed) (fun args h=>?_)
  unfold wrongS at h
  obtain ⟨l,x,rfl,hp⟩:=on_pp_inv h
  refine ⟨by simp [cxP],?_⟩
  simp only [wrongS,on_pp_eq,Tryz.f50,argL,plan0]
  obtain ⟨⟨fi,ye,tr,la,lb,lc,ld,le,lf,lg⟩,rfl,h1,h2,n,d,c,a,rfl,hc⟩:=hp
  have hp2:∃ L:Law,lawV fi ye tr la lb lc ld le lf lg=L.v/\(∀ e,e∈L.tree->isH e)/\L.tree.length<=1000000:=⟨⟨fi,ye,tr,la,lb,lc,ld,le,lf,lg⟩,rfl,h1,h2⟩
  rw [lawO_v]
  have hv:lawO (lawV fi ye tr la lb lc ld le lf lg)=⟨fi,ye,tr,la,lb,lc,ld,le,lf,lg⟩:=rfl
  simp only [lawV] at hp2 hv
  simp only [recV,wrongF]
  simp only [Law.v,lawV,hv,List.take_succ_cons,List.take_nil,k_wrongS_60,amtS,on_i_eq,k_wrongS_87,leafBS,on_ps_eq,go_sem,↓reduceIte,reduceCtorEq,Nat.reduceEqDiff,Nat.reduceLT,↓all_qV,Int.reduceToNat,Int.reduceLT,Int.reduceLE,Nat.reduceAdd,Nat.reduceLeDiff,Nat.reduceMul,ev_callG,gcallK_b,gcallK_w,callGc_true,callGc_false,List.forall_mem_cons,List.not_mem_nil,PV.one,AV.one]
  refine ⟨fun g1=>by rw [g1];rfl,fun g1=>⟨⟨⟨fi,ye,tr,la,lb,lc,ld,le,lf,lg⟩,rfl,h1,h2⟩,fun g2=>by rw [g1,g2];rfl,fun g2=>by rw [g1,g2];rfl⟩⟩
noncomputable def C3 (g:FuncId):PSpec:=(putΦ C2 50 wrongS) g
theorem hC3:TabSound GG C3:=(hC2.put w_wrongS)
def recO (x y:PV):Int:=orF [cmpI (rDay x) (rDay y),cmpI (rNum x) (rNum y)]
def chkF (L:Law) (rs:List PV):Int:=bif validF L != 0 then validF L else bif decide ((100:Int)<(rs.length:Int)) then 3 else eachF (wrongF L) recO none rs
noncomputable def checkS:PSpec:=on_pl (fun l r=>(∃ L:Law,l=L.v/\LawS L)/\(∀ x,x∈r->isR x)/\r.length<=1000000000) (fun l r=>.int .i64 (chkF (lawO l) r))
theorem k_checkS_49 {args:List PV}:C3 49 args=validGS args:=rfl
theorem k_checkS_50 {args:List PV}:C3 50 args=wrongS args:=rfl
theorem k_checkS_51 {args:List PV}:C3 51 args=orS args:=rfl
theorem k_checkS_52 {args:List PV}:C3 52 args=cmpIS args:=rfl
theorem w_checkS:PSound GG 34 checkS:=by
  refine PSound.of_wpc (C:=cxP Tryz.prog C3 [] 56) (T:=plan0) Tryz.func34 rfl rfl rfl (Fit.pure (G:=GG) hC3 mixed) (fun args h=>?_)
  unfold checkS at h
  obtain ⟨l,rs,rfl,hp⟩:=on_pl_inv h
  refine ⟨by simp [cxP],?_⟩
  simp only [checkS,on_pl_eq,Tryz.f34,argL,plan0]
  obtain ⟨⟨⟨fi,ye,tr,la,lb,lc,ld,le,lf,lg⟩,rfl,hS⟩,hx1,hrl⟩:=hp
  have hV:∃ L':Law,lawV fi ye tr la lb lc ld le lf lg=L'.v/\LawS L':=⟨_,rfl,hS⟩
  have hW:∀ x,x∈rs->∃ L':Law,lawV fi ye tr la lb lc ld le lf lg=L'.v/\(∀ e,e∈L'.tree->isH e)/\L'.tree.length<=1000000/\isR x:=fun x hx=>⟨_,rfl,hS.isH,hS.tl,hx1 x hx⟩
  rw [lawO_v]
  have hvo:lawO (lawV fi ye tr la lb lc ld le lf lg)=⟨fi,ye,tr,la,lb,lc,ld,le,lf,lg⟩:=rfl
  clear hS
  unfold chkF
  obtain ⟨V,hVf⟩:∃ V,validF ⟨fi,ye,tr,la,lb,lc,ld,le,lf,lg⟩=V:=⟨_,rfl⟩
  obtain ⟨W,hWf⟩:∃ W,wrongF ⟨fi,ye,tr,la,lb,lc,ld,le,lf,lg⟩=W:=⟨_,rfl⟩
  rw [hVf,hWf]
  simp only [lawV] at hV hW hvo
  simp only [Law.v,lawV,hvo,hVf,List.take_succ_cons,List.take_nil,k_checkS_49,validGS,on_p_eq,k_checkS_50,wrongS,on_pp_eq,k_checkS_51,orS,on_l_eq,k_checkS_52,cmpIS,on_ii_eq,go_sem,↓reduceIte,reduceCtorEq,Nat.reduceEqDiff,Nat.reduceLT,↓all_qV,Int.reduceToNat,Int.reduceLT,Int.reduceLE,Nat.reduceAdd,Nat.reduceLeDiff,Nat.reduceMul,ev_callG,gcallK_b,gcallK_w,callGc_true,callGc_false,List.forall_mem_cons,List.not_mem_nil,PV.one,AV.one]
  refine ⟨hV,fun g1=>by rw [g1];rfl,fun g1=>⟨fun g2=>by rw [g1,g2];rfl,fun g2=>?_⟩⟩
  rw [g1,g2,cond_false,cond_false]
  have hl1:rs.length<=100:=by simp only [decide_eq_false_iff_not] at g2;omega
  refine AWp.loop (T:=plan0) (α:=Nat) (fun i=>([(1,.pv (.sl rs)),(2,.ptr 2 0),(17,.pv (.sl rs)),(18,.pv (.int .i64 rs.length)),(19,.pv (.int .i64 i))],[(2,.cells [.pv (.int .i64 fi),.pv (.int .i64 ye),.pv (.sl tr),.pv (.sl la),.pv (.sl lb),.pv (.sl lc),.pv (.sl ld),.pv (.sl le),.pv (.sl lf),.pv (.sl lg)])])) (fun i=>i<=rs.length/\eachF W recO none rs=eachF W recO (prevE rs i) (rs.drop i)) (fun i=>rs.length-i)
    ⟨0,⟨Nat.zero_le _,rfl⟩,⟨by simp [fitR,look],by simp [fitH,hget],rfl,rfl,rfl⟩⟩ ?_
  rintro i ⟨h1,h2⟩
  have hi1:IntKind.i64.wrap ((i:Int)+1)=((i+1:Nat):Int):=by rw [i64_in _ (by omega)];omega
  rw [h2]
  by_cases hlt:i<rs.length
  · have hgm:=getD_mem hlt
    have hw:=hW _ hgm
    have hx:=hx1 _ hgm
    have hd:rs.drop i=rs.getD i default::rs.drop (i+1):=by rw [List.drop_eq_getElem_cons hlt];simp [List.getD_eq_getElem?_getD,hlt]
    obtain ⟨x,hg⟩:∃ x,rs.getD i default=x:=⟨_,rfl⟩
    have hpv:prevE rs (i+1)=some x:=by rw [<- hg];exact if_neg (by omega)
    rw [hg] at hw hx hd
    rw [hd,eachF_cons]
    rw [hd,eachF_cons] at h2
    obtain ⟨n,d,c,a,rfl,hcl⟩:=hx
    have e1:rDay (recV n d c a)=d:=rfl
    have e2:rNum (recV n d c a)=n:=rfl
    obtain ⟨E,hE⟩:∃ E,W (recV n d c a)=E:=⟨_,rfl⟩
    rw [hE] at h2 ⊢
    simp only [recV] at hg hE hw hpv hd e1 e2
    cases i with
    | zero=>
      have c0:decide ((0:Int)<(rs.length:Int))=true:=by simp;omega
      have w1:IntKind.i64.wrap (0-1)= -1:=by decide
      have w2:IntKind.i64.wrap (0+1)=1:=by decide
      have hp0:prevE rs 0=none:=rfl
      rw [hp0] at h2 ⊢
      simp only [c0,decide_false,w1,w2,neg1',hg,hvo,hWf,hE,List.take_succ_cons,List.take_nil,k_checkS_49,validGS,on_p_eq,k_checkS_50,wrongS,on_pp_eq,k_checkS_51,orS,on_l_eq,k_checkS_52,cmpIS,on_ii_eq,plan0,go_sem,↓reduceIte,reduceCtorEq,Nat.reduceEqDiff,Nat.reduceLT,↓all_qV,Int.reduceToNat,Int.reduceLT,Int.reduceLE,Nat.reduceAdd,Nat.reduceLeDiff,Nat.reduceMul,ev_callG,gcallK_b,gcallK_w,callGc_true,callGc_false,List.forall_mem_cons,List.not_mem_nil,PV.one,AV.one] at h2 ⊢
      refine ⟨by omega,hw,fun g3=>by rw [g3];rfl,fun g3=>⟨by kernel_rfl,1,⟨by omega,?_⟩,by omega,⟨by simp [fitR,look],by simp [fitH,hget],rfl,rfl,rfl⟩⟩⟩
      rw [g3]
      exact (congrArg (fun p=>eachF W recO p (List.drop 1 rs)) hpv).symm
    | succ j=>
      have c0:decide (((j+1:Nat):Int)<(rs.length:Int))=true:=by simp;omega
      have c1:decide ((0:Int)<((j+1:Nat):Int))=true:=by simp
      have w1:IntKind.i64.wrap (((j+1:Nat):Int)-1)=(j:Int):=by rw [i64_in _ (by omega)];omega
      have hz1:=hx1 _ (getD_mem (show j<rs.length by omega))
      obtain ⟨z,hz⟩:∃ z,rs.getD j default=z:=⟨_,rfl⟩
      have hp0:prevE rs (j+1)=some z:=by rw [<- hz];rfl
      rw [hp0] at h2 ⊢
      rw [hz] at hz1
      obtain ⟨n',d',c',a',rfl,_⟩:=hz1
      have hb:bhF recO (some (.agg [.int .i64 n',.int .i64 d',.str c',.int .i64 a'])) (.agg [.int .i64 n,.int .i64 d,.str c,.int .i64 a])=decide (0<=orF [cmpI d' d,cmpI n' n]):=rfl
      simp only [recV] at hz h2 ⊢
      rw [hb] at h2 ⊢
      obtain ⟨o,ho⟩:∃ o,orF [cmpI d' d,cmpI n' n]=o:=⟨_,rfl⟩
      rw [ho] at h2 ⊢
      simp only [c0,c1,w1,hg,hz,hi1,hvo,hWf,hE,ho,nOf,List.take_succ_cons,List.take_nil,k_checkS_49,validGS,on_p_eq,k_checkS_50,wrongS,on_pp_eq,k_checkS_51,orS,on_l_eq,k_checkS_52,cmpIS,on_ii_eq,plan0,go_sem,↓reduceIte,reduceCtorEq,Nat.reduceEqDiff,Nat.reduceLT,↓all_qV,Int.reduceToNat,Int.reduceLT,Int.reduceLE,Nat.reduceAdd,Nat.reduceLeDiff,Nat.reduceMul,ev_callG,gcallK_b,gcallK_w,callGc_true,callGc_false,List.forall_mem_cons,List.not_mem_nil,PV.one,AV.one]
      refine ⟨⟨by omega,by omega⟩,hw,fun g3=>by rw [g3];rfl,fun g3=>⟨by kernel_rfl,⟨by omega,by omega⟩,⟨by omega,by omega⟩,⟨[cmpI d' d,cmpI n' n],rfl,by simp⟩,fun g4=>by rw [g3,g4];rfl,fun g4=>⟨j+1+1,⟨by omega,?_⟩,by omega,⟨by simp [fitR,look],by simp [fitH,hget],rfl,rfl,rfl⟩⟩⟩⟩
      rw [g3,g4]
      exact (congrArg (fun p=>eachF W recO p (List.drop (j+1+1) rs)) hpv).symm
  · have c0:decide ((i:Int)<(rs.length:Int))=false:=by simp;omega
    rw [List.drop_eq_nil_of_le (by omega),eachF_nil]
    simp only [c0,plan0,go_sem,↓reduceIte,reduceCtorEq,Nat.reduceEqDiff,Nat.reduceLT,↓all_qV,Int.reduceToNat,Int.reduceLT,Int.reduceLE,Nat.reduceAdd,Nat.reduceLeDiff,Nat.reduceMul]
noncomputable def C4 (g:FuncId):PSpec:=(putΦ C3 34 checkS) g
theorem hC4:TabSound GG C4:=(hC3.put w_checkS)
end Go.AM
