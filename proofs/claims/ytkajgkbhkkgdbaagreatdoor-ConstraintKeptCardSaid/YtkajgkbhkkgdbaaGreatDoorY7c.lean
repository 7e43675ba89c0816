/-
  A part of a proof.
-/
import Derived.Test.YtkajgkbhkkgdbaaGreatDoorYB
set_option linter.unusedSimpArgs false
set_option linter.unusedVariables false
namespace Go.AM
open Go Go.Proofs Go.IntWalk
set_option maxRecDepth 100000
set_option maxHeartbeats 2000000
def on_p (p:PV->Prop) (f:PV->PV):PSpec
 | [a0]=>(p a0,f a0)
 | _=>(False,default)
theorem on_p_eq {p:PV->Prop} {f:PV->PV} {a0:PV}:on_p p f [a0]=(p a0,f a0):=rfl
theorem on_p_inv {p:PV->Prop} {f:PV->PV} {args:List PV} (h:(on_p p f args).1):∃ a0:PV,args=[a0]/\p a0:=by
 unfold on_p at h
 split at h
 · exact ⟨_,rfl,h⟩
 · exact h.elim
theorem neg1':Int.toNat (-1)=0:=rfl
def bhF (ord:PV->PV->Int):Option PV->PV->Bool
 | some q,x=>decide (0<=ord q x)
 | none,_=>false
def eachF (one:PV->Int) (ord:PV->PV->Int):Option PV->List PV->Int
 | _,[]=>0
 | p,x::r=>bif one x != 0 then one x else bif bhF ord p x then 8 else eachF one ord (some x) r
theorem eachF_nil (one:PV->Int) (ord:PV->PV->Int) (p:Option PV):eachF one ord p []=0:=rfl
theorem eachF_cons (one:PV->Int) (ord:PV->PV->Int) (p:Option PV) (x:PV) (r:List PV):eachF one ord p (x::r)=bif one x != 0 then one x else bif bhF ord p x then 8 else eachF one ord (some x) r:=rfl
def prevE (es:List PV) (i:Nat):Option PV:=if i=0 then none else some (es.getD (i-1) default)
def mvK:PV->PV
 | .mv _ [k]=>k
 | _=>default
def lineK (k:PV):PV->Int:=lineE (chkL k) (chkLv k)
def boundK (k:PV):PV->Int:=boundE (chkL k)
def earmarkK (k:PV):PV->Int:=earmarkE (chkL k) (chkLv k)
def cndK (k:PV):PV->Int:=condE (chkL k) (chkLv k)
def ruleK (k:PV):PV->Int:=ruleE (chkL k)
def changeK (k:PV):PV->Int:=changeE (chkL k) (chkLv k)
def isA3 (e:PV):Prop:=∃ d n ch,e=.agg [.int .i64 d,.int .i64 n,.sl ch]/\(∀ x,x∈ch->isX4 x)/\ch.length<=1000000
def chK:PV->Int
 | .agg (.int _ k::_)=>k
 | _=>0
def chC':PV->List UInt8
 | .agg [_,.str c,_,_]=>c
 | _=>[]
def chY:PV->Int
 | .agg [_,_,.int _ y,_]=>y
 | _=>0
def chaO (x y:PV):Int:=orF [cmpI (chK x) (chK y),cmpC (chC' x) (chC' y),cmpI (chY x) (chY y)]
noncomputable def changesS:PSpec:=on_pp (fun a b=>isX4 a/\isX4 b) (fun a b=>.int .i64 (chaO a b))
theorem k_changesS_63 {args:List PV}:B6 63 args=orS args:=rfl
theorem k_changesS_64 {args:List PV}:B6 64 args=cmpCS args:=rfl
theorem k_changesS_65 {args:List PV}:B6 65 args=cmpIS args:=rfl
theorem w_changesS:PSound GG 143 changesS:=by
 refine PSound.of_wpc (C:=cxP Tryz.prog B6 [] 22) (T:=plan0) Tryz.func143 rfl rfl rfl (Fit.pure (G:=GG) hB6 mixed) (fun args h=>?_)
 unfold changesS at h
 obtain ⟨p,q,rfl,hp⟩:=on_pp_inv h
 refine ⟨by simp [cxP],?_⟩
 simp only [changesS,on_pp_eq,Tryz.f143,argL,plan0]
 obtain ⟨⟨k,c,y,m,rfl,hs⟩,⟨k',c',y',m',rfl,hs'⟩⟩:=hp
 have e:chaO (.agg [.int .i64 k,.str c,.int .i64 y,.int .i64 m]) (.agg [.int .i64 k',.str c',.int .i64 y',.int .i64 m'])=orF [cmpI k k',cmpC c c',cmpI y y']:=rfl
 simp only [e,k_changesS_63,orS,on_l_eq,k_changesS_64,cmpCS,on_ss_eq,k_changesS_65,cmpIS,on_ii_eq,go_sem,↓reduceIte,reduceCtorEq,Nat.reduceEqDiff,Nat.reduceLT,Nat.reduceAdd,Nat.reduceLeDiff,Nat.reduceMul]
 exact ⟨by kernel_rfl,⟨hs,hs'⟩,⟨[cmpI k k',cmpC c c',cmpI y y'],rfl,by simp⟩,rfl⟩
def amdN:PV->Int
 | .agg [_,.int _ n,_]=>n
 | _=>0
def amdO (x y:PV):Int:=orF [cmpI (chK x) (chK y),cmpI (amdN x) (amdN y)]
noncomputable def amdsS:PSpec:=on_pp (fun a b=>isA3 a/\isA3 b) (fun a b=>.int .i64 (amdO a b))
theorem k_amdsS_63 {args:List PV}:B6 63 args=orS args:=rfl
theorem k_amdsS_65 {args:List PV}:B6 65 args=cmpIS args:=rfl
theorem w_amdsS:PSound GG 141 amdsS:=by
 refine PSound.of_wpc (C:=cxP Tryz.prog B6 [] 17) (T:=plan0) Tryz.func141 rfl rfl rfl (Fit.pure (G:=GG) hB6 mixed) (fun args h=>?_)
 unfold amdsS at h
 obtain ⟨p,q,rfl,hp⟩:=on_pp_inv h
 refine ⟨by simp [cxP],?_⟩
 simp only [amdsS,on_pp_eq,Tryz.f141,argL,plan0]
 obtain ⟨⟨k,c,y,rfl,hs⟩,⟨k',c',y',rfl,hs'⟩⟩:=hp
 have e:amdO (.agg [.int .i64 k,.int .i64 c,.sl y]) (.agg [.int .i64 k',.int .i64 c',.sl y'])=orF [cmpI k k',cmpI c c']:=rfl
 simp only [e,k_amdsS_63,orS,on_l_eq,k_amdsS_65,cmpIS,on_ii_eq,go_sem,↓reduceIte,reduceCtorEq,Nat.reduceEqDiff,Nat.reduceLT,Nat.reduceAdd,Nat.reduceLeDiff,Nat.reduceMul]
 exact ⟨by kernel_rfl,⟨[cmpI k k',cmpI c c'],rfl,by simp⟩,rfl⟩
def amdL:PV->List PV
 | .agg [_,_,.sl ch]=>ch
 | _=>[]
def bigA (e:PV):Bool:=decide ((20:Int)<((amdL e).length:Int))
noncomputable def largeS:PSpec:=on_p isA3 (fun e=>.bool (bigA e))
theorem w_largeS:PSound GG 132 largeS:=by
 refine PSound.of_wpc (C:=cxP Tryz.prog B6 [] 7) (T:=plan0) Tryz.func132 rfl rfl rfl (Fit.pure (G:=GG) hB6 mixed) (fun args h=>?_)
 unfold largeS at h
 obtain ⟨x,rfl,hp⟩:=on_p_inv h
 refine ⟨by simp [cxP],?_⟩
 simp only [largeS,on_p_eq,Tryz.f132,argL,plan0]
 obtain ⟨d,n,ch,rfl,hc⟩:=hp
 simp only [bigA,amdL,go_sem,↓reduceIte,reduceCtorEq,Nat.reduceEqDiff,Nat.reduceLT,Nat.reduceAdd,Nat.reduceLeDiff,PV.one,AV.one]
 rfl
noncomputable def B7 (g:FuncId):PSpec:=(putΦ (putΦ (putΦ B6 143 changesS) 141 amdsS) 132 largeS) g
theorem hB7:TabSound GG B7:=(((hB6.put w_changesS).put w_amdsS).put w_largeS)
def ixA:List PV->Int->Int
 | [],_=> -1
 | e::r,i=>bif bigA e then i else ixA r (i+1)
theorem ixA_any:∀ (l:List PV) (i:Int),0<=i->decide (0<=ixA l i)=l.any bigA
 | [],i,_=>rfl
 | e::r,i,h=>by
   rw [ixA,List.any_cons]
   cases bigA e
   · rw [cond_false,Bool.false_or];exact ixA_any r (i+1) (by omega)
   · rw [cond_true,Bool.true_or];simpa using h
noncomputable def ifaS:PSpec:=on_lp (fun es f=>f=.fn 132 []/\(∀ e,e∈es->isA3 e)/\es.length<=1000000) (fun es _=>.int .i64 (ixA es 0))
theorem k_large {args:List PV}:B7 132 args=largeS args:=rfl
theorem w_ifaS:PSound GG 157 ifaS:=by
 refine PSound.of_wpc (C:=cxP Tryz.prog B7 [] 19) (T:=plan0) Tryz.func157 rfl rfl rfl (Fit.pure (G:=GG) hB7 mixed) (fun args h=>?_)
 unfold ifaS at h
 obtain ⟨es,f,rfl,hp⟩:=on_lp_inv h
 refine ⟨by simp [cxP],?_⟩
 simp only [ifaS,on_lp_eq,Tryz.f157,argL,plan0]
 obtain ⟨rfl,he,hl⟩:=hp
 simp only [go_sem,↓reduceIte,reduceCtorEq,Nat.reduceLT]
 refine AWp.loop (T:=plan0) (α:=Nat) (fun i=>([(0,.pv (.sl es)),(1,.pv (.fn 132 [])),(7,.pv (.int .i64 es.length)),(8,.pv (.int .i64 i))],[])) (fun i=>i<=es.length/\ixA es 0=ixA (es.drop i) i) (fun i=>es.length-i)
  ⟨0,⟨Nat.zero_le _,rfl⟩,⟨by simp [fitR,look],trivial,rfl,rfl,rfl⟩⟩ ?_
 rintro i ⟨h1,h2⟩
 have hi1:IntKind.i64.wrap ((i:Int)+1)=((i+1:Nat):Int):=by rw [i64_in _ (by omega)];omega
 rw [h2]
 by_cases hlt:i<es.length
 · have c0:decide ((i:Int)<(es.length:Int))=true:=by simp;omega
   have hm:=he _ (getD_mem hlt)
   have hd:es.drop i=es.getD i default::es.drop (i+1):=by rw [List.drop_eq_getElem_cons hlt];simp [List.getD_eq_getElem?_getD,hlt]
   rw [hd,ixA]
   rw [hd,ixA] at h2
   generalize hg:es.getD i default=e at hm h2
   have hm2:=hm
   obtain ⟨d,n,ch,rfl,hx⟩:=hm
   generalize hB:bigA (.agg [.int .i64 d,.int .i64 n,.sl ch])=B at h2
   simp only [c0,hg,hB,hi1,k_large,largeS,on_p_eq,ev_callT,callTK,List.take_succ_cons,List.take_nil,plan0,go_sem,↓reduceIte,reduceCtorEq,Nat.reduceEqDiff,Nat.reduceLT,Nat.reduceAdd,Nat.reduceLeDiff]
   refine ⟨by omega,hm2,fun h9=>by rw [h9];rfl,fun h9=>⟨i+1,⟨by omega,?_⟩,by omega,⟨by simp [fitR,look],trivial,rfl,rfl,rfl⟩⟩⟩
   rw [h9,cond_false];simp
 · have c0:decide ((i:Int)<(es.length:Int))=false:=by simp;omega
   rw [List.drop_eq_nil_of_le (by omega),ixA]
   simp only [c0,plan0,go_sem,↓reduceIte,reduceCtorEq,Nat.reduceEqDiff,Nat.reduceLT]
noncomputable def B8 (g:FuncId):PSpec:=(putΦ B7 157 ifaS) g
theorem hB8:TabSound GG B8:=(hB7.put w_ifaS)
noncomputable def cfaS:PSpec:=on_lp (fun es f=>f=.fn 132 []/\(∀ e,e∈es->isA3 e)/\es.length<=1000000) (fun es _=>.bool (es.any bigA))
theorem k_cfaS_157 {args:List PV}:B8 157 args=ifaS args:=rfl
theorem w_cfaS:PSound GG 133 cfaS:=by
 refine PSound.of_wpc (C:=cxP Tryz.prog B8 [] 9) (T:=plan0) Tryz.func133 rfl rfl rfl (Fit.pure (G:=GG) hB8 mixed) (fun args h=>?_)
 unfold cfaS at h
 obtain ⟨es,f,rfl,hp⟩:=on_lp_inv h
 refine ⟨by simp [cxP],?_⟩
 simp only [cfaS,on_lp_eq,Tryz.f133,argL,plan0]
 obtain ⟨rfl,he,hl⟩:=hp
 simp only [k_cfaS_157,ifaS,on_lp_eq,ixA_any es 0 (Int.le_refl 0),go_sem,↓reduceIte,reduceCtorEq,Nat.reduceEqDiff,Nat.reduceLT]
 exact ⟨he,hl⟩
noncomputable def eaLS:PSpec:=on_lpp (fun es f g=>f=.fn 93 []/\(∃ k,g=.mv 94 [k]/\isCk k)/\(∀ x,x∈es->isL3 x)/\es.length<=1000000) (fun es _ g=>.int .i64 (eachF (lineK (mvK g)) linO none es))
theorem k_eaLo {args:List PV}:B7 93 args=linesS args:=rfl
theorem k_eaLc {args:List PV}:B7 94 args=lineS args:=rfl
theorem w_eaLS:PSound GG 92 eaLS:=by
 refine PSound.of_wpc (C:=cxP Tryz.prog B7 [] 37) (T:=plan0) Tryz.func92 rfl rfl rfl (Fit.pure (G:=GG) hB7 mixed) (fun args h=>?_)
 unfold eaLS at h
 obtain ⟨es,f,g,rfl,hp⟩:=on_lpp_inv h
 refine ⟨by simp [cxP],?_⟩
 simp only [eaLS,on_lpp_eq,Tryz.f92,argL,plan0]
 obtain ⟨rfl,⟨k,rfl,hk⟩,hsh,hl⟩:=hp
 simp only [mvK,go_sem,↓reduceIte,reduceCtorEq,Nat.reduceLT,Nat.reduceAdd]
 refine AWp.loop (T:=plan0) (α:=Nat) (fun i=>([(0,.pv (.sl es)),(1,.pv (.fn 93 [])),(2,.pv (.mv 94 [k])),(10,.pv (.sl es)),(11,.pv (.int .i64 es.length)),(12,.pv (.int .i64 i))],[])) (fun i=>i<=es.length/\eachF (lineK k) linO none es=eachF (lineK k) linO (prevE es i) (es.drop i)) (fun i=>es.length-i)
  ⟨0,⟨Nat.zero_le _,rfl⟩,⟨by simp [fitR,look],trivial,rfl,rfl,rfl⟩⟩ ?_
 rintro i ⟨h1,h2⟩
 have hi1:IntKind.i64.wrap ((i:Int)+1)=((i+1:Nat):Int):=by rw [i64_in _ (by omega)];omega
 rw [h2]
 by_cases hlt:i<es.length
 · have hgm:=getD_mem hlt
   have hsx:=hsh _ hgm
   have hd:es.drop i=es.getD i default::es.drop (i+1):=by rw [List.drop_eq_getElem_cons hlt];simp [List.getD_eq_getElem?_getD,hlt]
   obtain ⟨x,hg⟩:∃ x,es.getD i default=x:=⟨_,rfl⟩
   have hpv:prevE es (i+1)=some x:=by rw [<- hg];exact if_neg (by omega)
   rw [hg] at hsx hd
   rw [hd,eachF_cons]
   rw [hd,eachF_cons] at h2
   have hsx2:=hsx
   obtain ⟨s,y,m,rfl,hs⟩:=hsx
   obtain ⟨E,hE⟩:∃ E,lineK k (.agg [.str s,.int .i64 y,.int .i64 m])=E:=⟨_,rfl⟩
   have hE2:=hE
   simp only [lineK] at hE2
   rw [hE] at h2 ⊢
   cases i with
   | zero=>
     have c0:decide ((0:Int)<(es.length:Int))=true:=by simp;omega
     have w1:IntKind.i64.wrap (0-1)= -1:=by decide
     have w2:IntKind.i64.wrap (0+1)=1:=by decide
     have hp0:prevE es 0=none:=rfl
     rw [hp0] at h2 ⊢
     simp only [c0,decide_false,w1,w2,neg1',hg,hE2,k_eaLo,k_eaLc,linesS,lineS,on_pp_eq,ev_callT,ev_callTG,callTK,callTGK,callP_mv,cond_false,List.take_succ_cons,List.take_nil,plan0,go_sem,↓reduceIte,reduceCtorEq,Nat.reduceEqDiff,Nat.reduceLT,Int.reduceLT,Int.reduceLE,Nat.reduceAdd,Nat.reduceLeDiff,List.forall_mem_cons,List.not_mem_nil,PV.one,AV.one] at h2 ⊢
     refine ⟨by omega,⟨hk,hsx2⟩,fun g1=>by rw [g1];rfl,fun g1=>⟨by kernel_rfl,1,⟨by omega,?_⟩,by omega,⟨by simp [fitR,look],trivial,rfl,rfl,rfl⟩⟩⟩
     rw [g1]
     exact (congrArg (fun p=>eachF (lineK k) linO p (List.drop 1 es)) hpv).symm
   | succ j=>
     have c0:decide (((j+1:Nat):Int)<(es.length:Int))=true:=by simp;omega
     have c1:decide ((0:Int)<((j+1:Nat):Int))=true:=by simp
     have w1:IntKind.i64.wrap (((j+1:Nat):Int)-1)=(j:Int):=by rw [i64_in _ (by omega)];omega
     have hgj:=getD_mem (show j<es.length by omega)
     have hsy:=hsh _ hgj
     obtain ⟨z,hz⟩:∃ z,es.getD j default=z:=⟨_,rfl⟩
     have hp0:prevE es (j+1)=some z:=by rw [<- hz];rfl
     rw [hp0] at h2 ⊢
     rw [hz] at hsy
     have hsy2:=hsy
     obtain ⟨s',y',m',rfl,hs'⟩:=hsy
     simp only [c0,c1,w1,hg,hz,hi1,hE2,k_eaLo,k_eaLc,linesS,lineS,on_pp_eq,ev_callT,ev_callTG,callTK,callTGK,callP_mv,List.take_succ_cons,List.take_nil,plan0,go_sem,↓reduceIte,reduceCtorEq,Nat.reduceEqDiff,Nat.reduceLT,Nat.reduceAdd,Nat.reduceLeDiff,List.forall_mem_cons,List.not_mem_nil,PV.one,AV.one]
     have hb:bhF linO (some (.agg [.str s',.int .i64 y',.int .i64 m'])) (.agg [.str s,.int .i64 y,.int .i64 m])=decide (0<=linO (.agg [.str s',.int .i64 y',.int .i64 m']) (.agg [.str s,.int .i64 y,.int .i64 m])):=rfl
     rw [hb]
     refine ⟨⟨by omega,by omega⟩,⟨hk,hsx2⟩,fun g1=>by rw [g1];rfl,fun g1=>⟨by kernel_rfl,⟨by omega,by omega⟩,⟨hsy2,hsx2⟩,fun g2=>by rw [g1,g2];rfl,fun g2=>⟨j+1+1,⟨by omega,?_⟩,by omega,⟨by simp [fitR,look],trivial,rfl,rfl,rfl⟩⟩⟩⟩
     rw [g1,g2]
     exact (congrArg (fun p=>eachF (lineK k) linO p (List.drop (j+1+1) es)) hpv).symm
 · have c0:decide ((i:Int)<(es.length:Int))=false:=by simp;omega
   rw [List.drop_eq_nil_of_le (by omega),eachF_nil]
   simp only [c0,plan0,go_sem,↓reduceIte,reduceCtorEq,Nat.reduceEqDiff,Nat.reduceLT,Nat.reduceAdd,Nat.reduceLeDiff]
noncomputable def eaBS:PSpec:=on_lpp (fun es f g=>f=.fn 96 []/\(∃ k,g=.mv 97 [k]/\isCk k)/\(∀ x,x∈es->isL3 x)/\es.length<=1000000) (fun es _ g=>.int .i64 (eachF (boundK (mvK g)) linO none es))
theorem k_eaBo {args:List PV}:B7 96 args=boundsS args:=rfl
theorem k_eaBc {args:List PV}:B7 97 args=boundS args:=rfl
theorem w_eaBS:PSound GG 95 eaBS:=by
 refine PSound.of_wpc (C:=cxP Tryz.prog B7 [] 37) (T:=plan0) Tryz.func95 rfl rfl rfl (Fit.pure (G:=GG) hB7 mixed) (fun args h=>?_)
 unfold eaBS at h
 obtain ⟨es,f,g,rfl,hp⟩:=on_lpp_inv h
 refine ⟨by simp [cxP],?_⟩
 simp only [eaBS,on_lpp_eq,Tryz.f95,argL,plan0]
 obtain ⟨rfl,⟨k,rfl,hk⟩,hsh,hl⟩:=hp
 simp only [mvK,go_sem,↓reduceIte,reduceCtorEq,Nat.reduceLT,Nat.reduceAdd]
 refine AWp.loop (T:=plan0) (α:=Nat) (fun i=>([(0,.pv (.sl es)),(1,.pv (.fn 96 [])),(2,.pv (.mv 97 [k])),(10,.pv (.sl es)),(11,.pv (.int .i64 es.length)),(12,.pv (.int .i64 i))],[])) (fun i=>i<=es.length/\eachF (boundK k) linO none es=eachF (boundK k) linO (prevE es i) (es.drop i)) (fun i=>es.length-i)
  ⟨0,⟨Nat.zero_le _,rfl⟩,⟨by simp [fitR,look],trivial,rfl,rfl,rfl⟩⟩ ?_
 rintro i ⟨h1,h2⟩
 have hi1:IntKind.i64.wrap ((i:Int)+1)=((i+1:Nat):Int):=by rw [i64_in _ (by omega)];omega
 rw [h2]
 by_cases hlt:i<es.length
 · have hgm:=getD_mem hlt
   have hsx:=hsh _ hgm
   have hd:es.drop i=es.getD i default::es.drop (i+1):=by rw [List.drop_eq_getElem_cons hlt];simp [List.getD_eq_getElem?_getD,hlt]
   obtain ⟨x,hg⟩:∃ x,es.getD i default=x:=⟨_,rfl⟩
   have hpv:prevE es (i+1)=some x:=by rw [<- hg];exact if_neg (by omega)
   rw [hg] at hsx hd
   rw [hd,eachF_cons]
   rw [hd,eachF_cons] at h2
   have hsx2:=hsx
   obtain ⟨s,y,m,rfl,hs⟩:=hsx
   obtain ⟨E,hE⟩:∃ E,boundK k (.agg [.str s,.int .i64 y,.int .i64 m])=E:=⟨_,rfl⟩
   have hE2:=hE
   simp only [boundK] at hE2
   rw [hE] at h2 ⊢
   cases i with
   | zero=>
     have c0:decide ((0:Int)<(es.length:Int))=true:=by simp;omega
     have w1:IntKind.i64.wrap (0-1)= -1:=by decide
     have w2:IntKind.i64.wrap (0+1)=1:=by decide
     have hp0:prevE es 0=none:=rfl
     rw [hp0] at h2 ⊢
     simp only [c0,decide_false,w1,w2,neg1',hg,hE2,k_eaBo,k_eaBc,boundsS,boundS,on_pp_eq,ev_callT,ev_callTG,callTK,callTGK,callP_mv,cond_false,List.take_succ_cons,List.take_nil,plan0,go_sem,↓reduceIte,reduceCtorEq,Nat.reduceEqDiff,Nat.reduceLT,Int.reduceLT,Int.reduceLE,Nat.reduceAdd,Nat.reduceLeDiff,List.forall_mem_cons,List.not_mem_nil,PV.one,AV.one] at h2 ⊢
     refine ⟨by omega,⟨hk,hsx2⟩,fun g1=>by rw [g1];rfl,fun g1=>⟨by kernel_rfl,1,⟨by omega,?_⟩,by omega,⟨by simp [fitR,look],trivial,rfl,rfl,rfl⟩⟩⟩
     rw [g1]
     exact (congrArg (fun p=>eachF (boundK k) linO p (List.drop 1 es)) hpv).symm
   | succ j=>
     have c0:decide (((j+1:Nat):Int)<(es.length:Int))=true:=by simp;omega
     have c1:decide ((0:Int)<((j+1:Nat):Int))=true:=by simp
     have w1:IntKind.i64.wrap (((j+1:Nat):Int)-1)=(j:Int):=by rw [i64_in _ (by omega)];omega
     have hgj:=getD_mem (show j<es.length by omega)
     have hsy:=hsh _ hgj
     obtain ⟨z,hz⟩:∃ z,es.getD j default=z:=⟨_,rfl⟩
     have hp0:prevE es (j+1)=some z:=by rw [<- hz];rfl
     rw [hp0] at h2 ⊢
     rw [hz] at hsy
     have hsy2:=hsy
     obtain ⟨s',y',m',rfl,hs'⟩:=hsy
     simp only [c0,c1,w1,hg,hz,hi1,hE2,k_eaBo,k_eaBc,boundsS,boundS,on_pp_eq,ev_callT,ev_callTG,callTK,callTGK,callP_mv,List.take_succ_cons,List.take_nil,plan0,go_sem,↓reduceIte,reduceCtorEq,Nat.reduceEqDiff,Nat.reduceLT,Nat.reduceAdd,Nat.reduceLeDiff,List.forall_mem_cons,List.not_mem_nil,PV.one,AV.one]
     have hb:bhF linO (some (.agg [.str s',.int .i64 y',.int .i64 m'])) (.agg [.str s,.int .i64 y,.int .i64 m])=decide (0<=linO (.agg [.str s',.int .i64 y',.int .i64 m']) (.agg [.str s,.int .i64 y,.int .i64 m])):=rfl
     rw [hb]
     refine ⟨⟨by omega,by omega⟩,⟨hk,hsx2⟩,fun g1=>by rw [g1];rfl,fun g1=>⟨by kernel_rfl,⟨by omega,by omega⟩,⟨hsy2,hsx2⟩,fun g2=>by rw [g1,g2];rfl,fun g2=>⟨j+1+1,⟨by omega,?_⟩,by omega,⟨by simp [fitR,look],trivial,rfl,rfl,rfl⟩⟩⟩⟩
     rw [g1,g2]
     exact (congrArg (fun p=>eachF (boundK k) linO p (List.drop (j+1+1) es)) hpv).symm
 · have c0:decide ((i:Int)<(es.length:Int))=false:=by simp;omega
   rw [List.drop_eq_nil_of_le (by omega),eachF_nil]
   simp only [c0,plan0,go_sem,↓reduceIte,reduceCtorEq,Nat.reduceEqDiff,Nat.reduceLT,Nat.reduceAdd,Nat.reduceLeDiff]
noncomputable def eaES:PSpec:=on_lpp (fun es f g=>f=.fn 99 []/\(∃ k,g=.mv 100 [k]/\isCk k)/\(∀ x,x∈es->isE3 x)/\es.length<=1000000) (fun es _ g=>.int .i64 (eachF (earmarkK (mvK g)) earO none es))
theorem k_eaEo {args:List PV}:B7 99 args=earmarksS args:=rfl
theorem k_eaEc {args:List PV}:B7 100 args=earmarkS args:=rfl
theorem w_eaES:PSound GG 98 eaES:=by
 refine PSound.of_wpc (C:=cxP Tryz.prog B7 [] 37) (T:=plan0) Tryz.func98 rfl rfl rfl (Fit.pure (G:=GG) hB7 mixed) (fun args h=>?_)
 unfold eaES at h
 obtain ⟨es,f,g,rfl,hp⟩:=on_lpp_inv h
 refine ⟨by simp [cxP],?_⟩
 simp only [eaES,on_lpp_eq,Tryz.f98,argL,plan0]
 obtain ⟨rfl,⟨k,rfl,hk⟩,hsh,hl⟩:=hp
 simp only [mvK,go_sem,↓reduceIte,reduceCtorEq,Nat.reduceLT,Nat.reduceAdd]
 refine AWp.loop (T:=plan0) (α:=Nat) (fun i=>([(0,.pv (.sl es)),(1,.pv (.fn 99 [])),(2,.pv (.mv 100 [k])),(10,.pv (.sl es)),(11,.pv (.int .i64 es.length)),(12,.pv (.int .i64 i))],[])) (fun i=>i<=es.length/\eachF (earmarkK k) earO none es=eachF (earmarkK k) earO (prevE es i) (es.drop i)) (fun i=>es.length-i)
  ⟨0,⟨Nat.zero_le _,rfl⟩,⟨by simp [fitR,look],trivial,rfl,rfl,rfl⟩⟩ ?_
 rintro i ⟨h1,h2⟩
 have hi1:IntKind.i64.wrap ((i:Int)+1)=((i+1:Nat):Int):=by rw [i64_in _ (by omega)];omega
 rw [h2]
 by_cases hlt:i<es.length
 · have hgm:=getD_mem hlt
   have hsx:=hsh _ hgm
   have hd:es.drop i=es.getD i default::es.drop (i+1):=by rw [List.drop_eq_getElem_cons hlt];simp [List.getD_eq_getElem?_getD,hlt]
   obtain ⟨x,hg⟩:∃ x,es.getD i default=x:=⟨_,rfl⟩
   have hpv:prevE es (i+1)=some x:=by rw [<- hg];exact if_neg (by omega)
   rw [hg] at hsx hd
   rw [hd,eachF_cons]
   rw [hd,eachF_cons] at h2
   have hsx2:=hsx
   obtain ⟨s,y,m,rfl,hs⟩:=hsx
   obtain ⟨E,hE⟩:∃ E,earmarkK k (.agg [.str s,.str y,.int .i64 m])=E:=⟨_,rfl⟩
   have hE2:=hE
   simp only [earmarkK] at hE2
   rw [hE] at h2 ⊢
   cases i with
   | zero=>
     have c0:decide ((0:Int)<(es.length:Int))=true:=by simp;omega
     have w1:IntKind.i64.wrap (0-1)= -1:=by decide
     have w2:IntKind.i64.wrap (0+1)=1:=by decide
     have hp0:prevE es 0=none:=rfl
     rw [hp0] at h2 ⊢
     simp only [c0,decide_false,w1,w2,neg1',hg,hE2,k_eaEo,k_eaEc,earmarksS,earmarkS,on_pp_eq,ev_callT,ev_callTG,callTK,callTGK,callP_mv,cond_false,List.take_succ_cons,List.take_nil,plan0,go_sem,↓reduceIte,reduceCtorEq,Nat.reduceEqDiff,Nat.reduceLT,Int.reduceLT,Int.reduceLE,Nat.reduceAdd,Nat.reduceLeDiff,List.forall_mem_cons,List.not_mem_nil,PV.one,AV.one] at h2 ⊢
     refine ⟨by omega,⟨hk,hsx2⟩,fun g1=>by rw [g1];rfl,fun g1=>⟨by kernel_rfl,1,⟨by omega,?_⟩,by omega,⟨by simp [fitR,look],trivial,rfl,rfl,rfl⟩⟩⟩
     rw [g1]
     exact (congrArg (fun p=>eachF (earmarkK k) earO p (List.drop 1 es)) hpv).symm
   | succ j=>
     have c0:decide (((j+1:Nat):Int)<(es.length:Int))=true:=by simp;omega
     have c1:decide ((0:Int)<((j+1:Nat):Int))=true:=by simp
     have w1:IntKind.i64.wrap (((j+1:Nat):Int)-1)=(j:Int):=by rw [i64_in _ (by omega)];omega
     have hgj:=getD_mem (show j<es.length by omega)
     have hsy:=hsh _ hgj
     obtain ⟨z,hz⟩:∃ z,es.getD j default=z:=⟨_,rfl⟩
     have hp0:prevE es (j+1)=some z:=by rw [<- hz];rfl
     rw [hp0] at h2 ⊢
     rw [hz] at hsy
     have hsy2:=hsy
     obtain ⟨s',y',m',rfl,hs'⟩:=hsy
     simp only [c0,c1,w1,hg,hz,hi1,hE2,k_eaEo,k_eaEc,earmarksS,earmarkS,on_pp_eq,ev_callT,ev_callTG,callTK,callTGK,callP_mv,List.take_succ_cons,List.take_nil,plan0,go_sem,↓reduceIte,reduceCtorEq,Nat.reduceEqDiff,Nat.reduceLT,Nat.reduceAdd,Nat.reduceLeDiff,List.forall_mem_cons,List.not_mem_nil,PV.one,AV.one]
     have hb:bhF earO (some (.agg [.str s',.str y',.int .i64 m'])) (.agg [.str s,.str y,.int .i64 m])=decide (0<=earO (.agg [.str s',.str y',.int .i64 m']) (.agg [.str s,.str y,.int .i64 m])):=rfl
     rw [hb]
     refine ⟨⟨by omega,by omega⟩,⟨hk,hsx2⟩,fun g1=>by rw [g1];rfl,fun g1=>⟨by kernel_rfl,⟨by omega,by omega⟩,⟨hsy2,hsx2⟩,fun g2=>by rw [g1,g2];rfl,fun g2=>⟨j+1+1,⟨by omega,?_⟩,by omega,⟨by simp [fitR,look],trivial,rfl,rfl,rfl⟩⟩⟩⟩
     rw [g1,g2]
     exact (congrArg (fun p=>eachF (earmarkK k) earO p (List.drop (j+1+1) es)) hpv).symm
 · have c0:decide ((i:Int)<(es.length:Int))=false:=by simp;omega
   rw [List.drop_eq_nil_of_le (by omega),eachF_nil]
   simp only [c0,plan0,go_sem,↓reduceIte,reduceCtorEq,Nat.reduceEqDiff,Nat.reduceLT,Nat.reduceAdd,Nat.reduceLeDiff]
noncomputable def eaCS:PSpec:=on_lpp (fun es f g=>f=.fn 90 []/\(∃ k,g=.mv 103 [k]/\isCk k)/\(∀ x,x∈es->isC7 x)/\es.length<=1000000) (fun es _ g=>.int .i64 (eachF (cndK (mvK g)) anyO none es))
theorem k_eaCo {args:List PV}:B7 90 args=anyS args:=rfl
theorem k_eaCc {args:List PV}:B7 103 args=condCS args:=rfl
theorem w_eaCS:PSound GG 102 eaCS:=by
 refine PSound.of_wpc (C:=cxP Tryz.prog B7 [] 37) (T:=plan0) Tryz.func102 rfl rfl rfl (Fit.pure (G:=GG) hB7 mixed) (fun args h=>?_)
 unfold eaCS at h
 obtain ⟨es,f,g,rfl,hp⟩:=on_lpp_inv h
 refine ⟨by simp [cxP],?_⟩
 simp only [eaCS,on_lpp_eq,Tryz.f102,argL,plan0]
 obtain ⟨rfl,⟨k,rfl,hk⟩,hsh,hl⟩:=hp
 simp only [mvK,go_sem,↓reduceIte,reduceCtorEq,Nat.reduceLT,Nat.reduceAdd]
 refine AWp.loop (T:=plan0) (α:=Nat) (fun i=>([(0,.pv (.sl es)),(1,.pv (.fn 90 [])),(2,.pv (.mv 103 [k])),(10,.pv (.sl es)),(11,.pv (.int .i64 es.length)),(12,.pv (.int .i64 i))],[])) (fun i=>i<=es.length/\eachF (cndK k) anyO none es=eachF (cndK k) anyO (prevE es i) (es.drop i)) (fun i=>es.length-i)
  ⟨0,⟨Nat.zero_le _,rfl⟩,⟨by simp [fitR,look],trivial,rfl,rfl,rfl⟩⟩ ?_
 rintro i ⟨h1,h2⟩
 have hi1:IntKind.i64.wrap ((i:Int)+1)=((i+1:Nat):Int):=by rw [i64_in _ (by omega)];omega
 rw [h2]
 by_cases hlt:i<es.length
 · have hgm:=getD_mem hlt
   have hsx:=hsh _ hgm
   have hd:es.drop i=es.getD i default::es.drop (i+1):=by rw [List.drop_eq_getElem_cons hlt];simp [List.getD_eq_getElem?_getD,hlt]
   obtain ⟨x,hg⟩:∃ x,es.getD i default=x:=⟨_,rfl⟩
   have hpv:prevE es (i+1)=some x:=by rw [<- hg];exact if_neg (by omega)
   rw [hg] at hsx hd
   rw [hd,eachF_cons]
   rw [hd,eachF_cons] at h2
   have hsx2:=hsx
   obtain ⟨c,y,am,kd,d,s,l,rfl,hs⟩:=hsx
   obtain ⟨E,hE⟩:∃ E,cndK k (.agg [.str c,.int .i64 y,.int .i64 am,.int .i64 kd,.int .i64 d,.str s,.int .i64 l])=E:=⟨_,rfl⟩
   have hE2:=hE
   simp only [cndK] at hE2
   rw [hE] at h2 ⊢
   cases i with
   | zero=>
     have c0:decide ((0:Int)<(es.length:Int))=true:=by simp;omega
     have w1:IntKind.i64.wrap (0-1)= -1:=by decide
     have w2:IntKind.i64.wrap (0+1)=1:=by decide
     have hp0:prevE es 0=none:=rfl
     rw [hp0] at h2 ⊢
     simp only [c0,decide_false,w1,w2,neg1',hg,hE2,k_eaCo,k_eaCc,anyS,condCS,on_pp_eq,ev_callT,ev_callTG,callTK,callTGK,callP_mv,cond_false,List.take_succ_cons,List.take_nil,plan0,go_sem,↓reduceIte,reduceCtorEq,Nat.reduceEqDiff,Nat.reduceLT,Int.reduceLT,Int.reduceLE,Nat.reduceAdd,Nat.reduceLeDiff,List.forall_mem_cons,List.not_mem_nil,PV.one,AV.one] at h2 ⊢
     refine ⟨by omega,⟨hk,hsx2⟩,fun g1=>by rw [g1];rfl,fun g1=>⟨by kernel_rfl,1,⟨by omega,?_⟩,by omega,⟨by simp [fitR,look],trivial,rfl,rfl,rfl⟩⟩⟩
     rw [g1]
     exact (congrArg (fun p=>eachF (cndK k) anyO p (List.drop 1 es)) hpv).symm
   | succ j=>
     have c0:decide (((j+1:Nat):Int)<(es.length:Int))=true:=by simp;omega
     have c1:decide ((0:Int)<((j+1:Nat):Int))=true:=by simp
     have w1:IntKind.i64.wrap (((j+1:Nat):Int)-1)=(j:Int):=by rw [i64_in _ (by omega)];omega
     have hgj:=getD_mem (show j<es.length by omega)
     have hsy:=hsh _ hgj
     obtain ⟨z,hz⟩:∃ z,es.getD j default=z:=⟨_,rfl⟩
     have hp0:prevE es (j+1)=some z:=by rw [<- hz];rfl
     rw [hp0] at h2 ⊢
     rw [hz] at hsy
     have hsy2:=hsy
     obtain ⟨c',y',am',kd',d',s',l',rfl,hs'⟩:=hsy
     simp only [c0,c1,w1,hg,hz,hi1,hE2,k_eaCo,k_eaCc,anyS,condCS,on_pp_eq,ev_callT,ev_callTG,callTK,callTGK,callP_mv,List.take_succ_cons,List.take_nil,plan0,go_sem,↓reduceIte,reduceCtorEq,Nat.reduceEqDiff,Nat.reduceLT,Nat.reduceAdd,Nat.reduceLeDiff,List.forall_mem_cons,List.not_mem_nil,PV.one,AV.one]
     have hb:bhF anyO (some (.agg [.str c',.int .i64 y',.int .i64 am',.int .i64 kd',.int .i64 d',.str s',.int .i64 l'])) (.agg [.str c,.int .i64 y,.int .i64 am,.int .i64 kd,.int .i64 d,.str s,.int .i64 l])=decide (0<=anyO (.agg [.str c',.int .i64 y',.int .i64 am',.int .i64 kd',.int .i64 d',.str s',.int .i64 l']) (.agg [.str c,.int .i64 y,.int .i64 am,.int .i64 kd,.int .i64 d,.str s,.int .i64 l])):=rfl
     rw [hb]
     refine ⟨⟨by omega,by omega⟩,⟨hk,hsx2⟩,fun g1=>by rw [g1];rfl,fun g1=>⟨by kernel_rfl,⟨by omega,by omega⟩,⟨hsy2,hsx2⟩,fun g2=>by rw [g1,g2];rfl,fun g2=>⟨j+1+1,⟨by omega,?_⟩,by omega,⟨by simp [fitR,look],trivial,rfl,rfl,rfl⟩⟩⟩⟩
     rw [g1,g2]
     exact (congrArg (fun p=>eachF (cndK k) anyO p (List.drop (j+1+1) es)) hpv).symm
 · have c0:decide ((i:Int)<(es.length:Int))=false:=by simp;omega
   rw [List.drop_eq_nil_of_le (by omega),eachF_nil]
   simp only [c0,plan0,go_sem,↓reduceIte,reduceCtorEq,Nat.reduceEqDiff,Nat.reduceLT,Nat.reduceAdd,Nat.reduceLeDiff]
noncomputable def eaRS:PSpec:=on_lpp (fun es f g=>f=.fn 105 []/\(∃ k,g=.mv 106 [k]/\isCk k)/\(∀ x,x∈es->isR4 x)/\es.length<=1000000) (fun es _ g=>.int .i64 (eachF (ruleK (mvK g)) rulO none es))
theorem k_eaRo {args:List PV}:B7 105 args=rulesS args:=rfl
theorem k_eaRc {args:List PV}:B7 106 args=ruleCS args:=rfl
theorem w_eaRS:PSound GG 104 eaRS:=by
 refine PSound.of_wpc (C:=cxP Tryz.prog B7 [] 37) (T:=plan0) Tryz.func104 rfl rfl rfl (Fit.pure (G:=GG) hB7 mixed) (fun args h=>?_)
 unfold eaRS at h
 obtain ⟨es,f,g,rfl,hp⟩:=on_lpp_inv h
 refine ⟨by simp [cxP],?_⟩
 simp only [eaRS,on_lpp_eq,Tryz.f104,argL,plan0]
 obtain ⟨rfl,⟨k,rfl,hk⟩,hsh,hl⟩:=hp
 simp only [mvK,go_sem,↓reduceIte,reduceCtorEq,Nat.reduceLT,Nat.reduceAdd]
 refine AWp.loop (T:=plan0) (α:=Nat) (fun i=>([(0,.pv (.sl es)),(1,.pv (.fn 105 [])),(2,.pv (.mv 106 [k])),(10,.pv (.sl es)),(11,.pv (.int .i64 es.length)),(12,.pv (.int .i64 i))],[])) (fun i=>i<=es.length/\eachF (ruleK k) rulO none es=eachF (ruleK k) rulO (prevE es i) (es.drop i)) (fun i=>es.length-i)
  ⟨0,⟨Nat.zero_le _,rfl⟩,⟨by simp [fitR,look],trivial,rfl,rfl,rfl⟩⟩ ?_
 rintro i ⟨h1,h2⟩
 have hi1:IntKind.i64.wrap ((i:Int)+1)=((i+1:Nat):Int):=by rw [i64_in _ (by omega)];omega
 rw [h2]
 by_cases hlt:i<es.length
 · have hgm:=getD_mem hlt
   have hsx:=hsh _ hgm
   have hd:es.drop i=es.getD i default::es.drop (i+1):=by rw [List.drop_eq_getElem_cons hlt];simp [List.getD_eq_getElem?_getD,hlt]
   obtain ⟨x,hg⟩:∃ x,es.getD i default=x:=⟨_,rfl⟩
   have hpv:prevE es (i+1)=some x:=by rw [<- hg];exact if_neg (by omega)
   rw [hg] at hsx hd
   rw [hd,eachF_cons]
   rw [hd,eachF_cons] at h2
   have hsx2:=hsx
   obtain ⟨n,s,c,p,rfl,hs⟩:=hsx
   obtain ⟨E,hE⟩:∃ E,ruleK k (.agg [.int .i64 n,.str s,.str c,.int .i64 p])=E:=⟨_,rfl⟩
   have hE2:=hE
   simp only [ruleK] at hE2
   rw [hE] at h2 ⊢
   cases i with
   | zero=>
     have c0:decide ((0:Int)<(es.length:Int))=true:=by simp;omega
     have w1:IntKind.i64.wrap (0-1)= -1:=by decide
     have w2:IntKind.i64.wrap (0+1)=1:=by decide
     have hp0:prevE es 0=none:=rfl
     rw [hp0] at h2 ⊢
     simp only [c0,decide_false,w1,w2,neg1',hg,hE2,k_eaRo,k_eaRc,rulesS,ruleCS,on_pp_eq,ev_callT,ev_callTG,callTK,callTGK,callP_mv,cond_false,List.take_succ_cons,List.take_nil,plan0,go_sem,↓reduceIte,reduceCtorEq,Nat.reduceEqDiff,Nat.reduceLT,Int.reduceLT,Int.reduceLE,Nat.reduceAdd,Nat.reduceLeDiff,List.forall_mem_cons,List.not_mem_nil,PV.one,AV.one] at h2 ⊢
     refine ⟨by omega,⟨hk,hsx2⟩,fun g1=>by rw [g1];rfl,fun g1=>⟨by kernel_rfl,1,⟨by omega,?_⟩,by omega,⟨by simp [fitR,look],trivial,rfl,rfl,rfl⟩⟩⟩
     rw [g1]
     exact (congrArg (fun p=>eachF (ruleK k) rulO p (List.drop 1 es)) hpv).symm
   | succ j=>
     have c0:decide (((j+1:Nat):Int)<(es.length:Int))=true:=by simp;omega
     have c1:decide ((0:Int)<((j+1:Nat):Int))=true:=by simp
     have w1:IntKind.i64.wrap (((j+1:Nat):Int)-1)=(j:Int):=by rw [i64_in _ (by omega)];omega
     have hgj:=getD_mem (show j<es.length by omega)
     have hsy:=hsh _ hgj
     obtain ⟨z,hz⟩:∃ z,es.getD j default=z:=⟨_,rfl⟩
     have hp0:prevE es (j+1)=some z:=by rw [<- hz];rfl
     rw [hp0] at h2 ⊢
     rw [hz] at hsy
     have hsy2:=hsy
     obtain ⟨n',s',c',p',rfl,hs'⟩:=hsy
     simp only [c0,c1,w1,hg,hz,hi1,hE2,k_eaRo,k_eaRc,rulesS,ruleCS,on_pp_eq,ev_callT,ev_callTG,callTK,callTGK,callP_mv,List.take_succ_cons,List.take_nil,plan0,go_sem,↓reduceIte,reduceCtorEq,Nat.reduceEqDiff,Nat.reduceLT,Nat.reduceAdd,Nat.reduceLeDiff,List.forall_mem_cons,List.not_mem_nil,PV.one,AV.one]
     have hb:bhF rulO (some (.agg [.int .i64 n',.str s',.str c',.int .i64 p'])) (.agg [.int .i64 n,.str s,.str c,.int .i64 p])=decide (0<=rulO (.agg [.int .i64 n',.str s',.str c',.int .i64 p']) (.agg [.int .i64 n,.str s,.str c,.int .i64 p])):=rfl
     rw [hb]
     refine ⟨⟨by omega,by omega⟩,⟨hk,hsx2⟩,fun g1=>by rw [g1];rfl,fun g1=>⟨by kernel_rfl,⟨by omega,by omega⟩,⟨hsy2,hsx2⟩,fun g2=>by rw [g1,g2];rfl,fun g2=>⟨j+1+1,⟨by omega,?_⟩,by omega,⟨by simp [fitR,look],trivial,rfl,rfl,rfl⟩⟩⟩⟩
     rw [g1,g2]
     exact (congrArg (fun p=>eachF (ruleK k) rulO p (List.drop (j+1+1) es)) hpv).symm
 · have c0:decide ((i:Int)<(es.length:Int))=false:=by simp;omega
   rw [List.drop_eq_nil_of_le (by omega),eachF_nil]
   simp only [c0,plan0,go_sem,↓reduceIte,reduceCtorEq,Nat.reduceEqDiff,Nat.reduceLT,Nat.reduceAdd,Nat.reduceLeDiff]
noncomputable def eaXS:PSpec:=on_lpp (fun es f g=>f=.fn 143 []/\(∃ k,g=.mv 144 [k]/\isCk k)/\(∀ x,x∈es->isX4 x)/\es.length<=1000000) (fun es _ g=>.int .i64 (eachF (changeK (mvK g)) chaO none es))
theorem k_eaXo {args:List PV}:B7 143 args=changesS args:=rfl
theorem k_eaXc {args:List PV}:B7 144 args=changeS args:=rfl
theorem w_eaXS:PSound GG 142 eaXS:=by
 refine PSound.of_wpc (C:=cxP Tryz.prog B7 [] 37) (T:=plan0) Tryz.func142 rfl rfl rfl (Fit.pure (G:=GG) hB7 mixed) (fun args h=>?_)
 unfold eaXS at h
 obtain ⟨es,f,g,rfl,hp⟩:=on_lpp_inv h
 refine ⟨by simp [cxP],?_⟩
 simp only [eaXS,on_lpp_eq,Tryz.f142,argL,plan0]
 obtain ⟨rfl,⟨k,rfl,hk⟩,hsh,hl⟩:=hp
 simp only [mvK,go_sem,↓reduceIte,reduceCtorEq,Nat.reduceLT,Nat.reduceAdd]
 refine AWp.loop (T:=plan0) (α:=Nat) (fun i=>([(0,.pv (.sl es)),(1,.pv (.fn 143 [])),(2,.pv (.mv 144 [k])),(10,.pv (.sl es)),(11,.pv (.int .i64 es.length)),(12,.pv (.int .i64 i))],[])) (fun i=>i<=es.length/\eachF (changeK k) chaO none es=eachF (changeK k) chaO (prevE es i) (es.drop i)) (fun i=>es.length-i)
  ⟨0,⟨Nat.zero_le _,rfl⟩,⟨by simp [fitR,look],trivial,rfl,rfl,rfl⟩⟩ ?_
 rintro i ⟨h1,h2⟩
 have hi1:IntKind.i64.wrap ((i:Int)+1)=((i+1:Nat):Int):=by rw [i64_in _ (by omega)];omega
 rw [h2]
 by_cases hlt:i<es.length
 · have hgm:=getD_mem hlt
   have hsx:=hsh _ hgm
   have hd:es.drop i=es.getD i default::es.drop (i+1):=by rw [List.drop_eq_getElem_cons hlt];simp [List.getD_eq_getElem?_getD,hlt]
   obtain ⟨x,hg⟩:∃ x,es.getD i default=x:=⟨_,rfl⟩
   have hpv:prevE es (i+1)=some x:=by rw [<- hg];exact if_neg (by omega)
   rw [hg] at hsx hd
   rw [hd,eachF_cons]
   rw [hd,eachF_cons] at h2
   have hsx2:=hsx
   obtain ⟨n,s,c,p,rfl,hs⟩:=hsx
   obtain ⟨E,hE⟩:∃ E,changeK k (.agg [.int .i64 n,.str s,.int .i64 c,.int .i64 p])=E:=⟨_,rfl⟩
   have hE2:=hE
   simp only [changeK] at hE2
   rw [hE] at h2 ⊢
   cases i with
   | zero=>
     have c0:decide ((0:Int)<(es.length:Int))=true:=by simp;omega
     have w1:IntKind.i64.wrap (0-1)= -1:=by decide
     have w2:IntKind.i64.wrap (0+1)=1:=by decide
     have hp0:prevE es 0=none:=rfl
     rw [hp0] at h2 ⊢
     simp only [c0,decide_false,w1,w2,neg1',hg,hE2,k_eaXo,k_eaXc,changesS,changeS,on_pp_eq,ev_callT,ev_callTG,callTK,callTGK,callP_mv,cond_false,List.take_succ_cons,List.take_nil,plan0,go_sem,↓reduceIte,reduceCtorEq,Nat.reduceEqDiff,Nat.reduceLT,Int.reduceLT,Int.reduceLE,Nat.reduceAdd,Nat.reduceLeDiff,List.forall_mem_cons,List.not_mem_nil,PV.one,AV.one] at h2 ⊢
     refine ⟨by omega,⟨hk,hsx2⟩,fun g1=>by rw [g1];rfl,fun g1=>⟨by kernel_rfl,1,⟨by omega,?_⟩,by omega,⟨by simp [fitR,look],trivial,rfl,rfl,rfl⟩⟩⟩
     rw [g1]
     exact (congrArg (fun p=>eachF (changeK k) chaO p (List.drop 1 es)) hpv).symm
   | succ j=>
     have c0:decide (((j+1:Nat):Int)<(es.length:Int))=true:=by simp;omega
     have c1:decide ((0:Int)<((j+1:Nat):Int))=true:=by simp
     have w1:IntKind.i64.wrap (((j+1:Nat):Int)-1)=(j:Int):=by rw [i64_in _ (by omega)];omega
     have hgj:=getD_mem (show j<es.length by omega)
     have hsy:=hsh _ hgj
     obtain ⟨z,hz⟩:∃ z,es.getD j default=z:=⟨_,rfl⟩
     have hp0:prevE es (j+1)=some z:=by rw [<- hz];rfl
     rw [hp0] at h2 ⊢
     rw [hz] at hsy
     have hsy2:=hsy
     obtain ⟨n',s',c',p',rfl,hs'⟩:=hsy
     simp only [c0,c1,w1,hg,hz,hi1,hE2,k_eaXo,k_eaXc,changesS,changeS,on_pp_eq,ev_callT,ev_callTG,callTK,callTGK,callP_mv,List.take_succ_cons,List.take_nil,plan0,go_sem,↓reduceIte,reduceCtorEq,Nat.reduceEqDiff,Nat.reduceLT,Nat.reduceAdd,Nat.reduceLeDiff,List.forall_mem_cons,List.not_mem_nil,PV.one,AV.one]
     have hb:bhF chaO (some (.agg [.int .i64 n',.str s',.int .i64 c',.int .i64 p'])) (.agg [.int .i64 n,.str s,.int .i64 c,.int .i64 p])=decide (0<=chaO (.agg [.int .i64 n',.str s',.int .i64 c',.int .i64 p']) (.agg [.int .i64 n,.str s,.int .i64 c,.int .i64 p])):=rfl
     rw [hb]
     refine ⟨⟨by omega,by omega⟩,⟨hk,hsx2⟩,fun g1=>by rw [g1];rfl,fun g1=>⟨by kernel_rfl,⟨by omega,by omega⟩,⟨hsy2,hsx2⟩,fun g2=>by rw [g1,g2];rfl,fun g2=>⟨j+1+1,⟨by omega,?_⟩,by omega,⟨by simp [fitR,look],trivial,rfl,rfl,rfl⟩⟩⟩⟩
     rw [g1,g2]
     exact (congrArg (fun p=>eachF (changeK k) chaO p (List.drop (j+1+1) es)) hpv).symm
 · have c0:decide ((i:Int)<(es.length:Int))=false:=by simp;omega
   rw [List.drop_eq_nil_of_le (by omega),eachF_nil]
   simp only [c0,plan0,go_sem,↓reduceIte,reduceCtorEq,Nat.reduceEqDiff,Nat.reduceLT,Nat.reduceAdd,Nat.reduceLeDiff]
noncomputable def B9 (g:FuncId):PSpec:=(putΦ (putΦ (putΦ (putΦ (putΦ (putΦ (putΦ B7 133 cfaS) 92 eaLS) 95 eaBS) 98 eaES) 102 eaCS) 104 eaRS) 142 eaXS) g
theorem hB9:TabSound GG B9:=(((((((hB7.put w_cfaS).put w_eaLS).put w_eaBS).put w_eaES).put w_eaCS).put w_eaRS).put w_eaXS)
end Go.AM
