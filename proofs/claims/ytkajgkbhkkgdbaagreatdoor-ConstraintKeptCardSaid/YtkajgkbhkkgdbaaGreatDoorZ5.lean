/-
  A part of a proof.
-/
import Derived.Test.YtkajgkbhkkgdbaaGreatDoorZP
import Derived.Test.YtkajgkbhkkgdbaaGreatDoorUM
set_option linter.unusedSimpArgs false
set_option linter.unusedVariables false
namespace Go.AM
open Go Go.Proofs Go.IntWalk
set_option maxRecDepth 100000
set_option maxHeartbeats 2000000
noncomputable def ix1S:PSpec:=on_pp (fun e c=>isH e/\∃ s,c=.pp (.str s) 0) (fun e c=>match c with
 | .pp (.str s) _=>.bool (hCode e == s)
 | _=>default)
theorem w_ix1S:PSound GG 163 ix1S:=by
 refine PSound.of_wpc (C:=cxP Tryz.prog D6 [] 8) (T:=plan0) Tryz.func163 rfl rfl rfl (Fit.pure (G:=GG) hD6 mixed) (fun args h=>?_)
 unfold ix1S at h
 obtain ⟨e,c,rfl,hp⟩:=on_pp_inv h
 refine ⟨by simp [cxP],?_⟩
 simp only [ix1S,on_pp_eq,Tryz.f163,argL,plan0]
 obtain ⟨⟨a,n,rfl,_⟩,s,rfl⟩:=hp
 simp only [hV,hCode,go_sem,↓reduceIte,reduceCtorEq,Nat.reduceEqDiff,Nat.reduceLT,Nat.reduceAdd,Nat.reduceLeDiff]
noncomputable def D7 (g:FuncId):PSpec:=(putΦ D6 163 ix1S) g
theorem hD7:TabSound GG D7:=(hD6.put w_ix1S)
noncomputable def ixpS:PSpec:=on_lp (fun es f=>(∃ s,f=.fn 163 [.pp (.str s) 0])/\(∀ e,e∈es->isH e)/\es.length<=4611686018427387904) (fun es f=>.int .i64 (ixC (fnC f) es 0))
theorem w_ixpS:PSound GG 162 ixpS:=by
 refine PSound.of_wpc (C:=cxP Tryz.prog D7 [] 19) (T:=plan0) Tryz.func162 rfl rfl rfl (Fit.pure (G:=GG) hD7 mixed) (fun args h=>?_)
 unfold ixpS at h
 obtain ⟨es,f,rfl,hp⟩:=on_lp_inv h
 refine ⟨by simp [cxP],?_⟩
 simp only [ixpS,on_lp_eq,Tryz.f162,argL,plan0]
 obtain ⟨⟨s,rfl⟩,he,hl⟩:=hp
 have hfn:fnC (.fn 163 [.pp (.str s) 0])=s:=rfl
 simp only [hfn,go_sem,↓reduceIte,reduceCtorEq,Nat.reduceLT]
 refine AWp.loop (T:=plan0) (α:=Nat) (fun i=>([(0,.pv (.sl es)),(1,.pv (.fn 163 [.pp (.str s) 0])),(7,.pv (.int .i64 es.length)),(8,.pv (.int .i64 i))],[])) (fun i=>i<=es.length/\ixC s (es.drop i) i=ixC s es 0) (fun i=>es.length-i)
  ⟨0,⟨Nat.zero_le _,rfl⟩,⟨by simp [fitR,look],trivial,rfl,rfl,rfl⟩⟩ ?_
 rintro i ⟨h1,h2⟩
 have hi1:IntKind.i64.wrap ((i:Int)+1)=((i+1:Nat):Int):=by rw [i64_in _ (by omega)];omega
 by_cases hlt:i<es.length
 · have c0:decide ((i:Int)<(es.length:Int))=true:=by simp;omega
   have hd:es.drop i=es.getD i default::es.drop (i+1):=by rw [List.drop_eq_getElem_cons hlt];simp [List.getD_eq_getElem?_getD,hlt]
   have hcl:=he _ (getD_mem hlt)
   rw [hd,ixC] at h2
   obtain ⟨e,hg⟩:∃ e,es.getD i default=e:=⟨_,rfl⟩
   rw [hg] at hcl h2
   have hC:=hcl
   obtain ⟨c,n,rfl,hc⟩:=hcl
   unfold hV at hg h2 hC
   have k1:∀ args,D7 163 args=ix1S args:=fun _=>rfl
   simp only [c0,hg,hi1,k1,ix1S,on_pp_eq,ev_callT,callTK,callP_fnc,List.take_succ_cons,List.take_nil,plan0,go_sem,↓reduceIte,reduceCtorEq,Nat.reduceEqDiff,Nat.reduceLT,Nat.reduceAdd,Nat.reduceLeDiff]
   have hcd:hCode (.agg [.str c,.str n])=c:=rfl
   refine ⟨⟨by omega,by omega⟩,⟨hC,s,rfl⟩,fun h9=>?_,fun h9=>⟨i+1,⟨by omega,?_⟩,by omega,⟨by simp [fitR,look],trivial,rfl,rfl,rfl⟩⟩⟩
   · rw [h9,cond_true] at h2
     rw [h2]
   · rw [h9,cond_false] at h2
     rw [<- h2];simp
 · have c0:decide ((i:Int)<(es.length:Int))=false:=by simp;omega
   rw [List.drop_eq_nil_of_le (by omega),ixC] at h2
   simp only [c0,plan0,go_sem,↓reduceIte,reduceCtorEq,Nat.reduceEqDiff,Nat.reduceLT]
   rw [<- h2]
def upF (s:List UInt8):List UInt8:=s.take (ldot s 46 s.length).toNat
noncomputable def prtS:PSpec:=on_s (fun s=>s.length<=1000000000000) (fun s=>.str (upF s))
theorem w_prtS:PSound GG 112 prtS:=by
 refine PSound.of_wpc (C:=cxP Tryz.prog D6 [] 8) (T:=plan0) Tryz.func112 rfl rfl rfl (Fit.pure (G:=GG) hD6 mixed) (fun args h=>?_)
 unfold prtS at h
 obtain ⟨s,rfl,hp⟩:=on_s_inv h
 refine ⟨by simp [cxP],?_⟩
 simp only [prtS,on_s_eq,Tryz.f112,argL,plan0]
 have k2:∀ args,D6 147 args=lastBS args:=fun _=>rfl
 simp only [k2,lastBS,on_su_eq,minmaxA,go_sem,↓reduceIte,reduceCtorEq,Nat.reduceEqDiff,Nat.reduceLT]
 have hl:=ldot_le s 46 s.length
 have e:(if 0>ldot s 46 s.length then (0:Int) else ldot s 46 s.length).toNat=(ldot s 46 s.length).toNat:=by split <;> omega
 refine ⟨by omega,by split <;> omega,?_⟩
 rw [e];rfl
noncomputable def D8 (g:FuncId):PSpec:=(putΦ (putΦ D7 162 ixpS) 112 prtS) g
theorem hD8:TabSound GG D8:=((hD7.put w_ixpS).put w_prtS)
def isArc (a:PV):Prop:=∃ k c y f t,a=.agg [.int .i64 k,.str c,.int .i64 y,.int .i64 f,.int .i64 t]/\c.length<=1000000000000
def bkF (c:List UInt8) (y:Int):PV->Bool
 | .agg [.str a,.int _ b,_]=>a == c&&b == y
 | _=>false
def bdF (c:List UInt8) (y d:Int):List PV->Int
 | []=>d
 | x::r=>bif bkF c y x then amF x else bdF c y d r
def arC:PV->List UInt8
 | .agg [_,.str c,_,_,_]=>c
 | _=>[]
def arY:PV->Int
 | .agg [_,_,.int _ y,_,_]=>y
 | _=>0
def on_lpi (p:List PV->PV->Int->Prop) (f:List PV->PV->Int->PV):PSpec
 | [.sl a0,a1,.int .i64 a2]=>(p a0 a1 a2,f a0 a1 a2)
 | _=>(False,default)
theorem on_lpi_eq {p:List PV->PV->Int->Prop} {f:List PV->PV->Int->PV} {a0:List PV} {a1:PV} {a2:Int}:on_lpi p f [.sl a0,a1,.int .i64 a2]=(p a0 a1 a2,f a0 a1 a2):=rfl
theorem on_lpi_inv {p:List PV->PV->Int->Prop} {f:List PV->PV->Int->PV} {args:List PV} (h:(on_lpi p f args).1):∃ a0:List PV,∃ a1:PV,∃ a2:Int,args=[.sl a0,a1,.int .i64 a2]/\p a0 a1 a2:=by
 unfold on_lpi at h
 split at h
 · exact ⟨_,_,_,rfl,h⟩
 · exact h.elim
noncomputable def bndS:PSpec:=on_lpi (fun l a _=>(∀ x,x∈l->isL3 x)/\l.length<=1000000/\isArc a) (fun l a d=>.int .i64 (bdF (arC a) (arY a) d l))
theorem w_bndS:PSound GG 114 bndS:=by
 refine PSound.of_wpc (C:=cxP Tryz.prog D8 [] 31) (T:=plan0) Tryz.func114 rfl rfl rfl (Fit.pure (G:=GG) hD8 mixed) (fun args h=>?_)
 unfold bndS at h
 obtain ⟨l,a,d,rfl,hp⟩:=on_lpi_inv h
 refine ⟨by simp [cxP],?_⟩
 simp only [bndS,on_lpi_eq,Tryz.f114,argL,plan0]
 obtain ⟨hl,hn,k,c,y,f,t,rfl,hc⟩:=hp
 have e1:arC (.agg [.int .i64 k,.str c,.int .i64 y,.int .i64 f,.int .i64 t])=c:=rfl
 have e2:arY (.agg [.int .i64 k,.str c,.int .i64 y,.int .i64 f,.int .i64 t])=y:=rfl
 rw [e1,e2]
 simp only [go_sem,↓reduceIte,reduceCtorEq,Nat.reduceLT,Nat.reduceAdd,PV.one,AV.one]
 refine AWp.loop (T:=plan0) (α:=Nat) (fun i=>([(2,.pv (.int .i64 d)),(4,.ptr 4 0),(9,.pv (.sl l)),(10,.pv (.int .i64 l.length)),(11,.pv (.int .i64 i))],[(4,.cells [.pv (.int .i64 k),.pv (.str c),.pv (.int .i64 y),.pv (.int .i64 f),.pv (.int .i64 t)])])) (fun i=>i<=l.length/\bdF c y d (l.drop i)=bdF c y d l) (fun i=>l.length-i)
  ⟨0,⟨Nat.zero_le _,rfl⟩,⟨by simp [fitR,look],by simp [fitH,hget],rfl,rfl,rfl⟩⟩ ?_
 rintro i ⟨h1,h2⟩
 have hi1:IntKind.i64.wrap ((i:Int)+1)=((i+1:Nat):Int):=by rw [i64_in _ (by omega)];omega
 by_cases hlt:i<l.length
 · have c0:decide ((i:Int)<(l.length:Int))=true:=by simp;omega
   obtain ⟨s,yy,m,hx,hs⟩:=hl _ (getD_mem hlt)
   have hd:l.drop i=.agg [.str s,.int .i64 yy,.int .i64 m]::l.drop (i+1):=by
    rw [List.drop_eq_getElem_cons hlt,<- hx];simp [List.getD_eq_getElem?_getD,hlt]
   have hb:bdF c y d (.agg [.str s,.int .i64 yy,.int .i64 m]::l.drop (i+1))=bif (s == c&&yy == y) then m else bdF c y d (l.drop (i+1)):=rfl
   rw [hd,hb] at h2
   simp only [c0,hx,hi1,List.take_succ_cons,List.take_nil,plan0,go_sem,↓reduceIte,reduceCtorEq,Nat.reduceEqDiff,Nat.reduceLT,Nat.reduceAdd,Nat.reduceLeDiff,PV.one,AV.one]
   refine ⟨⟨by omega,by omega⟩,fun h9=>?_,fun h9=>⟨i+1,⟨by omega,?_⟩,by omega,⟨by simp [fitR,look],by simp [fitH,hget],rfl,rfl,rfl⟩⟩⟩
   · rw [h9,cond_true] at h2
     rw [h2]
   · rw [h9,cond_false] at h2
     exact h2
 · have c0:decide ((i:Int)<(l.length:Int))=false:=by simp;omega
   rw [List.drop_eq_nil_of_le (by omega),bdF] at h2
   simp only [c0,plan0,go_sem,↓reduceIte,reduceCtorEq,Nat.reduceEqDiff,Nat.reduceLT,Nat.reduceAdd,Nat.reduceLeDiff,PV.one,AV.one]
   rw [<- h2]
noncomputable def D9 (g:FuncId):PSpec:=(putΦ D8 114 bndS) g
theorem hD9:TabSound GG D9:=(hD8.put w_bndS)
def shI:List AV->List AV->Option (List PV × List UInt8)
 | [f,y,.pv (.sl tr),a,b,c,d,e,g,h,z],[.pv (.str s)]=>if [f,y,a,b,c,d,e,g,h,z].all AV.one then some (tr,s) else none
 | _,_=>none
def iniC (tr:List PV):List AV:=[.top,.top,.pv (.sl tr),.top,.top,.top,.top,.top,.top,.top,.top]
theorem wkI (cs rest:List AV) (x:List PV × List UInt8) (h:shI cs rest=some x):wkL1 cs (iniC x.1)/\wkL rest [.pv (.str x.2)]:=by
 unfold shI at h
 split at h
 · split at h
   · rename_i ha
     simp only [Option.some.injEq] at h
     subst h
     simp only [List.all_cons,List.all_nil,Bool.and_true,Bool.and_eq_true] at ha
     obtain ⟨h1,h2,h3,h4,h5,h6,h7,h8,h9,h10⟩:=ha
     exact ⟨⟨h1,h2,rfl,h3,h4,h5,h6,h7,h8,h9,h10,trivial⟩,rfl,trivial⟩
   · cases h
 · cases h
def preI (x:List PV × List UInt8):Prop:=(∀ e,e∈x.1->isH e)/\x.1.length<=1000000
def valI (x:List PV × List UInt8):PV:=.int .i64 (ixC x.2 x.1 0)
theorem k_indexQ_162 {args:List PV}:D8 162 args=ixpS args:=rfl
theorem k_indexQ_163 {args:List PV}:D8 163 args=ix1S args:=rfl
theorem w_indexQ:QSound GG 148 (qR shI preI valI):=by
 refine QSound.of_rdr (C:=cxQ Tryz.prog D8 noΘ noΨ [] [9000] 12) (fun x=>iniC x.1) (fun x=>[.pv (.str x.2)]) 9000 Tryz.func148 rfl rfl rfl (Fit.all (G:=GG) hD8 hnoΘ hnoΨ mixed) rfl wkI (fun x hx=>?_)
 obtain ⟨tr,s⟩:=x
 obtain ⟨h1,h2⟩:=hx
 simp only at h1 h2
 refine ⟨by simp [cxQ],fun u0 u hu0 hu=>?_⟩
 rw [show flL u 0 [AV.pv (.str s)]=[.pv (.str s)] from rfl,show flA u0 0 (iniC tr)=[.fix (u0 0),.fix (u0 1),.pv (.sl tr),.fix (u0 3),.fix (u0 4),.fix (u0 5),.fix (u0 6),.fix (u0 7),.fix (u0 8),.fix (u0 9),.fix (u0 10)] from rfl]
 refine wpc_sound (T:=plan0) _ _ _ ?_
 simp only [argV,FinR,valI,k_indexQ_162,ixpS,on_lp_eq,ixpS,on_lp_eq,makeFuncA,boxP,fnC,Tryz.f148,plan0,go_sem,↓reduceIte,reduceCtorEq,Nat.reduceEqDiff,Nat.reduceLT,Nat.reduceAdd,Nat.reduceLeDiff]
 refine ⟨fun c hc=>?_,⟨s,rfl⟩,h1,by omega⟩
 simp only [List.mem_singleton] at hc
 subst hc
 simp [frzOk,hget,AV.one,PV.one]
noncomputable def ΘI (g:FuncId):Option QSpec:=putΘ noΘ 148 (qR shI preI valI) g
theorem hΘI:QTab GG ΘI:=hnoΘ.put w_indexQ
theorem ixC_b (c:List UInt8):∀ (l:List PV) (i:Int),-1<=i-> -1<=ixC c l i/\ixC c l i<i+l.length+1
 | [],i,h=>by simp [ixC];omega
 | e::r,i,h=>by
   have:=ixC_b c r (i+1) (by omega)
   unfold ixC
   cases hCode e == c with
   | true=>simp;omega
   | false=>simp;omega
def ndF (tr:List PV) (j:Int) (s:List UInt8):Int:=bif s == [] then 0 else 1+2 * (tr.length * j+ixC s tr 0)
def loF (tr:List PV) (j:Int) (s:List UInt8):Int:=bif s == [] then 0 else ndF tr j s+1
def shU:List AV->List AV->Option (List PV × Int × List UInt8)
 | [f,y,.pv (.sl tr),a,b,c,d,e,g,h,z],[.pv (.int .i64 j),.pv (.str s)]=>if [f,y,a,b,c,d,e,g,h,z].all AV.one then some (tr,j,s) else none
 | _,_=>none
theorem wkU (cs rest:List AV) (x:List PV × Int × List UInt8) (h:shU cs rest=some x):wkL1 cs (iniC x.1)/\wkL rest [.pv (.int .i64 x.2.1),.pv (.str x.2.2)]:=by
 unfold shU at h
 split at h
 · split at h
   · rename_i ha
     simp only [Option.some.injEq] at h
     subst h
     simp only [List.all_cons,List.all_nil,Bool.and_true,Bool.and_eq_true] at ha
     obtain ⟨h1,h2,h3,h4,h5,h6,h7,h8,h9,h10⟩:=ha
     exact ⟨⟨h1,h2,rfl,h3,h4,h5,h6,h7,h8,h9,h10,trivial⟩,rfl,rfl,trivial⟩
   · cases h
 · cases h
def preU (x:List PV × Int × List UInt8):Prop:=(∀ e,e∈x.1->isH e)/\x.1.length<=1000000/\0<=x.2.1/\x.2.1<=1000
def valU (x:List PV × Int × List UInt8):PV:=.int .i64 (ndF x.1 x.2.1 x.2.2)
def valLo (x:List PV × Int × List UInt8):PV:=.int .i64 (loF x.1 x.2.1 x.2.2)
theorem mul_b {n:Nat} {j:Int} (h1:n<=1000000) (h2:0<=j) (h3:j<=1000):0<=(n:Int) * j/\(n:Int) * j<=1000000000:=by
 refine ⟨Int.mul_nonneg (by omega) h2,?_⟩
 have:=Int.mul_le_mul (show (n:Int)<=1000000 by omega) h3 h2 (by omega)
 omega
theorem w_upperQ:QSound GG 113 (qR shU preU valU):=by
 refine QSound.of_rdr (C:=cxQ Tryz.prog D8 ΘI noΨ [] [9000] 23) (fun x=>iniC x.1) (fun x=>[.pv (.int .i64 x.2.1),.pv (.str x.2.2)]) 9000 Tryz.func113 rfl rfl rfl (Fit.all (G:=GG) hD8 hΘI hnoΨ mixed) rfl wkU (fun x hx=>?_)
 obtain ⟨tr,j,s⟩:=x
 obtain ⟨h1,h2,h3,h4⟩:=hx
 simp only at h1 h2 h3 h4
 refine ⟨by simp [cxQ],fun u0 u hu0 hu=>?_⟩
 rw [show flL u 0 [AV.pv (.int .i64 j),.pv (.str s)]=[.pv (.int .i64 j),.pv (.str s)] from rfl,show flA u0 0 (iniC tr)=[.fix (u0 0),.fix (u0 1),.pv (.sl tr),.fix (u0 3),.fix (u0 4),.fix (u0 5),.fix (u0 6),.fix (u0 7),.fix (u0 8),.fix (u0 9),.fix (u0 10)] from rfl]
 obtain ⟨hm1,hm2⟩:=mul_b h2 h3 h4
 have hx:=ixC_b s tr 0 (by omega)
 have w1:IntKind.i64.wrap ((tr.length:Int) * j)=(tr.length:Int) * j:=i64_in _ (by omega)
 have w2:IntKind.i64.wrap ((tr.length:Int) * j+ixC s tr 0)=(tr.length:Int) * j+ixC s tr 0:=i64_in _ (by omega)
 have w3:IntKind.i64.wrap (2 * ((tr.length:Int) * j+ixC s tr 0))=2 * ((tr.length:Int) * j+ixC s tr 0):=i64_in _ (by omega)
 have w4:IntKind.i64.wrap (1+2 * ((tr.length:Int) * j+ixC s tr 0))=1+2 * ((tr.length:Int) * j+ixC s tr 0):=i64_in _ (by omega)
 refine wpc_sound (T:=plan0) _ _ _ ?_
 simp only [argV,FinR,valU,ΘI,qR_11,↓all_qR,pre1,shP,shI,preI,valI,w1,w2,w3,w4,Tryz.f113,plan0,go_sem,↓reduceIte,reduceCtorEq,Nat.reduceEqDiff,Nat.reduceLT,Nat.reduceAdd,Nat.reduceLeDiff]
 exact ⟨fun h=>by unfold ndF;rw [h];rfl,fun h=>⟨by kernel_rfl,⟨h1,h2⟩,by unfold ndF;rw [h];rfl⟩⟩
noncomputable def ΘU (g:FuncId):Option QSpec:=putΘ ΘI 113 (qR shU preU valU) g
theorem hΘU:QTab GG ΘU:=hΘI.put w_upperQ
theorem ndF_b {tr:List PV} {j:Int} {s:List UInt8} (h2:tr.length<=1000000) (h3:0<=j) (h4:j<=1000): -1<=ndF tr j s/\ndF tr j s<=10000000000:=by
 obtain ⟨hm1,hm2⟩:=mul_b h2 h3 h4
 have hx:=ixC_b s tr 0 (by omega)
 unfold ndF
 cases s == [] with
 | true=>simp
 | false=>simp only [cond_false];omega
theorem w_lowerQ:QSound GG 111 (qR shU preU valLo):=by
 refine QSound.of_rdr (C:=cxQ Tryz.prog D8 ΘU noΨ [] [9000] 14) (fun x=>iniC x.1) (fun x=>[.pv (.int .i64 x.2.1),.pv (.str x.2.2)]) 9000 Tryz.func111 rfl rfl rfl (Fit.all (G:=GG) hD8 hΘU hnoΨ mixed) rfl wkU (fun x hx=>?_)
 obtain ⟨tr,j,s⟩:=x
 obtain ⟨h1,h2,h3,h4⟩:=hx
 simp only at h1 h2 h3 h4
 refine ⟨by simp [cxQ],fun u0 u hu0 hu=>?_⟩
 rw [show flL u 0 [AV.pv (.int .i64 j),.pv (.str s)]=[.pv (.int .i64 j),.pv (.str s)] from rfl,show flA u0 0 (iniC tr)=[.fix (u0 0),.fix (u0 1),.pv (.sl tr),.fix (u0 3),.fix (u0 4),.fix (u0 5),.fix (u0 6),.fix (u0 7),.fix (u0 8),.fix (u0 9),.fix (u0 10)] from rfl]
 have hb:=ndF_b (s:=s) h2 h3 h4
 have w1:IntKind.i64.wrap (ndF tr j s+1)=ndF tr j s+1:=i64_in _ (by omega)
 refine wpc_sound (T:=plan0) _ _ _ ?_
 simp only [argV,FinR,valU,valLo,ΘU,qR_11,↓all_qR,pre1,shP,shU,preU,w1,Tryz.f111,plan0,go_sem,↓reduceIte,reduceCtorEq,Nat.reduceEqDiff,Nat.reduceLT,Nat.reduceAdd]
 refine ⟨fun h=>by unfold loF;rw [h];rfl,fun h=>⟨⟨h1,h2,h3,h4⟩,by unfold loF;rw [h];rfl⟩⟩
noncomputable def ΘW (g:FuncId):Option QSpec:=putΘ ΘU 111 (qR shU preU valLo) g
theorem hΘW:QTab GG ΘW:=hΘU.put w_lowerQ
def addOk (fs es args:List PV):Prop:=fs.length=10/\es.length<=100000000/\∃ k c y f t,args=[.int .i64 k,.str c,.int .i64 y,.int .i64 f,.int .i64 t]
def addRs (fs es args:List PV):List PV:=es++[.agg args]
def addPl (fs es args:List PV):Prop × List PV:=(addOk fs es args,addRs fs es args)
theorem w_addE:ESound GG 110 (psiObj 5 addPl):=by
 refine ESound.of_obj (C:=cxQ Tryz.prog D8 noΘ noΨ [] [9000] 27) (T:=plan0) Tryz.func110 rfl rfl rfl rfl rfl (Fit.all (G:=GG) hD8 hnoΘ hnoΨ mixed) (fun fs es args h hw=>?_)
 obtain ⟨hf,he,k,c,y,f,t,rfl⟩:=h
 obtain ⟨a0,a1,a2,a3,a4,a5,a6,a7,a8,a9,rfl⟩:∃ a0 a1 a2 a3 a4 a5 a6 a7 a8 a9,fs=[a0,a1,a2,a3,a4,a5,a6,a7,a8,a9]:=by
  match fs,hf with
  | [a0,a1,a2,a3,a4,a5,a6,a7,a8,a9],_=>exact ⟨_,_,_,_,_,_,_,_,_,_,rfl⟩
 refine ⟨by simp [cxQ],?_⟩
 have tk:es.take es.length=es:=List.take_length
 simp only [objC,addPl,addRs,FinObj,List.map_cons,List.map_nil,List.cons_append,List.nil_append,List.length_append,argL,plan0,tk,go_sem,↓reduceIte,reduceCtorEq,Nat.reduceEqDiff,Nat.reduceLT,Nat.reduceAdd,Nat.reduceLeDiff,Nat.reduceMul]
 exact ⟨rfl,fun e he=>(by simp only [List.mem_singleton] at he;subst he;rfl),Nat.le_refl _,by omega,by simp only [maxLen];omega⟩
noncomputable def ΨP (g:FuncId):Option ESpec:=putΨ noΨ 110 (psiObj 5 addPl) g
theorem hΨP:ETab GG ΨP:=hnoΨ.put w_addE psiObj_mono
end Go.AM
