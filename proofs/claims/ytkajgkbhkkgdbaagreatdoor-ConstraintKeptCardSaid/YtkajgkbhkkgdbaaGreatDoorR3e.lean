/-
  A part of a proof.
-/
import Derived.Test.YtkajgkbhkkgdbaaGreatDoorR3x
set_option linter.unusedSimpArgs false
set_option linter.unusedVariables false
namespace Go.AM
open Go Go.Proofs Go.IntWalk
set_option maxRecDepth 100000
set_option maxHeartbeats 1000000
noncomputable def Φ29 (g:FuncId):PSpec:=putΦ Φ28 171 has1S g
theorem hΦ29:TabSound GG Φ29:=hΦ28.put w_has1S
theorem Φ29_h {args:List PV}:Φ29 171 args=has1S args:=rfl
def ixC (c:List UInt8):List PV->Int->Int
 | [],_=> -1
 | e::r,i=>bif hCode e == c then i else ixC c r (i+1)
theorem ixC_le (c:List UInt8):∀ (l:List PV) (i:Int),0<=i->decide (0<=ixC c l i)=l.any (fun e=>hCode e == c)
 | [],_,_=>rfl
 | e::r,i,h=>by
   unfold ixC
   rw [List.any_cons]
   cases hCode e == c with
   | true=>simp [h]
   | false=>simpa using ixC_le c r (i+1) (by omega)
def fnC:PV->List UInt8
 | .fn _ [.pp (.str s) _]=>s
 | _=>[]
def on_lp (p:List PV->PV->Prop) (f:List PV->PV->PV):PSpec
 | [.sl a0,a1]=>(p a0 a1,f a0 a1)
 | _=>(False,default)
theorem on_lp_eq {p:List PV->PV->Prop} {f:List PV->PV->PV} {a0:List PV} {a1:PV}:on_lp p f [.sl a0,a1]=(p a0 a1,f a0 a1):=rfl
theorem on_lp_inv {p:List PV->PV->Prop} {f:List PV->PV->PV} {args:List PV} (h:(on_lp p f args).1):∃ a0:List PV,∃ a1:PV,args=[.sl a0,a1]/\p a0 a1:=by
 unfold on_lp at h
 split at h
 · exact ⟨_,_,rfl,h⟩
 · exact h.elim
noncomputable def ixS:PSpec:=on_lp (fun es f=>(∃ s,f=.fn 171 [.pp (.str s) 0])/\(∀ e,e∈es->isH e)/\es.length<=4611686018427387904) (fun es f=>.int .i64 (ixC (fnC f) es 0))
theorem w_ixS:PSound GG 162 ixS:=by
 refine PSound.of_wpc (C:=cxP Tryz.prog Φ29 [] 19) (T:=plan0) Tryz.func162 rfl rfl rfl (Fit.pure (G:=GG) hΦ29 mixed) (fun args h=>?_)
 unfold ixS at h
 obtain ⟨es,f,rfl,hp⟩:=on_lp_inv h
 refine ⟨by simp [cxP],?_⟩
 simp only [ixS,on_lp_eq,Tryz.f162,argL,plan0]
 obtain ⟨⟨s,rfl⟩,he,hl⟩:=hp
 have hfn:fnC (.fn 171 [.pp (.str s) 0])=s:=rfl
 simp only [hfn,go_sem,↓reduceIte,reduceCtorEq,Nat.reduceLT]
 refine AWp.loop (T:=plan0) (α:=Nat) (fun i=>([(0,.pv (.sl es)),(1,.pv (.fn 171 [.pp (.str s) 0])),(7,.pv (.int .i64 es.length)),(8,.pv (.int .i64 i))],[])) (fun i=>i<=es.length/\ixC s (es.drop i) i=ixC s es 0) (fun i=>es.length-i)
  ⟨0,⟨Nat.zero_le _,rfl⟩,⟨by simp [fitR,look],trivial,rfl,rfl,rfl⟩⟩ ?_
 rintro i ⟨h1,h2⟩
 have hi1:IntKind.i64.wrap ((i:Int)+1)=((i+1:Nat):Int):=by rw [i64_in _ (by omega)];omega
 by_cases hlt:i<es.length
 · have c0:decide ((i:Int)<(es.length:Int))=true:=by simp;omega
   have hd:es.drop i=es.getD i default::es.drop (i+1):=by rw [List.drop_eq_getElem_cons hlt];simp [List.getD_eq_getElem?_getD,hlt]
   have hcl:=he _ (getD_mem hlt)
   rw [hd,ixC] at h2
   obtain ⟨e,hg⟩:∃ e,es.getD i default=e:=⟨_,rfl⟩
   rw [hg] at hcl h2
   have hC:=hcl
   obtain ⟨c,n,rfl,hc⟩:=hcl
   unfold hV at hg h2 hC
   simp only [c0,hg,hi1,Φ29_h,has1S,on_pp_eq,ev_callT,callTK,callP_fnc,List.take_succ_cons,List.take_nil,plan0,go_sem,↓reduceIte,reduceCtorEq,Nat.reduceEqDiff,Nat.reduceLT,Nat.reduceAdd,Nat.reduceLeDiff]
   have hcd:hCode (.agg [.str c,.str n])=c:=rfl
   refine ⟨⟨by omega,by omega⟩,⟨hC,s,rfl⟩,fun h9=>?_,fun h9=>⟨i+1,⟨by omega,?_⟩,by omega,⟨by simp [fitR,look],trivial,rfl,rfl,rfl⟩⟩⟩
   · rw [h9,cond_true] at h2
     rw [h2]
   · rw [h9,cond_false] at h2
     rw [<- h2];simp
 · have c0:decide ((i:Int)<(es.length:Int))=false:=by simp;omega
   rw [List.drop_eq_nil_of_le (by omega),ixC] at h2
   simp only [c0,plan0,go_sem,↓reduceIte,reduceCtorEq,Nat.reduceEqDiff,Nat.reduceLT]
   rw [<- h2]
noncomputable def Φ30 (g:FuncId):PSpec:=putΦ Φ29 162 ixS g
theorem hΦ30:TabSound GG Φ30:=hΦ29.put w_ixS
theorem Φ30_i {args:List PV}:Φ30 162 args=ixS args:=rfl
noncomputable def ctS:PSpec:=on_lp (fun es f=>(∃ s,f=.fn 171 [.pp (.str s) 0])/\(∀ e,e∈es->isH e)/\es.length<=4611686018427387904) (fun es f=>.bool (es.any (fun e=>hCode e == fnC f)))
theorem w_ctS:PSound GG 170 ctS:=by
 refine PSound.of_wpc (C:=cxP Tryz.prog Φ30 [] 9) (T:=plan0) Tryz.func170 rfl rfl rfl (Fit.pure (G:=GG) hΦ30 mixed) (fun args h=>?_)
 unfold ctS at h
 obtain ⟨es,f,rfl,hp⟩:=on_lp_inv h
 refine ⟨by simp [cxP],?_⟩
 simp only [ctS,on_lp_eq,Tryz.f170,argL,plan0]
 simp only [Φ30_i,ixS,on_lp_eq,go_sem,↓reduceIte,reduceCtorEq,Nat.reduceEqDiff,Nat.reduceLT]
 rw [ixC_le _ _ _ (by decide)]
 exact ⟨hp,rfl⟩
noncomputable def Φ31 (g:FuncId):PSpec:=putΦ Φ30 170 ctS g
theorem hΦ31:TabSound GG Φ31:=hΦ30.put w_ctS
theorem Φ31_c {args:List PV}:Φ31 170 args=ctS args:=rfl
noncomputable def hasS:PSpec:=on_ls (fun es _=>(∀ e,e∈es->isH e)/\es.length<=4611686018427387904) (fun es c=>.bool (es.any (fun e=>hCode e == c)))
theorem w_hasS:PSound GG 159 hasS:=by
 refine PSound.of_wpc (C:=cxP Tryz.prog Φ31 [] 8) (T:=plan0) Tryz.func159 rfl rfl rfl (Fit.pure (G:=GG) hΦ31 mixed) (fun args h=>?_)
 unfold hasS at h
 obtain ⟨es,c,rfl,hp⟩:=on_ls_inv h
 refine ⟨by simp [cxP],?_⟩
 simp only [hasS,on_ls_eq,Tryz.f159,argL,plan0]
 simp only [Φ31_c,ctS,on_lp_eq,makeFuncA,boxP,fnC,go_sem,↓reduceIte,reduceCtorEq,Nat.reduceEqDiff,Nat.reduceLT]
 refine ⟨fun x hx=>?_,⟨c,rfl⟩,hp⟩
 simp only [List.mem_singleton] at hx
 subst hx
 simp [frzOk,hget,AV.one,PV.one]
noncomputable def Φ32 (g:FuncId):PSpec:=putΦ Φ31 159 hasS g
theorem hΦ32:TabSound GG Φ32:=hΦ31.put w_hasS
theorem Φ32_has {args:List PV}:Φ32 159 args=hasS args:=rfl
theorem Φ32_name {args:List PV}:Φ32 184 args=nameS args:=rfl
theorem Φ32_cmp {args:List PV}:Φ32 64 args=cmpCS args:=rfl
theorem Φ32_is {args:List PV}:Φ32 134 args=isS args:=rfl
theorem Φ32_parent {args:List PV}:Φ32 135 args=parCS args:=rfl
def hName:PV->List UInt8
 | .agg [_,.str n]=>n
 | _=>[]
def isHn (e:PV):Prop:=∃ c n,e=hV c n/\c.length<=1000000000000/\n.length<=1000000000000
theorem isHn.isH {e:PV} (h:isHn e):isH e:=by obtain ⟨c,n,e1,h1,_⟩:=h;exact ⟨c,n,e1,h1⟩
def hdF (l:List PV) (i:Nat):Int:=
 bif !isCode (hCode (l.getD i default)) then 5 else bif !nmF (hName (l.getD i default)) then 4 else
 bif decide ((0:Int)<(i:Int))&&decide (0<=cmpC (hCode (l.getD (i-1) default)) (hCode (l.getD i default))) then 8 else
 bif !(parC (hCode (l.getD i default)) == [])&&!(l.any (fun e=>hCode e == parC (hCode (l.getD i default)))) then 6 else 0
def on_li (p:List PV->Int->Prop) (f:List PV->Int->PV):PSpec
 | [.sl a0,.int .i64 a1]=>(p a0 a1,f a0 a1)
 | _=>(False,default)
theorem on_li_eq {p:List PV->Int->Prop} {f:List PV->Int->PV} {a0:List PV} {a1:Int}:on_li p f [.sl a0,.int .i64 a1]=(p a0 a1,f a0 a1):=rfl
theorem on_li_inv {p:List PV->Int->Prop} {f:List PV->Int->PV} {args:List PV} (h:(on_li p f args).1):∃ a0:List PV,∃ a1:Int,args=[.sl a0,.int .i64 a1]/\p a0 a1:=by
 unfold on_li at h
 split at h
 · exact ⟨_,_,rfl,h⟩
 · exact h.elim
noncomputable def hdS:PSpec:=on_li (fun l i=>(∀ e,e∈l->isHn e)/\l.length<=1000000000000/\0<=i/\i<(l.length:Int)) (fun l i=>.int .i64 (hdF l i.toNat))
theorem parC_len (s:List UInt8):(parC s).length<=s.length:=by
 unfold parC
 cases isCode s with
 | false=>simp
 | true=>rw [cond_true,dotF_ldot,List.length_take];omega
theorem w_hdS:PSound GG 169 hdS:=by
 refine PSound.of_wpc (C:=cxP Tryz.prog Φ32 [] 55) (T:=plan0) Tryz.func169 rfl rfl rfl (Fit.pure (G:=GG) hΦ32 mixed) (fun args h=>?_)
 unfold hdS at h
 obtain ⟨l,k,rfl,hp⟩:=on_li_inv h
 refine ⟨by simp [cxP],?_⟩
 simp only [hdS,on_li_eq,Tryz.f169,argL,plan0]
 obtain ⟨hl,hn,hk0,hk⟩:=hp
 obtain ⟨i,rfl⟩:=Int.eq_ofNat_of_zero_le hk0
 have hlt:i<l.length:=by omega
 have hH:∀ e,e∈l->isH e:=fun e he=>(hl e he).isH
 obtain ⟨c,n,he,hc,hnl⟩:=hl _ (getD_mem hlt)
 have he3:l.getD i default=.agg [.str c,.str n]:=he
 have htn:((i:Nat):Int).toNat=i:=by omega
 have hd:hdF l i=(bif !isCode c then 5 else bif !nmF n then 4 else bif decide ((0:Int)<(i:Int))&&decide (0<=cmpC (hCode (l.getD (i-1) default)) c) then 8 else
  bif !(parC c == [])&&!(l.any (fun e=>hCode e == parC c)) then 6 else 0):=by
  unfold hdF
  rw [he3];rfl
 have hpl:=parC_len c
 rw [htn,hd]
 cases i with
 | zero=>
   have w1:IntKind.i64.wrap ((0:Int)-1)= -1:=by decide
   have w3:Int.toNat (-1)=0:=rfl
   simp only [he3,w1,w3,decide_false,Φ32_has,Φ32_name,Φ32_cmp,Φ32_is,Φ32_parent,hasS,nameS,cmpCS,isS,parCS,on_s_eq,on_ss_eq,on_ls_eq,go_sem,↓reduceIte,reduceCtorEq,Nat.reduceEqDiff,Nat.reduceLT,Int.reduceLT,Int.reduceLE,Nat.reduceAdd,Nat.reduceLeDiff]
   refine ⟨by omega,hc,by omega,hc,fun g1=>by rw [g1];rfl,fun g1=>⟨by omega,by omega,fun g2=>by rw [g1,g2];rfl,fun g2=>⟨by kernel_rfl,fun _=>⟨hH,by omega⟩,fun g3=>by rw [g1,g2,g3];rfl,fun g3=>by rw [g1,g2,g3];rfl⟩⟩⟩
 | succ j=>
   have w1:IntKind.i64.wrap (((j+1:Nat):Int)-1)=(j:Int):=by rw [i64_in _ (by omega)];omega
   have w2:decide ((0:Int)<((j+1:Nat):Int))=true:=decide_eq_true (by omega)
   obtain ⟨c',n',he',hc',_⟩:=hl _ (getD_mem (show j<l.length by omega))
   have he4:l.getD j default=.agg [.str c',.str n']:=he'
   have hcd:hCode (.agg [.str c',.str n'])=c':=rfl
   simp only [he3,he4,hcd,w1,w2,Nat.add_sub_cancel,Φ32_has,Φ32_name,Φ32_cmp,Φ32_is,Φ32_parent,hasS,nameS,cmpCS,isS,parCS,on_s_eq,on_ss_eq,on_ls_eq,go_sem,↓reduceIte,reduceCtorEq,Nat.reduceEqDiff,Nat.reduceLT,Nat.reduceAdd,Nat.reduceLeDiff]
   refine ⟨by omega,hc,by omega,hc,fun g1=>by rw [g1];rfl,fun g1=>⟨by omega,by omega,fun g2=>by rw [g1,g2];rfl,fun g2=>⟨by kernel_rfl,by omega,by omega,⟨hc',hc⟩,fun g3=>by rw [g1,g2,g3];rfl,
    fun g3=>⟨fun _=>⟨hH,by omega⟩,fun g4=>by rw [g1,g2,g3,g4];rfl,fun g4=>by rw [g1,g2,g3,g4];rfl⟩⟩⟩⟩
noncomputable def Φ33 (g:FuncId):PSpec:=putΦ Φ32 169 hdS g
theorem hΦ33:TabSound GG Φ33:=hΦ32.put w_hdS
theorem Φ33_hd {args:List PV}:Φ33 169 args=hdS args:=rfl
def fstG (l:List PV):Nat->Nat->Int × Int
 | 0,_=>(0,0)
 | k+1,i=>bif hdF l i != 0 then (((i+1:Nat):Int),hdF l i) else fstG l k (i+1)
def fstF (l:List PV):Int × Int:=bif decide (60<(l.length:Int)) then (0,3) else fstG l l.length 0
noncomputable def fstS:PSpec:=on_l (fun l=>(∀ e,e∈l->isHn e)/\l.length<=1000000000000) (fun l=>.tup [.int .i64 (fstF l).1,.int .i64 (fstF l).2])
theorem w_fstS:PSound GG 156 fstS:=by
 refine PSound.of_wpc (C:=cxP Tryz.prog Φ33 [] 23) (T:=plan0) Tryz.func156 rfl rfl rfl (Fit.pure (G:=GG) hΦ33 mixed) (fun args h=>?_)
 unfold fstS at h
 obtain ⟨l,rfl,hp⟩:=on_l_inv h
 refine ⟨by simp [cxP],?_⟩
 simp only [fstS,on_l_eq,Tryz.f156,argL,plan0]
 obtain ⟨hl,hn⟩:=hp
 simp only [go_sem,↓reduceIte,reduceCtorEq,Nat.reduceEqDiff,Nat.reduceLT]
 unfold fstF
 refine ⟨fun h=>by rw [h];rfl,fun h=>?_⟩
 rw [h,cond_false]
 refine AWp.loop (T:=plan0) (α:=Nat) (fun i=>([(0,.pv (.sl l)),(10,.pv (.int .i64 l.length)),(11,.pv (.int .i64 i))],[])) (fun i=>i<=l.length/\fstG l (l.length-i) i=fstG l l.length 0) (fun i=>l.length-i)
  ⟨0,⟨Nat.zero_le _,rfl⟩,⟨by simp [fitR,look],trivial,rfl,rfl,rfl⟩⟩ ?_
 rintro i ⟨h1,h2⟩
 have hi1:IntKind.i64.wrap ((i:Int)+1)=((i+1:Nat):Int):=by rw [i64_in _ (by omega)];omega
 by_cases hlt:i<l.length
 · have c0:decide ((i:Int)<(l.length:Int))=true:=by simp;omega
   rw [show l.length-i=(l.length-(i+1))+1 by omega,fstG] at h2
   simp only [c0,hi1,Φ33_hd,hdS,on_li_eq,plan0,go_sem,↓reduceIte,reduceCtorEq,Nat.reduceEqDiff,Nat.reduceLT]
   refine ⟨⟨hl,hn,by omega,by omega⟩,fun h9=>?_,fun h9=>⟨i+1,⟨by omega,?_⟩,by omega,⟨by simp [fitR,look],trivial,rfl,rfl,rfl⟩⟩⟩
   · rw [h9,cond_true] at h2
     rw [<- h2]
   · rw [h9,cond_false] at h2
     exact h2
 · have c0:decide ((i:Int)<(l.length:Int))=false:=by simp;omega
   simp only [c0,plan0,go_sem,↓reduceIte,reduceCtorEq,Nat.reduceEqDiff,Nat.reduceLT]
   rw [show l.length-i=0 by omega,fstG] at h2
   rw [<- h2]
noncomputable def Φ34 (g:FuncId):PSpec:=putΦ Φ33 156 fstS g
theorem hΦ34:TabSound GG Φ34:=hΦ33.put w_fstS
theorem Φ34_fst {args:List PV}:Φ34 156 args=fstS args:=rfl
noncomputable def validCS:PSpec:=on_l (fun l=>(∀ e,e∈l->isHn e)/\l.length<=1000000000000) (fun l=>.int .i64 (fstF l).2)
theorem w_validCS:PSound GG 131 validCS:=by
 refine PSound.of_wpc (C:=cxP Tryz.prog Φ34 [] 11) (T:=plan0) Tryz.func131 rfl rfl rfl (Fit.pure (G:=GG) hΦ34 mixed) (fun args h=>?_)
 unfold validCS at h
 obtain ⟨l,rfl,hp⟩:=on_l_inv h
 refine ⟨by simp [cxP],?_⟩
 simp only [validCS,on_l_eq,Tryz.f131,argL,plan0]
 simp only [Φ34_fst,fstS,on_l_eq,go_sem,↓reduceIte,reduceCtorEq,Nat.reduceEqDiff,Nat.reduceLT,Nat.reduceAdd]
 exact hp
noncomputable def Φ35 (g:FuncId):PSpec:=putΦ Φ34 131 validCS g
theorem hΦ35:TabSound GG Φ35:=hΦ34.put w_validCS
noncomputable def Φ36 (g:FuncId):PSpec:=Φ35 g
theorem hΦ36:TabSound GG Φ36:=hΦ35
end Go.AM
