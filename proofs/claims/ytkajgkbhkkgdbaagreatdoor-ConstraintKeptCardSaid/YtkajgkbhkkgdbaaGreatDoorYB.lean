/-
  A part of a proof.
-/
import Derived.Test.YtkajgkbhkkgdbaaGreatDoorZ1
set_option linter.unusedSimpArgs false
set_option linter.unusedVariables false
namespace Go.AM
open Go Go.Proofs Go.IntWalk
set_option maxRecDepth 100000
set_option maxHeartbeats 1000000
def on_iii (p:Int->Int->Int->Prop) (f:Int->Int->Int->PV):PSpec
 | [.int .i64 a0,.int .i64 a1,.int .i64 a2]=>(p a0 a1 a2,f a0 a1 a2)
 | _=>(False,default)
theorem on_iii_eq {p:Int->Int->Int->Prop} {f:Int->Int->Int->PV} {a0:Int} {a1:Int} {a2:Int}:on_iii p f [.int .i64 a0,.int .i64 a1,.int .i64 a2]=(p a0 a1 a2,f a0 a1 a2):=rfl
theorem on_iii_inv {p:Int->Int->Int->Prop} {f:Int->Int->Int->PV} {args:List PV} (h:(on_iii p f args).1):∃ a0:Int,∃ a1:Int,∃ a2:Int,args=[.int .i64 a0,.int .i64 a1,.int .i64 a2]/\p a0 a1 a2:=by
 unfold on_iii at h
 split at h
 · exact ⟨_,_,_,rfl,h⟩
 · exact h.elim
def on_ps (p:PV->List UInt8->Prop) (f:PV->List UInt8->PV):PSpec
 | [a0,.str a1]=>(p a0 a1,f a0 a1)
 | _=>(False,default)
theorem on_ps_eq {p:PV->List UInt8->Prop} {f:PV->List UInt8->PV} {a0:PV} {a1:List UInt8}:on_ps p f [a0,.str a1]=(p a0 a1,f a0 a1):=rfl
theorem on_ps_inv {p:PV->List UInt8->Prop} {f:PV->List UInt8->PV} {args:List PV} (h:(on_ps p f args).1):∃ a0:PV,∃ a1:List UInt8,args=[a0,.str a1]/\p a0 a1:=by
 unfold on_ps at h
 split at h
 · exact ⟨_,_,rfl,h⟩
 · exact h.elim
def on_pi (p:PV->Int->Prop) (f:PV->Int->PV):PSpec
 | [a0,.int .i64 a1]=>(p a0 a1,f a0 a1)
 | _=>(False,default)
theorem on_pi_eq {p:PV->Int->Prop} {f:PV->Int->PV} {a0:PV} {a1:Int}:on_pi p f [a0,.int .i64 a1]=(p a0 a1,f a0 a1):=rfl
theorem on_pi_inv {p:PV->Int->Prop} {f:PV->Int->PV} {args:List PV} (h:(on_pi p f args).1):∃ a0:PV,∃ a1:Int,args=[a0,.int .i64 a1]/\p a0 a1:=by
 unfold on_pi at h
 split at h
 · exact ⟨_,_,rfl,h⟩
 · exact h.elim
def on_lpp (p:List PV->PV->PV->Prop) (f:List PV->PV->PV->PV):PSpec
 | [.sl a0,a1,a2]=>(p a0 a1 a2,f a0 a1 a2)
 | _=>(False,default)
theorem on_lpp_eq {p:List PV->PV->PV->Prop} {f:List PV->PV->PV->PV} {a0:List PV} {a1:PV} {a2:PV}:on_lpp p f [.sl a0,a1,a2]=(p a0 a1 a2,f a0 a1 a2):=rfl
theorem on_lpp_inv {p:List PV->PV->PV->Prop} {f:List PV->PV->PV->PV} {args:List PV} (h:(on_lpp p f args).1):∃ a0:List PV,∃ a1:PV,∃ a2:PV,args=[.sl a0,a1,a2]/\p a0 a1 a2:=by
 unfold on_lpp at h
 split at h
 · exact ⟨_,_,_,rfl,h⟩
 · exact h.elim
def amg (a b c:Int):Bool:=decide (b<=a)&&decide (a<=c)
noncomputable def amongBS:PSpec:=on_iii (fun _ _ _=>True) (fun a b c=>.bool (amg a b c))
theorem w_amongBS:PSound GG 130 amongBS:=by
 refine PSound.of_wpc (C:=cxP Tryz.prog Ξ0 [] 15) (T:=plan0) Tryz.func130 rfl rfl rfl (Fit.pure (G:=GG) hΞ0 mixed) (fun args h=>?_)
 unfold amongBS at h
 obtain ⟨a,b,c,rfl,hp⟩:=on_iii_inv h
 refine ⟨by simp [cxP],?_⟩
 simp only [amongBS,on_iii_eq,Tryz.f130,argL,plan0]
 simp only [go_sem,↓reduceIte,reduceCtorEq,Nat.reduceEqDiff,Nat.reduceLT,Nat.reduceAdd]
 rfl
def vldM (n:Int):Bool:=decide (0<=n)&&decide (n<=1000000000000)
noncomputable def validMS:PSpec:=on_i (fun _=>True) (fun n=>.bool (vldM n))
theorem w_validMS:PSound GG 71 validMS:=by
 refine PSound.of_wpc (C:=cxP Tryz.prog Ξ0 [] 9) (T:=plan0) Tryz.func71 rfl rfl rfl (Fit.pure (G:=GG) hΞ0 mixed) (fun args h=>?_)
 unfold validMS at h
 obtain ⟨n,rfl,hp⟩:=on_i_inv h
 refine ⟨by simp [cxP],?_⟩
 simp only [validMS,on_i_eq,Tryz.f71,argL,plan0]
 simp only [go_sem,↓reduceIte,reduceCtorEq,Nat.reduceEqDiff,Nat.reduceLT]
 rfl
noncomputable def B1 (g:FuncId):PSpec:=(putΦ (putΦ Ξ0 130 amongBS) 71 validMS) g
theorem hB1:TabSound GG B1:=((hΞ0.put w_amongBS).put w_validMS)
noncomputable def dayBS:PSpec:=on_i (fun _=>True) (fun n=>.bool (amg n 0 35990))
theorem k_dayBS_130 {args:List PV}:B1 130 args=amongBS args:=rfl
theorem w_dayBS:PSound GG 139 dayBS:=by
 refine PSound.of_wpc (C:=cxP Tryz.prog B1 [] 5) (T:=plan0) Tryz.func139 rfl rfl rfl (Fit.pure (G:=GG) hB1 mixed) (fun args h=>?_)
 unfold dayBS at h
 obtain ⟨n,rfl,hp⟩:=on_i_inv h
 refine ⟨by simp [cxP],?_⟩
 simp only [dayBS,on_i_eq,Tryz.f139,argL,plan0]
 simp only [k_dayBS_130,amongBS,on_iii_eq,go_sem,↓reduceIte,reduceCtorEq,Nat.reduceLT]
noncomputable def numberBS:PSpec:=on_i (fun _=>True) (fun n=>.bool (amg n 1 1000000))
theorem k_numberBS_130 {args:List PV}:B1 130 args=amongBS args:=rfl
theorem w_numberBS:PSound GG 140 numberBS:=by
 refine PSound.of_wpc (C:=cxP Tryz.prog B1 [] 5) (T:=plan0) Tryz.func140 rfl rfl rfl (Fit.pure (G:=GG) hB1 mixed) (fun args h=>?_)
 unfold numberBS at h
 obtain ⟨n,rfl,hp⟩:=on_i_inv h
 refine ⟨by simp [cxP],?_⟩
 simp only [numberBS,on_i_eq,Tryz.f140,argL,plan0]
 simp only [k_numberBS_130,amongBS,on_iii_eq,go_sem,↓reduceIte,reduceCtorEq,Nat.reduceLT]
def ixT (s:List UInt8):List (List UInt8)->Int->Int
 | [],_=> -1
 | c::r,i=>bif s == c then i else ixT s r (i+1)
theorem ixT_has (s:List UInt8):∀ (l:List (List UInt8)) (i:Int),0<=i->decide (0<=ixT s l i)=l.contains s
 | [],_,_=>rfl
 | c::r,i,h=>by
   unfold ixT
   rw [List.contains_cons]
   cases s == c with
   | true=>simp [h]
   | false=>simpa using ixT_has s r (i+1) (by omega)
noncomputable def indexS:PSpec:=on_ls (fun es _=>(∃ l:List (List UInt8),es=l.map PV.str)/\es.length<=1000000) (fun es s=>.int .i64 (ixT s (es.map sOf) 0))
theorem w_indexS:PSound GG 164 indexS:=by
 refine PSound.of_wpc (C:=cxP Tryz.prog B1 [] 19) (T:=plan0) Tryz.func164 rfl rfl rfl (Fit.pure (G:=GG) hB1 mixed) (fun args h=>?_)
 unfold indexS at h
 obtain ⟨es,s,rfl,hp⟩:=on_ls_inv h
 refine ⟨by simp [cxP],?_⟩
 simp only [indexS,on_ls_eq,Tryz.f164,argL,plan0]
 obtain ⟨⟨l,rfl⟩,hl⟩:=hp
 rw [List.length_map] at hl
 simp only [map_sOf,List.length_map,go_sem,↓reduceIte,reduceCtorEq,Nat.reduceLT]
 refine AWp.loop (T:=plan0) (α:=Nat) (fun i=>([(0,.pv (.sl (l.map PV.str))),(1,.pv (.str s)),(7,.pv (.int .i64 l.length)),(8,.pv (.int .i64 i))],[])) (fun i=>i<=l.length/\ixT s (l.drop i) i=ixT s l 0) (fun i=>l.length-i)
  ⟨0,⟨Nat.zero_le _,rfl⟩,⟨by simp [fitR,look],trivial,rfl,rfl,rfl⟩⟩ ?_
 rintro i ⟨h1,h2⟩
 have hi1:IntKind.i64.wrap ((i:Int)+1)=((i+1:Nat):Int):=by rw [i64_in _ (by omega)];omega
 by_cases hlt:i<l.length
 · have c0:decide ((i:Int)<(l.length:Int))=true:=by simp;omega
   have hg:=getD_strs hlt
   have hd:l.drop i=l.getD i []::l.drop (i+1):=by rw [List.drop_eq_getElem_cons hlt];simp [List.getD_eq_getElem?_getD,hlt]
   rw [hd,ixT] at h2
   simp only [c0,hg,hi1,List.length_map,plan0,go_sem,↓reduceIte,reduceCtorEq,Nat.reduceEqDiff,Nat.reduceLT,Nat.reduceLeDiff]
   and_intros
   all_goals try first | omega | trivial
   · intro h9
     rw [h9,cond_true] at h2
     rw [<- h2]
   · intro h9
     rw [h9,cond_false] at h2
     exact ⟨i+1,⟨by omega,by rw [<- h2];simp⟩,by omega,⟨by simp [fitR,look],trivial,rfl,rfl,rfl⟩⟩
 · have c0:decide ((i:Int)<(l.length:Int))=false:=by simp;omega
   rw [List.drop_eq_nil_of_le (by omega),ixT] at h2
   simp only [c0,List.length_map,plan0,go_sem,↓reduceIte,reduceCtorEq,Nat.reduceEqDiff,Nat.reduceLT]
   rw [<- h2]
noncomputable def B2 (g:FuncId):PSpec:=(putΦ (putΦ (putΦ B1 139 dayBS) 140 numberBS) 164 indexS) g
theorem hB2:TabSound GG B2:=(((hB1.put w_dayBS).put w_numberBS).put w_indexS)
noncomputable def containsS:PSpec:=on_ls (fun es _=>(∃ l:List (List UInt8),es=l.map PV.str)/\es.length<=1000000) (fun es s=>.bool ((es.map sOf).contains s))
theorem k_containsS_164 {args:List PV}:B2 164 args=indexS args:=rfl
theorem w_containsS:PSound GG 149 containsS:=by
 refine PSound.of_wpc (C:=cxP Tryz.prog B2 [] 9) (T:=plan0) Tryz.func149 rfl rfl rfl (Fit.pure (G:=GG) hB2 mixed) (fun args h=>?_)
 unfold containsS at h
 obtain ⟨es,s,rfl,hp⟩:=on_ls_inv h
 refine ⟨by simp [cxP],?_⟩
 simp only [containsS,on_ls_eq,Tryz.f149,argL,plan0]
 simp only [k_containsS_164,indexS,on_ls_eq,go_sem,↓reduceIte,reduceCtorEq,Nat.reduceEqDiff,Nat.reduceLT]
 rw [ixT_has _ _ _ (by decide)]
 exact ⟨hp,rfl⟩
noncomputable def orS:PSpec:=on_l (fun es=>∃ l:List Int,es=l.map intV/\l.length<=1000000000000) (fun es=>.int .i64 (orF (es.map nOf)))
theorem w_orS:PSound GG 63 orS:=by
 refine PSound.of_wpc (C:=cxP Tryz.prog B2 [] 18) (T:=plan0) Tryz.func63 rfl rfl rfl (Fit.pure (G:=GG) hB2 mixed) (fun args h=>?_)
 unfold orS at h
 obtain ⟨es,rfl,hp⟩:=on_l_inv h
 refine ⟨by simp [cxP],?_⟩
 simp only [orS,on_l_eq,Tryz.f63,argL,plan0]
 obtain ⟨l,rfl,hl⟩:=hp
 have hn:∀ l:List Int,(l.map intV).map nOf=l:=fun l=>by simp [List.map_map,Function.comp_def,nOf,intV]
 simp only [hn,List.length_map,go_sem,↓reduceIte,reduceCtorEq,Nat.reduceLT]
 refine AWp.loop (T:=plan0) (α:=Nat) (fun i=>([(3,.pv (.int .i64 0)),(6,.pv (.sl (l.map intV))),(7,.pv (.int .i64 l.length)),(8,.pv (.int .i64 i))],[])) (fun i=>i<=l.length/\orF (l.drop i)=orF l) (fun i=>l.length-i)
  ⟨0,⟨Nat.zero_le _,rfl⟩,⟨by simp [fitR,look],trivial,rfl,rfl,rfl⟩⟩ ?_
 rintro i ⟨h1,h2⟩
 have hi1:IntKind.i64.wrap ((i:Int)+1)=((i+1:Nat):Int):=by rw [i64_in _ (by omega)];omega
 by_cases hlt:i<l.length
 · have c0:decide ((i:Int)<(l.length:Int))=true:=by simp;omega
   have k1:=getD_intV hlt
   rw [List.drop_eq_getElem_cons hlt,orF] at h2
   have e2:l.getD i 0=l[i]:=by simp [List.getD_eq_getElem?_getD,hlt]
   rw [e2] at k1
   simp only [c0,k1,hi1,List.length_map,plan0,go_sem,↓reduceIte,reduceCtorEq,Nat.reduceEqDiff,Nat.reduceLT,Nat.reduceLeDiff]
   refine ⟨⟨by omega,by omega⟩,fun h3=>?_,fun h3=>⟨i+1,⟨by omega,?_⟩,by omega,⟨by simp [fitR,look],trivial,rfl,rfl,rfl⟩⟩⟩
   · rw [h3] at h2;rw [<- h2];rfl
   · rw [h3] at h2;exact h2
 · have c0:decide ((i:Int)<(l.length:Int))=false:=by simp;omega
   rw [List.drop_eq_nil_of_le (by omega)] at h2
   simp only [c0,List.length_map,plan0,go_sem,↓reduceIte,Nat.reduceEqDiff,Nat.reduceLT]
   rw [<- h2];rfl
noncomputable def orES:PSpec:=on_l (fun es=>∃ l:List Int,es=l.map intV/\l.length<=1000000000000) (fun es=>.int .i64 (orF (es.map nOf)))
theorem w_orES:PSound GG 91 orES:=by
 refine PSound.of_wpc (C:=cxP Tryz.prog B2 [] 18) (T:=plan0) Tryz.func91 rfl rfl rfl (Fit.pure (G:=GG) hB2 mixed) (fun args h=>?_)
 unfold orES at h
 obtain ⟨es,rfl,hp⟩:=on_l_inv h
 refine ⟨by simp [cxP],?_⟩
 simp only [orES,on_l_eq,Tryz.f91,argL,plan0]
 obtain ⟨l,rfl,hl⟩:=hp
 have hn:∀ l:List Int,(l.map intV).map nOf=l:=fun l=>by simp [List.map_map,Function.comp_def,nOf,intV]
 simp only [hn,List.length_map,go_sem,↓reduceIte,reduceCtorEq,Nat.reduceLT]
 refine AWp.loop (T:=plan0) (α:=Nat) (fun i=>([(3,.pv (.int .i64 0)),(6,.pv (.sl (l.map intV))),(7,.pv (.int .i64 l.length)),(8,.pv (.int .i64 i))],[])) (fun i=>i<=l.length/\orF (l.drop i)=orF l) (fun i=>l.length-i)
  ⟨0,⟨Nat.zero_le _,rfl⟩,⟨by simp [fitR,look],trivial,rfl,rfl,rfl⟩⟩ ?_
 rintro i ⟨h1,h2⟩
 have hi1:IntKind.i64.wrap ((i:Int)+1)=((i+1:Nat):Int):=by rw [i64_in _ (by omega)];omega
 by_cases hlt:i<l.length
 · have c0:decide ((i:Int)<(l.length:Int))=true:=by simp;omega
   have k1:=getD_intV hlt
   rw [List.drop_eq_getElem_cons hlt,orF] at h2
   have e2:l.getD i 0=l[i]:=by simp [List.getD_eq_getElem?_getD,hlt]
   rw [e2] at k1
   simp only [c0,k1,hi1,List.length_map,plan0,go_sem,↓reduceIte,reduceCtorEq,Nat.reduceEqDiff,Nat.reduceLT,Nat.reduceLeDiff]
   refine ⟨⟨by omega,by omega⟩,fun h3=>?_,fun h3=>⟨i+1,⟨by omega,?_⟩,by omega,⟨by simp [fitR,look],trivial,rfl,rfl,rfl⟩⟩⟩
   · rw [h3] at h2;rw [<- h2];rfl
   · rw [h3] at h2;exact h2
 · have c0:decide ((i:Int)<(l.length:Int))=false:=by simp;omega
   rw [List.drop_eq_nil_of_le (by omega)] at h2
   simp only [c0,List.length_map,plan0,go_sem,↓reduceIte,Nat.reduceEqDiff,Nat.reduceLT]
   rw [<- h2];rfl
noncomputable def B3 (g:FuncId):PSpec:=(putΦ (putΦ (putΦ B2 149 containsS) 63 orS) 91 orES) g
theorem hB3:TabSound GG B3:=(((hB2.put w_containsS).put w_orS).put w_orES)
def isL3 (e:PV):Prop:=∃ s y m,e=.agg [.str s,.int .i64 y,.int .i64 m]/\s.length<=1000000000000
def isE3 (e:PV):Prop:=∃ s c p,e=.agg [.str s,.str c,.int .i64 p]/\s.length<=1000000000000/\c.length<=1000000000000
def isR4 (e:PV):Prop:=∃ n s c p,e=.agg [.int .i64 n,.str s,.str c,.int .i64 p]/\s.length<=1000000000000/\c.length<=1000000000000
def isC7 (e:PV):Prop:=∃ c y am k d s l,e=.agg [.str c,.int .i64 y,.int .i64 am,.int .i64 k,.int .i64 d,.str s,.int .i64 l]/\c.length<=1000000000000/\s.length<=1000000000000
def earC:PV->List UInt8
 | .agg [_,.str c,_]=>c
 | _=>[]
def earO (x y:PV):Int:=orF [cmpC (srcOf x) (srcOf y),cmpC (earC x) (earC y)]
def rulO (x y:PV):Int:=cmpI (ruN x) (ruN y)
def anyO (_ _:PV):Int:= -1
noncomputable def linesS:PSpec:=on_pp (fun a b=>isL3 a/\isL3 b) (fun a b=>.int .i64 (linO a b))
theorem k_linesS_63 {args:List PV}:B3 63 args=orS args:=rfl
theorem k_linesS_64 {args:List PV}:B3 64 args=cmpCS args:=rfl
theorem k_linesS_65 {args:List PV}:B3 65 args=cmpIS args:=rfl
theorem w_linesS:PSound GG 93 linesS:=by
 refine PSound.of_wpc (C:=cxP Tryz.prog B3 [] 17) (T:=plan0) Tryz.func93 rfl rfl rfl (Fit.pure (G:=GG) hB3 mixed) (fun args h=>?_)
 unfold linesS at h
 obtain ⟨p,q,rfl,hp⟩:=on_pp_inv h
 refine ⟨by simp [cxP],?_⟩
 simp only [linesS,on_pp_eq,Tryz.f93,argL,plan0]
 obtain ⟨⟨s,y,m,rfl,hs⟩,⟨s',y',m',rfl,hs'⟩⟩:=hp
 have e:linO (.agg [.str s,.int .i64 y,.int .i64 m]) (.agg [.str s',.int .i64 y',.int .i64 m'])=orF [cmpC s s',cmpI y y']:=rfl
 simp only [e,k_linesS_63,orS,on_l_eq,k_linesS_64,cmpCS,on_ss_eq,k_linesS_65,cmpIS,on_ii_eq,go_sem,↓reduceIte,reduceCtorEq,Nat.reduceEqDiff,Nat.reduceLT,Nat.reduceAdd,Nat.reduceLeDiff,Nat.reduceMul]
 exact ⟨by kernel_rfl,⟨hs,hs'⟩,⟨[cmpC s s',cmpI y y'],rfl,by simp⟩,rfl⟩
noncomputable def boundsS:PSpec:=on_pp (fun a b=>isL3 a/\isL3 b) (fun a b=>.int .i64 (linO a b))
theorem k_boundsS_63 {args:List PV}:B3 63 args=orS args:=rfl
theorem k_boundsS_64 {args:List PV}:B3 64 args=cmpCS args:=rfl
theorem k_boundsS_65 {args:List PV}:B3 65 args=cmpIS args:=rfl
theorem w_boundsS:PSound GG 96 boundsS:=by
 refine PSound.of_wpc (C:=cxP Tryz.prog B3 [] 17) (T:=plan0) Tryz.func96 rfl rfl rfl (Fit.pure (G:=GG) hB3 mixed) (fun args h=>?_)
 unfold boundsS at h
 obtain ⟨p,q,rfl,hp⟩:=on_pp_inv h
 refine ⟨by simp [cxP],?_⟩
 simp only [boundsS,on_pp_eq,Tryz.f96,argL,plan0]
 obtain ⟨⟨s,y,m,rfl,hs⟩,⟨s',y',m',rfl,hs'⟩⟩:=hp
 have e:linO (.agg [.str s,.int .i64 y,.int .i64 m]) (.agg [.str s',.int .i64 y',.int .i64 m'])=orF [cmpC s s',cmpI y y']:=rfl
 simp only [e,k_boundsS_63,orS,on_l_eq,k_boundsS_64,cmpCS,on_ss_eq,k_boundsS_65,cmpIS,on_ii_eq,go_sem,↓reduceIte,reduceCtorEq,Nat.reduceEqDiff,Nat.reduceLT,Nat.reduceAdd,Nat.reduceLeDiff,Nat.reduceMul]
 exact ⟨by kernel_rfl,⟨hs,hs'⟩,⟨[cmpC s s',cmpI y y'],rfl,by simp⟩,rfl⟩
noncomputable def earmarksS:PSpec:=on_pp (fun a b=>isE3 a/\isE3 b) (fun a b=>.int .i64 (earO a b))
theorem k_earmarksS_63 {args:List PV}:B3 63 args=orS args:=rfl
theorem k_earmarksS_64 {args:List PV}:B3 64 args=cmpCS args:=rfl
theorem w_earmarksS:PSound GG 99 earmarksS:=by
 refine PSound.of_wpc (C:=cxP Tryz.prog B3 [] 17) (T:=plan0) Tryz.func99 rfl rfl rfl (Fit.pure (G:=GG) hB3 mixed) (fun args h=>?_)
 unfold earmarksS at h
 obtain ⟨p,q,rfl,hp⟩:=on_pp_inv h
 refine ⟨by simp [cxP],?_⟩
 simp only [earmarksS,on_pp_eq,Tryz.f99,argL,plan0]
 obtain ⟨⟨s,c,m,rfl,hs,hc⟩,⟨s',c',m',rfl,hs',hc'⟩⟩:=hp
 have e:earO (.agg [.str s,.str c,.int .i64 m]) (.agg [.str s',.str c',.int .i64 m'])=orF [cmpC s s',cmpC c c']:=rfl
 simp only [e,k_earmarksS_63,orS,on_l_eq,k_earmarksS_64,cmpCS,on_ss_eq,go_sem,↓reduceIte,reduceCtorEq,Nat.reduceEqDiff,Nat.reduceLT,Nat.reduceAdd,Nat.reduceLeDiff,Nat.reduceMul]
 exact ⟨by kernel_rfl,⟨hs,hs'⟩,⟨hc,hc'⟩,⟨[cmpC s s',cmpC c c'],rfl,by simp⟩,rfl⟩
noncomputable def rulesS:PSpec:=on_pp (fun a b=>isR4 a/\isR4 b) (fun a b=>.int .i64 (rulO a b))
theorem k_rulesS_65 {args:List PV}:B3 65 args=cmpIS args:=rfl
theorem w_rulesS:PSound GG 105 rulesS:=by
 refine PSound.of_wpc (C:=cxP Tryz.prog B3 [] 10) (T:=plan0) Tryz.func105 rfl rfl rfl (Fit.pure (G:=GG) hB3 mixed) (fun args h=>?_)
 unfold rulesS at h
 obtain ⟨p,q,rfl,hp⟩:=on_pp_inv h
 refine ⟨by simp [cxP],?_⟩
 simp only [rulesS,on_pp_eq,Tryz.f105,argL,plan0]
 obtain ⟨⟨n,s,c,m,rfl,hs,hc⟩,⟨n',s',c',m',rfl,hs',hc'⟩⟩:=hp
 have e:rulO (.agg [.int .i64 n,.str s,.str c,.int .i64 m]) (.agg [.int .i64 n',.str s',.str c',.int .i64 m'])=cmpI n n':=rfl
 simp only [e,k_rulesS_65,cmpIS,on_ii_eq,go_sem,↓reduceIte,reduceCtorEq,Nat.reduceEqDiff,Nat.reduceLT,Nat.reduceAdd,Nat.reduceLeDiff]
noncomputable def anyS:PSpec:=on_pp (fun a b=>isC7 a/\isC7 b) (fun a b=>.int .i64 (anyO a b))
theorem w_anyS:PSound GG 90 anyS:=by
 refine PSound.of_wpc (C:=cxP Tryz.prog B3 [] 5) (T:=plan0) Tryz.func90 rfl rfl rfl (Fit.pure (G:=GG) hB3 mixed) (fun args h=>?_)
 unfold anyS at h
 obtain ⟨p,q,rfl,hp⟩:=on_pp_inv h
 refine ⟨by simp [cxP],?_⟩
 simp only [anyS,on_pp_eq,Tryz.f90,argL,plan0]
 obtain ⟨⟨c,y,am,k,d,s,l,rfl,hs,hc⟩,⟨c',y',am',k',d',s',l',rfl,hs',hc'⟩⟩:=hp
 simp only [go_sem,↓reduceIte,reduceCtorEq,Nat.reduceEqDiff,Nat.reduceLT]
 rfl
noncomputable def B4 (g:FuncId):PSpec:=(putΦ (putΦ (putΦ (putΦ (putΦ B3 93 linesS) 96 boundsS) 99 earmarksS) 105 rulesS) 90 anyS) g
theorem hB4:TabSound GG B4:=(((((hB3.put w_linesS).put w_boundsS).put w_earmarksS).put w_rulesS).put w_anyS)
end Go.AM
namespace Go.AM
open Go Go.Proofs Go.IntWalk
attribute [local go_sem] Law.v List.take_nil List.take_succ_cons map_sOf
set_option maxRecDepth 100000
set_option maxHeartbeats 2000000
def chkV (first years:Int) (tree a b c d e f g lv:List PV):PV:=.agg [.int .i64 first,.int .i64 years,.sl tree,.sl a,.sl b,.sl c,.sl d,.sl e,.sl f,.sl g,.sl lv]
def ckV (L:Law) (lv:List (List UInt8)):PV:=chkV L.first L.years L.tree L.a L.b L.c L.d L.e L.f L.g (lv.map PV.str)
def lawO:PV->Law
 | .agg [.int _ f,.int _ y,.sl t,.sl a,.sl b,.sl c,.sl d,.sl e,.sl g,.sl h]=>⟨f,y,t,a,b,c,d,e,g,h⟩
 | _=>⟨0,0,[],[],[],[],[],[],[],[]⟩
theorem lawO_v (L:Law):lawO L.v=L:=rfl
def chkL:PV->Law
 | .agg [.int _ f,.int _ y,.sl t,.sl a,.sl b,.sl c,.sl d,.sl e,.sl g,.sl h,_]=>⟨f,y,t,a,b,c,d,e,g,h⟩
 | _=>⟨0,0,[],[],[],[],[],[],[],[]⟩
def chkLv:PV->List (List UInt8)
 | .agg [_,_,_,_,_,_,_,_,_,_,.sl lv]=>lv.map sOf
 | _=>[]
def isCk (k:PV):Prop:=∃ L lv,k=ckV L lv/\(∀ e,e∈L.tree->isH e)/\L.tree.length<=1000000/\lv.length<=1000000
noncomputable def leafCS:PSpec:=on_ps (fun k _=>isCk k) (fun k s=>.bool ((chkLv k).contains s))
theorem k_leafCS_149 {args:List PV}:B4 149 args=containsS args:=rfl
theorem w_leafCS:PSound GG 137 leafCS:=by
 refine PSound.of_wpc (C:=cxP Tryz.prog B4 [] 9) (T:=plan0) Tryz.func137 rfl rfl rfl (Fit.pure (G:=GG) hB4 mixed) (fun args h=>?_)
 unfold leafCS at h
 obtain ⟨k,s,rfl,hp⟩:=on_ps_inv h
 refine ⟨by simp [cxP],?_⟩
 simp only [leafCS,on_ps_eq,Tryz.f137,argL,plan0]
 obtain ⟨⟨fi,ye,tr,la,lb,lc,ld,le,lf,lg⟩,lv,rfl,q1,q2,q3⟩:=hp
 simp only [ckV,chkV,chkLv,k_leafCS_149,containsS,on_ls_eq,go_sem,↓reduceIte,reduceCtorEq,Nat.reduceEqDiff,Nat.reduceLT,Nat.reduceAdd,Nat.reduceLeDiff]
 exact ⟨⟨lv,rfl⟩,by rw [List.length_map];omega⟩
def inF (L:Law) (y:Int):Bool:=decide (L.first<=y)&&decide (IntKind.u64.wrap (IntKind.u64.wrap y-IntKind.u64.wrap L.first)<IntKind.u64.wrap (if (0:Int)>L.years then 0 else L.years))
noncomputable def inS:PSpec:=on_pi (fun l y=>∃ L:Law,l=L.v) (fun l y=>.bool (inF (lawO l) y))
theorem w_inS:PSound GG 117 inS:=by
 refine PSound.of_wpc (C:=cxP Tryz.prog B4 [] 22) (T:=plan0) Tryz.func117 rfl rfl rfl (Fit.pure (G:=GG) hB4 mixed) (fun args h=>?_)
 unfold inS at h
 obtain ⟨l,y,rfl,hp⟩:=on_pi_inv h
 refine ⟨by simp [cxP],?_⟩
 simp only [inS,on_pi_eq,Tryz.f117,argL,plan0]
 obtain ⟨⟨fi,ye,tr,la,lb,lc,ld,le,lf,lg⟩,rfl⟩:=hp
 simp only [lawO,lawV,inF,go_sem,↓reduceIte,reduceCtorEq,Nat.reduceEqDiff,Nat.reduceLT,Nat.reduceAdd,Nat.reduceLeDiff,PV.one,AV.one]
 rfl
def hasF (L:Law) (s:List UInt8):Bool:=L.tree.any (fun e=>hCode e == s)
noncomputable def hasBS:PSpec:=on_ps (fun l _=>∃ L:Law,l=L.v/\(∀ e,e∈L.tree->isH e)/\L.tree.length<=1000000) (fun l s=>.bool (hasF (lawO l) s))
theorem k_hasBS_159 {args:List PV}:B4 159 args=hasS args:=rfl
theorem w_hasBS:PSound GG 138 hasBS:=by
 refine PSound.of_wpc (C:=cxP Tryz.prog B4 [] 9) (T:=plan0) Tryz.func138 rfl rfl rfl (Fit.pure (G:=GG) hB4 mixed) (fun args h=>?_)
 unfold hasBS at h
 obtain ⟨l,s,rfl,hp⟩:=on_ps_inv h
 refine ⟨by simp [cxP],?_⟩
 simp only [hasBS,on_ps_eq,Tryz.f138,argL,plan0]
 obtain ⟨⟨fi,ye,tr,la,lb,lc,ld,le,lf,lg⟩,rfl,q1,q2⟩:=hp
 simp only [lawO,lawV,hasF,k_hasBS_159,hasS,on_ls_eq,go_sem,↓reduceIte,reduceCtorEq,Nat.reduceEqDiff,Nat.reduceLT,Nat.reduceAdd,Nat.reduceLeDiff]
 exact ⟨q1,by simp only at q2;omega⟩
noncomputable def B5 (g:FuncId):PSpec:=(putΦ (putΦ (putΦ B4 137 leafCS) 117 inS) 138 hasBS) g
theorem hB5:TabSound GG B5:=(((hB4.put w_leafCS).put w_inS).put w_hasBS)
def lineE (L:Law) (lv:List (List UInt8)):PV->Int
 | .agg [.str s,.int _ y,.int _ m]=>bif !lv.contains s then 5 else bif !inF L y then 16 else bif !vldM m then 2 else 0
 | _=>0
noncomputable def lineS:PSpec:=on_pp (fun k x=>isCk k/\isL3 x) (fun k x=>.int .i64 (lineE (chkL k) (chkLv k) x))
theorem k_lineS_71 {args:List PV}:B5 71 args=validMS args:=rfl
theorem k_lineS_117 {args:List PV}:B5 117 args=inS args:=rfl
theorem k_lineS_137 {args:List PV}:B5 137 args=leafCS args:=rfl
theorem w_lineS:PSound GG 94 lineS:=by
 refine PSound.of_wpc (C:=cxP Tryz.prog B5 [] 23) (T:=plan0) Tryz.func94 rfl rfl rfl (Fit.pure (G:=GG) hB5 mixed) (fun args h=>?_)
 unfold lineS at h
 obtain ⟨k,x,rfl,hp⟩:=on_pp_inv h
 refine ⟨by simp [cxP],?_⟩
 simp only [lineS,on_pp_eq,Tryz.f94,argL,plan0]
 obtain ⟨⟨⟨fi,ye,tr,la,lb,lc,ld,le,lf,lg⟩,lv,rfl,q1,q2,q3⟩,⟨s,y,m,rfl,hs⟩⟩:=hp
 simp only [ckV,chkV,chkL,chkLv,lawO,lawV,lineE,k_lineS_71,validMS,on_i_eq,k_lineS_117,inS,on_pi_eq,k_lineS_137,leafCS,on_ps_eq,go_sem,↓reduceIte,reduceCtorEq,Nat.reduceEqDiff,Nat.reduceLT,Nat.reduceAdd,Nat.reduceLeDiff,List.forall_mem_cons,List.not_mem_nil,PV.one,AV.one]
 repeat' (first | (intro _) | (with_reducible refine And.intro ?_ ?_))
 all_goals try first
  | exact ⟨⟨fi,ye,tr,la,lb,lc,ld,le,lf,lg⟩,lv,rfl,q1,q2,q3⟩ | exact ⟨⟨fi,ye,tr,la,lb,lc,ld,le,lf,lg⟩,rfl,q1,q2⟩ | exact ⟨⟨fi,ye,tr,la,lb,lc,ld,le,lf,lg⟩,rfl⟩
  | trivial | omega | rfl | (show checkD _ _ _=true;kernel_rfl)
  | (simp only [*,cond_true,cond_false];done)
  | (simp_all;done)
def boundE (L:Law):PV->Int
 | .agg [.str s,.int _ y,.int _ m]=>bif !hasF L s then 5 else bif (y != -1&&!inF L y) then 16 else bif !vldM m then 2 else 0
 | _=>0
noncomputable def boundS:PSpec:=on_pp (fun k x=>isCk k/\isL3 x) (fun k x=>.int .i64 (boundE (chkL k) x))
theorem k_boundS_71 {args:List PV}:B5 71 args=validMS args:=rfl
theorem k_boundS_117 {args:List PV}:B5 117 args=inS args:=rfl
theorem k_boundS_138 {args:List PV}:B5 138 args=hasBS args:=rfl
theorem w_boundS:PSound GG 97 boundS:=by
 refine PSound.of_wpc (C:=cxP Tryz.prog B5 [] 29) (T:=plan0) Tryz.func97 rfl rfl rfl (Fit.pure (G:=GG) hB5 mixed) (fun args h=>?_)
 unfold boundS at h
 obtain ⟨k,x,rfl,hp⟩:=on_pp_inv h
 refine ⟨by simp [cxP],?_⟩
 simp only [boundS,on_pp_eq,Tryz.f97,argL,plan0]
 obtain ⟨⟨⟨fi,ye,tr,la,lb,lc,ld,le,lf,lg⟩,lv,rfl,q1,q2,q3⟩,⟨s,y,m,rfl,hs⟩⟩:=hp
 simp only [ckV,chkV,chkL,lawO,lawV,boundE,k_boundS_71,validMS,on_i_eq,k_boundS_117,inS,on_pi_eq,k_boundS_138,hasBS,on_ps_eq,go_sem,↓reduceIte,reduceCtorEq,Nat.reduceEqDiff,Nat.reduceLT,Nat.reduceAdd,Nat.reduceLeDiff,ev_callG,List.forall_mem_cons,List.not_mem_nil,PV.one,AV.one]
 repeat' (first | (intro _) | (with_reducible refine And.intro ?_ ?_))
 all_goals try first
  | exact ⟨⟨fi,ye,tr,la,lb,lc,ld,le,lf,lg⟩,lv,rfl,q1,q2,q3⟩ | exact ⟨⟨fi,ye,tr,la,lb,lc,ld,le,lf,lg⟩,rfl,q1,q2⟩ | exact ⟨⟨fi,ye,tr,la,lb,lc,ld,le,lf,lg⟩,rfl⟩
  | trivial | omega | rfl | (show checkD _ _ _=true;kernel_rfl)
  | (simp only [*,cond_true,cond_false];done)
  | (simp_all;done)
def earmarkE (L:Law) (lv:List (List UInt8)):PV->Int
 | .agg [.str s,.str c,.int _ p]=>bif (!hasF L s||!lv.contains c) then 5 else bif !amg p 0 100 then 2 else 0
 | _=>0
noncomputable def earmarkS:PSpec:=on_pp (fun k x=>isCk k/\isE3 x) (fun k x=>.int .i64 (earmarkE (chkL k) (chkLv k) x))
theorem k_earmarkS_130 {args:List PV}:B5 130 args=amongBS args:=rfl
theorem k_earmarkS_137 {args:List PV}:B5 137 args=leafCS args:=rfl
theorem k_earmarkS_138 {args:List PV}:B5 138 args=hasBS args:=rfl
theorem w_earmarkS:PSound GG 100 earmarkS:=by
 refine PSound.of_wpc (C:=cxP Tryz.prog B5 [] 24) (T:=plan0) Tryz.func100 rfl rfl rfl (Fit.pure (G:=GG) hB5 mixed) (fun args h=>?_)
 unfold earmarkS at h
 obtain ⟨k,x,rfl,hp⟩:=on_pp_inv h
 refine ⟨by simp [cxP],?_⟩
 simp only [earmarkS,on_pp_eq,Tryz.f100,argL,plan0]
 obtain ⟨⟨⟨fi,ye,tr,la,lb,lc,ld,le,lf,lg⟩,lv,rfl,q1,q2,q3⟩,⟨s,c,p,rfl,hs,hc⟩⟩:=hp
 simp only [ckV,chkV,chkL,chkLv,lawO,lawV,earmarkE,k_earmarkS_130,amongBS,on_iii_eq,k_earmarkS_137,leafCS,on_ps_eq,k_earmarkS_138,hasBS,go_sem,↓reduceIte,reduceCtorEq,Nat.reduceEqDiff,Nat.reduceLT,Nat.reduceAdd,Nat.reduceLeDiff,ev_callG,List.forall_mem_cons,List.not_mem_nil,PV.one,AV.one]
 repeat' (first | (intro _) | (with_reducible refine And.intro ?_ ?_))
 all_goals try first
  | exact ⟨⟨fi,ye,tr,la,lb,lc,ld,le,lf,lg⟩,lv,rfl,q1,q2,q3⟩ | exact ⟨⟨fi,ye,tr,la,lb,lc,ld,le,lf,lg⟩,rfl,q1,q2⟩ | exact ⟨⟨fi,ye,tr,la,lb,lc,ld,le,lf,lg⟩,rfl⟩
  | trivial | omega | rfl | (show checkD _ _ _=true;kernel_rfl)
  | (simp only [*,cond_true,cond_false];done)
  | (simp_all;done)
def condE (L:Law) (lv:List (List UInt8)):PV->Int
 | .agg [.str c,.int _ y,.int _ am,.int _ k,.int _ d,.str s,.int _ l]=>
   bif (!amg k 1 2||(k == 2&&d != 0)||(!(k == 2)&&(!(s == [])||l != 0))) then 1 else bif (!lv.contains c||(k == 2&&!hasF L s)) then 5 else bif !inF L y then 16 else
   bif (!vldM am||!vldM l||!amg d 0 35990) then 2 else 0
 | _=>0
noncomputable def condCS:PSpec:=on_pp (fun k x=>isCk k/\isC7 x) (fun k x=>.int .i64 (condE (chkL k) (chkLv k) x))
theorem k_condCS_71 {args:List PV}:B5 71 args=validMS args:=rfl
theorem k_condCS_117 {args:List PV}:B5 117 args=inS args:=rfl
theorem k_condCS_130 {args:List PV}:B5 130 args=amongBS args:=rfl
theorem k_condCS_137 {args:List PV}:B5 137 args=leafCS args:=rfl
theorem k_condCS_138 {args:List PV}:B5 138 args=hasBS args:=rfl
theorem k_condCS_139 {args:List PV}:B5 139 args=dayBS args:=rfl
theorem w_condCS:PSound GG 103 condCS:=by
 refine PSound.of_wpc (C:=cxP Tryz.prog B5 [] 73) (T:=plan0) Tryz.func103 rfl rfl rfl (Fit.pure (G:=GG) hB5 mixed) (fun args h=>?_)
 unfold condCS at h
 obtain ⟨k,x,rfl,hp⟩:=on_pp_inv h
 refine ⟨by simp [cxP],?_⟩
 simp only [condCS,on_pp_eq,Tryz.f103,argL,plan0]
 obtain ⟨⟨⟨fi,ye,tr,la,lb,lc,ld,le,lf,lg⟩,lv,rfl,q1,q2,q3⟩,⟨c,y,am,kd,d,s,l,rfl,hc,hs⟩⟩:=hp
 simp only [ckV,chkV,chkL,chkLv,lawO,lawV,condE,k_condCS_71,validMS,on_i_eq,k_condCS_117,inS,on_pi_eq,k_condCS_130,amongBS,on_iii_eq,k_condCS_137,leafCS,on_ps_eq,k_condCS_138,hasBS,k_condCS_139,dayBS,go_sem,↓reduceIte,reduceCtorEq,Nat.reduceEqDiff,Nat.reduceLT,Nat.reduceAdd,Nat.reduceLeDiff,ev_callG,List.forall_mem_cons,List.not_mem_nil,PV.one,AV.one]
 repeat' (first | (intro _) | (with_reducible refine And.intro ?_ ?_))
 all_goals try first
  | exact ⟨⟨fi,ye,tr,la,lb,lc,ld,le,lf,lg⟩,lv,rfl,q1,q2,q3⟩ | exact ⟨⟨fi,ye,tr,la,lb,lc,ld,le,lf,lg⟩,rfl,q1,q2⟩ | exact ⟨⟨fi,ye,tr,la,lb,lc,ld,le,lf,lg⟩,rfl⟩
  | trivial | omega | rfl | (show checkD _ _ _=true;kernel_rfl)
  | (simp only [*,Bool.true_or,Bool.or_true,Bool.or_false,Bool.true_and,Bool.and_true,cond_true,cond_false];done)
  | (simp_all;done)
def ruleE (L:Law):PV->Int
 | .agg [.int _ n,.str s,.str c,.int _ p]=>bif (!amg n 1 1000000||!amg p 0 100) then 2 else bif (!hasF L s||!hasF L c) then 5 else 0
 | _=>0
noncomputable def ruleCS:PSpec:=on_pp (fun k x=>isCk k/\isR4 x) (fun k x=>.int .i64 (ruleE (chkL k) x))
theorem k_ruleCS_130 {args:List PV}:B5 130 args=amongBS args:=rfl
theorem k_ruleCS_138 {args:List PV}:B5 138 args=hasBS args:=rfl
theorem k_ruleCS_140 {args:List PV}:B5 140 args=numberBS args:=rfl
theorem w_ruleCS:PSound GG 106 ruleCS:=by
 refine PSound.of_wpc (C:=cxP Tryz.prog B5 [] 31) (T:=plan0) Tryz.func106 rfl rfl rfl (Fit.pure (G:=GG) hB5 mixed) (fun args h=>?_)
 unfold ruleCS at h
 obtain ⟨k,x,rfl,hp⟩:=on_pp_inv h
 refine ⟨by simp [cxP],?_⟩
 simp only [ruleCS,on_pp_eq,Tryz.f106,argL,plan0]
 obtain ⟨⟨⟨fi,ye,tr,la,lb,lc,ld,le,lf,lg⟩,lv,rfl,q1,q2,q3⟩,⟨n,s,c,p,rfl,hs,hc⟩⟩:=hp
 simp only [ckV,chkV,chkL,lawO,lawV,ruleE,k_ruleCS_130,amongBS,on_iii_eq,k_ruleCS_138,hasBS,on_ps_eq,k_ruleCS_140,numberBS,on_i_eq,go_sem,↓reduceIte,reduceCtorEq,Nat.reduceEqDiff,Nat.reduceLT,Nat.reduceAdd,Nat.reduceLeDiff,ev_callG,List.forall_mem_cons,List.not_mem_nil,PV.one,AV.one]
 repeat' (first | (intro _) | (with_reducible refine And.intro ?_ ?_))
 all_goals try first
  | exact ⟨⟨fi,ye,tr,la,lb,lc,ld,le,lf,lg⟩,lv,rfl,q1,q2,q3⟩ | exact ⟨⟨fi,ye,tr,la,lb,lc,ld,le,lf,lg⟩,rfl,q1,q2⟩ | exact ⟨⟨fi,ye,tr,la,lb,lc,ld,le,lf,lg⟩,rfl⟩
  | trivial | omega | rfl | (show checkD _ _ _=true;kernel_rfl)
  | (simp only [*,cond_true,cond_false];done)
  | (simp_all;done)
def isX4 (e:PV):Prop:=∃ k c y m,e=.agg [.int .i64 k,.str c,.int .i64 y,.int .i64 m]/\c.length<=1000000000000
def changeE (L:Law) (lv:List (List UInt8)):PV->Int
 | .agg [.int _ k,.str c,.int _ y,.int _ m]=>bif !amg k 1 3 then 1 else bif (!hasF L c||(k == 1&&!lv.contains c)) then 5 else bif (!inF L y&&(k == 1||y != -1)) then 16 else
   bif (!vldM m&&(k != 2||m != -1)) then 2 else 0
 | _=>0
noncomputable def changeS:PSpec:=on_pp (fun k x=>isCk k/\isX4 x) (fun k x=>.int .i64 (changeE (chkL k) (chkLv k) x))
theorem k_changeS_71 {args:List PV}:B5 71 args=validMS args:=rfl
theorem k_changeS_117 {args:List PV}:B5 117 args=inS args:=rfl
theorem k_changeS_130 {args:List PV}:B5 130 args=amongBS args:=rfl
theorem k_changeS_137 {args:List PV}:B5 137 args=leafCS args:=rfl
theorem k_changeS_138 {args:List PV}:B5 138 args=hasBS args:=rfl
theorem w_changeS:PSound GG 144 changeS:=by
 refine PSound.of_wpc (C:=cxP Tryz.prog B5 [] 61) (T:=plan0) Tryz.func144 rfl rfl rfl (Fit.pure (G:=GG) hB5 mixed) (fun args h=>?_)
 unfold changeS at h
 obtain ⟨k,x,rfl,hp⟩:=on_pp_inv h
 refine ⟨by simp [cxP],?_⟩
 simp only [changeS,on_pp_eq,Tryz.f144,argL,plan0]
 obtain ⟨⟨⟨fi,ye,tr,la,lb,lc,ld,le,lf,lg⟩,lv,rfl,q1,q2,q3⟩,⟨kd,c,y,m,rfl,hc⟩⟩:=hp
 simp only [ckV,chkV,chkL,chkLv,lawO,lawV,changeE,k_changeS_71,validMS,on_i_eq,k_changeS_117,inS,on_pi_eq,k_changeS_130,amongBS,on_iii_eq,k_changeS_137,leafCS,on_ps_eq,k_changeS_138,hasBS,go_sem,↓reduceIte,reduceCtorEq,Nat.reduceEqDiff,Nat.reduceLT,Nat.reduceAdd,Nat.reduceLeDiff,ev_callG,List.forall_mem_cons,List.not_mem_nil,PV.one,AV.one]
 repeat' (first | (intro _) | (with_reducible refine And.intro ?_ ?_))
 all_goals try first
  | exact ⟨⟨fi,ye,tr,la,lb,lc,ld,le,lf,lg⟩,lv,rfl,q1,q2,q3⟩ | exact ⟨⟨fi,ye,tr,la,lb,lc,ld,le,lf,lg⟩,rfl,q1,q2⟩ | exact ⟨⟨fi,ye,tr,la,lb,lc,ld,le,lf,lg⟩,rfl⟩
  | trivial | omega | rfl | (show checkD _ _ _=true;kernel_rfl)
  | (simp only [*,Bool.not_false,Bool.and_true,cond_true,cond_false];done)
  | (simp_all;done)
noncomputable def B6 (g:FuncId):PSpec:=(putΦ (putΦ (putΦ (putΦ (putΦ (putΦ B5 94 lineS) 97 boundS) 100 earmarkS) 103 condCS) 106 ruleCS) 144 changeS) g
theorem hB6:TabSound GG B6:=((((((hB5.put w_lineS).put w_boundS).put w_earmarkS).put w_condCS).put w_ruleCS).put w_changeS)
end Go.AM
