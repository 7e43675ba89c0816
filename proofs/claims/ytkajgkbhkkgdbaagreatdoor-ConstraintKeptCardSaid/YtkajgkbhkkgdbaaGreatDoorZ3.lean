/-
  A part of a proof.
-/
import Derived.Test.YtkajgkbhkkgdbaaGreatDoorY8c
set_option linter.unusedSimpArgs false
set_option linter.unusedVariables false
namespace Go.AM
open Go Go.Proofs Go.IntWalk
set_option maxRecDepth 100000
set_option maxHeartbeats 2000000
noncomputable def D0 (g:FuncId):PSpec:=(putΦ C0 45 validGS) g
theorem hD0:TabSound GG D0:=(hC0.put w_validGS)
noncomputable def totS:PSpec:=on_i (fun _=>True) (fun n=>.bool (totB n))
theorem w_totS:PSound GG 160 totS:=by
 refine PSound.of_wpc (C:=cxP Tryz.prog D0 [] 9) (T:=plan0) Tryz.func160 rfl rfl rfl (Fit.pure (G:=GG) hD0 mixed) (fun args h=>?_)
 unfold totS at h
 obtain ⟨n,rfl,hp⟩:=on_i_inv h
 refine ⟨by simp [cxP],?_⟩
 simp only [totS,on_i_eq,Tryz.f160,argL,plan0]
 simp only [go_sem,↓reduceIte,reduceCtorEq,Nat.reduceEqDiff,Nat.reduceLT]
 rfl
noncomputable def D1 (g:FuncId):PSpec:=(putΦ D0 160 totS) g
theorem hD1:TabSound GG D1:=(hD0.put w_totS)
def msF:List Int->Int->Int × Int
 | [],acc=>(acc,0)
 | x::r,acc=>bif !totB x||!totB (IntKind.i64.wrap (acc+x)) then (0,2) else msF r (IntKind.i64.wrap (acc+x))
noncomputable def msS:PSpec:=on_l (fun es=>allI es/\es.length<=4611686018427387904) (fun es=>.tup [.int .i64 (msF (es.map nOf) 0).1,.int .i64 (msF (es.map nOf) 0).2])
theorem k_msS_160 {args:List PV}:D1 160 args=totS args:=rfl
theorem w_msS:PSound GG 145 msS:=by
 refine PSound.of_wpc (C:=cxP Tryz.prog D1 [] 28) (T:=plan0) Tryz.func145 rfl rfl rfl (Fit.pure (G:=GG) hD1 mixed) (fun args h=>?_)
 unfold msS at h
 obtain ⟨es,rfl,hp⟩:=on_l_inv h
 refine ⟨by simp [cxP],?_⟩
 simp only [msS,on_l_eq,Tryz.f145,argL,plan0]
 obtain ⟨⟨l,rfl⟩,hn⟩:=hp
 have hno:∀ l:List Int,(l.map intV).map nOf=l:=fun l=>by simp [List.map_map,Function.comp_def,nOf,intV]
 simp only [List.length_map] at hn
 simp only [hno,List.length_map,go_sem,↓reduceIte,reduceCtorEq,Nat.reduceLT]
 refine AWp.loop (T:=plan0) (α:=Nat × Int) (fun x=>([(4,.pv (.int .i64 x.2)),(7,.pv (.sl (l.map intV))),(8,.pv (.int .i64 l.length)),(9,.pv (.int .i64 x.1))],[])) (fun x=>x.1<=l.length/\msF (l.drop x.1) x.2=msF l 0) (fun x=>l.length-x.1)
  ⟨(0,0),⟨Nat.zero_le _,rfl⟩,⟨by simp [fitR,look],trivial,rfl,rfl,rfl⟩⟩ ?_
 rintro ⟨i,acc⟩ ⟨h1,h2⟩
 simp only at h1 h2
 have hi1:IntKind.i64.wrap ((i:Int)+1)=((i+1:Nat):Int):=by rw [i64_in _ (by omega)];omega
 by_cases hlt:i<l.length
 · have c0:decide ((i:Int)<(l.length:Int))=true:=by simp;omega
   have k1:=getD_intV hlt
   have d1:l.drop i=l.getD i 0::l.drop (i+1):=by rw [List.drop_eq_getElem_cons hlt];simp [List.getD_eq_getElem?_getD,hlt]
   rw [d1,msF] at h2
   generalize l.getD i 0=n at h2 k1
   simp only [c0,k1,hi1,List.length_map,k_msS_160,totS,on_i_eq,plan0,go_sem,↓reduceIte,reduceCtorEq,Nat.reduceEqDiff,Nat.reduceLT,Nat.reduceLeDiff]
   refine ⟨⟨by omega,by omega⟩,fun h9=>by simpa using h9,fun h9=>?_,fun h9=>⟨(i+1,IntKind.i64.wrap (acc+n)),⟨by simp only;omega,?_⟩,by simp only;omega,⟨by simp [fitR,look],trivial,rfl,rfl,rfl⟩⟩⟩
   · rw [h9,cond_true] at h2
     rw [<- h2]
   · rw [h9,cond_false] at h2
     exact h2
 · have c0:decide ((i:Int)<(l.length:Int))=false:=by simp;omega
   rw [List.drop_eq_nil_of_le (by omega),msF] at h2
   simp only [c0,plan0,go_sem,↓reduceIte,reduceCtorEq,Nat.reduceEqDiff,Nat.reduceLT]
   rw [<- h2]
noncomputable def D2 (g:FuncId):PSpec:=(putΦ D1 145 msS) g
theorem hD2:TabSound GG D2:=(hD1.put w_msS)
def pkF (code:List UInt8) (yr:Int):PV->Bool
 | .agg [.str c,.int _ y,_]=>(yr == -1||y == yr)&&(code == []||undC c code)
 | _=>false
def amF:PV->Int
 | .agg [_,_,.int _ a]=>a
 | _=>0
def smF (l:List PV) (code:List UInt8) (yr:Int):Int × Int:=msF ((l.filter (pkF code yr)).map amF) 0
def on_lsi (p:List PV->List UInt8->Int->Prop) (f:List PV->List UInt8->Int->PV):PSpec
 | [.sl a0,.str a1,.int .i64 a2]=>(p a0 a1 a2,f a0 a1 a2)
 | _=>(False,default)
theorem on_lsi_eq {p:List PV->List UInt8->Int->Prop} {f:List PV->List UInt8->Int->PV} {a0:List PV} {a1:List UInt8} {a2:Int}:on_lsi p f [.sl a0,.str a1,.int .i64 a2]=(p a0 a1 a2,f a0 a1 a2):=rfl
theorem on_lsi_inv {p:List PV->List UInt8->Int->Prop} {f:List PV->List UInt8->Int->PV} {args:List PV} (h:(on_lsi p f args).1):∃ a0:List PV,∃ a1:List UInt8,∃ a2:Int,args=[.sl a0,.str a1,.int .i64 a2]/\p a0 a1 a2:=by
 unfold on_lsi at h
 split at h
 · exact ⟨_,_,_,rfl,h⟩
 · exact h.elim
noncomputable def sumS:PSpec:=on_lsi (fun l c y=>(∀ e,e∈l->isL3 e)/\l.length<=1000000000000/\c.length<=1000000000000) (fun l c y=>.tup [.int .i64 (smF l c y).1,.int .i64 (smF l c y).2])
theorem k_sumS_136 {args:List PV}:D2 136 args=underCS args:=rfl
theorem k_sumS_145 {args:List PV}:D2 145 args=msS args:=rfl
theorem w_sumS:PSound GG 108 sumS:=by
 refine PSound.of_wpc (C:=cxP Tryz.prog D2 [] 45) (T:=plan0) Tryz.func108 rfl rfl rfl (Fit.pure (G:=GG) hD2 mixed) (fun args h=>?_)
 unfold sumS at h
 obtain ⟨l,code,yr,rfl,hp⟩:=on_lsi_inv h
 refine ⟨by simp [cxP],?_⟩
 simp only [sumS,on_lsi_eq,Tryz.f108,argL,plan0]
 obtain ⟨hl,hn,ht⟩:=hp
 have hno:∀ l:List Int,(l.map intV).map nOf=l:=fun l=>by simp [List.map_map,Function.comp_def,nOf,intV]
 simp only [go_sem,↓reduceIte,reduceCtorEq,Nat.reduceLT,Nat.reduceAdd]
 refine AWp.adoptS (s:=8) (κ:=8000) (k:=1) (by simp [look]) rfl (by decide) ?_
 refine AWp.loop (T:=plan0) (α:=Nat × List Int) (fun x=>([(1,.pv (.str code)),(2,.pv (.int .i64 yr)),(8,.rs 8000 x.2.length),(11,.pv (.sl l)),(12,.pv (.int .i64 l.length)),(13,.pv (.int .i64 x.1))],[(8000,.row 1 (x.2.map intV))]))
  (fun x=>x.1<=l.length/\x.2=((l.take x.1).filter (pkF code yr)).map amF) (fun x=>l.length-x.1)
  ⟨(0,[]),⟨Nat.zero_le _,rfl⟩,⟨by simp [fitR,look,upd],by simp [fitH,hget,hset],rfl,rfl,rfl⟩⟩ ?_
 rintro ⟨i,acc⟩ ⟨h1,h2⟩
 simp only at h1 h2
 have hi1:IntKind.i64.wrap ((i:Int)+1)=((i+1:Nat):Int):=by rw [i64_in _ (by omega)];omega
 have hal:acc.length<=i:=by rw [h2,List.length_map];exact Nat.le_trans (List.length_filter_le _ _) (by rw [List.length_take];omega)
 have tk:(acc.map intV).take acc.length=acc.map intV:=List.take_of_length_le (by simp)
 by_cases hlt:i<l.length
 · have c0:decide ((i:Int)<(l.length:Int))=true:=by simp;omega
   obtain ⟨c,y,a,he,hc⟩:=hl _ (getD_mem hlt)
   have he3:l.getD i default=.agg [.str c,.int .i64 y,.int .i64 a]:=he
   have hpk:pkF code yr (.agg [.str c,.int .i64 y,.int .i64 a])=((yr == -1||y == yr)&&(code == []||undC c code)):=rfl
   have hstep:((l.take (i+1)).filter (pkF code yr)).map amF=acc++(if ((yr == -1||y == yr)&&(code == []||undC c code))=true then [a] else []):=by
    rw [take_succ_getD hlt,he3,List.filter_append,List.map_append,h2]
    congr 1
    by_cases h9:((yr == -1||y == yr)&&(code == []||undC c code))=true
    · simp only [List.filter_cons,hpk,h9,if_true,List.filter_nil];rfl
    · simp only [List.filter_cons,hpk,h9,Bool.false_eq_true,if_false,List.filter_nil];rfl
   simp only [c0,he3,hi1,tk,List.length_map,List.take_succ_cons,List.take_nil,k_sumS_136,underCS,on_ss_eq,k_sumS_145,msS,on_l_eq,plan0,go_sem,↓reduceIte,reduceCtorEq,Nat.reduceEqDiff,Nat.reduceLT,Nat.reduceAdd,Nat.reduceLeDiff,Nat.reduceMul]
   refine ⟨⟨by omega,by omega⟩,fun _=>⟨by omega,by omega⟩,fun a b=>by rw [a,b];rfl,fun h7=>⟨rfl,fun e he=>by simp only [List.mem_singleton] at he;subst he;rfl,Nat.le_refl _,by omega,by simp only [maxLen];omega,(i+1,acc++[a]),⟨by simp only;omega,by rw [h7] at hstep;simpa using hstep.symm⟩,by simp only;omega,⟨by simp [fitR,look],by simp [fitH,hget,intV],rfl,rfl,rfl⟩⟩,
    fun h7=>⟨(i+1,acc),⟨by simp only;omega,by rw [h7] at hstep;simpa using hstep.symm⟩,by simp only;omega,⟨by simp [fitR,look],by simp [fitH,hget],rfl,rfl,rfl⟩⟩⟩
 · have c0:decide ((i:Int)<(l.length:Int))=false:=by simp;omega
   have e1:i=l.length:=by omega
   subst e1
   rw [List.take_length] at h2
   simp only [c0,tk,hno,List.length_map,k_sumS_145,msS,on_l_eq,plan0,go_sem,↓reduceIte,reduceCtorEq,Nat.reduceEqDiff,Nat.reduceLT,Nat.reduceAdd,Nat.reduceLeDiff]
   unfold smF
   rw [<- h2]
   exact ⟨⟨Nat.le_refl _,⟨acc,rfl⟩,by omega⟩,rfl⟩
noncomputable def D3 (g:FuncId):PSpec:=(putΦ D2 108 sumS) g
theorem hD3:TabSound GG D3:=(hD2.put w_sumS)
noncomputable def rsumS:PSpec:=on_lsi (fun l c y=>(∀ e,e∈l->isL3 e)/\l.length<=1000000000000/\c.length<=1000000000000) (fun l c y=>.tup [.int .i64 (smF l c y).1,.int .i64 (smF l c y).2])
theorem k_rsumS_77 {args:List PV}:Z5 77 args=runS args:=rfl
theorem k_rsumS_109 {args:List PV}:Z5 109 args=addS args:=rfl
theorem w_rsumS:PSound GG 47 rsumS:=by
 refine PSound.of_wpc (C:=cxP Tryz.prog Z5 [] 51) (T:=plan0) Tryz.func47 rfl rfl rfl (Fit.pure (G:=GG) hZ5 mixed) (fun args h=>?_)
 unfold rsumS at h
 obtain ⟨l,code,yr,rfl,hp⟩:=on_lsi_inv h
 refine ⟨by simp [cxP],?_⟩
 simp only [rsumS,on_lsi_eq,Tryz.f47,argL,plan0]
 obtain ⟨hl,hn,ht⟩:=hp
 simp only [go_sem,↓reduceIte,reduceCtorEq,Nat.reduceLT,Nat.reduceAdd]
 refine AWp.loop (T:=plan0) (α:=Nat × Int) (fun x=>([(1,.pv (.str code)),(2,.pv (.int .i64 yr)),(8,.pv (.int .i64 x.2)),(13,.pv (.sl l)),(14,.pv (.int .i64 l.length)),(15,.pv (.int .i64 x.1))],[]))
  (fun x=>x.1<=l.length/\totB x.2=true/\msF (((l.drop x.1).filter (pkF code yr)).map amF) x.2=smF l code yr) (fun x=>l.length-x.1)
  ⟨(0,0),⟨Nat.zero_le _,by decide,rfl⟩,⟨by simp [fitR,look],trivial,rfl,rfl,rfl⟩⟩ ?_
 rintro ⟨i,acc⟩ ⟨h1,h3,h2⟩
 simp only at h1 h2 h3
 have hi1:IntKind.i64.wrap ((i:Int)+1)=((i+1:Nat):Int):=by rw [i64_in _ (by omega)];omega
 by_cases hlt:i<l.length
 · have c0:decide ((i:Int)<(l.length:Int))=true:=by simp;omega
   obtain ⟨c,y,a,he,hc⟩:=hl _ (getD_mem hlt)
   have he3:l.getD i default=.agg [.str c,.int .i64 y,.int .i64 a]:=he
   have hd:l.drop i=.agg [.str c,.int .i64 y,.int .i64 a]::l.drop (i+1):=by
    rw [List.drop_eq_getElem_cons hlt,<- he3];simp [List.getD_eq_getElem?_getD,hlt]
   have hpk:pkF code yr (.agg [.str c,.int .i64 y,.int .i64 a])=((yr == -1||y == yr)&&(code == []||undC c code)):=rfl
   have ham:amF (.agg [.str c,.int .i64 y,.int .i64 a])=a:=rfl
   have hu:undF c code=undC c code:=undF_code c code
   rw [hd,List.filter_cons,hpk] at h2
   simp only [c0,he3,hi1,List.take_succ_cons,List.take_nil,k_rsumS_77,runS,on_ss_eq,k_rsumS_109,addS,on_ii_eq,plan0,go_sem,↓reduceIte,reduceCtorEq,Nat.reduceEqDiff,Nat.reduceLT,Nat.reduceAdd,Nat.reduceLeDiff,ev_callG,PV.one,AV.one]
   have hcond:(!(code == [])&&!undC c code||yr != -1&&y != yr)= !((yr == -1||y == yr)&&(code == []||undC c code)):=by
    simp only [bne]
    cases (yr == -1) <;> cases (y == yr) <;> cases (code == []) <;> cases undC c code <;> rfl
   rw [hcond]
   generalize ((yr == -1||y == yr)&&(code == []||undC c code))=P at h2 ⊢
   refine ⟨⟨by omega,by omega⟩,fun _=>⟨by omega,by omega⟩,fun h8 h9=>by rw [h8,h9];rfl,fun h9=>⟨(i+1,acc),⟨by simp only;omega,h3,?_⟩,by simp only;omega,⟨by simp [fitR,look],trivial,rfl,rfl,rfl⟩⟩,fun h9=>?_⟩
   · simp only [Bool.not_eq_true'] at h9
     rw [h9] at h2
     exact h2
   simp only [Bool.not_eq_false'] at h9
   rw [h9,if_pos rfl,List.map_cons,ham,msF] at h2
   have hadd:addF acc a=bif !totB a||!totB (IntKind.i64.wrap (acc+a)) then (0,2) else (IntKind.i64.wrap (acc+a),0):=by rw [addF,h3];rfl
   cases hx:(!totB a||!totB (IntKind.i64.wrap (acc+a)))
   · rw [hx] at h2 hadd
     rw [hadd]
     have ht3:totB (IntKind.i64.wrap (acc+a))=true:=by
      simp only [Bool.or_eq_false_iff,Bool.not_eq_false'] at hx;exact hx.2
     refine ⟨fun h=>by simp at h,fun _=>⟨(i+1,IntKind.i64.wrap (acc+a)),⟨by simp only;omega,ht3,h2⟩,by simp only;omega,⟨by simp [fitR,look],trivial,rfl,rfl,rfl⟩⟩⟩
   · rw [hx] at h2 hadd
     rw [hadd,<- h2]
     exact ⟨fun _=>rfl,fun h=>by simp at h⟩
 · have c0:decide ((i:Int)<(l.length:Int))=false:=by simp;omega
   rw [List.drop_eq_nil_of_le (by omega)] at h2
   simp only [c0,<- h2,msF,List.filter_nil,List.map_nil,plan0,go_sem,↓reduceIte,reduceCtorEq,Nat.reduceEqDiff,Nat.reduceLT,Nat.reduceAdd,Nat.reduceLeDiff,ev_callG,PV.one,AV.one]
noncomputable def Z6 (g:FuncId):PSpec:=(putΦ Z5 47 rsumS) g
theorem hZ6:TabSound GG Z6:=(hZ5.put w_rsumS)
end Go.AM
