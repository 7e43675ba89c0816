/-
  A part of a proof.
-/
import Derived.Test.YtkajgkbhkkgdbaaGreatDoorRD
set_option linter.unusedSimpArgs false
set_option linter.unusedVariables false
namespace Go.AM
open Go Go.Proofs Go.IntWalk
set_option maxRecDepth 100000
def on_ls (p:List PV->List UInt8->Prop) (f:List PV->List UInt8->PV):PSpec
 | [.sl a0,.str a1]=>(p a0 a1,f a0 a1)
 | _=>(False,default)
theorem on_ls_eq {p:List PV->List UInt8->Prop} {f:List PV->List UInt8->PV} {a0:List PV} {a1:List UInt8}:on_ls p f [.sl a0,.str a1]=(p a0 a1,f a0 a1):=rfl
theorem on_ls_inv {p:List PV->List UInt8->Prop} {f:List PV->List UInt8->PV} {args:List PV} (h:(on_ls p f args).1):∃ a0:List PV,∃ a1:List UInt8,args=[.sl a0,.str a1]/\p a0 a1:=by
 unfold on_ls at h
 split at h
 · exact ⟨_,_,rfl,h⟩
 · exact h.elim
def hV (c n:List UInt8):PV:=.agg [.str c,.str n]
def hCode:PV->List UInt8
 | .agg [.str c,_]=>c
 | _=>[]
def isH (e:PV):Prop:=∃ c n,e=hV c n/\c.length<=1000000000000
def chl (c:List UInt8) (l:List PV):Bool:=l.all (fun x=>!(parF (hCode x) == c))
def leafF (l:List PV) (top:List UInt8) (h:PV):Bool:=gd (hCode h)&&(top == []||undF (hCode h) top)&&chl (hCode h) l
def leavesF (l:List PV) (top:List UInt8):List PV:=(l.filter (leafF l top)).map (fun h=>.str (hCode h))
noncomputable def Φ12 (g:FuncId):PSpec:=putΦ Φ11 74 codeS g
theorem hΦ12:TabSound GG Φ12:=hΦ11.put w_codeS
noncomputable def leavesS:PSpec:=on_ls (fun l top=>(∀ e,e∈l->isH e)/\l.length<=1000000000000/\top.length<=1000000000000) (fun l top=>.sl (leavesF l top))
theorem getD_mem {l:List PV} {i:Nat} (h:i<l.length):l.getD i default∈l:=by
 rw [List.getD_eq_getElem?_getD,List.getElem?_eq_getElem h];exact List.getElem_mem _
theorem take_succ_getD {l:List PV} {i:Nat} (h:i<l.length):l.take (i+1)=l.take i++[l.getD i default]:=by
 rw [List.take_add_one,List.getD_eq_getElem?_getD,List.getElem?_eq_getElem h];rfl
theorem w_leavesS:PSound GG 39 leavesS:=by
 refine PSound.of_wpc (C:=cxP Tryz.prog Φ12 [] 56) (T:=plan0) Tryz.func39 rfl rfl rfl (Fit.pure (G:=GG) hΦ12 mixed) (fun args h=>?_)
 unfold leavesS at h
 obtain ⟨l,top,rfl,hp⟩:=on_ls_inv h
 refine ⟨by simp [cxP],?_⟩
 simp only [leavesS,on_ls_eq,Tryz.f39,argL,plan0]
 obtain ⟨hl,hn,ht⟩:=hp
 simp only [go_sem,↓reduceIte,reduceCtorEq,Nat.reduceLT]
 refine AWp.adoptS (s:=5) (κ:=8000) (k:=1) (by simp [look]) rfl (by decide) ?_
 refine AWp.loop (T:=plan0) (α:=Nat × List PV) (fun x=>([(0,.pv (.sl l)),(1,.pv (.str top)),(5,.rs 8000 x.2.length),(11,.pv (.sl l)),(12,.pv (.int .i64 l.length)),(13,.pv (.int .i64 x.1))],[(8000,.row 1 x.2)]))
  (fun x=>x.1<=l.length/\x.2=((l.take x.1).filter (leafF l top)).map (fun h=>PV.str (hCode h))) (fun x=>l.length-x.1)
  ⟨(0,[]),⟨Nat.zero_le _,rfl⟩,⟨by simp [fitR,look,upd],by simp [fitH,hget,hset],rfl,rfl,rfl⟩⟩ ?_
 rintro ⟨i,acc⟩ ⟨h1,h2⟩
 simp only at h1 h2
 have hi1:IntKind.i64.wrap ((i:Int)+1)=((i+1:Nat):Int):=by rw [i64_in _ (by omega)];omega
 have hal:acc.length<=i:=by rw [h2,List.length_map];exact Nat.le_trans (List.length_filter_le _ _) (by rw [List.length_take];omega)
 by_cases hlt:i<l.length
 · have c0:decide ((i:Int)<(l.length:Int))=true:=by simp;omega
   obtain ⟨c,nm,he,hc⟩:=hl _ (getD_mem hlt)
   have he3:l.getD i default=.agg [.str c,.str nm]:=he
   have hstep:((l.take (i+1)).filter (leafF l top)).map (fun h=>PV.str (hCode h))=acc++(if leafF l top (.agg [.str c,.str nm])=true then [PV.str c] else []):=by
    rw [take_succ_getD hlt,he3,List.filter_append,List.map_append,h2]
    congr 1
    by_cases h9:leafF l top (.agg [.str c,.str nm])=true
    · simp [List.filter,h9,hCode]
    · have h9:leafF l top (.agg [.str c,.str nm])=false:=by simpa using h9
      simp [List.filter,h9]
   have hle:leafF l top (.agg [.str c,.str nm])=(gd c&&(top == []||undF c top)&&chl c l):=rfl
   simp only [c0,he3,hi1,List.take_succ_cons,List.take_nil,Φ12,Φ11,Φ10,Φ9,Φ8,Φ7,Φ6,Φ5,Φ4,Φ2,Φ1,goodS,underS,on_s_eq,on_ss_eq,plan0,go_sem,↓reduceIte,reduceCtorEq,Nat.reduceEqDiff,Nat.reduceLT,Nat.reduceAdd,Nat.reduceLeDiff]
   have hgd:goodF 0 1 c=gd c:=rfl
   rw [hgd]
   refine ⟨⟨by omega,by omega⟩,by omega,fun _=>⟨by omega,by omega⟩,fun a b=>by rw [a,b];rfl,fun a=>by simpa using a,fun h9=>?_,fun h9=>?_⟩
   · have h8:leafF l top (.agg [.str c,.str nm])=false:=by
       rw [hle]
       cases g1:gd c <;> cases g2:(top == []) <;> cases g3:undF c top <;> simp_all
     rw [h8] at hstep
     exact ⟨(i+1,acc),⟨by simp only;omega,by simpa using hstep.symm⟩,by simp only;omega,⟨by simp [fitR,look],by simp [fitH,hget],rfl,rfl,rfl⟩⟩
   · have h8:leafF l top (.agg [.str c,.str nm])=chl c l:=by
       rw [hle]
       cases g1:gd c <;> cases g2:(top == []) <;> cases g3:undF c top <;> simp_all
     rw [h8] at hstep
     refine AWp.loop (T:=plan0) (α:=Nat × Bool) (fun x=>([(0,.pv (.sl l)),(1,.pv (.str top)),(5,.rs 8000 acc.length),(7,.ptr 7 0),(8,.pv (.bool x.2)),(11,.pv (.sl l)),(12,.pv (.int .i64 l.length)),(13,.pv (.int .i64 i)),(32,.pv (.sl l)),(33,.pv (.int .i64 l.length)),(34,.pv (.int .i64 x.1))],
      [(8000,.row 1 acc),(7,.cells [.pv (.str c),.pv (.str nm)])]))
      (fun x=>x.1<=l.length/\x.2=chl c (l.take x.1)) (fun x=>l.length-x.1)
      ⟨(0,true),⟨Nat.zero_le _,rfl⟩,⟨by simp [fitR,look],by simp [fitH,hget],rfl,rfl,rfl⟩⟩ ?_
     rintro ⟨j,b⟩ ⟨k1,k2⟩
     simp only at k1 k2
     have hj1:IntKind.i64.wrap ((j:Int)+1)=((j+1:Nat):Int):=by rw [i64_in _ (by omega)];omega
     by_cases jlt:j<l.length
     · have c1:decide ((j:Int)<(l.length:Int))=true:=by simp;omega
       obtain ⟨c',nm',he',hc'⟩:=hl _ (getD_mem jlt)
       have he4:l.getD j default=.agg [.str c',.str nm']:=he'
       have hst:chl c (l.take (j+1))=(b&&!(parF c' == c)):=by
        rw [take_succ_getD jlt,he4,chl,List.all_append,k2];simp [chl,hCode]
       simp only [c1,he4,hj1,List.take_succ_cons,List.take_nil,Φ12,Φ11,Φ10,Φ9,Φ8,Φ7,Φ6,Φ5,Φ4,Φ2,parentS,on_s_eq,plan0,go_sem,↓reduceIte,reduceCtorEq,Nat.reduceEqDiff,Nat.reduceLT,Nat.reduceAdd,Nat.reduceLeDiff,Nat.reduceMul]
       refine ⟨⟨by omega,by omega⟩,by kernel_rfl,fun _=>by omega,(j+1,b&&!(parF c' == c)),⟨by simp only;omega,hst.symm⟩,by simp only;omega,⟨by simp [fitR,look],by simp [fitH,hget],rfl,rfl,rfl⟩⟩
     · have c1:decide ((j:Int)<(l.length:Int))=false:=by simp;omega
       have e2:l.take j=l:=List.take_of_length_le (by omega)
       rw [e2] at k2
       subst k2
       simp only [c1,hi1,plan0,go_sem,↓reduceIte,reduceCtorEq,Nat.reduceEqDiff,Nat.reduceLT,Nat.reduceAdd,Nat.reduceLeDiff,Nat.reduceMul]
       refine ⟨fun h7=>⟨rfl,fun e he=>by simp only [List.mem_singleton] at he;subst he;rfl,Nat.le_refl _,by omega,by simp only [maxLen];omega,(i+1,acc++[.str c]),⟨by simp only;omega,by rw [h7] at hstep;simpa using hstep.symm⟩,by simp only;omega,⟨by simp [fitR,look],by simp [fitH,hget],rfl,rfl,rfl⟩⟩,
        fun h7=>⟨(i+1,acc),⟨by simp only;omega,by rw [h7] at hstep;simpa using hstep.symm⟩,by simp only;omega,⟨by simp [fitR,look],by simp [fitH,hget],rfl,rfl,rfl⟩⟩⟩
 · have c0:decide ((i:Int)<(l.length:Int))=false:=by simp;omega
   simp only [c0,plan0,go_sem,↓reduceIte,reduceCtorEq,Nat.reduceEqDiff,Nat.reduceLT,Nat.reduceAdd,Nat.reduceLeDiff]
   have e1:i=l.length:=by omega
   subst e1
   rw [List.take_length] at h2
   refine ⟨Nat.le_refl _,?_⟩
   rw [List.take_length,h2];rfl
noncomputable def Φ13 (g:FuncId):PSpec:=putΦ Φ12 39 leavesS g
theorem hΦ13:TabSound GG Φ13:=hΦ12.put w_leavesS
def sOf:PV->List UInt8
 | .str s=>s
 | _=>[]
def withL (c:List UInt8):List (List UInt8)->Bool->List (List UInt8)->Option (List (List UInt8))
 | [],done,acc=>some (bif done then acc else acc++[c])
 | x::r,done,acc=>bif cmpF c x == 0 then none else bif decide (cmpF c x<0)&&!done then withL c r true (acc++[c]++[x]) else withL c r done (acc++[x])
def withF (l:List (List UInt8)) (c:List UInt8):List (List UInt8):=(withL c l false []).getD l
theorem withL_facts (c:List UInt8):∀ (l:List (List UInt8)) (done:Bool) (acc out:List (List UInt8)),withL c l done acc=some out->(done=true->c∈acc)->
 (∀ x,x∈acc->x∈out)/\(∀ x,x∈l->x∈out)/\c∈out/\(∀ x,x∈out->x∈acc\/x∈l\/x=c)/\out.length<=acc.length+l.length+(bif done then 0 else 1)
 | [],done,acc,out,h,hd=>by
   cases done with
   | true=>
     simp only [withL,cond_true,Option.some.injEq] at h
     subst h
     exact ⟨fun _ h=>h,fun x hx=>(by cases hx),hd rfl,fun x hx=>.inl hx,by simp⟩
   | false=>
     simp only [withL,cond_false,Option.some.injEq] at h
     subst h
     refine ⟨fun x hx=>by simp [hx],fun x hx=>(by cases hx),by simp,fun x hx=>?_,by simp⟩
     simp only [List.mem_append,List.mem_singleton] at hx
     rcases hx with hx | hx
     · exact .inl hx
     · exact .inr (.inr hx)
 | x::r,done,acc,out,h,hd=>by
   rw [withL] at h
   cases h1:(cmpF c x == 0) with
   | true=>rw [h1] at h;cases h
   | false=>
     rw [h1,cond_false] at h
     cases h2:(decide (cmpF c x<0)&&!done) with
     | true=>
       rw [h2,cond_true] at h
       have hdn:done=false:=by simp at h2;exact h2.2
       obtain ⟨g1,g2,g3,g4,g5⟩:=withL_facts c r true _ out h (fun _=>by simp)
       refine ⟨fun y hy=>g1 y (by simp [hy]),fun y hy=>?_,g3,fun y hy=>?_,?_⟩
       · rcases List.mem_cons.1 hy with rfl | hy
         · exact g1 _ (by simp)
         · exact g2 y hy
       · rcases g4 y hy with hy | hy | hy
         · simp only [List.mem_append,List.mem_singleton] at hy
           rcases hy with (hy | hy) | hy
           · exact .inl hy
           · exact .inr (.inr hy)
           · exact .inr (.inl (by simp [hy]))
         · exact .inr (.inl (by simp [hy]))
         · exact .inr (.inr hy)
       · subst hdn;simp at g5 ⊢;omega
     | false=>
       rw [h2,cond_false] at h
       obtain ⟨g1,g2,g3,g4,g5⟩:=withL_facts c r done _ out h (fun h=>by simp [hd h])
       refine ⟨fun y hy=>g1 y (by simp [hy]),fun y hy=>?_,g3,fun y hy=>?_,?_⟩
       · rcases List.mem_cons.1 hy with rfl | hy
         · exact g1 _ (by simp)
         · exact g2 y hy
       · rcases g4 y hy with hy | hy | hy
         · simp only [List.mem_append,List.mem_singleton] at hy
           rcases hy with hy | hy
           · exact .inl hy
           · exact .inr (.inl (by simp [hy]))
         · exact .inr (.inl (by simp [hy]))
         · exact .inr (.inr hy)
       · simp only [List.length_append,List.length_cons,List.length_nil] at g5 ⊢;omega
theorem withL_none (c:List UInt8):∀ (l:List (List UInt8)) (done:Bool) (acc:List (List UInt8)),withL c l done acc=none->∃ x,x∈l/\cmpF c x=0
 | [],_,_,h=>by cases h
 | x::r,done,acc,h=>by
   rw [withL] at h
   cases h1:(cmpF c x == 0) with
   | true=>exact ⟨x,by simp,by simpa using h1⟩
   | false=>
     rw [h1,cond_false] at h
     cases h2:(decide (cmpF c x<0)&&!done) with
     | true=>
       rw [h2,cond_true] at h
       obtain ⟨y,hy,he⟩:=withL_none c r _ _ h
       exact ⟨y,by simp [hy],he⟩
     | false=>
       rw [h2,cond_false] at h
       obtain ⟨y,hy,he⟩:=withL_none c r _ _ h
       exact ⟨y,by simp [hy],he⟩
theorem withF_facts (l:List (List UInt8)) (c:List UInt8):(∀ x,x∈l->x∈withF l c)/\(c∈withF l c\/∃ x,x∈l/\cmpF c x=0)/\(∀ x,x∈withF l c->x∈l\/x=c)/\(withF l c).length<=l.length+1:=by
 unfold withF
 cases h:withL c l false [] with
 | none=>exact ⟨fun x h=>h,.inr (withL_none c l _ _ h),fun x h=>.inl h,by simp⟩
 | some out=>
   obtain ⟨g1,g2,g3,g4,g5⟩:=withL_facts c l false [] out h (fun h=>by cases h)
   refine ⟨g2,.inl g3,fun x hx=>?_,by simpa using g5⟩
   rcases g4 x hx with hx | hx
   · cases hx
   · exact hx
noncomputable def withS:PSpec:=on_ls (fun es c=>(∃ l:List (List UInt8),es=l.map PV.str/\∀ x,x∈l->x.length<=1000000000000)/\es.length<=1000000/\c.length<=1000000000000) (fun es c=>.sl ((withF (es.map sOf) c).map PV.str))
theorem getD_strs {l:List (List UInt8)} {i:Nat} (h:i<l.length):(l.map PV.str).getD i default=.str (l.getD i []):=by
 simp [List.getD_eq_getElem?_getD,h]
theorem map_sOf (l:List (List UInt8)):(l.map PV.str).map sOf=l:=by simp [List.map_map,Function.comp_def,sOf]
theorem w_withS:PSound GG 75 withS:=by
 refine PSound.of_wpc (C:=cxP Tryz.prog Φ13 [] 44) (T:=plan0) Tryz.func75 rfl rfl rfl (Fit.pure (G:=GG) hΦ13 mixed) (fun args h=>?_)
 unfold withS at h
 obtain ⟨es,c,rfl,hp⟩:=on_ls_inv h
 refine ⟨by simp [cxP],?_⟩
 simp only [withS,on_ls_eq,Tryz.f75,argL,plan0]
 obtain ⟨⟨l,rfl,hb⟩,hn,hc⟩:=hp
 simp only [List.length_map] at hn
 simp only [map_sOf,List.length_map,go_sem,↓reduceIte,reduceCtorEq,Nat.reduceLT]
 refine AWp.adoptS (s:=5) (κ:=8000) (k:=1) (by simp [look]) rfl (by decide) ?_
 refine AWp.loop (T:=plan0) (α:=Nat × Bool × List (List UInt8)) (fun x=>([(0,.pv (.sl (l.map PV.str))),(1,.pv (.str c)),(5,.rs 8000 x.2.2.length),(6,.pv (.bool x.2.1)),(10,.pv (.sl (l.map PV.str))),(11,.pv (.int .i64 l.length)),(12,.pv (.int .i64 x.1))],[(8000,.row 1 (x.2.2.map PV.str))]))
  (fun x=>x.1<=l.length/\withL c (l.drop x.1) x.2.1 x.2.2=withL c l false []/\x.2.2.length<=2 * x.1) (fun x=>l.length-x.1)
  ⟨(0,false,[]),⟨Nat.zero_le _,rfl,by simp⟩,⟨by simp [fitR,look,upd],by simp [fitH,hget,hset],rfl,rfl,rfl⟩⟩ ?_
 rintro ⟨i,done,acc⟩ ⟨h1,h2,h3⟩
 simp only at h1 h2 h3
 have hi1:IntKind.i64.wrap ((i:Int)+1)=((i+1:Nat):Int):=by rw [i64_in _ (by omega)];omega
 by_cases hlt:i<l.length
 · have c0:decide ((i:Int)<(l.length:Int))=true:=by simp;omega
   have g1:=getD_strs hlt
   have hm:=hb (l.getD i []) (by rw [List.getD_eq_getElem?_getD,List.getElem?_eq_getElem hlt];exact List.getElem_mem _)
   have d1:l.drop i=l.getD i []::l.drop (i+1):=by rw [List.drop_eq_getElem_cons hlt];simp [List.getD_eq_getElem?_getD,hlt]
   rw [d1,withL] at h2
   generalize l.getD i []=x at g1 hm h2
   simp only [c0,g1,hi1,List.length_map,Φ13,Φ12,Φ11,compareS,on_ss_eq,plan0,go_sem,↓reduceIte,reduceCtorEq,Nat.reduceEqDiff,Nat.reduceLT,Nat.reduceLeDiff,Nat.reduceMul]
   have tk1:(acc.map PV.str).take acc.length=acc.map PV.str:=List.take_of_length_le (by simp)
   have tk2:(acc.map PV.str++[PV.str c]).take (acc.length+1)=acc.map PV.str++[PV.str c]:=List.take_of_length_le (by simp)
   have hmap:∀ (a:List (List UInt8)) (z:List UInt8),(a++[z]).map PV.str=a.map PV.str++[PV.str z]:=fun a z=>by simp
   refine ⟨⟨by omega,by omega⟩,⟨by omega,by omega⟩,fun h5=>?_,fun h5=>⟨fun h6=>⟨rfl,fun e he=>by simp only [List.mem_singleton] at he;subst he;rfl,Nat.le_refl _,by omega,by simp only [maxLen];omega,rfl,fun e he=>by simp only [List.mem_singleton] at he;subst he;rfl,by simp,by omega,by simp only [maxLen];omega,(i+1,true,acc++[c]++[x]),⟨by simp only;omega,?_,?_⟩,by simp only;omega,⟨by simp [fitR,look],by simp [fitH,hget,tk1,tk2],rfl,rfl,rfl⟩⟩,
    fun h6=>⟨rfl,fun e he=>by simp only [List.mem_singleton] at he;subst he;rfl,Nat.le_refl _,by omega,by simp only [maxLen];omega,(i+1,done,acc++[x]),⟨by simp only;omega,?_,?_⟩,by simp only;omega,⟨by simp [fitR,look],by simp [fitH,hget,tk1],rfl,rfl,rfl⟩⟩⟩⟩
   · rw [h5,cond_true] at h2
     unfold withF
     rw [<- h2];rfl
   · rw [h5,cond_false,h6,cond_true] at h2;exact h2
   · simp only [List.length_append,List.length_cons,List.length_nil];omega
   · rw [h5,cond_false,h6,cond_false] at h2;exact h2
   · simp only [List.length_append,List.length_cons,List.length_nil];omega
 · have c0:decide ((i:Int)<(l.length:Int))=false:=by simp;omega
   rw [List.drop_eq_nil_of_le (by omega),withL] at h2
   simp only [c0,List.length_map,plan0,go_sem,↓reduceIte,reduceCtorEq,Nat.reduceEqDiff,Nat.reduceLT,Nat.reduceLeDiff,Nat.reduceMul]
   have hres:withF l c=(bif done then acc else acc++[c]):=by unfold withF;rw [<- h2];rfl
   rw [hres]
   have tk1:(acc.map PV.str).take acc.length=acc.map PV.str:=List.take_of_length_le (by simp)
   have tk2:(acc.map PV.str++[PV.str c]).take (acc.length+1)=acc.map PV.str++[PV.str c]:=List.take_of_length_le (by simp)
   rw [tk1,tk2]
   refine ⟨fun h5=>⟨rfl,fun e he=>by simp only [List.mem_singleton] at he;subst he;rfl,Nat.le_refl _,by omega,by simp only [maxLen];omega,by simp,?_⟩,fun h5=>⟨Nat.le_refl _,?_⟩⟩
   · have:done=false:=by simpa using h5
     subst this;simp
   · have:done=true:=by simpa using h5
     subst this;simp
noncomputable def Φ14 (g:FuncId):PSpec:=putΦ Φ13 75 withS g
theorem hΦ14:TabSound GG Φ14:=hΦ13.put w_withS
theorem FinRow_n {t k:Nat} {res:PV} {st:ASt}:FinRow t k res .normal st=rowIs k res st t:=rfl
theorem FinRow_r {t k:Nat} {res:PV} {st:ASt}:FinRow t k res .ret st=rowIs k res st t:=rfl
theorem rowIs_eq {k:Nat} {res:PV} {ρ:Nat->AV} {H:AHeap} {t:Nat}:rowIs k res ⟨ρ,H⟩ t=match ρ t with
 | .rs κ hi=>match hget H κ with
   | some (.row k' es)=>k'=k/\hi<=es.length/\res=.sl (es.take hi)
   | _=>False
 | .nils=>res=.sl []
 | _=>False:=rfl
theorem w_leavesE:ESound GG 39 (psiRow 1 leavesS):=by
 refine ESound.of_row (C:=cxP Tryz.prog Φ12 [] 56) (T:=plan0) (by decide) Tryz.func39 rfl rfl rfl rfl (Fit.pure (G:=GG) hΦ12 mixed) (fun args h=>?_)
 unfold leavesS at h
 obtain ⟨l,top,rfl,hp⟩:=on_ls_inv h
 refine ⟨by simp [cxP],?_⟩
 simp only [leavesS,on_ls_eq,argL,plan0]
 obtain ⟨hl,hn,ht⟩:=hp
 simp only [go_sem,↓reduceIte,reduceCtorEq,Nat.reduceLT]
 refine AWp.adoptS (s:=5) (κ:=8000) (k:=1) (by simp [look]) rfl (by decide) ?_
 refine AWp.loop (T:=plan0) (α:=Nat × List PV) (fun x=>([(0,.pv (.sl l)),(1,.pv (.str top)),(5,.rs 8000 x.2.length),(11,.pv (.sl l)),(12,.pv (.int .i64 l.length)),(13,.pv (.int .i64 x.1))],[(8000,.row 1 x.2)]))
  (fun x=>x.1<=l.length/\x.2=((l.take x.1).filter (leafF l top)).map (fun h=>PV.str (hCode h))) (fun x=>l.length-x.1)
  ⟨(0,[]),⟨Nat.zero_le _,rfl⟩,⟨by simp [fitR,look,upd],by simp [fitH,hget,hset],rfl,rfl,rfl⟩⟩ ?_
 rintro ⟨i,acc⟩ ⟨h1,h2⟩
 simp only at h1 h2
 have hi1:IntKind.i64.wrap ((i:Int)+1)=((i+1:Nat):Int):=by rw [i64_in _ (by omega)];omega
 have hal:acc.length<=i:=by rw [h2,List.length_map];exact Nat.le_trans (List.length_filter_le _ _) (by rw [List.length_take];omega)
 by_cases hlt:i<l.length
 · have c0:decide ((i:Int)<(l.length:Int))=true:=by simp;omega
   obtain ⟨c,nm,he,hc⟩:=hl _ (getD_mem hlt)
   have he3:l.getD i default=.agg [.str c,.str nm]:=he
   have hstep:((l.take (i+1)).filter (leafF l top)).map (fun h=>PV.str (hCode h))=acc++(if leafF l top (.agg [.str c,.str nm])=true then [PV.str c] else []):=by
    rw [take_succ_getD hlt,he3,List.filter_append,List.map_append,h2]
    congr 1
    by_cases h9:leafF l top (.agg [.str c,.str nm])=true
    · simp [List.filter,h9,hCode]
    · have h9:leafF l top (.agg [.str c,.str nm])=false:=by simpa using h9
      simp [List.filter,h9]
   have hle:leafF l top (.agg [.str c,.str nm])=(gd c&&(top == []||undF c top)&&chl c l):=rfl
   simp only [c0,he3,hi1,List.take_succ_cons,List.take_nil,Φ12,Φ11,Φ10,Φ9,Φ8,Φ7,Φ6,Φ5,Φ4,Φ2,Φ1,goodS,underS,on_s_eq,on_ss_eq,plan0,FinRow_r,rowIs_eq,go_sem,↓reduceIte,reduceCtorEq,Nat.reduceEqDiff,Nat.reduceLT,Nat.reduceAdd,Nat.reduceLeDiff]
   have hgd:goodF 0 1 c=gd c:=rfl
   rw [hgd]
   refine ⟨⟨by omega,by omega⟩,by omega,fun _=>⟨by omega,by omega⟩,fun a b=>by rw [a,b];rfl,fun a=>by simpa using a,fun h9=>?_,fun h9=>?_⟩
   · have h8:leafF l top (.agg [.str c,.str nm])=false:=by
       rw [hle]
       cases g1:gd c <;> cases g2:(top == []) <;> cases g3:undF c top <;> simp_all
     rw [h8] at hstep
     exact ⟨(i+1,acc),⟨by simp only;omega,by simpa using hstep.symm⟩,by simp only;omega,⟨by simp [fitR,look],by simp [fitH,hget],rfl,rfl,rfl⟩⟩
   · have h8:leafF l top (.agg [.str c,.str nm])=chl c l:=by
       rw [hle]
       cases g1:gd c <;> cases g2:(top == []) <;> cases g3:undF c top <;> simp_all
     rw [h8] at hstep
     refine AWp.loop (T:=plan0) (α:=Nat × Bool) (fun x=>([(0,.pv (.sl l)),(1,.pv (.str top)),(5,.rs 8000 acc.length),(7,.ptr 7 0),(8,.pv (.bool x.2)),(11,.pv (.sl l)),(12,.pv (.int .i64 l.length)),(13,.pv (.int .i64 i)),(32,.pv (.sl l)),(33,.pv (.int .i64 l.length)),(34,.pv (.int .i64 x.1))],
      [(8000,.row 1 acc),(7,.cells [.pv (.str c),.pv (.str nm)])]))
      (fun x=>x.1<=l.length/\x.2=chl c (l.take x.1)) (fun x=>l.length-x.1)
      ⟨(0,true),⟨Nat.zero_le _,rfl⟩,⟨by simp [fitR,look],by simp [fitH,hget],rfl,rfl,rfl⟩⟩ ?_
     rintro ⟨j,b⟩ ⟨k1,k2⟩
     simp only at k1 k2
     have hj1:IntKind.i64.wrap ((j:Int)+1)=((j+1:Nat):Int):=by rw [i64_in _ (by omega)];omega
     by_cases jlt:j<l.length
     · have c1:decide ((j:Int)<(l.length:Int))=true:=by simp;omega
       obtain ⟨c',nm',he',hc'⟩:=hl _ (getD_mem jlt)
       have he4:l.getD j default=.agg [.str c',.str nm']:=he'
       have hst:chl c (l.take (j+1))=(b&&!(parF c' == c)):=by
        rw [take_succ_getD jlt,he4,chl,List.all_append,k2];simp [chl,hCode]
       simp only [c1,he4,hj1,List.take_succ_cons,List.take_nil,Φ12,Φ11,Φ10,Φ9,Φ8,Φ7,Φ6,Φ5,Φ4,Φ2,parentS,on_s_eq,plan0,go_sem,↓reduceIte,reduceCtorEq,Nat.reduceEqDiff,Nat.reduceLT,Nat.reduceAdd,Nat.reduceLeDiff,Nat.reduceMul]
       refine ⟨⟨by omega,by omega⟩,by kernel_rfl,fun _=>by omega,(j+1,b&&!(parF c' == c)),⟨by simp only;omega,hst.symm⟩,by simp only;omega,⟨by simp [fitR,look],by simp [fitH,hget],rfl,rfl,rfl⟩⟩
     · have c1:decide ((j:Int)<(l.length:Int))=false:=by simp;omega
       have e2:l.take j=l:=List.take_of_length_le (by omega)
       rw [e2] at k2
       subst k2
       simp only [c1,hi1,plan0,go_sem,↓reduceIte,reduceCtorEq,Nat.reduceEqDiff,Nat.reduceLT,Nat.reduceAdd,Nat.reduceLeDiff,Nat.reduceMul]
       refine ⟨fun h7=>⟨rfl,fun e he=>by simp only [List.mem_singleton] at he;subst he;rfl,Nat.le_refl _,by omega,by simp only [maxLen];omega,(i+1,acc++[.str c]),⟨by simp only;omega,by rw [h7] at hstep;simpa using hstep.symm⟩,by simp only;omega,⟨by simp [fitR,look],by simp [fitH,hget],rfl,rfl,rfl⟩⟩,
        fun h7=>⟨(i+1,acc),⟨by simp only;omega,by rw [h7] at hstep;simpa using hstep.symm⟩,by simp only;omega,⟨by simp [fitR,look],by simp [fitH,hget],rfl,rfl,rfl⟩⟩⟩
 · have c0:decide ((i:Int)<(l.length:Int))=false:=by simp;omega
   simp only [c0,plan0,FinRow_r,rowIs_eq,go_sem,↓reduceIte,reduceCtorEq,Nat.reduceEqDiff,Nat.reduceLT,Nat.reduceAdd,Nat.reduceLeDiff]
   have e1:i=l.length:=by omega
   subst e1
   rw [List.take_length] at h2
   refine ⟨Nat.le_refl _,?_⟩
   rw [List.take_length,h2];rfl
noncomputable def ΨL (g:FuncId):Option ESpec:=putΨ noΨ 39 (psiRow 1 leavesS) g
theorem hΨL:ETab GG ΨL:=hnoΨ.put w_leavesE psiRow_mono
def strV (s:List UInt8):PV:=.str s
def treeP (l:List PV):Prop:=l.length<=100/\∀ e,e∈l->∃ c n,e=hV c n/\c.length<=100
theorem treeP.isH {l:List PV} (h:treeP l):∀ e,e∈l->isH e:=fun e he=>by obtain ⟨c,n,e1,e2⟩:=h.2 e he;exact ⟨c,n,e1,by omega⟩
theorem leavesF_mem {l:List PV} {top:List UInt8} (h:treeP l):∀ e,e∈leavesF l top->∃ c,e=.str c/\c.length<=100:=by
 intro e he
 unfold leavesF at he
 simp only [List.mem_map,List.mem_filter] at he
 obtain ⟨x,⟨hx,_⟩,rfl⟩:=he
 obtain ⟨c,n,rfl,hc⟩:=h.2 x hx
 exact ⟨c,rfl,hc⟩
theorem leavesF_len {l:List PV} {top:List UInt8}:(leavesF l top).length<=l.length:=by
 unfold leavesF
 rw [List.length_map];exact List.length_filter_le _ _
def preLf (args:List PV):Prop:=∃ l,args=[.sl l]/\treeP l
def okLf (args:List PV) (s:List UInt8):Prop:=s.length<=100/\∀ l,args=[.sl l]->leavesF l [49]≠[]->PV.str s∈leavesF l [49]++leavesF l [50]
noncomputable def leafS:QSpec:=qV Tp preLf strV okLf
theorem w_leafS:QSound GG 58 leafS:=by
 unfold leafS
 refine QSound.of_wpcV (C:=cxQ Tryz.prog Φ14 Θ3 ΨL [] [9000] 21) 9000 Tryz.func58 rfl rfl rfl (Fit.all (G:=GG) hΦ14 hΘ3 hΨL mixed) rfl (fun args h=>?_) (fun args h=>?_)
 · obtain ⟨l,rfl,h1⟩:=h
   by_cases hne:leavesF l [49]=[]
   · exact ⟨[],Nat.zero_le _,fun l' e h9=>by simp only [List.cons.injEq,PV.sl.injEq,and_true] at e;subst e;exact absurd hne h9⟩
   · obtain ⟨x,hx⟩:=List.exists_mem_of_ne_nil _ hne
     obtain ⟨c,rfl,hc⟩:=leavesF_mem h1 x hx
     exact ⟨c,hc,fun l' e h9=>by simp only [List.cons.injEq,PV.sl.injEq,and_true] at e;subst e;exact List.mem_append.2 (.inl hx)⟩
 · obtain ⟨l,rfl,h1⟩:=h
   refine ⟨by simp [cxQ],?_⟩
   refine wpc_sound (T:=plan0) _ _ _ ?_
   have hl:=h1.1
   have b1:=leavesF_len (l:=l) (top:=[49])
   have b2:=leavesF_len (l:=l) (top:=[50])
   simp only [ΨL,psiRow_eq,leavesS,on_ls_eq,all_sl,Θ3,Θ2,Θ1,preN_eq,okN,arg1,Tryz.f58,plan0,go_sem,↓reduceIte,reduceCtorEq,Nat.reduceEqDiff,Nat.reduceLT,↓all_qVs,Nat.reduceLeDiff]
   rw [List.take_length]
   refine ⟨⟨h1.isH,by omega⟩,⟨h1.isH,by omega⟩,rfl,fun e he=>?_,Nat.le_refl _,by omega,by simp only [maxLen];omega,fun h0=>⟨[49],rfl,by decide,fun l' e h9=>?_⟩,fun h2=>⟨⟨?_,by omega⟩,fun n hn=>?_⟩⟩
   · obtain ⟨c,rfl,_⟩:=leavesF_mem h1 e he
     rfl
   · simp only [List.cons.injEq,PV.sl.injEq,and_true] at e;subst e
     have h8:=List.length_pos_iff.2 h9
     have:(((leavesF l [49]).length+(leavesF l [50]).length:Nat):Int)=0:=by simpa using h0
     omega
   · have:¬ ((((leavesF l [49]).length+(leavesF l [50]).length:Nat):Int)=0):=by simpa using h2
     omega
   obtain ⟨j,rfl⟩:=Int.eq_ofNat_of_zero_le hn.1
   rw [List.take_length]
   have hj:j<(leavesF l [49]++leavesF l [50]).length:=by rw [List.length_append];omega
   have hgm:=getD_mem hj
   obtain ⟨c,hc,hcl⟩:∃ c,(leavesF l [49]++leavesF l [50]).getD j default=.str c/\c.length<=100:=by
    rcases List.mem_append.1 hgm with h | h
    · exact leavesF_mem h1 _ h
    · exact leavesF_mem h1 _ h
   rw [hc] at hgm
   simp only [Later_eq,intV,hc,go_sem,↓reduceIte,Nat.reduceLeDiff]
   exact ⟨⟨by omega,by omega⟩,hj,c,rfl,hcl,fun l' e _=>by simp only [List.cons.injEq,PV.sl.injEq,and_true] at e;subst e;exact hgm⟩
noncomputable def Θ4 (g:FuncId):Option QSpec:=putΘ Θ3 58 (qV Tp preLf strV okLf) g
theorem hΘ4:QTab GG Θ4:=hΘ3.put w_leafS
end Go.AM
