/-
  A part of a proof.
-/
import Derived.Test.YtkajgkbhkkgdbaaGreatDoorYF
import Derived.Test.YtkajgkbhkkgdbaaGreatDoorY5c
set_option linter.unusedSimpArgs false
set_option linter.unusedVariables false
namespace Go.AM
open Go Go.Proofs Go.IntWalk
set_option maxRecDepth 100000
set_option maxHeartbeats 2000000
noncomputable def Z0 (g:FuncId):PSpec:=(putΦ (putΦ (putΦ (putΦ (putΦ Y5 80 rvalS) 39 rlvS) 73 rptS) 69 rcmS) 77 runS) g
theorem hZ0:TabSound GG Z0:=(((((hY5.put w_rvalS).put w_rlvS).put w_rptS).put w_rcmS).put w_runS)
noncomputable def rvalidMS:PSpec:=on_i (fun _=>True) (fun n=>.bool (vldM n))
theorem w_rvalidMS:PSound GG 68 rvalidMS:=by
 refine PSound.of_wpc (C:=cxP Tryz.prog Z0 [] 9) (T:=plan0) Tryz.func68 rfl rfl rfl (Fit.pure (G:=GG) hZ0 mixed) (fun args h=>?_)
 unfold rvalidMS at h
 obtain ⟨n,rfl,hp⟩:=on_i_inv h
 refine ⟨by simp [cxP],?_⟩
 simp only [rvalidMS,on_i_eq,Tryz.f68,argL,plan0]
 simp only [go_sem,↓reduceIte,reduceCtorEq,Nat.reduceEqDiff,Nat.reduceLT]
 rfl
noncomputable def rhasLS:PSpec:=on_ps (fun l _=>∃ L:Law,l=L.v/\(∀ e,e∈L.tree->isH e)/\L.tree.length<=1000000) (fun l s=>.bool (hasF (lawO l) s))
theorem k_rhasLS_126 {args:List PV}:Z0 126 args=rhasS args:=rfl
theorem w_rhasLS:PSound GG 79 rhasLS:=by
 refine PSound.of_wpc (C:=cxP Tryz.prog Z0 [] 9) (T:=plan0) Tryz.func79 rfl rfl rfl (Fit.pure (G:=GG) hZ0 mixed) (fun args h=>?_)
 unfold rhasLS at h
 obtain ⟨l,s,rfl,hp⟩:=on_ps_inv h
 refine ⟨by simp [cxP],?_⟩
 simp only [rhasLS,on_ps_eq,Tryz.f79,argL,plan0]
 obtain ⟨⟨fi,ye,tr,la,lb,lc,ld,le,lf,lg⟩,rfl,q1,q2⟩:=hp
 rw [lawO_v]
 simp only [hasF]
 simp only at q1 q2
 simp only [Law.v,lawV,k_rhasLS_126,rhasS,on_ls_eq,go_sem,↓reduceIte,reduceCtorEq,Nat.reduceEqDiff,Nat.reduceLT,Nat.reduceAdd,Nat.reduceLeDiff]
 exact ⟨q1,by omega⟩
theorem in_eq (fi ye y:Int):(decide (0<ye)&&decide (fi<=y)&&decide (IntKind.u64.wrap (IntKind.u64.wrap y-IntKind.u64.wrap fi)<IntKind.u64.wrap ye))=
 (decide (fi<=y)&&decide (IntKind.u64.wrap (IntKind.u64.wrap y-IntKind.u64.wrap fi)<IntKind.u64.wrap (if (0:Int)>ye then 0 else ye))):=by
 by_cases h:0<ye
 · have h1:(if (0:Int)>ye then (0:Int) else ye)=ye:=if_neg (by omega)
   rw [h1,decide_eq_true h,Bool.true_and]
 · have h1:IntKind.u64.wrap (if (0:Int)>ye then (0:Int) else ye)=0:=by
     by_cases h2:0>ye
     · rw [if_pos h2];decide
     · rw [if_neg h2,show ye=0 by omega];decide
   have h3:∀ n:Int,0<=IntKind.u64.wrap n:=fun n=>by simp [IntKind.wrap,IntKind.bits,IntKind.signed];omega
   have h4:=h3 (IntKind.u64.wrap y-IntKind.u64.wrap fi)
   rw [h1,decide_eq_false h]
   have h5:decide (IntKind.u64.wrap (IntKind.u64.wrap y-IntKind.u64.wrap fi)<0)=false:=by simp;omega
   rw [h5];simp
noncomputable def rinS:PSpec:=on_pi (fun l y=>∃ L:Law,l=L.v) (fun l y=>.bool (inF (lawO l) y))
theorem w_rinS:PSound GG 67 rinS:=by
 refine PSound.of_wpc (C:=cxP Tryz.prog Z0 [] 26) (T:=plan0) Tryz.func67 rfl rfl rfl (Fit.pure (G:=GG) hZ0 mixed) (fun args h=>?_)
 unfold rinS at h
 obtain ⟨l,y,rfl,hp⟩:=on_pi_inv h
 refine ⟨by simp [cxP],?_⟩
 simp only [rinS,on_pi_eq,Tryz.f67,argL,plan0]
 obtain ⟨⟨fi,ye,tr,la,lb,lc,ld,le,lf,lg⟩,rfl⟩:=hp
 rw [lawO_v]
 simp only [Law.v,lawV,inF,go_sem,↓reduceIte,reduceCtorEq,Nat.reduceEqDiff,Nat.reduceLT,Nat.reduceAdd,Nat.reduceLeDiff,PV.one,AV.one]
 rw [in_eq]
def bhd (a:List UInt8) (m:Int) (b:List UInt8) (n:Int):Bool:=!decide (0<=orF [cmpC a b,cmpI m n])
theorem bhd_eq (a b:List UInt8) (m n:Int):(decide (cmpC a b<0)||(cmpC a b == 0&&decide (m<n)))=bhd a m b n:=by
 unfold bhd orF cmpI
 by_cases h1:cmpC a b<0
 · have h2:(cmpC a b != 0)=true:=by simp;omega
   rw [h2,cond_true,decide_eq_true h1]
   have:decide (0<=cmpC a b)=false:=by simp;omega
   rw [this];rfl
 · by_cases h3:cmpC a b=0
   · rw [h3]
     by_cases h4:m<n
     · simp [orF,h4]
     · by_cases h5:n<m <;> simp [orF,h4,h5]
   · have h2:(cmpC a b != 0)=true:=by simpa using h3
     have h4:(cmpC a b == 0)=false:=by simpa using h3
     rw [h2,h4,cond_true,decide_eq_false h1]
     have:decide (0<=cmpC a b)=true:=by simp;omega
     rw [this];rfl
def on_sisi (p:List UInt8->Int->List UInt8->Int->Prop) (f:List UInt8->Int->List UInt8->Int->PV):PSpec
 | [.str a0,.int .i64 a1,.str a2,.int .i64 a3]=>(p a0 a1 a2 a3,f a0 a1 a2 a3)
 | _=>(False,default)
theorem on_sisi_eq {p:List UInt8->Int->List UInt8->Int->Prop} {f:List UInt8->Int->List UInt8->Int->PV} {a0:List UInt8} {a1:Int} {a2:List UInt8} {a3:Int}:on_sisi p f [.str a0,.int .i64 a1,.str a2,.int .i64 a3]=(p a0 a1 a2 a3,f a0 a1 a2 a3):=rfl
theorem on_sisi_inv {p:List UInt8->Int->List UInt8->Int->Prop} {f:List UInt8->Int->List UInt8->Int->PV} {args:List PV} (h:(on_sisi p f args).1):∃ a0:List UInt8,∃ a1:Int,∃ a2:List UInt8,∃ a3:Int,args=[.str a0,.int .i64 a1,.str a2,.int .i64 a3]/\p a0 a1 a2 a3:=by
 unfold on_sisi at h
 split at h
 · exact ⟨_,_,_,_,rfl,h⟩
 · exact h.elim
noncomputable def rbehS:PSpec:=on_sisi (fun a _ b _=>a.length<=1000000000000/\b.length<=1000000000000) (fun a m b n=>.bool (bhd a m b n))
theorem k_rbehS_69 {args:List PV}:Z0 69 args=rcmS args:=rfl
theorem w_rbehS:PSound GG 128 rbehS:=by
 refine PSound.of_wpc (C:=cxP Tryz.prog Z0 [] 24) (T:=plan0) Tryz.func128 rfl rfl rfl (Fit.pure (G:=GG) hZ0 mixed) (fun args h=>?_)
 unfold rbehS at h
 obtain ⟨a,m,b,n,rfl,hp⟩:=on_sisi_inv h
 refine ⟨by simp [cxP],?_⟩
 simp only [rbehS,on_sisi_eq,Tryz.f128,argL,plan0]
 obtain ⟨h1,h2⟩:=hp
 simp only [k_rbehS_69,rcmS,on_ss_eq,go_sem,↓reduceIte,reduceCtorEq,Nat.reduceEqDiff,Nat.reduceLT,Nat.reduceAdd]
 refine ⟨by omega,?_⟩
 rw [bhd_eq]
 exact ⟨fun a b=>by rw [a,b];rfl,rfl⟩
theorem leaf_eq (L:Law) (s:List UInt8):(isCode s&&hasF L s&&L.tree.all (fun h=>!(parC (hCode h) == s)))=(lvL L).contains s:=by
 rw [Bool.eq_iff_iff,List.contains_iff_mem]
 unfold lvL lvC hasF
 simp only [List.mem_filter,List.mem_map,Bool.and_eq_true,List.any_eq_true,List.all_eq_true,beq_self_eq_true,Bool.true_or,and_true,Bool.not_eq_true',beq_eq_false_iff_ne,beq_iff_eq,ne_eq]
 constructor
 · rintro ⟨⟨h1,h2⟩,h3⟩
   refine ⟨h2,h1,?_⟩
   rintro x ⟨e,he,rfl⟩
   exact h3 e he
 · rintro ⟨h2,h1,h3⟩
   exact ⟨⟨h1,h2⟩,fun e he=>h3 _ ⟨e,he,rfl⟩⟩
noncomputable def Z1 (g:FuncId):PSpec:=(putΦ (putΦ (putΦ (putΦ Z0 68 rvalidMS) 79 rhasLS) 67 rinS) 128 rbehS) g
theorem hZ1:TabSound GG Z1:=((((hZ0.put w_rvalidMS).put w_rhasLS).put w_rinS).put w_rbehS)
noncomputable def rleafS:PSpec:=on_ps (fun l s=>(∃ L:Law,l=L.v/\(∀ e,e∈L.tree->isH e)/\L.tree.length<=1000000)/\s.length<=1000000000000) (fun l s=>.bool ((lvL (lawO l)).contains s))
theorem k_rleafS_76 {args:List PV}:Z1 76 args=goodS args:=rfl
theorem k_rleafS_78 {args:List PV}:Z1 78 args=parentS args:=rfl
theorem k_rleafS_79 {args:List PV}:Z1 79 args=rhasLS args:=rfl
theorem w_rleafS:PSound GG 66 rleafS:=by
 refine PSound.of_wpc (C:=cxP Tryz.prog Z1 [] 29) (T:=plan0) Tryz.func66 rfl rfl rfl (Fit.pure (G:=GG) hZ1 mixed) (fun args h=>?_)
 unfold rleafS at h
 obtain ⟨l,s,rfl,hp⟩:=on_ps_inv h
 refine ⟨by simp [cxP],?_⟩
 simp only [rleafS,on_ps_eq,Tryz.f66,argL,plan0]
 obtain ⟨⟨⟨fi,ye,tr,la,lb,lc,ld,le,lf,lg⟩,rfl,q1,q2⟩,hs⟩:=hp
 rw [lawO_v,<- leaf_eq]
 have hpre:∃ L:Law,lawV fi ye tr la lb lc ld le lf lg=L.v/\(∀ e,e∈L.tree->isH e)/\L.tree.length<=1000000:=⟨⟨fi,ye,tr,la,lb,lc,ld,le,lf,lg⟩,rfl,q1,q2⟩
 have hv:lawO (lawV fi ye tr la lb lc ld le lf lg)=⟨fi,ye,tr,la,lb,lc,ld,le,lf,lg⟩:=rfl
 simp only at q1 q2
 simp only [lawV] at hpre hv
 obtain ⟨B,hB⟩:∃ B,hasF ⟨fi,ye,tr,la,lb,lc,ld,le,lf,lg⟩ s=B:=⟨_,rfl⟩
 rw [hB]
 simp only [Law.v,lawV,hv,hB,good_code,List.take_succ_cons,List.take_nil,k_rleafS_76,goodS,on_s_eq,k_rleafS_79,rhasLS,on_ps_eq,go_sem,↓reduceIte,reduceCtorEq,Nat.reduceEqDiff,Nat.reduceLT,Nat.reduceAdd,Nat.reduceLeDiff,ev_callG,List.forall_mem_cons,List.not_mem_nil,PV.one,AV.one]
 refine ⟨by omega,fun _=>hpre,fun g0=>?_,fun g1=>?_,fun g1=>?_⟩
 · have h9:∀ a:Bool,(!a)=false->a=true:=by decide
   exact h9 _ g0
 · have h9:∀ a b:Bool,(!a||!b)=true->(a&&b)=false:=by decide
   rw [h9 _ _ g1];rfl
 have h9:∀ a b:Bool,(!a||!b)=false->(a&&b)=true:=by decide
 rw [h9 _ _ g1,Bool.true_and]
 refine AWp.loop (T:=plan0) (α:=Nat) (fun i=>([(1,.pv (.str s)),(17,.pv (.sl tr)),(18,.pv (.int .i64 tr.length)),(19,.pv (.int .i64 i))],[])) (fun i=>i<=tr.length/\(tr.take i).all (fun h=>!(parC (hCode h) == s))=true) (fun i=>tr.length-i)
  ⟨0,⟨Nat.zero_le _,rfl⟩,⟨by simp [fitR,look],trivial,rfl,rfl,rfl⟩⟩ ?_
 rintro i ⟨h1,h2⟩
 have hi1:IntKind.i64.wrap ((i:Int)+1)=((i+1:Nat):Int):=by rw [i64_in _ (by omega)];omega
 by_cases hlt:i<tr.length
 · have c0:decide ((i:Int)<(tr.length:Int))=true:=by simp;omega
   obtain ⟨c,nm,he,hc⟩:=q1 _ (getD_mem hlt)
   have he3:tr.getD i default=.agg [.str c,.str nm]:=he
   have hm:=getD_mem hlt
   have htk:=take_succ_getD hlt
   rw [he3] at hm htk
   simp only [c0,he3,hi1,par_code,List.take_succ_cons,List.take_nil,on_s_eq,k_rleafS_78,parentS,plan0,go_sem,↓reduceIte,reduceCtorEq,Nat.reduceEqDiff,Nat.reduceLT,Nat.reduceAdd,Nat.reduceLeDiff,PV.one,AV.one]
   refine ⟨⟨by omega,by omega⟩,by omega,fun h9=>?_,fun h9=>⟨i+1,⟨by omega,?_⟩,by omega,⟨by simp [fitR,look],trivial,rfl,rfl,rfl⟩⟩⟩
   · have:tr.all (fun h=>!(parC (hCode h) == s))=false:=List.all_eq_false.2 ⟨_,hm,by show ¬ (!(parC c == s))=true;rw [h9];decide⟩
     rw [this]
   · rw [htk,List.all_append,h2,List.all_cons]
     show (true&&(!(parC c == s)&&true))=true
     rw [h9];rfl
 · have c0:decide ((i:Int)<(tr.length:Int))=false:=by simp;omega
   rw [List.take_of_length_le (by omega)] at h2
   simp only [c0,h2,plan0,go_sem,↓reduceIte,reduceCtorEq,Nat.reduceEqDiff,Nat.reduceLT,Nat.reduceAdd,Nat.reduceLeDiff]
noncomputable def rlimS:PSpec:=on_p (fun l=>∃ L:Law,l=L.v/\LawS L) (fun l=>.int .i64 (bif limitE (lawO l) then 3 else 0))
theorem w_rlimS:PSound GG 81 rlimS:=by
 refine PSound.of_wpc (C:=cxP Tryz.prog Z1 [] 57) (T:=plan0) Tryz.func81 rfl rfl rfl (Fit.pure (G:=GG) hZ1 mixed) (fun args h=>?_)
 unfold rlimS at h
 obtain ⟨l,rfl,hp⟩:=on_p_inv h
 refine ⟨by simp [cxP],?_⟩
 simp only [rlimS,on_p_eq,Tryz.f81,argL,plan0]
 obtain ⟨⟨fi,ye,tr,la,lb,lc,ld,le,lf,lg⟩,rfl,hS⟩:=hp
 have hga:=hS.g
 have hgl:=hS.gl
 rw [lawO_v]
 clear hS
 simp only [limitE] at hga hgl ⊢
 simp only [Law.v,lawV,go_sem,↓reduceIte,reduceCtorEq,Nat.reduceEqDiff,Nat.reduceLT,Nat.reduceAdd,Nat.reduceLeDiff,PV.one,AV.one]
 generalize hC:(decide ((120:Int)<(la.length:Int))||decide ((60:Int)<(lb.length:Int))||decide ((60:Int)<(lc.length:Int))||decide ((20:Int)<(ld.length:Int))||decide ((20:Int)<(le.length:Int))||decide ((20:Int)<(lf.length:Int))||decide ((20:Int)<(lg.length:Int)))=C
 refine ⟨fun g1=>by rw [g1];rfl,fun g1=>?_⟩
 rw [g1,Bool.false_or]
 refine AWp.loop (T:=plan0) (α:=Nat) (fun i=>([(46,.pv (.sl lg)),(47,.pv (.int .i64 lg.length)),(48,.pv (.int .i64 i))],[])) (fun i=>i<=lg.length/\(lg.take i).any bigA=false) (fun i=>lg.length-i)
  ⟨0,⟨Nat.zero_le _,rfl⟩,⟨by simp [fitR,look],trivial,rfl,rfl,rfl⟩⟩ ?_
 rintro i ⟨h1,h2⟩
 have hi1:IntKind.i64.wrap ((i:Int)+1)=((i+1:Nat):Int):=by rw [i64_in _ (by omega)];omega
 by_cases hlt:i<lg.length
 · have c0:decide ((i:Int)<(lg.length:Int))=true:=by simp;omega
   obtain ⟨d,n,ch,he3,hc⟩:=hga _ (getD_mem hlt)
   have hm:=getD_mem hlt
   have htk:=take_succ_getD hlt
   rw [he3] at hm htk
   have hb:bigA (.agg [.int .i64 d,.int .i64 n,.sl ch])=decide ((20:Int)<(ch.length:Int)):=rfl
   simp only [c0,he3,hi1,List.take_succ_cons,List.take_nil,plan0,go_sem,↓reduceIte,reduceCtorEq,Nat.reduceEqDiff,Nat.reduceLT,Nat.reduceAdd,Nat.reduceLeDiff,PV.one,AV.one]
   refine ⟨⟨by omega,by omega⟩,fun h9=>?_,fun h9=>⟨i+1,⟨by omega,?_⟩,by omega,⟨by simp [fitR,look],trivial,rfl,rfl,rfl⟩⟩⟩
   · have:lg.any bigA=true:=List.any_eq_true.2 ⟨_,hm,by rw [hb,h9]⟩
     rw [this];rfl
   · rw [htk,List.any_append,h2,List.any_cons,hb,h9];rfl
 · have c0:decide ((i:Int)<(lg.length:Int))=false:=by simp;omega
   rw [List.take_of_length_le (by omega)] at h2
   simp only [c0,h2,plan0,go_sem,↓reduceIte,reduceCtorEq,Nat.reduceEqDiff,Nat.reduceLT,Nat.reduceAdd,Nat.reduceLeDiff]
   try rfl
noncomputable def Z2 (g:FuncId):PSpec:=(putΦ (putΦ Z1 66 rleafS) 81 rlimS) g
theorem hZ2:TabSound GG Z2:=((hZ1.put w_rleafS).put w_rlimS)
theorem boolR:((!true)=false)/\((!false)=true)/\(∀ b:Bool,(!!b)=b)/\(∀ b:Bool,(true||b)=true)/\(∀ b:Bool,(b||true)=true)/\(∀ b:Bool,(false||b)=b)/\(∀ b:Bool,(b||false)=b)/\(∀ b:Bool,(true&&b)=b)/\(∀ b:Bool,(b&&true)=b)/\(∀ b:Bool,(false&&b)=false)/\(∀ b:Bool,(b&&false)=false):=by simp
theorem amg_not (n a b:Int):(decide (n<a)||decide (b<n))= !amg n a b:=by
 rw [Bool.eq_iff_iff];unfold amg;first | (simp;done) | (simp;omega)
theorem amg_not2 (c:Bool) (n a b:Int):(c||decide (n<a)||decide (b<n))=(c||!amg n a b):=by rw [Bool.or_assoc,amg_not]
theorem orc (c:Int) (r:List Int):decide (0<=orF (c::r))=(decide (0<c)||(c == 0&&decide (0<=orF r))):=by
 rw [orF]
 by_cases h:c=0
 · subst h;simp
 · have h1:(c != 0)=true:=by simpa using h
   have h2:(c == 0)=false:=by simpa using h
   rw [h1,h2,cond_true,Bool.false_and,Bool.or_false]
   rw [Bool.eq_iff_iff];simp;omega
theorem orF_one (a:Int):orF [a]=a:=by
 rw [orF]
 by_cases h:a=0
 · subst h;rfl
 · have h1:(a != 0)=true:=by simpa using h
   rw [h1,cond_true]
theorem cmpI_pos (a b:Int):decide (0<cmpI a b)=decide (b<a):=by
 unfold cmpI
 by_cases h:a<b
 · have:¬ b<a:=by omega
   simp [h,this]
 · by_cases h2:b<a <;> simp [h,h2]
theorem cmpI_eq0 (a b:Int):(cmpI a b == 0)=(a == b):=by
 unfold cmpI
 by_cases h:a<b
 · have:¬ a=b:=by omega
   simp [h,this]
 · by_cases h2:b<a
   · have:¬ a=b:=by omega
     simp [h,h2,this]
   · have:a=b:=by omega
     simp [this]
theorem cmpI_ge (a b:Int):decide (0<=cmpI a b)=decide (b<=a):=by
 unfold cmpI
 by_cases h:a<b
 · have:¬ b<=a:=by omega
   simp [h,this]
 · have:b<=a:=by omega
   by_cases h2:b<a <;> simp [h,h2,this]
theorem cond_kind (k d l:Int) (s:List UInt8):(!(k == 1)&&!(k == 2)||(k == 1)&&(!(s == [])||l != 0)||(k == 2)&&d != 0)=(!amg k 1 2||(k == 2&&d != 0)||(!(k == 2)&&(!(s == [])||l != 0))):=by
 by_cases h1:k=1
 · subst h1
   have a1:amg 1 1 2=true:=by decide
   rw [a1];simp
 · by_cases h2:k=2
   · subst h2
     have a1:amg 2 1 2=true:=by decide
     rw [a1];simp
   · have a1:amg k 1 2=false:=by unfold amg;simp;omega
     have e1:(k == 1)=false:=by simpa using h1
     have e2:(k == 2)=false:=by simpa using h2
     rw [a1,e1,e2];rfl
noncomputable def rlinesS:PSpec:=on_p (fun l=>∃ L:Law,l=L.v/\LawS L) (fun l=>.int .i64 (eachF (lineE (lawO l) (lvL (lawO l))) linO none (lawO l).a))
theorem k_rlinesS_66 {args:List PV}:Z2 66 args=rleafS args:=rfl
theorem k_rlinesS_67 {args:List PV}:Z2 67 args=rinS args:=rfl
theorem k_rlinesS_68 {args:List PV}:Z2 68 args=rvalidMS args:=rfl
theorem k_rlinesS_128 {args:List PV}:Z2 128 args=rbehS args:=rfl
theorem w_rlinesS:PSound GG 82 rlinesS:=by
 refine PSound.of_wpc (C:=cxP Tryz.prog Z2 [] 56) (T:=plan0) Tryz.func82 rfl rfl rfl (Fit.pure (G:=GG) hZ2 mixed) (fun args h=>?_)
 unfold rlinesS at h
 obtain ⟨x,rfl,hp⟩:=on_p_inv h
 refine ⟨by simp [cxP],?_⟩
 simp only [rlinesS,on_p_eq,Tryz.f82,argL,plan0]
 obtain ⟨⟨fi,ye,tr,la,lb,lc,ld,le,lf,lg⟩,rfl,hS⟩:=hp
 have hxs:=hS.a
 have hll:=hS.al
 have hpre:∃ L':Law,lawV fi ye tr la lb lc ld le lf lg=L'.v/\(∀ e,e∈L'.tree->isH e)/\L'.tree.length<=1000000:=⟨⟨fi,ye,tr,la,lb,lc,ld,le,lf,lg⟩,rfl,hS.isH,hS.tl⟩
 have hin:∃ L':Law,lawV fi ye tr la lb lc ld le lf lg=L'.v:=⟨⟨fi,ye,tr,la,lb,lc,ld,le,lf,lg⟩,rfl⟩
 have hvo:lawO (lawV fi ye tr la lb lc ld le lf lg)=⟨fi,ye,tr,la,lb,lc,ld,le,lf,lg⟩:=rfl
 rw [lawO_v]
 obtain ⟨L0,hL0⟩:∃ L0:Law,⟨fi,ye,tr,la,lb,lc,ld,le,lf,lg⟩=L0:=⟨_,rfl⟩
 rw [hL0] at hvo
 obtain ⟨W,hW⟩:∃ W,lineE ⟨fi,ye,tr,la,lb,lc,ld,le,lf,lg⟩ (lvL ⟨fi,ye,tr,la,lb,lc,ld,le,lf,lg⟩)=W:=⟨_,rfl⟩
 rw [hW]
 rw [hL0] at hW
 clear hS hL0
 simp only [lawV] at hpre hin hvo hxs hll
 simp only [Law.v,lawV,go_sem,↓reduceIte,reduceCtorEq,Nat.reduceEqDiff,Nat.reduceLT,Nat.reduceAdd,Nat.reduceLeDiff,PV.one,AV.one]
 refine AWp.loop (T:=plan0) (α:=Nat) (fun i=>([(1,.ptr 1 0),(6,.pv (.sl la)),(7,.pv (.int .i64 la.length)),(8,.pv (.int .i64 i))],[(1,.cells [.pv (.int .i64 fi),.pv (.int .i64 ye),.pv (.sl tr),.pv (.sl la),.pv (.sl lb),.pv (.sl lc),.pv (.sl ld),.pv (.sl le),.pv (.sl lf),.pv (.sl lg)])])) (fun i=>i<=la.length/\eachF W linO none la=eachF W linO (prevE la i) (la.drop i)) (fun i=>la.length-i)
  ⟨0,⟨Nat.zero_le _,rfl⟩,⟨by simp [fitR,look],by simp [fitH,hget],rfl,rfl,rfl⟩⟩ ?_
 rintro i ⟨h1,h2⟩
 have hi1:IntKind.i64.wrap ((i:Int)+1)=((i+1:Nat):Int):=by rw [i64_in _ (by omega)];omega
 rw [h2]
 by_cases hlt:i<la.length
 · have hsx:=hxs _ (getD_mem hlt)
   have hd:la.drop i=la.getD i default::la.drop (i+1):=by rw [List.drop_eq_getElem_cons hlt];simp [List.getD_eq_getElem?_getD,hlt]
   obtain ⟨x,hg⟩:∃ x,la.getD i default=x:=⟨_,rfl⟩
   have hpv:prevE la (i+1)=some x:=by rw [<- hg];exact if_neg (by omega)
   rw [hg] at hsx hd
   rw [hd,eachF_cons]
   clear h2
   obtain ⟨s,y,m,rfl,hsl⟩:=hsx
   have hE:W (.agg [.str s,.int .i64 y,.int .i64 m])=bif !(lvL L0).contains s then 5 else bif !inF L0 y then 16 else bif !vldM m then 2 else 0:=by rw [<- hW];rfl
   rw [hE]
   obtain ⟨b0,e0⟩:∃ b,(lvL L0).contains s=b:=⟨_,rfl⟩
   obtain ⟨b1,e1⟩:∃ b,inF L0 y=b:=⟨_,rfl⟩
   obtain ⟨b2,e2⟩:∃ b,vldM m=b:=⟨_,rfl⟩
   simp only [e0,e1,e2] at hE ⊢
   cases i with
   | zero=>
     have c0:decide ((0:Int)<(la.length:Int))=true:=by simp;omega
     have w1:IntKind.i64.wrap (0-1)= -1:=by decide
     have w2:IntKind.i64.wrap (0+1)=1:=by decide
     have hp0:prevE la 0=none:=rfl
     rw [hp0]
     have hpv1:prevE la 1=some (.agg [.str s,.int .i64 y,.int .i64 m]):=hpv
     have hbn:bhF linO none (.agg [.str s,.int .i64 y,.int .i64 m])=false:=rfl
     simp only [c0,decide_false,w1,w2,neg1',hg,hvo,e0,e1,e2,List.take_succ_cons,List.take_nil,k_rlinesS_66,rleafS,on_ps_eq,k_rlinesS_67,rinS,on_pi_eq,k_rlinesS_68,rvalidMS,on_i_eq,k_rlinesS_128,rbehS,on_sisi_eq,plan0,go_sem,↓reduceIte,reduceCtorEq,Nat.reduceEqDiff,Nat.reduceLT,Int.reduceLT,Int.reduceLE,Nat.reduceAdd,Nat.reduceLeDiff,ev_callG,List.forall_mem_cons,List.not_mem_nil,PV.one,AV.one]
     clear hd
     repeat' (first | (intro _) | (with_reducible refine And.intro ?_ ?_))
     all_goals try first
      | exact hpre | exact ⟨hpre,hsl⟩ | exact hsl | exact hin | exact fun _=>hpre | exact fun _=>⟨hpre,hsl⟩ | exact fun _=>hin | trivial | omega | (show checkD _ _ _=true;kernel_rfl)
      | (simp only [*,cond_true,cond_false,bne_self_eq_false];done)
      | (simp only [*,cond_true,cond_false,bne_self_eq_false];rfl)
      | (refine ⟨1,⟨by omega,?_⟩,by omega,⟨by simp [fitR,look],by simp [fitH,hget],rfl,rfl,rfl⟩⟩;simp only [*,cond_false,bne_self_eq_false];done)
      | (refine ⟨1,⟨by omega,?_⟩,by omega,⟨by simp [fitR,look],by simp [fitH,hget],rfl,rfl,rfl⟩⟩;simp only [*,boolR,cond_true,cond_false,bne_self_eq_false];rfl)
      | (simp_all;done)
   | succ j=>
     have c0:decide (((j+1:Nat):Int)<(la.length:Int))=true:=by simp;omega
     have c1:decide ((0:Int)<((j+1:Nat):Int))=true:=by simp
     have w1:IntKind.i64.wrap (((j+1:Nat):Int)-1)=(j:Int):=by rw [i64_in _ (by omega)];omega
     have hsy:=hxs _ (getD_mem (show j<la.length by omega))
     obtain ⟨z,hz⟩:∃ z,la.getD j default=z:=⟨_,rfl⟩
     have hp0:prevE la (j+1)=some z:=by rw [<- hz];rfl
     rw [hp0]
     rw [hz] at hsy
     obtain ⟨s',y',m',rfl,hsl'⟩:=hsy
     have hb:bhF linO (some (.agg [.str s',.int .i64 y',.int .i64 m'])) (.agg [.str s,.int .i64 y,.int .i64 m])= !bhd s' y' s y:=(Bool.not_not _).symm
     rw [hb]
     obtain ⟨b9,e9⟩:∃ b,bhd s' y' s y=b:=⟨_,rfl⟩
     rw [e9]
     simp only [c0,c1,w1,hg,hz,hi1,hvo,e0,e1,e2,e9,List.take_succ_cons,List.take_nil,k_rlinesS_66,rleafS,on_ps_eq,k_rlinesS_67,rinS,on_pi_eq,k_rlinesS_68,rvalidMS,on_i_eq,k_rlinesS_128,rbehS,on_sisi_eq,plan0,go_sem,↓reduceIte,reduceCtorEq,Nat.reduceEqDiff,Nat.reduceLT,Nat.reduceAdd,Nat.reduceLeDiff,ev_callG,List.forall_mem_cons,List.not_mem_nil,PV.one,AV.one]
     clear hd
     repeat' (first | (intro _) | (with_reducible refine And.intro ?_ ?_))
     all_goals try first
      | exact hpre | exact ⟨hpre,hsl⟩ | exact hsl | exact hin | exact fun _=>hpre | exact fun _=>⟨hpre,hsl⟩ | exact fun _=>hin | trivial | omega | (show checkD _ _ _=true;kernel_rfl)
      | (simp only [*,cond_true,cond_false,bne_self_eq_false];done)
      | (simp only [*,cond_true,cond_false,bne_self_eq_false];rfl)
      | (refine ⟨j+1+1,⟨by omega,?_⟩,by omega,⟨by simp [fitR,look],by simp [fitH,hget],rfl,rfl,rfl⟩⟩;simp only [*,cond_false,bne_self_eq_false];done)
      | (refine ⟨j+1+1,⟨by omega,?_⟩,by omega,⟨by simp [fitR,look],by simp [fitH,hget],rfl,rfl,rfl⟩⟩;simp only [*,boolR,cond_true,cond_false,bne_self_eq_false];rfl)
      | (simp_all;done)
 · have c0:decide ((i:Int)<(la.length:Int))=false:=by simp;omega
   rw [List.drop_eq_nil_of_le (by omega),eachF_nil]
   simp only [c0,plan0,go_sem,↓reduceIte,reduceCtorEq,Nat.reduceEqDiff,Nat.reduceLT,Nat.reduceAdd,Nat.reduceLeDiff]
noncomputable def rboundsS:PSpec:=on_pl (fun l b=>(∃ L:Law,l=L.v/\LawS L)/\(∀ x,x∈b->isL3 x)/\b.length<=1000000) (fun l b=>.int .i64 (eachF (boundE (lawO l)) linO none b))
theorem k_rboundsS_67 {args:List PV}:Z2 67 args=rinS args:=rfl
theorem k_rboundsS_68 {args:List PV}:Z2 68 args=rvalidMS args:=rfl
theorem k_rboundsS_79 {args:List PV}:Z2 79 args=rhasLS args:=rfl
theorem k_rboundsS_128 {args:List PV}:Z2 128 args=rbehS args:=rfl
theorem w_rboundsS:PSound GG 83 rboundsS:=by
 refine PSound.of_wpc (C:=cxP Tryz.prog Z2 [] 60) (T:=plan0) Tryz.func83 rfl rfl rfl (Fit.pure (G:=GG) hZ2 mixed) (fun args h=>?_)
 unfold rboundsS at h
 obtain ⟨x,bs,rfl,hp⟩:=on_pl_inv h
 refine ⟨by simp [cxP],?_⟩
 simp only [rboundsS,on_pl_eq,Tryz.f83,argL,plan0]
 obtain ⟨⟨⟨fi,ye,tr,la,lb,lc,ld,le,lf,lg⟩,rfl,hS⟩,hxs,hll⟩:=hp
 have hpre:∃ L':Law,lawV fi ye tr la lb lc ld le lf lg=L'.v/\(∀ e,e∈L'.tree->isH e)/\L'.tree.length<=1000000:=⟨⟨fi,ye,tr,la,lb,lc,ld,le,lf,lg⟩,rfl,hS.isH,hS.tl⟩
 have hin:∃ L':Law,lawV fi ye tr la lb lc ld le lf lg=L'.v:=⟨⟨fi,ye,tr,la,lb,lc,ld,le,lf,lg⟩,rfl⟩
 have hvo:lawO (lawV fi ye tr la lb lc ld le lf lg)=⟨fi,ye,tr,la,lb,lc,ld,le,lf,lg⟩:=rfl
 rw [lawO_v]
 obtain ⟨L0,hL0⟩:∃ L0:Law,⟨fi,ye,tr,la,lb,lc,ld,le,lf,lg⟩=L0:=⟨_,rfl⟩
 rw [hL0] at hvo
 obtain ⟨W,hW⟩:∃ W,boundE ⟨fi,ye,tr,la,lb,lc,ld,le,lf,lg⟩=W:=⟨_,rfl⟩
 rw [hW]
 rw [hL0] at hW
 clear hS hL0
 simp only [lawV] at hpre hin hvo
 simp only [Law.v,lawV,go_sem,↓reduceIte,reduceCtorEq,Nat.reduceEqDiff,Nat.reduceLT,PV.one,AV.one]
 refine AWp.loop (T:=plan0) (α:=Nat) (fun i=>([(1,.pv (.sl bs)),(2,.ptr 2 0),(7,.pv (.sl bs)),(8,.pv (.int .i64 bs.length)),(9,.pv (.int .i64 i))],[(2,.cells [.pv (.int .i64 fi),.pv (.int .i64 ye),.pv (.sl tr),.pv (.sl la),.pv (.sl lb),.pv (.sl lc),.pv (.sl ld),.pv (.sl le),.pv (.sl lf),.pv (.sl lg)])])) (fun i=>i<=bs.length/\eachF W linO none bs=eachF W linO (prevE bs i) (bs.drop i)) (fun i=>bs.length-i)
  ⟨0,⟨Nat.zero_le _,rfl⟩,⟨by simp [fitR,look],by simp [fitH,hget],rfl,rfl,rfl⟩⟩ ?_
 rintro i ⟨h1,h2⟩
 have hi1:IntKind.i64.wrap ((i:Int)+1)=((i+1:Nat):Int):=by rw [i64_in _ (by omega)];omega
 rw [h2]
 by_cases hlt:i<bs.length
 · have hsx:=hxs _ (getD_mem hlt)
   have hd:bs.drop i=bs.getD i default::bs.drop (i+1):=by rw [List.drop_eq_getElem_cons hlt];simp [List.getD_eq_getElem?_getD,hlt]
   obtain ⟨x,hg⟩:∃ x,bs.getD i default=x:=⟨_,rfl⟩
   have hpv:prevE bs (i+1)=some x:=by rw [<- hg];exact if_neg (by omega)
   rw [hg] at hsx hd
   rw [hd,eachF_cons]
   clear h2
   obtain ⟨s,y,m,rfl,hsl⟩:=hsx
   have hE:W (.agg [.str s,.int .i64 y,.int .i64 m])=bif !hasF L0 s then 5 else bif (y != -1&&!inF L0 y) then 16 else bif !vldM m then 2 else 0:=by rw [<- hW];rfl
   rw [hE]
   obtain ⟨b0,e0⟩:∃ b,hasF L0 s=b:=⟨_,rfl⟩
   obtain ⟨b1,e1⟩:∃ b,inF L0 y=b:=⟨_,rfl⟩
   obtain ⟨b2,e2⟩:∃ b,vldM m=b:=⟨_,rfl⟩
   simp only [e0,e1,e2] at hE ⊢
   cases i with
   | zero=>
     have c0:decide ((0:Int)<(bs.length:Int))=true:=by simp;omega
     have w1:IntKind.i64.wrap (0-1)= -1:=by decide
     have w2:IntKind.i64.wrap (0+1)=1:=by decide
     have hp0:prevE bs 0=none:=rfl
     rw [hp0]
     have hpv1:prevE bs 1=some (.agg [.str s,.int .i64 y,.int .i64 m]):=hpv
     have hbn:bhF linO none (.agg [.str s,.int .i64 y,.int .i64 m])=false:=rfl
     simp only [c0,decide_false,w1,w2,neg1',hg,hvo,e0,e1,e2,List.take_succ_cons,List.take_nil,k_rboundsS_67,rinS,on_pi_eq,k_rboundsS_68,rvalidMS,on_i_eq,k_rboundsS_79,rhasLS,on_ps_eq,k_rboundsS_128,rbehS,on_sisi_eq,plan0,go_sem,↓reduceIte,reduceCtorEq,Nat.reduceEqDiff,Nat.reduceLT,Int.reduceLT,Int.reduceLE,Nat.reduceAdd,Nat.reduceLeDiff,ev_callG,List.forall_mem_cons,List.not_mem_nil,PV.one,AV.one]
     clear hd
     repeat' (first | (intro _) | (with_reducible refine And.intro ?_ ?_))
     all_goals try first
      | exact hpre | exact ⟨hpre,hsl⟩ | exact hsl | exact hin | exact fun _=>hpre | exact fun _=>⟨hpre,hsl⟩ | exact fun _=>hin | trivial | omega | (show checkD _ _ _=true;kernel_rfl)
      | (simp only [*,cond_true,cond_false,bne_self_eq_false];done)
      | (simp only [*,cond_true,cond_false,bne_self_eq_false];rfl)
      | (refine ⟨1,⟨by omega,?_⟩,by omega,⟨by simp [fitR,look],by simp [fitH,hget],rfl,rfl,rfl⟩⟩;simp only [*,cond_false,bne_self_eq_false];done)
      | (refine ⟨1,⟨by omega,?_⟩,by omega,⟨by simp [fitR,look],by simp [fitH,hget],rfl,rfl,rfl⟩⟩;simp only [*,boolR,cond_true,cond_false,bne_self_eq_false];rfl)
      | (simp_all;done)
   | succ j=>
     have c0:decide (((j+1:Nat):Int)<(bs.length:Int))=true:=by simp;omega
     have c1:decide ((0:Int)<((j+1:Nat):Int))=true:=by simp
     have w1:IntKind.i64.wrap (((j+1:Nat):Int)-1)=(j:Int):=by rw [i64_in _ (by omega)];omega
     have hsy:=hxs _ (getD_mem (show j<bs.length by omega))
     obtain ⟨z,hz⟩:∃ z,bs.getD j default=z:=⟨_,rfl⟩
     have hp0:prevE bs (j+1)=some z:=by rw [<- hz];rfl
     rw [hp0]
     rw [hz] at hsy
     obtain ⟨s',y',m',rfl,hsl'⟩:=hsy
     have hb:bhF linO (some (.agg [.str s',.int .i64 y',.int .i64 m'])) (.agg [.str s,.int .i64 y,.int .i64 m])= !bhd s' y' s y:=(Bool.not_not _).symm
     rw [hb]
     obtain ⟨b9,e9⟩:∃ b,bhd s' y' s y=b:=⟨_,rfl⟩
     rw [e9]
     simp only [c0,c1,w1,hg,hz,hi1,hvo,e0,e1,e2,e9,List.take_succ_cons,List.take_nil,k_rboundsS_67,rinS,on_pi_eq,k_rboundsS_68,rvalidMS,on_i_eq,k_rboundsS_79,rhasLS,on_ps_eq,k_rboundsS_128,rbehS,on_sisi_eq,plan0,go_sem,↓reduceIte,reduceCtorEq,Nat.reduceEqDiff,Nat.reduceLT,Nat.reduceAdd,Nat.reduceLeDiff,ev_callG,List.forall_mem_cons,List.not_mem_nil,PV.one,AV.one]
     clear hd
     repeat' (first | (intro _) | (with_reducible refine And.intro ?_ ?_))
     all_goals try first
      | exact hpre | exact ⟨hpre,hsl⟩ | exact hsl | exact hin | exact fun _=>hpre | exact fun _=>⟨hpre,hsl⟩ | exact fun _=>hin | trivial | omega | (show checkD _ _ _=true;kernel_rfl)
      | (simp only [*,cond_true,cond_false,bne_self_eq_false];done)
      | (simp only [*,cond_true,cond_false,bne_self_eq_false];rfl)
      | (refine ⟨j+1+1,⟨by omega,?_⟩,by omega,⟨by simp [fitR,look],by simp [fitH,hget],rfl,rfl,rfl⟩⟩;simp only [*,cond_false,bne_self_eq_false];done)
      | (refine ⟨j+1+1,⟨by omega,?_⟩,by omega,⟨by simp [fitR,look],by simp [fitH,hget],rfl,rfl,rfl⟩⟩;simp only [*,boolR,cond_true,cond_false,bne_self_eq_false];rfl)
      | (simp_all;done)
 · have c0:decide ((i:Int)<(bs.length:Int))=false:=by simp;omega
   rw [List.drop_eq_nil_of_le (by omega),eachF_nil]
   simp only [c0,plan0,go_sem,↓reduceIte,reduceCtorEq,Nat.reduceEqDiff,Nat.reduceLT,Nat.reduceAdd,Nat.reduceLeDiff]
noncomputable def rcondsS:PSpec:=on_p (fun l=>∃ L:Law,l=L.v/\LawS L) (fun l=>.int .i64 (eachF (condE (lawO l) (lvL (lawO l))) anyO none (lawO l).e))
theorem k_rcondsS_66 {args:List PV}:Z2 66 args=rleafS args:=rfl
theorem k_rcondsS_67 {args:List PV}:Z2 67 args=rinS args:=rfl
theorem k_rcondsS_68 {args:List PV}:Z2 68 args=rvalidMS args:=rfl
theorem k_rcondsS_79 {args:List PV}:Z2 79 args=rhasLS args:=rfl
theorem w_rcondsS:PSound GG 85 rcondsS:=by
 refine PSound.of_wpc (C:=cxP Tryz.prog Z2 [] 92) (T:=plan0) Tryz.func85 rfl rfl rfl (Fit.pure (G:=GG) hZ2 mixed) (fun args h=>?_)
 unfold rcondsS at h
 obtain ⟨x,rfl,hp⟩:=on_p_inv h
 refine ⟨by simp [cxP],?_⟩
 simp only [rcondsS,on_p_eq,Tryz.f85,argL,plan0]
 obtain ⟨⟨fi,ye,tr,la,lb,lc,ld,le,lf,lg⟩,rfl,hS⟩:=hp
 have hxs:=hS.e
 have hll:=hS.el
 have hpre:∃ L':Law,lawV fi ye tr la lb lc ld le lf lg=L'.v/\(∀ e,e∈L'.tree->isH e)/\L'.tree.length<=1000000:=⟨⟨fi,ye,tr,la,lb,lc,ld,le,lf,lg⟩,rfl,hS.isH,hS.tl⟩
 have hin:∃ L':Law,lawV fi ye tr la lb lc ld le lf lg=L'.v:=⟨⟨fi,ye,tr,la,lb,lc,ld,le,lf,lg⟩,rfl⟩
 have hvo:lawO (lawV fi ye tr la lb lc ld le lf lg)=⟨fi,ye,tr,la,lb,lc,ld,le,lf,lg⟩:=rfl
 rw [lawO_v]
 obtain ⟨L0,hL0⟩:∃ L0:Law,⟨fi,ye,tr,la,lb,lc,ld,le,lf,lg⟩=L0:=⟨_,rfl⟩
 rw [hL0] at hvo
 obtain ⟨W,hW⟩:∃ W,condE ⟨fi,ye,tr,la,lb,lc,ld,le,lf,lg⟩ (lvL ⟨fi,ye,tr,la,lb,lc,ld,le,lf,lg⟩)=W:=⟨_,rfl⟩
 rw [hW]
 rw [hL0] at hW
 clear hS hL0
 simp only [lawV] at hpre hin hvo hxs hll
 simp only [Law.v,lawV,go_sem,↓reduceIte,reduceCtorEq,Nat.reduceEqDiff,Nat.reduceLT,Nat.reduceAdd,Nat.reduceLeDiff,PV.one,AV.one]
 refine AWp.loop (T:=plan0) (α:=Nat) (fun i=>([(1,.ptr 1 0),(8,.pv (.sl le)),(9,.pv (.int .i64 le.length)),(10,.pv (.int .i64 i))],[(1,.cells [.pv (.int .i64 fi),.pv (.int .i64 ye),.pv (.sl tr),.pv (.sl la),.pv (.sl lb),.pv (.sl lc),.pv (.sl ld),.pv (.sl le),.pv (.sl lf),.pv (.sl lg)])])) (fun i=>i<=le.length/\eachF W anyO none le=eachF W anyO (prevE le i) (le.drop i)) (fun i=>le.length-i)
  ⟨0,⟨Nat.zero_le _,rfl⟩,⟨by simp [fitR,look],by simp [fitH,hget],rfl,rfl,rfl⟩⟩ ?_
 rintro i ⟨h1,h2⟩
 have hi1:IntKind.i64.wrap ((i:Int)+1)=((i+1:Nat):Int):=by rw [i64_in _ (by omega)];omega
 rw [h2]
 by_cases hlt:i<le.length
 · have hsx:=hxs _ (getD_mem hlt)
   have hd:le.drop i=le.getD i default::le.drop (i+1):=by rw [List.drop_eq_getElem_cons hlt];simp [List.getD_eq_getElem?_getD,hlt]
   obtain ⟨x,hg⟩:∃ x,le.getD i default=x:=⟨_,rfl⟩
   have hpv:prevE le (i+1)=some x:=by rw [<- hg];exact if_neg (by omega)
   rw [hg] at hsx hd
   rw [hd,eachF_cons]
   clear h2
   obtain ⟨c,y,am,k,d,s,l,rfl,hsl,hsl2⟩:=hsx
   have hE:W (.agg [.str c,.int .i64 y,.int .i64 am,.int .i64 k,.int .i64 d,.str s,.int .i64 l])=bif (!amg k 1 2||(k == 2&&d != 0)||(!(k == 2)&&(!(s == [])||l != 0))) then 1 else bif (!(lvL L0).contains c||(k == 2&&!hasF L0 s)) then 5 else bif !inF L0 y then 16 else bif (!vldM am||!vldM l||!amg d 0 35990) then 2 else 0:=by rw [<- hW];rfl
   rw [hE]
   obtain ⟨b0,e0⟩:∃ b,(lvL L0).contains c=b:=⟨_,rfl⟩
   obtain ⟨b1,e1⟩:∃ b,hasF L0 s=b:=⟨_,rfl⟩
   obtain ⟨b2,e2⟩:∃ b,inF L0 y=b:=⟨_,rfl⟩
   obtain ⟨b3,e3⟩:∃ b,vldM am=b:=⟨_,rfl⟩
   obtain ⟨b4,e4⟩:∃ b,vldM l=b:=⟨_,rfl⟩
   simp only [e0,e1,e2,e3,e4] at hE ⊢
   cases i with
   | zero=>
     have c0:decide ((0:Int)<(le.length:Int))=true:=by simp;omega
     have w1:IntKind.i64.wrap (0-1)= -1:=by decide
     have w2:IntKind.i64.wrap (0+1)=1:=by decide
     have hp0:prevE le 0=none:=rfl
     rw [hp0]
     have hpv1:prevE le 1=some (.agg [.str c,.int .i64 y,.int .i64 am,.int .i64 k,.int .i64 d,.str s,.int .i64 l]):=hpv
     have hbn:bhF anyO none (.agg [.str c,.int .i64 y,.int .i64 am,.int .i64 k,.int .i64 d,.str s,.int .i64 l])=false:=rfl
     simp only [c0,w2,hg,hvo,e0,e1,e2,e3,e4,cond_kind,amg_not2,List.take_succ_cons,List.take_nil,k_rcondsS_66,rleafS,on_ps_eq,k_rcondsS_67,rinS,on_pi_eq,k_rcondsS_68,rvalidMS,on_i_eq,k_rcondsS_79,rhasLS,plan0,go_sem,↓reduceIte,reduceCtorEq,Nat.reduceEqDiff,Nat.reduceLT,Nat.reduceAdd,Nat.reduceLeDiff,ev_callG,List.forall_mem_cons,List.not_mem_nil,PV.one,AV.one]
     clear hd
     repeat' (first | (intro _) | (with_reducible refine And.intro ?_ ?_))
     all_goals try first
      | exact hpre | exact ⟨hpre,hsl⟩ | exact hsl | exact hin | exact fun _=>hpre | exact fun _=>⟨hpre,hsl⟩ | exact fun _=>hin | trivial | omega | (show checkD _ _ _=true;kernel_rfl)
      | (simp only [*,boolR,cond_true,cond_false,bne_self_eq_false];done)
      | (simp only [*,boolR,cond_true,cond_false,bne_self_eq_false];rfl)
      | (refine ⟨1,⟨by omega,?_⟩,by omega,⟨by simp [fitR,look],by simp [fitH,hget],rfl,rfl,rfl⟩⟩;simp only [*,cond_false,bne_self_eq_false];done)
      | (refine ⟨1,⟨by omega,?_⟩,by omega,⟨by simp [fitR,look],by simp [fitH,hget],rfl,rfl,rfl⟩⟩;simp only [*,boolR,cond_true,cond_false,bne_self_eq_false];rfl)
      | (simp_all;done)
   | succ j=>
     have c0:decide (((j+1:Nat):Int)<(le.length:Int))=true:=by simp;omega
     have c1:decide ((0:Int)<((j+1:Nat):Int))=true:=by simp
     have w1:IntKind.i64.wrap (((j+1:Nat):Int)-1)=(j:Int):=by rw [i64_in _ (by omega)];omega
     have hsy:=hxs _ (getD_mem (show j<le.length by omega))
     obtain ⟨z,hz⟩:∃ z,le.getD j default=z:=⟨_,rfl⟩
     have hp0:prevE le (j+1)=some z:=by rw [<- hz];rfl
     rw [hp0]
     rw [hz] at hsy
     obtain ⟨c',y',am',k',d',s',l',rfl,_⟩:=hsy
     have hb:bhF anyO (some (.agg [.str c',.int .i64 y',.int .i64 am',.int .i64 k',.int .i64 d',.str s',.int .i64 l'])) (.agg [.str c,.int .i64 y,.int .i64 am,.int .i64 k,.int .i64 d,.str s,.int .i64 l])=false:=rfl
     rw [hb]
     simp only [c0,hg,hi1,hvo,e0,e1,e2,e3,e4,cond_kind,amg_not2,List.take_succ_cons,List.take_nil,k_rcondsS_66,rleafS,on_ps_eq,k_rcondsS_67,rinS,on_pi_eq,k_rcondsS_68,rvalidMS,on_i_eq,k_rcondsS_79,rhasLS,plan0,go_sem,↓reduceIte,reduceCtorEq,Nat.reduceEqDiff,Nat.reduceLT,Nat.reduceAdd,Nat.reduceLeDiff,ev_callG,List.forall_mem_cons,List.not_mem_nil,PV.one,AV.one]
     clear hd
     repeat' (first | (intro _) | (with_reducible refine And.intro ?_ ?_))
     all_goals try first
      | exact hpre | exact ⟨hpre,hsl⟩ | exact hsl | exact hin | exact fun _=>hpre | exact fun _=>⟨hpre,hsl⟩ | exact fun _=>hin | trivial | omega | (show checkD _ _ _=true;kernel_rfl)
      | (simp only [*,boolR,cond_true,cond_false,bne_self_eq_false];done)
      | (simp only [*,boolR,cond_true,cond_false,bne_self_eq_false];rfl)
      | (refine ⟨j+1+1,⟨by omega,?_⟩,by omega,⟨by simp [fitR,look],by simp [fitH,hget],rfl,rfl,rfl⟩⟩;simp only [*,cond_false,bne_self_eq_false];done)
      | (refine ⟨j+1+1,⟨by omega,?_⟩,by omega,⟨by simp [fitR,look],by simp [fitH,hget],rfl,rfl,rfl⟩⟩;simp only [*,boolR,cond_true,cond_false,bne_self_eq_false];rfl)
      | (simp_all;done)
 · have c0:decide ((i:Int)<(le.length:Int))=false:=by simp;omega
   rw [List.drop_eq_nil_of_le (by omega),eachF_nil]
   simp only [c0,plan0,go_sem,↓reduceIte,reduceCtorEq,Nat.reduceEqDiff,Nat.reduceLT,Nat.reduceAdd,Nat.reduceLeDiff]
noncomputable def rrulesS:PSpec:=on_p (fun l=>∃ L:Law,l=L.v/\LawS L) (fun l=>.int .i64 (eachF (ruleE (lawO l)) rulO none (lawO l).f))
theorem k_rrulesS_79 {args:List PV}:Z2 79 args=rhasLS args:=rfl
theorem w_rrulesS:PSound GG 86 rrulesS:=by
 refine PSound.of_wpc (C:=cxP Tryz.prog Z2 [] 61) (T:=plan0) Tryz.func86 rfl rfl rfl (Fit.pure (G:=GG) hZ2 mixed) (fun args h=>?_)
 unfold rrulesS at h
 obtain ⟨x,rfl,hp⟩:=on_p_inv h
 refine ⟨by simp [cxP],?_⟩
 simp only [rrulesS,on_p_eq,Tryz.f86,argL,plan0]
 obtain ⟨⟨fi,ye,tr,la,lb,lc,ld,le,lf,lg⟩,rfl,hS⟩:=hp
 have hxs:=hS.f
 have hll:=hS.fl
 have hpre:∃ L':Law,lawV fi ye tr la lb lc ld le lf lg=L'.v/\(∀ e,e∈L'.tree->isH e)/\L'.tree.length<=1000000:=⟨⟨fi,ye,tr,la,lb,lc,ld,le,lf,lg⟩,rfl,hS.isH,hS.tl⟩
 have hin:∃ L':Law,lawV fi ye tr la lb lc ld le lf lg=L'.v:=⟨⟨fi,ye,tr,la,lb,lc,ld,le,lf,lg⟩,rfl⟩
 have hvo:lawO (lawV fi ye tr la lb lc ld le lf lg)=⟨fi,ye,tr,la,lb,lc,ld,le,lf,lg⟩:=rfl
 rw [lawO_v]
 obtain ⟨L0,hL0⟩:∃ L0:Law,⟨fi,ye,tr,la,lb,lc,ld,le,lf,lg⟩=L0:=⟨_,rfl⟩
 rw [hL0] at hvo
 obtain ⟨W,hW⟩:∃ W,ruleE ⟨fi,ye,tr,la,lb,lc,ld,le,lf,lg⟩=W:=⟨_,rfl⟩
 rw [hW]
 rw [hL0] at hW
 clear hS hL0
 simp only [lawV] at hpre hin hvo hxs hll
 simp only [Law.v,lawV,go_sem,↓reduceIte,reduceCtorEq,Nat.reduceEqDiff,Nat.reduceLT,Nat.reduceAdd,Nat.reduceLeDiff,PV.one,AV.one]
 refine AWp.loop (T:=plan0) (α:=Nat) (fun i=>([(1,.ptr 1 0),(6,.pv (.sl lf)),(7,.pv (.int .i64 lf.length)),(8,.pv (.int .i64 i))],[(1,.cells [.pv (.int .i64 fi),.pv (.int .i64 ye),.pv (.sl tr),.pv (.sl la),.pv (.sl lb),.pv (.sl lc),.pv (.sl ld),.pv (.sl le),.pv (.sl lf),.pv (.sl lg)])])) (fun i=>i<=lf.length/\eachF W rulO none lf=eachF W rulO (prevE lf i) (lf.drop i)) (fun i=>lf.length-i)
  ⟨0,⟨Nat.zero_le _,rfl⟩,⟨by simp [fitR,look],by simp [fitH,hget],rfl,rfl,rfl⟩⟩ ?_
 rintro i ⟨h1,h2⟩
 have hi1:IntKind.i64.wrap ((i:Int)+1)=((i+1:Nat):Int):=by rw [i64_in _ (by omega)];omega
 rw [h2]
 by_cases hlt:i<lf.length
 · have hsx:=hxs _ (getD_mem hlt)
   have hd:lf.drop i=lf.getD i default::lf.drop (i+1):=by rw [List.drop_eq_getElem_cons hlt];simp [List.getD_eq_getElem?_getD,hlt]
   obtain ⟨x,hg⟩:∃ x,lf.getD i default=x:=⟨_,rfl⟩
   have hpv:prevE lf (i+1)=some x:=by rw [<- hg];exact if_neg (by omega)
   rw [hg] at hsx hd
   rw [hd,eachF_cons]
   clear h2
   obtain ⟨n,s,c,p,rfl,hsl,hsl2⟩:=hsx
   have hE:W (.agg [.int .i64 n,.str s,.str c,.int .i64 p])=bif (!amg n 1 1000000||!amg p 0 100) then 2 else bif (!hasF L0 s||!hasF L0 c) then 5 else 0:=by rw [<- hW];rfl
   rw [hE]
   obtain ⟨b0,e0⟩:∃ b,hasF L0 s=b:=⟨_,rfl⟩
   obtain ⟨b1,e1⟩:∃ b,hasF L0 c=b:=⟨_,rfl⟩
   simp only [e0,e1] at hE ⊢
   cases i with
   | zero=>
     have c0:decide ((0:Int)<(lf.length:Int))=true:=by simp;omega
     have w1:IntKind.i64.wrap (0-1)= -1:=by decide
     have w2:IntKind.i64.wrap (0+1)=1:=by decide
     have hp0:prevE lf 0=none:=rfl
     rw [hp0]
     have hpv1:prevE lf 1=some (.agg [.int .i64 n,.str s,.str c,.int .i64 p]):=hpv
     have hbn:bhF rulO none (.agg [.int .i64 n,.str s,.str c,.int .i64 p])=false:=rfl
     simp only [c0,decide_false,w1,w2,neg1',hg,hvo,e0,e1,amg_not,amg_not2,List.take_succ_cons,List.take_nil,k_rrulesS_79,rhasLS,on_ps_eq,plan0,go_sem,↓reduceIte,reduceCtorEq,Nat.reduceEqDiff,Nat.reduceLT,Int.reduceLT,Int.reduceLE,Nat.reduceAdd,Nat.reduceLeDiff,ev_callG,List.forall_mem_cons,List.not_mem_nil,PV.one,AV.one]
     clear hd
     repeat' (first | (intro _) | (with_reducible refine And.intro ?_ ?_))
     all_goals try first
      | exact hpre | exact ⟨hpre,hsl⟩ | exact hsl | exact hin | exact fun _=>hpre | exact fun _=>⟨hpre,hsl⟩ | exact fun _=>hin | trivial | omega | (show checkD _ _ _=true;kernel_rfl)
      | (simp only [*,cond_true,cond_false,bne_self_eq_false];done)
      | (simp only [*,cond_true,cond_false,bne_self_eq_false];rfl)
      | (refine ⟨1,⟨by omega,?_⟩,by omega,⟨by simp [fitR,look],by simp [fitH,hget],rfl,rfl,rfl⟩⟩;simp only [*,cond_false,bne_self_eq_false];done)
      | (refine ⟨1,⟨by omega,?_⟩,by omega,⟨by simp [fitR,look],by simp [fitH,hget],rfl,rfl,rfl⟩⟩;simp only [*,boolR,cond_true,cond_false,bne_self_eq_false];rfl)
      | (simp_all;done)
   | succ j=>
     have c0:decide (((j+1:Nat):Int)<(lf.length:Int))=true:=by simp;omega
     have c1:decide ((0:Int)<((j+1:Nat):Int))=true:=by simp
     have w1:IntKind.i64.wrap (((j+1:Nat):Int)-1)=(j:Int):=by rw [i64_in _ (by omega)];omega
     have hsy:=hxs _ (getD_mem (show j<lf.length by omega))
     obtain ⟨z,hz⟩:∃ z,lf.getD j default=z:=⟨_,rfl⟩
     have hp0:prevE lf (j+1)=some z:=by rw [<- hz];rfl
     rw [hp0]
     rw [hz] at hsy
     obtain ⟨n',s',c',p',rfl,_⟩:=hsy
     have hb:bhF rulO (some (.agg [.int .i64 n',.str s',.str c',.int .i64 p'])) (.agg [.int .i64 n,.str s,.str c,.int .i64 p])=decide (n<=n'):=cmpI_ge n' n
     rw [hb]
     obtain ⟨b9,e9⟩:∃ b,decide (n<=n')=b:=⟨_,rfl⟩
     rw [e9]
     simp only [c0,c1,w1,hg,hz,hi1,hvo,e0,e1,e9,amg_not,amg_not2,List.take_succ_cons,List.take_nil,k_rrulesS_79,rhasLS,on_ps_eq,plan0,go_sem,↓reduceIte,reduceCtorEq,Nat.reduceEqDiff,Nat.reduceLT,Nat.reduceAdd,Nat.reduceLeDiff,ev_callG,List.forall_mem_cons,List.not_mem_nil,PV.one,AV.one]
     clear hd
     repeat' (first | (intro _) | (with_reducible refine And.intro ?_ ?_))
     all_goals try first
      | exact hpre | exact ⟨hpre,hsl⟩ | exact hsl | exact hin | exact fun _=>hpre | exact fun _=>⟨hpre,hsl⟩ | exact fun _=>hin | trivial | omega | (show checkD _ _ _=true;kernel_rfl)
      | (simp only [*,cond_true,cond_false,bne_self_eq_false];done)
      | (simp only [*,cond_true,cond_false,bne_self_eq_false];rfl)
      | (refine ⟨j+1+1,⟨by omega,?_⟩,by omega,⟨by simp [fitR,look],by simp [fitH,hget],rfl,rfl,rfl⟩⟩;simp only [*,cond_false,bne_self_eq_false];done)
      | (refine ⟨j+1+1,⟨by omega,?_⟩,by omega,⟨by simp [fitR,look],by simp [fitH,hget],rfl,rfl,rfl⟩⟩;simp only [*,boolR,cond_true,cond_false,bne_self_eq_false];rfl)
      | (simp_all;done)
 · have c0:decide ((i:Int)<(lf.length:Int))=false:=by simp;omega
   rw [List.drop_eq_nil_of_le (by omega),eachF_nil]
   simp only [c0,plan0,go_sem,↓reduceIte,reduceCtorEq,Nat.reduceEqDiff,Nat.reduceLT,Nat.reduceAdd,Nat.reduceLeDiff]
noncomputable def rchangesS:PSpec:=on_pl (fun l b=>(∃ L:Law,l=L.v/\LawS L)/\(∀ x,x∈b->isX4 x)/\b.length<=1000000) (fun l b=>.int .i64 (eachF (changeE (lawO l) (lvL (lawO l))) chaO none b))
theorem k_rchangesS_66 {args:List PV}:Z2 66 args=rleafS args:=rfl
theorem k_rchangesS_67 {args:List PV}:Z2 67 args=rinS args:=rfl
theorem k_rchangesS_68 {args:List PV}:Z2 68 args=rvalidMS args:=rfl
theorem k_rchangesS_79 {args:List PV}:Z2 79 args=rhasLS args:=rfl
theorem k_rchangesS_128 {args:List PV}:Z2 128 args=rbehS args:=rfl
theorem w_rchangesS:PSound GG 129 rchangesS:=by
 refine PSound.of_wpc (C:=cxP Tryz.prog Z2 [] 118) (T:=plan0) Tryz.func129 rfl rfl rfl (Fit.pure (G:=GG) hZ2 mixed) (fun args h=>?_)
 unfold rchangesS at h
 obtain ⟨x,bs,rfl,hp⟩:=on_pl_inv h
 refine ⟨by simp [cxP],?_⟩
 simp only [rchangesS,on_pl_eq,Tryz.f129,argL,plan0]
 obtain ⟨⟨⟨fi,ye,tr,la,lb,lc,ld,le,lf,lg⟩,rfl,hS⟩,hxs,hll⟩:=hp
 have hpre:∃ L':Law,lawV fi ye tr la lb lc ld le lf lg=L'.v/\(∀ e,e∈L'.tree->isH e)/\L'.tree.length<=1000000:=⟨⟨fi,ye,tr,la,lb,lc,ld,le,lf,lg⟩,rfl,hS.isH,hS.tl⟩
 have hin:∃ L':Law,lawV fi ye tr la lb lc ld le lf lg=L'.v:=⟨⟨fi,ye,tr,la,lb,lc,ld,le,lf,lg⟩,rfl⟩
 have hvo:lawO (lawV fi ye tr la lb lc ld le lf lg)=⟨fi,ye,tr,la,lb,lc,ld,le,lf,lg⟩:=rfl
 rw [lawO_v]
 obtain ⟨L0,hL0⟩:∃ L0:Law,⟨fi,ye,tr,la,lb,lc,ld,le,lf,lg⟩=L0:=⟨_,rfl⟩
 rw [hL0] at hvo
 obtain ⟨W,hW⟩:∃ W,changeE ⟨fi,ye,tr,la,lb,lc,ld,le,lf,lg⟩ (lvL ⟨fi,ye,tr,la,lb,lc,ld,le,lf,lg⟩)=W:=⟨_,rfl⟩
 rw [hW]
 rw [hL0] at hW
 clear hS hL0
 simp only [lawV] at hpre hin hvo
 simp only [Law.v,lawV,go_sem,↓reduceIte,reduceCtorEq,Nat.reduceEqDiff,Nat.reduceLT,PV.one,AV.one]
 refine AWp.loop (T:=plan0) (α:=Nat) (fun i=>([(1,.pv (.sl bs)),(2,.ptr 2 0),(8,.pv (.sl bs)),(9,.pv (.int .i64 bs.length)),(10,.pv (.int .i64 i))],[(2,.cells [.pv (.int .i64 fi),.pv (.int .i64 ye),.pv (.sl tr),.pv (.sl la),.pv (.sl lb),.pv (.sl lc),.pv (.sl ld),.pv (.sl le),.pv (.sl lf),.pv (.sl lg)])])) (fun i=>i<=bs.length/\eachF W chaO none bs=eachF W chaO (prevE bs i) (bs.drop i)) (fun i=>bs.length-i)
  ⟨0,⟨Nat.zero_le _,rfl⟩,⟨by simp [fitR,look],by simp [fitH,hget],rfl,rfl,rfl⟩⟩ ?_
 rintro i ⟨h1,h2⟩
 have hi1:IntKind.i64.wrap ((i:Int)+1)=((i+1:Nat):Int):=by rw [i64_in _ (by omega)];omega
 rw [h2]
 by_cases hlt:i<bs.length
 · have hsx:=hxs _ (getD_mem hlt)
   have hd:bs.drop i=bs.getD i default::bs.drop (i+1):=by rw [List.drop_eq_getElem_cons hlt];simp [List.getD_eq_getElem?_getD,hlt]
   obtain ⟨x,hg⟩:∃ x,bs.getD i default=x:=⟨_,rfl⟩
   have hpv:prevE bs (i+1)=some x:=by rw [<- hg];exact if_neg (by omega)
   rw [hg] at hsx hd
   rw [hd,eachF_cons]
   clear h2
   obtain ⟨k,c,y,m,rfl,hsl⟩:=hsx
   have hE:W (.agg [.int .i64 k,.str c,.int .i64 y,.int .i64 m])=bif !amg k 1 3 then 1 else bif (!hasF L0 c||(k == 1&&!(lvL L0).contains c)) then 5 else bif (!inF L0 y&&(k == 1||y != -1)) then 16 else bif (!vldM m&&(k != 2||m != -1)) then 2 else 0:=by rw [<- hW];rfl
   rw [hE]
   obtain ⟨b0,e0⟩:∃ b,hasF L0 c=b:=⟨_,rfl⟩
   obtain ⟨b1,e1⟩:∃ b,(lvL L0).contains c=b:=⟨_,rfl⟩
   obtain ⟨b2,e2⟩:∃ b,inF L0 y=b:=⟨_,rfl⟩
   obtain ⟨b3,e3⟩:∃ b,vldM m=b:=⟨_,rfl⟩
   simp only [e0,e1,e2,e3] at hE ⊢
   cases i with
   | zero=>
     have c0:decide ((0:Int)<(bs.length:Int))=true:=by simp;omega
     have w1:IntKind.i64.wrap (0-1)= -1:=by decide
     have w2:IntKind.i64.wrap (0+1)=1:=by decide
     have hp0:prevE bs 0=none:=rfl
     rw [hp0]
     have hpv1:prevE bs 1=some (.agg [.int .i64 k,.str c,.int .i64 y,.int .i64 m]):=hpv
     have hbn:bhF chaO none (.agg [.int .i64 k,.str c,.int .i64 y,.int .i64 m])=false:=rfl
     simp only [c0,decide_false,w1,w2,neg1',hg,hvo,e0,e1,e2,e3,amg_not,List.take_succ_cons,List.take_nil,k_rchangesS_66,rleafS,on_ps_eq,k_rchangesS_67,rinS,on_pi_eq,k_rchangesS_68,rvalidMS,on_i_eq,k_rchangesS_79,rhasLS,k_rchangesS_128,rbehS,on_sisi_eq,plan0,go_sem,↓reduceIte,reduceCtorEq,Nat.reduceEqDiff,Nat.reduceLT,Int.reduceLT,Int.reduceLE,Nat.reduceAdd,Nat.reduceLeDiff,ev_callG,List.forall_mem_cons,List.not_mem_nil,PV.one,AV.one]
     clear hd
     repeat' (first | (intro _) | (with_reducible refine And.intro ?_ ?_))
     all_goals try first
      | exact hpre | exact ⟨hpre,hsl⟩ | exact hsl | exact hin | exact fun _=>hpre | exact fun _=>⟨hpre,hsl⟩ | exact fun _=>hin | trivial | omega | (show checkD _ _ _=true;kernel_rfl)
      | (simp only [*,boolR,cond_true,cond_false,bne_self_eq_false];done)
      | (simp only [*,cond_true,cond_false,bne_self_eq_false];rfl)
      | (refine ⟨1,⟨by omega,?_⟩,by omega,⟨by simp [fitR,look],by simp [fitH,hget],rfl,rfl,rfl⟩⟩;simp only [*,cond_false,bne_self_eq_false];done)
      | (refine ⟨1,⟨by omega,?_⟩,by omega,⟨by simp [fitR,look],by simp [fitH,hget],rfl,rfl,rfl⟩⟩;simp only [*,boolR,cond_true,cond_false,bne_self_eq_false];rfl)
      | (simp_all;done)
   | succ j=>
     have c0:decide (((j+1:Nat):Int)<(bs.length:Int))=true:=by simp;omega
     have c1:decide ((0:Int)<((j+1:Nat):Int))=true:=by simp
     have w1:IntKind.i64.wrap (((j+1:Nat):Int)-1)=(j:Int):=by rw [i64_in _ (by omega)];omega
     have hsy:=hxs _ (getD_mem (show j<bs.length by omega))
     obtain ⟨z,hz⟩:∃ z,bs.getD j default=z:=⟨_,rfl⟩
     have hp0:prevE bs (j+1)=some z:=by rw [<- hz];rfl
     rw [hp0]
     rw [hz] at hsy
     obtain ⟨k',c',y',m',rfl,hsl'⟩:=hsy
     have hb:bhF chaO (some (.agg [.int .i64 k',.str c',.int .i64 y',.int .i64 m'])) (.agg [.int .i64 k,.str c,.int .i64 y,.int .i64 m])=(decide (k<k')||(k' == k&&!bhd c' y' c y)):=by show decide (0<=orF [cmpI k' k,cmpC c' c,cmpI y' y])=_;rw [orc,cmpI_pos,cmpI_eq0];unfold bhd;rw [Bool.not_not]
     rw [hb]
     simp only [c0,c1,w1,hg,hz,hi1,hvo,e0,e1,e2,e3,amg_not,List.take_succ_cons,List.take_nil,k_rchangesS_66,rleafS,on_ps_eq,k_rchangesS_67,rinS,on_pi_eq,k_rchangesS_68,rvalidMS,on_i_eq,k_rchangesS_79,rhasLS,k_rchangesS_128,rbehS,on_sisi_eq,plan0,go_sem,↓reduceIte,reduceCtorEq,Nat.reduceEqDiff,Nat.reduceLT,Nat.reduceAdd,Nat.reduceLeDiff,ev_callG,List.forall_mem_cons,List.not_mem_nil,PV.one,AV.one]
     clear hd
     repeat' (first | (intro _) | (with_reducible refine And.intro ?_ ?_))
     all_goals try first
      | exact hpre | exact ⟨hpre,hsl⟩ | exact hsl | exact hin | exact fun _=>hpre | exact fun _=>⟨hpre,hsl⟩ | exact fun _=>hin | trivial | omega | (show checkD _ _ _=true;kernel_rfl)
      | (simp only [*,boolR,cond_true,cond_false,bne_self_eq_false];done)
      | (simp only [*,cond_true,cond_false,bne_self_eq_false];rfl)
      | (refine ⟨j+1+1,⟨by omega,?_⟩,by omega,⟨by simp [fitR,look],by simp [fitH,hget],rfl,rfl,rfl⟩⟩;simp only [*,cond_false,bne_self_eq_false];done)
      | (refine ⟨j+1+1,⟨by omega,?_⟩,by omega,⟨by simp [fitR,look],by simp [fitH,hget],rfl,rfl,rfl⟩⟩;simp only [*,boolR,cond_true,cond_false,bne_self_eq_false];rfl)
      | (simp_all;done)
 · have c0:decide ((i:Int)<(bs.length:Int))=false:=by simp;omega
   rw [List.drop_eq_nil_of_le (by omega),eachF_nil]
   simp only [c0,plan0,go_sem,↓reduceIte,reduceCtorEq,Nat.reduceEqDiff,Nat.reduceLT,Nat.reduceAdd,Nat.reduceLeDiff]
end Go.AM
