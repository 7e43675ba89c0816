/-
  A part of a proof.
-/
import Derived.Test.YtkajgkbhkkgdbaaGreatDoorZ5
import Derived.Test.YtkajgkbhkkgdbaaGreatDoorNJ
set_option linter.unusedSimpArgs false
set_option linter.unusedVariables false
namespace Go.AM
open Go Go.Proofs Go.IntWalk
attribute [local go_sem] List.take_nil List.take_succ_cons callGc_false callGc_true ev_callG gcallK_b gcallK_w on_ls_eq on_s_eq plan0 qR_11 ΘI ΘU ΘW ΨP
set_option maxRecDepth 100000
set_option maxHeartbeats 4000000
theorem psiObj_run {k d κ key:Nat} {φ:List PV->List PV->List PV->Prop × List PV} {rest:List AV} {fs es es' args:List PV} {ρ:Nat->AV} {H:AHeap} {K:AV->ASt->Prop}
 (h1:hget H κ=some (.cells (objC fs key es.length))) (h2:hget H key=some (.row k es)) (hk:1000000<=key) (hfree:AV.freeL rest=true) (hfr:∀ a,a∈rest->frzOk H 4 a) (ha:rest.map (frz H 4)=args)
 (hφ:(φ fs es args).1) (he:(φ fs es args).2=es') (hfl:∀ e,e∈es'->e.cells.all flatC=true)
 (hK:K (.pv (.tup [])) ⟨killR key ρ,hset (hset (killH key H) key (.row k es')) κ (.cells (objC fs key es'.length))⟩):psiObj k φ d (.ptr κ 0::rest) ⟨ρ,H⟩ K:=by
 subst ha;subst he
 exact ⟨κ,rest,fs,key,es,rfl,h1,h2,hk,hfree,hfr,hφ,hfl,hK⟩
def arcV (k:Int) (c:List UInt8) (y f t:Int):PV:=.agg [.int .i64 k,.str c,.int .i64 y,.int .i64 f,.int .i64 t]
def arc2 (tr:List PV) (fi:Int) (j:Nat) (e:PV):List PV:=
 [arcV 0 (hCode e) (fi+j) (loF tr j (upF (hCode e))) (ndF tr j (hCode e)),arcV 1 (hCode e) (fi+j) (ndF tr j (hCode e)) (loF tr j (hCode e))]
def arc1 (tr:List PV) (fi:Int) (n:Nat) (s:List UInt8) (j:Nat):List PV:=[arcV 2 s (fi+j) (loF tr j s) (ndF tr n s)]
def arc3 (tr:List PV) (n:Nat) (e:PV):List PV:=
 [arcV 1 (hCode e) (-1) (ndF tr n (hCode e)) (loF tr n (hCode e)),arcV 0 (hCode e) (-1) (loF tr n (hCode e)) (ndF tr n (upF (hCode e)))]
def arcsL (fi:Int) (n:Nat) (tr:List PV):List PV:=
 (List.range n).flatMap (fun j=>tr.flatMap (arc2 tr fi j))++(lvC (tr.map hCode) []).flatMap (fun s=>(List.range n).flatMap (arc1 tr fi n s))++tr.flatMap (arc3 tr n)
def plnV (L:Law):PV:=.agg [.int .i64 L.first,.int .i64 L.years,.sl L.tree,.sl L.a,.sl L.b,.sl L.c,.sl L.d,.sl L.e,.sl L.f,.sl L.g,.sl (arcsL L.first L.years.toNat L.tree)]
theorem fm_gen {α:Type} {f:α->List PV} {l:List α} {i:Nat} (d:α) (h:i<l.length):(l.take (i+1)).flatMap f=(l.take i).flatMap f++f (l.getD i d):=by
 rw [List.take_add_one,List.flatMap_append]
 simp [List.getElem?_eq_getElem h,List.getD_eq_getElem?_getD]
theorem fm_range {f:Nat->List PV} (j:Nat):(List.range (j+1)).flatMap f=(List.range j).flatMap f++f j:=by
 rw [List.range_succ,List.flatMap_append];simp
def flatL (es:List PV):Prop:=∀ e,e∈es->e.cells.all flatC=true
theorem flatL.add {es:List PV} (h:flatL es) {k:Int} {c:List UInt8} {y f t:Int}:flatL (es++[arcV k c y f t]):=fun e he=>by
 rcases List.mem_append.1 he with he | he
 · exact h e he
 · rw [List.mem_singleton] at he;subst he;rfl
def okPl (L:Law):Prop:=LawS L/\(0<=L.first/\L.first<=1000)/\(0<=L.years/\L.years<=100)/\L.tree.length<=1000
def planZ:Plan:={ keep:=fun _=>none,cut:=fun _=>false,stop:=fun i=>i == 8||i == 9||i == 18||i == 24||i == 25 }
noncomputable def planS:PSpec:=on_p (fun l=>∃ L:Law,l=L.v/\okPl L) (fun l=>.pp (plnV (lawO l)) 0)
theorem k_planS_89 {args:List PV}:D9 89 args=lvS args:=rfl
theorem k_planS_112 {args:List PV}:D9 112 args=prtS args:=rfl
noncomputable abbrev Cpl:Ctx:=cxQ Tryz.prog D9 ΘW ΨP [] [] 139
def hpH (fi:Int) (n:Nat) (tr la lb lc ld le lf lg es:List PV):AHeap:=[(1,.cells [.pv (.int .i64 fi),.pv (.int .i64 n),.pv (.sl tr),.pv (.sl la),.pv (.sl lb),.pv (.sl lc),.pv (.sl ld),.pv (.sl le),.pv (.sl lf),.pv (.sl lg)]),(14,.cells ([.pv (.int .i64 fi),.pv (.int .i64 n),.pv (.sl tr),.pv (.sl la),.pv (.sl lb),.pv (.sl lc),.pv (.sl ld),.pv (.sl le),.pv (.sl lf),.pv (.sl lg)]++[.rs 1000014 es.length])),(1000014,.row 5 es)]
theorem w_planS:PSound GG 48 planS:=by
 refine PSound.of_wpc (C:=Cpl) (T:=planZ) Tryz.func48 rfl rfl rfl (Fit.all (G:=GG) hD9 hΘW hΨP mixed) (fun args h=>?_)
 unfold planS at h
 obtain ⟨a,rfl,⟨⟨fi,ye,tr,la,lb,lc,ld,le,lf,lg⟩,rfl,hS,hf,hy,ht⟩⟩:=on_p_inv h
 simp only at hf hy ht
 have hTr:=hS.tr
 simp only at hTr
 obtain ⟨n,rfl⟩:=Int.eq_ofNat_of_zero_le hy.1
 refine ⟨by simp [cxQ],?_⟩
 have tk:∀ l:List PV,l.take l.length=l:=fun l=>List.take_length
 have hpv:plnV (lawO (Law.v ⟨fi,n,tr,la,lb,lc,ld,le,lf,lg⟩))=.agg [.int .i64 fi,.int .i64 n,.sl tr,.sl la,.sl lb,.sl lc,.sl ld,.sl le,.sl lf,.sl lg,.sl (arcsL fi n tr)]:=rfl
 simp (config:={maxSteps:=1000000}) only [planS,on_p_eq,Law.v,lawV,planZ,Nat.reduceBEq,Tryz.f48,argL,go_sem,↓reduceIte,reduceCtorEq,Nat.reduceEqDiff,Nat.reduceLT,Nat.reduceAdd,Nat.reduceLeDiff]
 have hT:∀ e,e∈tr->isH e:=fun e he=>(hTr e he).isH
 refine AWp.adoptC (b:=14) (i:=10) (κ:=1000014) (k:=5) rfl rfl rfl (by decide) ?_
 refine AWp.loop (T:=planZ) (α:=Nat × List PV) (fun z=>([(1,.ptr 1 0),(3,.ptr 14 0),(16,.pv (.int .i64 n)),(17,.pv (.int .i64 z.1))],hpH fi n tr la lb lc ld le lf lg z.2)) (fun z=>z.1<=n/\flatL z.2/\z.2.length<=2000 * z.1/\z.2=(List.range z.1).flatMap (fun j=>tr.flatMap (arc2 tr fi j))) (fun z=>n-z.1)
  ⟨(0,[]),⟨Nat.zero_le _,fun e he=>by simp at he,Nat.zero_le _,rfl⟩,⟨by simp [fitR,look],by simp [fitH,hget,hset,hpH],rfl,rfl,rfl⟩⟩ ?_
 rintro ⟨j,es⟩ ⟨g1,g2,g3,g4⟩
 simp only at g1 g2 g3 g4
 have hj1:IntKind.i64.wrap ((j:Int)+1)=((j+1:Nat):Int):=by rw [i64_in _ (by omega)];omega
 by_cases jlt:j<n
 · have c0:decide ((j:Int)<(n:Int))=true:=by simp;omega
   simp (config:={maxSteps:=1000000}) only [c0,hpH,k_planS_89,lvS,lvS,planZ,Nat.reduceBEq,go_sem,↓reduceIte,reduceCtorEq,Nat.reduceEqDiff,Nat.reduceLT,Nat.reduceAdd,Nat.reduceLeDiff]
   refine AWp.loop (T:=planZ) (α:=Nat × List PV) (fun z=>([(1,.ptr 1 0),(3,.ptr 14 0),(4,.pv (.int .i64 j)),(16,.pv (.int .i64 n)),(17,.pv (.int .i64 j)),(21,.pv (.sl tr)),(22,.pv (.int .i64 tr.length)),(23,.pv (.int .i64 z.1))],hpH fi n tr la lb lc ld le lf lg z.2)) (fun z=>z.1<=tr.length/\flatL z.2/\z.2.length<=2000 * j+2 * z.1/\z.2=es++(tr.take z.1).flatMap (arc2 tr fi j)) (fun z=>tr.length-z.1)
    ⟨(0,es),⟨Nat.zero_le _,g2,by simp only;omega,(List.append_nil es).symm⟩,⟨by simp [fitR,look],by simp [fitH,hget,hpH],rfl,rfl,rfl⟩⟩ ?_
   rintro ⟨i,fs⟩ ⟨f1,f2,f3,f4⟩
   simp only at f1 f2 f3 f4
   have hi1:IntKind.i64.wrap ((i:Int)+1)=((i+1:Nat):Int):=by rw [i64_in _ (by omega)];omega
   by_cases ilt:i<tr.length
   · have c1:decide ((i:Int)<(tr.length:Int))=true:=by simp;omega
     obtain ⟨c,nm,hx0,hc,_⟩:=hTr _ (getD_mem ilt)
     have hx:tr.getD i default=.agg [.str c,.str nm]:=hx0
     have hfj:IntKind.i64.wrap (fi+j)=fi+j:=i64_in _ (by omega)
     simp (config:={maxSteps:=1000000}) only [c1,hx,hpH,planZ,Nat.reduceBEq,go_sem,↓reduceIte,reduceCtorEq,Nat.reduceEqDiff,Nat.reduceLT,Nat.reduceAdd,Nat.reduceLeDiff]
     refine ⟨⟨by omega,by omega⟩,?_⟩
     refine AWp.seqc (T:=plan0) ?_
     simp (config:={maxSteps:=1000000}) only [hfj,tk,k_planS_112,prtS,prtS,↓all_qR,pre1,shP,shU,preU,valU,valLo,go_sem,↓reduceIte,reduceCtorEq,Nat.reduceEqDiff,Nat.reduceLT,Nat.reduceAdd,Nat.reduceLeDiff]
     have hpu:(∀ e,e∈tr->isH e)/\tr.length<=1000000/\(0:Int)<=j/\(j:Int)<=1000:=⟨hT,by omega,by omega,by omega⟩
     refine ⟨by kernel_rfl,hc,hpu,hpu,?_⟩
     refine psiObj_run (key:=1000014) (fs:=[.int .i64 fi,.int .i64 n,.sl tr,.sl la,.sl lb,.sl lc,.sl ld,.sl le,.sl lf,.sl lg]) (es:=fs) (args:=[.int .i64 0,.str c,.int .i64 (fi+j),.int .i64 (loF tr j (upF c)),.int .i64 (ndF tr j c)]) (es':=fs++[PV.agg [.int .i64 0,.str c,.int .i64 (fi+j),.int .i64 (loF tr j (upF c)),.int .i64 (ndF tr j c)]]) rfl rfl (by decide) rfl (fun a ha=>by (simp only [List.mem_cons,List.not_mem_nil,or_false] at ha;rcases ha with rfl | rfl | rfl | rfl | rfl <;> trivial)) rfl ⟨rfl,by (try simp only [List.length_append,List.length_cons,List.length_nil]);omega,_,_,_,_,_,rfl⟩ rfl f2.add ?_
     simp (config:={maxSteps:=1000000}) only [objC,go_sem,↓reduceIte,Nat.reduceEqDiff,Nat.reduceLT]
     refine wpc_sound (T:=plan0) _ _ _ ?_
     simp (config:={maxSteps:=1000000}) only [hfj,tk,↓all_qR,pre1,shP,shU,preU,valU,valLo,go_sem,↓reduceIte,reduceCtorEq,Nat.reduceEqDiff,Nat.reduceLT,Nat.reduceAdd,Nat.reduceLeDiff]
     refine ⟨by kernel_rfl,hpu,hpu,?_⟩
     refine psiObj_run (key:=1000014) (fs:=[.int .i64 fi,.int .i64 n,.sl tr,.sl la,.sl lb,.sl lc,.sl ld,.sl le,.sl lf,.sl lg]) (es:=(fs++[PV.agg [.int .i64 0,.str c,.int .i64 (fi+j),.int .i64 (loF tr j (upF c)),.int .i64 (ndF tr j c)]])) (args:=[.int .i64 1,.str c,.int .i64 (fi+j),.int .i64 (ndF tr j c),.int .i64 (loF tr j c)]) (es':=(fs++[PV.agg [.int .i64 0,.str c,.int .i64 (fi+j),.int .i64 (loF tr j (upF c)),.int .i64 (ndF tr j c)]])++[PV.agg [.int .i64 1,.str c,.int .i64 (fi+j),.int .i64 (ndF tr j c),.int .i64 (loF tr j c)]]) rfl rfl (by decide) rfl (fun a ha=>by (simp only [List.mem_cons,List.not_mem_nil,or_false] at ha;rcases ha with rfl | rfl | rfl | rfl | rfl <;> trivial)) rfl ⟨rfl,by (try simp only [List.length_append,List.length_cons,List.length_nil]);omega,_,_,_,_,_,rfl⟩ rfl f2.add.add ?_
     have hsu:es++(tr.take (i+1)).flatMap (arc2 tr fi j)=fs++[PV.agg [.int .i64 0,.str c,.int .i64 (fi+j),.int .i64 (loF tr j (upF c)),.int .i64 (ndF tr j c)]]++[PV.agg [.int .i64 1,.str c,.int .i64 (fi+j),.int .i64 (ndF tr j c),.int .i64 (loF tr j c)]]:=by
      rw [fm_succ ilt,hx,<- List.append_assoc,<- f4]
      simp only [List.append_assoc]
      rfl
     simp (config:={maxSteps:=1000000}) only [hi1,objC,go_sem,↓reduceIte,Nat.reduceEqDiff,Nat.reduceLT]
     exact ⟨(i+1,fs++[PV.agg [.int .i64 0,.str c,.int .i64 (fi+j),.int .i64 (loF tr j (upF c)),.int .i64 (ndF tr j c)]]++[PV.agg [.int .i64 1,.str c,.int .i64 (fi+j),.int .i64 (ndF tr j c),.int .i64 (loF tr j c)]]),⟨by simp only;omega,f2.add.add,by simp only [List.length_append,List.length_cons,List.length_nil];omega,hsu.symm⟩,by simp only;omega,⟨by simp [fitR,look],by simp [fitH,hget],rfl,rfl,rfl⟩⟩
   · have c1:decide ((i:Int)<(tr.length:Int))=false:=by simp;omega
     simp (config:={maxSteps:=1000000}) only [c1,hj1,hpH,planZ,Nat.reduceBEq,go_sem,↓reduceIte,reduceCtorEq,Nat.reduceEqDiff,Nat.reduceLT,Nat.reduceAdd,Nat.reduceLeDiff]
     have e:i=tr.length:=by omega
     subst e
     rw [List.take_length] at f4
     exact ⟨(j+1,fs),⟨by simp only;omega,f2,by simp only;omega,by simp only;rw [fm_range,<- g4,f4]⟩,by simp only;omega,⟨by simp [fitR,look],by simp [fitH,hget],rfl,rfl,rfl⟩⟩
 · have c0:decide ((j:Int)<(n:Int))=false:=by simp;omega
   simp (config:={maxSteps:=1000000}) only [c0,hpH,k_planS_89,lvS,lvS,planZ,Nat.reduceBEq,go_sem,↓reduceIte,reduceCtorEq,Nat.reduceEqDiff,Nat.reduceLT,Nat.reduceAdd,Nat.reduceLeDiff]
   have e:n=j:=by omega
   subst e
   refine ⟨⟨hT,by omega⟩,?_⟩
   obtain ⟨ls,hls⟩:∃ ls,lvC (tr.map hCode) []=ls:=⟨_,rfl⟩
   have hll:ls.length<=1000:=by
    rw [<- hls]
    exact Nat.le_trans (List.length_filter_le _ _) (by rw [List.length_map];exact ht)
   rw [hls]
   have hel:es.length<=200000:=by omega
   clear g1 g3 hj1 jlt c0
   refine AWp.loop (T:=planZ) (α:=Nat × List PV) (fun z=>([(1,.ptr 1 0),(3,.ptr 14 0),(68,.pv (.sl (ls.map PV.str))),(69,.pv (.int .i64 (ls.map PV.str).length)),(70,.pv (.int .i64 z.1))],hpH fi n tr la lb lc ld le lf lg z.2)) (fun z=>z.1<=ls.length/\flatL z.2/\z.2.length<=200000+100 * z.1/\z.2=es++(ls.take z.1).flatMap (fun s=>(List.range n).flatMap (arc1 tr fi n s))) (fun z=>ls.length-z.1)
    ⟨(0,es),⟨Nat.zero_le _,g2,by simp only;omega,(List.append_nil es).symm⟩,⟨by simp [fitR,look],by simp [fitH,hget,hpH],rfl,rfl,rfl⟩⟩ ?_
   rintro ⟨i,fs⟩ ⟨f1,f2,f3,f4⟩
   simp only at f1 f2 f3 f4
   have hi1:IntKind.i64.wrap ((i:Int)+1)=((i+1:Nat):Int):=by rw [i64_in _ (by omega)];omega
   by_cases ilt:i<ls.length
   · have c1:decide ((i:Int)<((ls.map PV.str).length:Int))=true:=by rw [List.length_map];simp;omega
     have hx:=getD_strs ilt
     obtain ⟨s,hs⟩:∃ s,ls.getD i []=s:=⟨_,rfl⟩
     rw [hs] at hx
     simp (config:={maxSteps:=1000000}) only [c1,hx,hpH,planZ,Nat.reduceBEq,go_sem,↓reduceIte,reduceCtorEq,Nat.reduceEqDiff,Nat.reduceLT,Nat.reduceAdd,Nat.reduceLeDiff]
     refine ⟨⟨by omega,by rw [List.length_map];omega⟩,?_⟩
     refine AWp.loop (T:=planZ) (α:=Nat × List PV) (fun z=>([(1,.ptr 1 0),(3,.ptr 14 0),(8,.pv (.str s)),(68,.pv (.sl (ls.map PV.str))),(69,.pv (.int .i64 (ls.map PV.str).length)),(70,.pv (.int .i64 i)),(75,.pv (.int .i64 n)),(76,.pv (.int .i64 z.1))],hpH fi n tr la lb lc ld le lf lg z.2)) (fun z=>z.1<=n/\flatL z.2/\z.2.length<=200000+100 * i+z.1/\z.2=fs++(List.range z.1).flatMap (arc1 tr fi n s)) (fun z=>n-z.1)
      ⟨(0,fs),⟨Nat.zero_le _,f2,by simp only;omega,(List.append_nil fs).symm⟩,⟨by simp [fitR,look],by simp [fitH,hget,hpH],rfl,rfl,rfl⟩⟩ ?_
     rintro ⟨k,gs⟩ ⟨k1,k2,k3,k4⟩
     simp only at k1 k2 k3 k4
     have hk1:IntKind.i64.wrap ((k:Int)+1)=((k+1:Nat):Int):=by rw [i64_in _ (by omega)];omega
     by_cases klt:k<n
     · have c2:decide ((k:Int)<(n:Int))=true:=by simp;omega
       have hfk:IntKind.i64.wrap (fi+k)=fi+k:=i64_in _ (by omega)
       simp (config:={maxSteps:=1000000}) only [c2,hfk,hpH,tk,↓all_qR,pre1,shP,shU,preU,valU,valLo,planZ,Nat.reduceBEq,go_sem,↓reduceIte,reduceCtorEq,Nat.reduceEqDiff,Nat.reduceLT,Nat.reduceAdd,Nat.reduceLeDiff]
       refine ⟨by kernel_rfl,⟨hT,by omega,by omega,by omega⟩,⟨hT,by omega,by omega,by omega⟩,?_⟩
       refine psiObj_run (key:=1000014) (fs:=[.int .i64 fi,.int .i64 n,.sl tr,.sl la,.sl lb,.sl lc,.sl ld,.sl le,.sl lf,.sl lg]) (es:=gs) (args:=[.int .i64 2,.str s,.int .i64 (fi+k),.int .i64 (loF tr k s),.int .i64 (ndF tr n s)]) (es':=gs++[PV.agg [.int .i64 2,.str s,.int .i64 (fi+k),.int .i64 (loF tr k s),.int .i64 (ndF tr n s)]]) rfl rfl (by decide) rfl (fun a ha=>by (simp only [List.mem_cons,List.not_mem_nil,or_false] at ha;rcases ha with rfl | rfl | rfl | rfl | rfl <;> trivial)) rfl ⟨rfl,by (try simp only [List.length_append,List.length_cons,List.length_nil]);omega,_,_,_,_,_,rfl⟩ rfl k2.add ?_
       have hsu:fs++(List.range (k+1)).flatMap (arc1 tr fi n s)=gs++[PV.agg [.int .i64 2,.str s,.int .i64 (fi+k),.int .i64 (loF tr k s),.int .i64 (ndF tr n s)]]:=by
        rw [fm_range,<- List.append_assoc,<- k4]
        rfl
       simp (config:={maxSteps:=1000000}) only [hk1,objC,go_sem,↓reduceIte,Nat.reduceEqDiff,Nat.reduceLT]
       exact ⟨(k+1,gs++[PV.agg [.int .i64 2,.str s,.int .i64 (fi+k),.int .i64 (loF tr k s),.int .i64 (ndF tr n s)]]),⟨by simp only;omega,k2.add,by simp only [List.length_append,List.length_cons,List.length_nil];omega,hsu.symm⟩,by simp only;omega,⟨by simp [fitR,look],by simp [fitH,hget],rfl,rfl,rfl⟩⟩
     · have c2:decide ((k:Int)<(n:Int))=false:=by simp;omega
       simp (config:={maxSteps:=1000000}) only [c2,hi1,hpH,tk,↓all_qR,pre1,shP,shU,preU,valU,valLo,planZ,Nat.reduceBEq,go_sem,↓reduceIte,reduceCtorEq,Nat.reduceEqDiff,Nat.reduceLT,Nat.reduceAdd,Nat.reduceLeDiff]
       have e:n=k:=by omega
       subst e
       exact ⟨(i+1,gs),⟨by simp only;omega,k2,by simp only;omega,by simp only;rw [fm_gen [] ilt,hs,<- List.append_assoc,<- f4,k4]⟩,by simp only;omega,⟨by simp [fitR,look],by simp [fitH,hget],rfl,rfl,rfl⟩⟩
   · have c1:decide ((i:Int)<((ls.map PV.str).length:Int))=false:=by rw [List.length_map];simp;omega
     simp (config:={maxSteps:=1000000}) only [c1,hpH,planZ,Nat.reduceBEq,go_sem,↓reduceIte,reduceCtorEq,Nat.reduceEqDiff,Nat.reduceLT,Nat.reduceAdd,Nat.reduceLeDiff]
     have e:i=ls.length:=by omega
     subst e
     rw [List.take_length] at f4
     have hfl:fs.length<=300000:=by omega
     clear f1 f3 hi1 ilt c1
     refine AWp.loop (T:=planZ) (α:=Nat × List PV) (fun z=>([(1,.ptr 1 0),(3,.ptr 14 0),(98,.pv (.sl tr)),(99,.pv (.int .i64 tr.length)),(100,.pv (.int .i64 z.1))],hpH fi n tr la lb lc ld le lf lg z.2)) (fun z=>z.1<=tr.length/\flatL z.2/\z.2.length<=300000+2 * z.1/\z.2=fs++(tr.take z.1).flatMap (arc3 tr n)) (fun z=>tr.length-z.1)
      ⟨(0,fs),⟨Nat.zero_le _,f2,by simp only;omega,(List.append_nil fs).symm⟩,⟨by simp [fitR,look],by simp [fitH,hget,hpH],rfl,rfl,rfl⟩⟩ ?_
     rintro ⟨i,gs⟩ ⟨k1,k2,k3,k4⟩
     simp only at k1 k2 k3 k4
     have hi1:IntKind.i64.wrap ((i:Int)+1)=((i+1:Nat):Int):=by rw [i64_in _ (by omega)];omega
     by_cases ilt:i<tr.length
     · have c1:decide ((i:Int)<(tr.length:Int))=true:=by simp;omega
       obtain ⟨c,nm,hx0,hc,_⟩:=hTr _ (getD_mem ilt)
       have hx:tr.getD i default=.agg [.str c,.str nm]:=hx0
       simp (config:={maxSteps:=1000000}) only [c1,hx,hpH,tk,planZ,Nat.reduceBEq,go_sem,↓reduceIte,reduceCtorEq,Nat.reduceEqDiff,Nat.reduceLT,Nat.reduceAdd,Nat.reduceLeDiff]
       refine ⟨⟨by omega,by omega⟩,?_⟩
       refine AWp.seqc (T:=plan0) ?_
       simp (config:={maxSteps:=1000000}) only [tk,↓all_qR,pre1,shP,shU,preU,valU,valLo,go_sem,↓reduceIte,reduceCtorEq,Nat.reduceEqDiff,Nat.reduceLT,Nat.reduceAdd,Nat.reduceLeDiff]
       have hpu:(∀ e,e∈tr->isH e)/\tr.length<=1000000/\(0:Int)<=n/\(n:Int)<=1000:=⟨hT,by omega,by omega,by omega⟩
       refine ⟨by kernel_rfl,hpu,hpu,?_⟩
       refine psiObj_run (key:=1000014) (fs:=[.int .i64 fi,.int .i64 n,.sl tr,.sl la,.sl lb,.sl lc,.sl ld,.sl le,.sl lf,.sl lg]) (es:=gs) (args:=[.int .i64 1,.str c,.int .i64 (-1),.int .i64 (ndF tr n c),.int .i64 (loF tr n c)]) (es':=gs++[PV.agg [.int .i64 1,.str c,.int .i64 (-1),.int .i64 (ndF tr n c),.int .i64 (loF tr n c)]]) rfl rfl (by decide) rfl (fun a ha=>by (simp only [List.mem_cons,List.not_mem_nil,or_false] at ha;rcases ha with rfl | rfl | rfl | rfl | rfl <;> trivial)) rfl ⟨rfl,by (try simp only [List.length_append,List.length_cons,List.length_nil]);omega,_,_,_,_,_,rfl⟩ rfl k2.add ?_
       simp (config:={maxSteps:=1000000}) only [objC,go_sem,↓reduceIte,Nat.reduceEqDiff,Nat.reduceLT]
       refine wpc_sound (T:=plan0) _ _ _ ?_
       simp (config:={maxSteps:=1000000}) only [tk,k_planS_112,prtS,prtS,↓all_qR,pre1,shP,shU,preU,valU,valLo,go_sem,↓reduceIte,reduceCtorEq,Nat.reduceEqDiff,Nat.reduceLT,Nat.reduceAdd,Nat.reduceLeDiff]
       refine ⟨by kernel_rfl,hpu,hc,hpu,?_⟩
       refine psiObj_run (key:=1000014) (fs:=[.int .i64 fi,.int .i64 n,.sl tr,.sl la,.sl lb,.sl lc,.sl ld,.sl le,.sl lf,.sl lg]) (es:=(gs++[PV.agg [.int .i64 1,.str c,.int .i64 (-1),.int .i64 (ndF tr n c),.int .i64 (loF tr n c)]])) (args:=[.int .i64 0,.str c,.int .i64 (-1),.int .i64 (loF tr n c),.int .i64 (ndF tr n (upF c))]) (es':=(gs++[PV.agg [.int .i64 1,.str c,.int .i64 (-1),.int .i64 (ndF tr n c),.int .i64 (loF tr n c)]])++[PV.agg [.int .i64 0,.str c,.int .i64 (-1),.int .i64 (loF tr n c),.int .i64 (ndF tr n (upF c))]]) rfl rfl (by decide) rfl (fun a ha=>by (simp only [List.mem_cons,List.not_mem_nil,or_false] at ha;rcases ha with rfl | rfl | rfl | rfl | rfl <;> trivial)) rfl ⟨rfl,by (try simp only [List.length_append,List.length_cons,List.length_nil]);omega,_,_,_,_,_,rfl⟩ rfl k2.add.add ?_
       have hsu:fs++(tr.take (i+1)).flatMap (arc3 tr n)=gs++[PV.agg [.int .i64 1,.str c,.int .i64 (-1),.int .i64 (ndF tr n c),.int .i64 (loF tr n c)]]++[PV.agg [.int .i64 0,.str c,.int .i64 (-1),.int .i64 (loF tr n c),.int .i64 (ndF tr n (upF c))]]:=by
        rw [fm_succ ilt,hx,<- List.append_assoc,<- k4]
        simp only [List.append_assoc]
        rfl
       simp (config:={maxSteps:=1000000}) only [hi1,objC,go_sem,↓reduceIte,Nat.reduceEqDiff,Nat.reduceLT]
       exact ⟨(i+1,gs++[PV.agg [.int .i64 1,.str c,.int .i64 (-1),.int .i64 (ndF tr n c),.int .i64 (loF tr n c)]]++[PV.agg [.int .i64 0,.str c,.int .i64 (-1),.int .i64 (loF tr n c),.int .i64 (ndF tr n (upF c))]]),⟨by simp only;omega,k2.add.add,by simp only [List.length_append,List.length_cons,List.length_nil];omega,hsu.symm⟩,by simp only;omega,⟨by simp [fitR,look],by simp [fitH,hget],rfl,rfl,rfl⟩⟩
     · have c1:decide ((i:Int)<(tr.length:Int))=false:=by simp;omega
       have e:i=tr.length:=by omega
       subst e
       rw [List.take_length] at k4
       have hA:arcsL fi n tr=gs:=by rw [k4,f4,g4,<- hls];rfl
       simp (config:={maxSteps:=1000000}) only [c1,hpH,tk,planZ,Nat.reduceBEq,go_sem,↓reduceIte,reduceCtorEq,Nat.reduceEqDiff,Nat.reduceLT,Nat.reduceAdd,Nat.reduceLeDiff]
       refine ⟨fun c hc=>?_,?_⟩
       · simp only [List.mem_cons,List.not_mem_nil,or_false] at hc
         rcases hc with rfl | rfl | rfl | rfl | rfl | rfl | rfl | rfl | rfl | rfl | rfl <;> exact ⟨rfl,by simp [frzOk,hget]⟩
       · show _=(plnV (lawO (PV.agg [.int .i64 fi,.int .i64 n,.sl tr,.sl la,.sl lb,.sl lc,.sl ld,.sl le,.sl lf,.sl lg]))).pp 0
         rw [show plnV (lawO (PV.agg [.int .i64 fi,.int .i64 n,.sl tr,.sl la,.sl lb,.sl lc,.sl ld,.sl le,.sl lf,.sl lg]))=.agg [.int .i64 fi,.int .i64 n,.sl tr,.sl la,.sl lb,.sl lc,.sl ld,.sl le,.sl lf,.sl lg,.sl (arcsL fi n tr)] from rfl,hA]
         rfl
noncomputable def DX1 (g:FuncId):PSpec:=(putΦ D9 48 planS) g
theorem hDX1:TabSound GG DX1:=(hD9.put w_planS)
end Go.AM
