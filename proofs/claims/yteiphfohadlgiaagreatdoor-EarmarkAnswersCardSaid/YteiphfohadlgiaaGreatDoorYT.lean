/-
  A part of a proof.
-/
import Derived.Test.YteiphfohadlgiaaGreatDoorY9m
import Derived.Test.YteiphfohadlgiaaGreatDoorNJ
set_option linter.unusedSimpArgs false
set_option linter.unusedVariables false
namespace Go.AM
open Go Go.Proofs Go.IntWalk
set_option maxRecDepth 100000
set_option maxHeartbeats 8000000
def preBL (args:List PV):Prop:=∃ L:Law,args=[L.v]/\LawM L
def okBL (_:List PV) (L:Law):Prop:=LawS L
def planJ:Plan:={ keep:=fun _=>none,cut:=fun _=>false,stop:=fun i=>i == 23 }
def planK:Plan:={ keep:=fun _=>none,cut:=fun _=>false,stop:=fun i=>i == 25 }
theorem LawS.of {fi ye:Int} {tr la lb lc ld le lf lg:List PV} (htr:∀ e,e∈tr->isHn e) (htl:tr.length<=1000000) (ha1:∀ x,x∈la->isL3 x) (ha2:la.length<=1000000) (hb1:∀ x,x∈lb->isL3 x) (hb2:lb.length<=1000000) (hc1:∀ x,x∈lc->isL3 x) (hc2:lc.length<=1000000) (hd1:∀ x,x∈ld->isE3 x) (hd2:ld.length<=1000000) (he1:∀ x,x∈le->isC7 x) (he2:le.length<=1000000) (hf1:∀ x,x∈lf->isR4 x) (hf2:lf.length<=1000000) (hg1:∀ x,x∈lg->isA3 x) (hg2:lg.length<=1000000):LawS ⟨fi,ye,tr,la,lb,lc,ld,le,lf,lg⟩:=⟨htr,htl,ha1,ha2,hb1,hb2,hc1,hc2,hd1,hd2,he1,he2,hf1,hf2,hg1,hg2⟩
theorem snoc_ok {P:PV->Prop} {l:List PV} {x:PV} {n:Nat} (h:∀ e,e∈l->P e) (hl:l.length<=1000) (hx:P x):(∀ e,e∈List.take n (l++[x])->P e)/\(List.take n (l++[x])).length<=1000000:=by
  refine ⟨fun e he=>?_,?_⟩
  · rcases List.mem_append.1 (List.mem_of_mem_take he) with h1 | h1
    · exact h e h1
    · rw [List.mem_singleton] at h1;rw [h1];exact hx
  · rw [List.length_take,List.length_append];simp only [List.length_cons,List.length_nil];omega
theorem cons_ok {P:PV->Prop} {l:List PV} {x:PV} {n:Nat} (h:∀ e,e∈l->P e) (hl:l.length<=1000) (hx:P x):(∀ e,e∈List.take n (x::l)->P e)/\(List.take n (x::l)).length<=1000000:=by
  refine ⟨fun e he=>?_,?_⟩
  · rcases List.mem_cons.1 (List.mem_of_mem_take he) with h1 | h1
    · rw [h1];exact hx
    · exact h e h1
  · rw [List.length_take];simp only [List.length_cons];omega
def planB:Plan:={ keep:=fun _=>none,cut:=fun _=>false,stop:=fun i=>i == 11 }
noncomputable def blBody:Code:=match Func.body Tryz.f8 with
  | some (.seq _ (.seq _ (.seq _ (.seq _ (.seq _ (.seq (.seq _ (.block _ c)) _))))))=>c
  | _=>.skip
noncomputable def blTail:Code:=match Func.body Tryz.f8 with
  | some (.seq _ (.seq _ (.seq _ (.seq _ (.seq _ (.seq (.seq _ (.block _ _)) t))))))=>t
  | _=>.skip
noncomputable def Cbl:Ctx:=cxQ Tryz.prog M0 ΘB noΨ [94,111,118,131,152,181,198,220] [9000] 229
noncomputable def finBL (fi ye:Int) (tr la lb lc ld le lf lg:List PV):AX->ASt->Prop:=FinQ Cbl [ResultVar.cell 4 31] 9000 Tp (fun p=>∃ x:Law,p=.agg [.int .i64 x.first,.int .i64 x.years,.sl x.tree,.sl x.a,.sl x.b,.sl x.c,.sl x.d,.sl x.e,.sl x.f,.sl x.g]/\okBL [.agg [.int .i64 fi,.int .i64 ye,.sl tr,.sl la,.sl lb,.sl lc,.sl ld,.sl le,.sl lf,.sl lg]] x)
def BLCase (t:Int):Prop:=∀ (fi ye:Int) (tr la lb lc ld le lf lg:List PV),LawM ⟨fi,ye,tr,la,lb,lc,ld,le,lf,lg⟩->∀ (code:List UInt8) (y m:Int),code.length<=1000-> -2<=m->m<=1000000000001->
  wpc Cbl planJ blBody (AX.blk 0 (AX.thn (wpc Cbl planB blTail (finBL fi ye tr la lb lc ld le lf lg)) (finBL fi ye tr la lb lc ld le lf lg)))
    ⟨look [(0,.ptr 9000 0),(3,.ptr 3 0),(4,.ptr 4 0),(5,.pv (.str code)),(6,.pv (.int .i64 y)),(7,.pv (.int .i64 m)),(47,.pv (.int .i64 t))],[(3,.cells [.pv (.int .i64 fi),.pv (.int .i64 ye),.pv (.sl tr),.pv (.sl la),.pv (.sl lb),.pv (.sl lc),.pv (.sl ld),.pv (.sl le),.pv (.sl lf),.pv (.sl lg)]),(4,.cells lawZ),(9000,.obj Tp)]⟩
end Go.AM
namespace Go.AM
open Go Go.Proofs Go.IntWalk
attribute [local go_sem] List.take_nil List.take_succ_cons Tryz.f8 allI_cons allI_nil arg1 arg2 callGc_false callGc_true ev_callG ev_rowlit ev_rowlit0 false_or gcallK_b gcallK_w intV loadC_eq memI_cons memI_nil nS ne_eq not_false_eq_true okN okP_eq okR pickS plan0 preBt_eq preC_eq preN_eq preP_eq preR_eq preTx_eq slV strV Θ1 Θ2 Θ3 Θ4 Θ5 Θ6 Θ7 Θ8 Θ9 ΘA ΘB
set_option maxRecDepth 100000
set_option maxHeartbeats 8000000
theorem bl_0:BLCase 0:=by
  intro fi ye tr la lb lc ld le lf lg hM code y m hcl hm1 hm2
  have hfi:0<=fi/\fi<=12:=hM.fi
  have w3:IntKind.i64.wrap (fi+1)=fi+1:=i64_in _ (by omega)
  have q:∀ a b:Int,a≠b->(a == b)=false:=fun a b h=>by simpa using h
  have hS:=hM.s
  have tk:∀ l:List PV,l.take l.length=l:=fun l=>List.take_length
  simp (config:={maxSteps:=1000000}) only [w3,blBody,blTail,finBL,Cbl,planB,tk,lawZ,or_false,Nat.reduceBEq,planJ,planK,go_sem,↓reduceIte,reduceCtorEq,Nat.reduceEqDiff,Nat.reduceLT,↓all_qV,Int.reduceToNat,Int.reduceLT,Int.reduceLE,Nat.reduceAdd,Nat.reduceLeDiff,Nat.reduceMul]
  exact ⟨by omega,fun x hx=>⟨(fun c hc=>by simp only [List.mem_cons,List.not_mem_nil,or_false] at hc;rcases hc with rfl | rfl | rfl | rfl | rfl | rfl | rfl | rfl | rfl | rfl <;> refine ⟨rfl,?_⟩ <;> first | (simp [frzOk,hget];done) | (simp [frzOk,hget];omega)),⟨x,ye,tr,la,lb,lc,ld,le,lf,lg⟩,rfl,LawS.of hS.tr hS.tl hS.a hS.al hS.b hS.bl hS.c hS.cl hS.d hS.dl hS.e hS.el hS.f hS.fl hS.g hS.gl⟩⟩
theorem bl_1:BLCase 1:=by
  intro fi ye tr la lb lc ld le lf lg hM code y m hcl hm1 hm2
  have q:∀ a b:Int,a≠b->(a == b)=false:=fun a b h=>by simpa using h
  have hS:=hM.s
  have tk:∀ l:List PV,l.take l.length=l:=fun l=>List.take_length
  simp (config:={maxSteps:=1000000}) only [q 1 0 (by decide),blBody,blTail,finBL,Cbl,planB,tk,lawZ,or_false,Nat.reduceBEq,planJ,planK,go_sem,↓reduceIte,reduceCtorEq,Nat.reduceEqDiff,Nat.reduceLT,↓all_qV,Int.reduceToNat,Int.reduceLT,Int.reduceLE,Nat.reduceAdd,Nat.reduceLeDiff,Nat.reduceMul]
  exact fun x hx=>⟨(fun c hc=>by simp only [List.mem_cons,List.not_mem_nil,or_false] at hc;rcases hc with rfl | rfl | rfl | rfl | rfl | rfl | rfl | rfl | rfl | rfl <;> refine ⟨rfl,?_⟩ <;> first | (simp [frzOk,hget];done) | (simp [frzOk,hget];omega)),⟨fi,x,tr,la,lb,lc,ld,le,lf,lg⟩,rfl,LawS.of hS.tr hS.tl hS.a hS.al hS.b hS.bl hS.c hS.cl hS.d hS.dl hS.e hS.el hS.f hS.fl hS.g hS.gl⟩
theorem bl_2:BLCase 2:=by
  intro fi ye tr la lb lc ld le lf lg hM code y m hcl hm1 hm2
  have htl:tr.length<=45:=hM.tl
  have htr:tr≠[]:=hM.tr
  have q:∀ a b:Int,a≠b->(a == b)=false:=fun a b h=>by simpa using h
  have hS:=hM.s
  have tk:∀ l:List PV,l.take l.length=l:=fun l=>List.take_length
  simp (config:={maxSteps:=1000000}) only [q 2 0 (by decide),q 2 1 (by decide),blBody,blTail,finBL,Cbl,planB,tk,lawZ,or_false,Nat.reduceBEq,planJ,planK,go_sem,↓reduceIte,reduceCtorEq,Nat.reduceEqDiff,Nat.reduceLT,↓all_qV,Int.reduceToNat,Int.reduceLT,Int.reduceLE,Nat.reduceAdd,Nat.reduceLeDiff,Nat.reduceMul]
  refine ⟨⟨⟨by omega,fun e he=>?_⟩,htr⟩,fun t2 ht2=>⟨(fun c hc=>by simp only [List.mem_cons,List.not_mem_nil,or_false] at hc;rcases hc with rfl | rfl | rfl | rfl | rfl | rfl | rfl | rfl | rfl | rfl <;> refine ⟨rfl,?_⟩ <;> first | (simp [frzOk,hget];done) | (simp [frzOk,hget];omega)),⟨fi,ye,t2,la,lb,lc,ld,le,lf,lg⟩,rfl,LawS.of (fun e he=>?_) ?_ hS.a hS.al hS.b hS.bl hS.c hS.cl hS.d hS.dl hS.e hS.el hS.f hS.fl hS.g hS.gl⟩⟩
  · obtain ⟨c,nm,e1,h1,h2⟩:=hM.tq e he
    exact ⟨c,nm,e1,by omega,by omega⟩
  · obtain ⟨c,nm,e1,h1,h2⟩:=ht2.2 e he
    exact ⟨c,nm,e1,by omega,by omega⟩
  · have:=ht2.1
    omega
theorem bl_3:BLCase 3:=by
  intro fi ye tr la lb lc ld le lf lg hM code y m hcl hm1 hm2
  have q:∀ a b:Int,a≠b->(a == b)=false:=fun a b h=>by simpa using h
  have hS:=hM.s
  have na:la.length<=1000:=hM.al
  have tk:∀ l:List PV,l.take l.length=l:=fun l=>List.take_length
  simp (config:={maxSteps:=1000000}) only [q 3 0 (by decide),q 3 1 (by decide),q 3 2 (by decide),blBody,blTail,finBL,Cbl,planB,tk,lawZ,or_false,Nat.reduceBEq,planJ,planK,go_sem,↓reduceIte,reduceCtorEq,Nat.reduceEqDiff,Nat.reduceLT,↓all_qV,Int.reduceToNat,Int.reduceLT,Int.reduceLE,Nat.reduceAdd,Nat.reduceLeDiff,Nat.reduceMul]
  exact ⟨rfl,fun e he=>by obtain ⟨_,_,_,rfl,_⟩:=hS.a e he;rfl,by omega,by simp only [maxLen];omega,⟨rfl,fun e he=>by rw [List.mem_singleton] at he;subst he;rfl,Nat.le_refl _,by omega,by simp only [maxLen];omega,(fun c hc=>by simp only [List.mem_cons,List.not_mem_nil,or_false] at hc;rcases hc with rfl | rfl | rfl | rfl | rfl | rfl | rfl | rfl | rfl | rfl <;> refine ⟨rfl,?_⟩ <;> first | (simp [frzOk,hget];done) | (simp [frzOk,hget];omega)),⟨⟨fi,ye,tr,_,lb,lc,ld,le,lf,lg⟩,rfl,LawS.of hS.tr hS.tl ((snoc_ok hS.a na ⟨_,_,_,rfl,by omega⟩)).1 ((snoc_ok hS.a na ⟨_,_,_,rfl,by omega⟩)).2 hS.b hS.bl hS.c hS.cl hS.d hS.dl hS.e hS.el hS.f hS.fl hS.g hS.gl⟩⟩⟩
end Go.AM
