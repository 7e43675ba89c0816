/-
  A part of a proof.
-/
import Derived.Test.YteiphfohadlgiaaGreatDoorYT
set_option linter.unusedSimpArgs false
set_option linter.unusedVariables false
namespace Go.AM
open Go Go.Proofs Go.IntWalk
attribute [local go_sem] List.take_nil List.take_succ_cons Tryz.f8 allI_cons allI_nil arg1 arg2 callGc_false callGc_true ev_callG ev_rowlit ev_rowlit0 false_or gcallK_b gcallK_w intV loadC_eq memI_cons memI_nil nS ne_eq not_false_eq_true okN okP_eq okR pickS plan0 preBt_eq preC_eq preN_eq preP_eq preR_eq preTx_eq slV strV Θ1 Θ2 Θ3 Θ4 Θ5 Θ6 Θ7 Θ8 Θ9 ΘA ΘB
set_option maxRecDepth 100000
set_option maxHeartbeats 8000000
theorem bl_4:BLCase 4:=by
  intro fi ye tr la lb lc ld le lf lg hM code y m hcl hm1 hm2
  have q:∀ a b:Int,a≠b->(a == b)=false:=fun a b h=>by simpa using h
  have hS:=hM.s
  have nb:lb.length<=1000:=hM.bl
  have tk:∀ l:List PV,l.take l.length=l:=fun l=>List.take_length
  simp (config:={maxSteps:=1000000}) only [q 4 0 (by decide),q 4 1 (by decide),q 4 2 (by decide),q 4 3 (by decide),blBody,blTail,finBL,Cbl,planB,tk,lawZ,or_false,Nat.reduceBEq,planJ,planK,go_sem,↓reduceIte,reduceCtorEq,Nat.reduceEqDiff,Nat.reduceLT,↓all_qV,Int.reduceToNat,Int.reduceLT,Int.reduceLE,Nat.reduceAdd,Nat.reduceLeDiff,Nat.reduceMul]
  exact ⟨rfl,fun e he=>by obtain ⟨_,_,_,rfl,_⟩:=hS.b e he;rfl,by omega,by simp only [maxLen];omega,(fun c hc=>by simp only [List.mem_cons,List.not_mem_nil,or_false] at hc;rcases hc with rfl | rfl | rfl | rfl | rfl | rfl | rfl | rfl | rfl | rfl <;> refine ⟨rfl,?_⟩ <;> first | (simp [frzOk,hget];done) | (simp [frzOk,hget];omega)),⟨⟨fi,ye,tr,la,_,lc,ld,le,lf,lg⟩,rfl,LawS.of hS.tr hS.tl hS.a hS.al ((cons_ok hS.b nb (x:=.agg [.str code,.int .i64 y,.int .i64 m]) ⟨_,_,_,rfl,by omega⟩)).1 ((cons_ok hS.b nb (x:=.agg [.str code,.int .i64 y,.int .i64 m]) ⟨_,_,_,rfl,by omega⟩)).2 hS.c hS.cl hS.d hS.dl hS.e hS.el hS.f hS.fl hS.g hS.gl⟩⟩
theorem bl_5:BLCase 5:=by
  intro fi ye tr la lb lc ld le lf lg hM code y m hcl hm1 hm2
  have q:∀ a b:Int,a≠b->(a == b)=false:=fun a b h=>by simpa using h
  have hS:=hM.s
  have nc:lc.length<=1000:=hM.cl
  have tk:∀ l:List PV,l.take l.length=l:=fun l=>List.take_length
  simp (config:={maxSteps:=1000000}) only [q 5 0 (by decide),q 5 1 (by decide),q 5 2 (by decide),q 5 3 (by decide),q 5 4 (by decide),blBody,blTail,finBL,Cbl,planB,tk,lawZ,or_false,Nat.reduceBEq,planJ,planK,go_sem,↓reduceIte,reduceCtorEq,Nat.reduceEqDiff,Nat.reduceLT,↓all_qV,Int.reduceToNat,Int.reduceLT,Int.reduceLE,Nat.reduceAdd,Nat.reduceLeDiff,Nat.reduceMul]
  exact ⟨rfl,fun e he=>by obtain ⟨_,_,_,rfl,_⟩:=hS.c e he;rfl,by omega,by simp only [maxLen];omega,⟨rfl,fun e he=>by rw [List.mem_singleton] at he;subst he;rfl,Nat.le_refl _,by omega,by simp only [maxLen];omega,(fun c hc=>by simp only [List.mem_cons,List.not_mem_nil,or_false] at hc;rcases hc with rfl | rfl | rfl | rfl | rfl | rfl | rfl | rfl | rfl | rfl <;> refine ⟨rfl,?_⟩ <;> first | (simp [frzOk,hget];done) | (simp [frzOk,hget];omega)),⟨⟨fi,ye,tr,la,lb,_,ld,le,lf,lg⟩,rfl,LawS.of hS.tr hS.tl hS.a hS.al hS.b hS.bl ((snoc_ok hS.c nc ⟨_,_,_,rfl,by omega⟩)).1 ((snoc_ok hS.c nc ⟨_,_,_,rfl,by omega⟩)).2 hS.d hS.dl hS.e hS.el hS.f hS.fl hS.g hS.gl⟩⟩⟩
theorem bl_8:BLCase 8:=by
  intro fi ye tr la lb lc ld le lf lg hM code y m hcl hm1 hm2
  have q:∀ a b:Int,a≠b->(a == b)=false:=fun a b h=>by simpa using h
  have hS:=hM.s
  have nf:lf.length<=1000:=hM.fl
  have tk:∀ l:List PV,l.take l.length=l:=fun l=>List.take_length
  simp (config:={maxSteps:=1000000}) only [q 8 0 (by decide),q 8 1 (by decide),q 8 2 (by decide),q 8 3 (by decide),q 8 4 (by decide),q 8 5 (by decide),blBody,blTail,finBL,Cbl,planB,tk,lawZ,or_false,Nat.reduceBEq,planJ,planK,go_sem,↓reduceIte,reduceCtorEq,Nat.reduceEqDiff,Nat.reduceLT,↓all_qV,Int.reduceToNat,Int.reduceLT,Int.reduceLE,Nat.reduceAdd,Nat.reduceLeDiff,Nat.reduceMul]
  refine wpc_sound (T:=plan0) _ _ _ ?_
  simp (config:={maxSteps:=1000000}) only [q 8 0 (by decide),q 8 1 (by decide),q 8 2 (by decide),q 8 3 (by decide),q 8 4 (by decide),q 8 5 (by decide),q 8 6 (by decide),q 8 7 (by decide),blBody,blTail,finBL,Cbl,planB,tk,lawZ,or_false,Nat.reduceBEq,planJ,planK,go_sem,↓reduceIte,reduceCtorEq,Nat.reduceEqDiff,Nat.reduceLT,↓all_qV,Int.reduceToNat,Int.reduceLT,Int.reduceLE,Nat.reduceAdd,Nat.reduceLeDiff,Nat.reduceMul]
  exact ⟨rfl,fun e he=>by obtain ⟨_,_,_,_,rfl,_⟩:=hS.f e he;rfl,by omega,by simp only [maxLen];omega,fun x hx x1 hx1=>⟨rfl,fun e he=>by rw [List.mem_singleton] at he;subst he;rfl,Nat.le_refl _,by omega,by simp only [maxLen];omega,(fun c hc=>by simp only [List.mem_cons,List.not_mem_nil,or_false] at hc;rcases hc with rfl | rfl | rfl | rfl | rfl | rfl | rfl | rfl | rfl | rfl <;> refine ⟨rfl,?_⟩ <;> first | (simp [frzOk,hget];done) | (simp [frzOk,hget];omega)),⟨⟨fi,ye,tr,la,lb,lc,ld,le,_,lg⟩,rfl,LawS.of hS.tr hS.tl hS.a hS.al hS.b hS.bl hS.c hS.cl hS.d hS.dl hS.e hS.el ((snoc_ok hS.f nf ⟨_,_,_,_,rfl,by omega,by simp⟩)).1 ((snoc_ok hS.f nf ⟨_,_,_,_,rfl,by omega,by simp⟩)).2 hS.g hS.gl⟩⟩⟩
end Go.AM
namespace Go.AM
open Go Go.Proofs Go.IntWalk
attribute [local go_sem] List.take_nil List.take_succ_cons allI_cons allI_nil arg1 arg2 callGc_false callGc_true ev_callG false_or gcallK_b gcallK_w intV loadC_eq memI_cons memI_nil nS ne_eq not_false_eq_true okN okP_eq okR pickS plan0 preBt_eq preC_eq preN_eq preP_eq preR_eq preTx_eq slV strV Θ1 Θ2 Θ3 Θ4 Θ5 Θ6 Θ7 Θ8 Θ9 ΘA ΘB
set_option maxRecDepth 100000
set_option maxHeartbeats 8000000
theorem bl_9:BLCase 9:=by
  intro fi ye tr la lb lc ld le lf lg hM code y m hcl hm1 hm2
  have q:∀ a b:Int,a≠b->(a == b)=false:=fun a b h=>by simpa using h
  have hS:=hM.s
  have ng:lg.length<=1000:=hM.gl
  have tk:∀ l:List PV,l.take l.length=l:=fun l=>List.take_length
  simp (config:={maxSteps:=1000000}) only [q 9 0 (by decide),q 9 1 (by decide),q 9 2 (by decide),q 9 3 (by decide),q 9 4 (by decide),q 9 5 (by decide),blBody,blTail,finBL,Cbl,planB,Tryz.f8,tk,ev_rowlit0,ev_rowlit,lawZ,or_false,Nat.reduceBEq,planJ,planK,go_sem,↓reduceIte,reduceCtorEq,Nat.reduceEqDiff,Nat.reduceLT,↓all_qV,Int.reduceToNat,Int.reduceLT,Int.reduceLE,Nat.reduceAdd,Nat.reduceLeDiff,Nat.reduceMul]
  refine wpc_sound (T:=plan0) _ _ _ ?_
  simp (config:={maxSteps:=1000000}) only [q 9 0 (by decide),q 9 1 (by decide),q 9 2 (by decide),q 9 3 (by decide),q 9 4 (by decide),q 9 5 (by decide),q 9 6 (by decide),q 9 7 (by decide),q 9 8 (by decide),blBody,blTail,finBL,Cbl,planB,Tryz.f8,tk,ev_rowlit0,ev_rowlit,lawZ,or_false,Nat.reduceBEq,planJ,planK,go_sem,↓reduceIte,reduceCtorEq,Nat.reduceEqDiff,Nat.reduceLT,↓all_qV,Int.reduceToNat,Int.reduceLT,Int.reduceLE,Nat.reduceAdd,Nat.reduceLeDiff,Nat.reduceMul]
  exact ⟨rfl,fun e he=>by obtain ⟨_,_,_,rfl,_⟩:=hS.g e he;rfl,by omega,by simp only [maxLen];omega,fun x hx x1 hx1 x2 hx2=>⟨rfl,fun e he=>by rw [List.mem_singleton] at he;subst he;rfl,Nat.le_refl _,by omega,by simp only [maxLen];omega,(fun c hc=>by simp only [List.mem_cons,List.not_mem_nil,or_false] at hc;rcases hc with rfl | rfl | rfl | rfl | rfl | rfl | rfl | rfl | rfl | rfl <;> refine ⟨rfl,?_⟩ <;> first | (simp [frzOk,hget];done) | (simp [frzOk,hget];omega)),⟨⟨fi,ye,tr,la,lb,lc,ld,le,lf,_⟩,rfl,LawS.of hS.tr hS.tl hS.a hS.al hS.b hS.bl hS.c hS.cl hS.d hS.dl hS.e hS.el hS.f hS.fl ((snoc_ok hS.g ng ⟨_,_,_,rfl,fun z hz=>(by rw [List.mem_singleton] at hz;exact ⟨_,_,_,_,hz,by omega⟩),by simp⟩)).1 ((snoc_ok hS.g ng ⟨_,_,_,rfl,fun z hz=>(by rw [List.mem_singleton] at hz;exact ⟨_,_,_,_,hz,by omega⟩),by simp⟩)).2⟩⟩⟩
theorem bl_10:BLCase 10:=by
  intro fi ye tr la lb lc ld le lf lg hM code y m hcl hm1 hm2
  have q:∀ a b:Int,a≠b->(a == b)=false:=fun a b h=>by simpa using h
  have hS:=hM.s
  have ng:lg.length<=1000:=hM.gl
  have tk:∀ l:List PV,l.take l.length=l:=fun l=>List.take_length
  simp (config:={maxSteps:=1000000}) only [q 10 0 (by decide),q 10 1 (by decide),q 10 2 (by decide),q 10 3 (by decide),q 10 4 (by decide),q 10 5 (by decide),blBody,blTail,finBL,Cbl,planB,Tryz.f8,tk,ev_rowlit0,ev_rowlit,lawZ,or_false,Nat.reduceBEq,planJ,planK,go_sem,↓reduceIte,reduceCtorEq,Nat.reduceEqDiff,Nat.reduceLT,↓all_qV,Int.reduceToNat,Int.reduceLT,Int.reduceLE,Nat.reduceAdd,Nat.reduceLeDiff,Nat.reduceMul]
  refine wpc_sound (T:=plan0) _ _ _ ?_
  simp (config:={maxSteps:=1000000}) only [q 10 0 (by decide),q 10 1 (by decide),q 10 2 (by decide),q 10 3 (by decide),q 10 4 (by decide),q 10 5 (by decide),q 10 6 (by decide),q 10 7 (by decide),q 10 8 (by decide),q 10 9 (by decide),blBody,blTail,finBL,Cbl,planB,Tryz.f8,tk,ev_rowlit0,ev_rowlit,lawZ,or_false,Nat.reduceBEq,planJ,planK,go_sem,↓reduceIte,reduceCtorEq,Nat.reduceEqDiff,Nat.reduceLT,↓all_qV,Int.reduceToNat,Int.reduceLT,Int.reduceLE,Nat.reduceAdd,Nat.reduceLeDiff,Nat.reduceMul]
  exact ⟨rfl,fun e he=>by obtain ⟨_,_,_,rfl,_⟩:=hS.g e he;rfl,by omega,by simp only [maxLen];omega,(fun c hc=>by simp only [List.mem_cons,List.not_mem_nil,or_false] at hc;rcases hc with rfl | rfl | rfl <;> exact ⟨rfl,by simp [frzOk,hget]⟩),⟨rfl,fun e he=>by rw [List.mem_singleton] at he;subst he;rfl,Nat.le_refl _,by omega,by simp only [maxLen];omega,(fun c hc=>by simp only [List.mem_cons,List.not_mem_nil,or_false] at hc;rcases hc with rfl | rfl | rfl | rfl | rfl | rfl | rfl | rfl | rfl | rfl <;> refine ⟨rfl,?_⟩ <;> first | (simp [frzOk,hget];done) | (simp [frzOk,hget];omega)),⟨⟨fi,ye,tr,la,lb,lc,ld,le,lf,_⟩,rfl,LawS.of hS.tr hS.tl hS.a hS.al hS.b hS.bl hS.c hS.cl hS.d hS.dl hS.e hS.el hS.f hS.fl ((snoc_ok hS.g ng ⟨_,_,_,rfl,fun z hz=>(by cases hz),by simp⟩)).1 ((snoc_ok hS.g ng ⟨_,_,_,rfl,fun z hz=>(by cases hz),by simp⟩)).2⟩⟩⟩
theorem bl_11:BLCase 11:=by
  intro fi ye tr la lb lc ld le lf lg hM code y m hcl hm1 hm2
  have q:∀ a b:Int,a≠b->(a == b)=false:=fun a b h=>by simpa using h
  have hS:=hM.s
  have nf:lf.length<=1000:=hM.fl
  have tk:∀ l:List PV,l.take l.length=l:=fun l=>List.take_length
  simp (config:={maxSteps:=1000000}) only [q 11 0 (by decide),q 11 1 (by decide),q 11 2 (by decide),q 11 3 (by decide),q 11 4 (by decide),q 11 5 (by decide),blBody,blTail,finBL,Cbl,planB,Tryz.f8,tk,ev_rowlit0,ev_rowlit,lawZ,or_false,Nat.reduceBEq,planJ,planK,go_sem,↓reduceIte,reduceCtorEq,Nat.reduceEqDiff,Nat.reduceLT,↓all_qV,Int.reduceToNat,Int.reduceLT,Int.reduceLE,Nat.reduceAdd,Nat.reduceLeDiff,Nat.reduceMul]
  refine wpc_sound (T:=plan0) _ _ _ ?_
  simp (config:={maxSteps:=1000000}) only [q 11 0 (by decide),q 11 1 (by decide),q 11 2 (by decide),q 11 3 (by decide),q 11 4 (by decide),q 11 5 (by decide),q 11 6 (by decide),q 11 7 (by decide),q 11 8 (by decide),q 11 9 (by decide),q 11 10 (by decide),blBody,blTail,finBL,Cbl,planB,Tryz.f8,tk,ev_rowlit0,ev_rowlit,lawZ,or_false,Nat.reduceBEq,planJ,planK,go_sem,↓reduceIte,reduceCtorEq,Nat.reduceEqDiff,Nat.reduceLT,↓all_qV,Int.reduceToNat,Int.reduceLT,Int.reduceLE,Nat.reduceAdd,Nat.reduceLeDiff,Nat.reduceMul]
  refine AWp.loopA (α:=Nat × List PV) (fun z=>([(0,.ptr 9000 0),(3,.ptr 3 0),(4,.ptr 4 0),(8,.pv (.int .i64 z.1))],[(3,.cells [.pv (.int .i64 fi),.pv (.int .i64 ye),.pv (.sl tr),.pv (.sl la),.pv (.sl lb),.pv (.sl lc),.pv (.sl ld),.pv (.sl le),.pv (.sl z.2),.pv (.sl lg)]),(4,.cells lawZ),(9000,.obj Tp)])) (fun z=>z.1<=21/\z.2.length<=1000+z.1/\∀ e,e∈z.2->isR4 e) (fun z=>21-z.1) ⟨(0,lf),⟨by omega,by simp only;omega,hS.f⟩,⟨by simp [fitR,look],by simp [fitH,hget,lawZ],rfl,rfl,rfl⟩⟩ ?_
  rintro ⟨i,rs⟩ ⟨hi,hl,hr⟩
  simp only at hi hl hr
  have w4:IntKind.i64.wrap (100+(i:Int))=100+i:=i64_in _ (by omega)
  have w5:IntKind.i64.wrap ((i:Int)+1)=((i+1:Nat):Int):=by rw [i64_in _ (by omega)];rfl
  refine AWp.seqc (T:=plan0) ?_
  simp (config:={maxSteps:=1000000}) only [w4,w5,tk,lawZ,or_false,Nat.reduceBEq,List.take_zero,List.drop_succ_cons,List.drop_zero,go_sem,↓reduceIte,reduceCtorEq,Nat.reduceEqDiff,Nat.reduceLT,↓all_qV,Int.reduceToNat,Int.reduceLT,Int.reduceLE,Nat.reduceAdd,Nat.reduceLeDiff,Nat.reduceMul]
  intro x hx
  refine ⟨fun h1=>?_,fun h1=>?_⟩
  · have h2:(i:Int)<=x:=by simpa using h1
    have h3:i<=20:=by omega
    refine AWp.seqa (AWp.blockA ?_)
    refine AWp.capAppN 8 13 63 56 59 62 67 68 rs [.agg [.int .i64 (100+i),.str [49],.str [50],.int .i64 1]] rfl rfl (by decide) (by kernel_rfl) (by kernel_rfl) Tryz.underlying28 sz86 by86 ze86 (by decide) rfl (by decide) (fun e he=>?_) (fun e he=>?_) (by simp) (by simp only [maxLen];omega) ?_
    · obtain ⟨_,_,_,_,rfl,_⟩:=hr e he;rfl
    · rw [List.mem_singleton] at he;subst he;rfl
    simp (config:={maxSteps:=1000000}) only [w4,w5,tk,lawZ,or_false,Nat.reduceBEq,List.take_zero,List.drop_succ_cons,List.drop_zero,go_sem,↓reduceIte,reduceCtorEq,Nat.reduceEqDiff,Nat.reduceLT,↓all_qV,Int.reduceToNat,Int.reduceLT,Int.reduceLE,Nat.reduceAdd,Nat.reduceLeDiff,Nat.reduceMul]
    refine ⟨by omega,by simp only [maxLen];omega,?_⟩
    have hw:(rs++[PV.agg [.int .i64 (100+(i:Int)),.str [49],.str [50],.int .i64 1]]).take (rs.length+1)=rs++[PV.agg [.int .i64 (100+(i:Int)),.str [49],.str [50],.int .i64 1]]:=List.take_of_length_le (by simp)
    refine AWp.freezeC (T:=plan0) 68 4 (α:=Unit) (fun _=>rs++[.agg [.int .i64 (100+(i:Int)),.str [49],.str [50],.int .i64 1]]) (fun _=>([(0,.ptr 9000 0),(3,.ptr 3 0),(4,.ptr 4 0),(8,.pv (.int .i64 i))],[(3,.cells [.pv (.int .i64 fi),.pv (.int .i64 ye),.pv (.sl tr),.pv (.sl la),.pv (.sl lb),.pv (.sl lc),.pv (.sl ld),.pv (.sl le),.pv (.sl (rs++[.agg [.int .i64 (100+(i:Int)),.str [49],.str [50],.int .i64 1]])),.pv (.sl lg)]),(4,.cells lawZ),(9000,.obj Tp)])) (fun _=>True) ⟨(),trivial,⟨by simp [hget],rfl,by simp [fitF,look],by simp [fitHF,hget,frzC,lawZ,hw],rfl,rfl,rfl⟩⟩ ?_
    intro _ _
    simp (config:={maxSteps:=1000000}) only [w4,w5,tk,lawZ,or_false,Nat.reduceBEq,List.take_zero,List.drop_succ_cons,List.drop_zero,go_sem,↓reduceIte,reduceCtorEq,Nat.reduceEqDiff,Nat.reduceLT,↓all_qV,Int.reduceToNat,Int.reduceLT,Int.reduceLE,Nat.reduceAdd,Nat.reduceLeDiff,Nat.reduceMul]
    refine ⟨(i+1,rs++[.agg [.int .i64 (100+(i:Int)),.str [49],.str [50],.int .i64 1]]),⟨by simp only;omega,by simp;omega,fun e he=>?_⟩,by simp only;omega,⟨by simp [fitR,look],by simp [fitH,hget,lawZ],rfl,rfl,rfl⟩⟩
    rcases List.mem_append.1 he with h4 | h4
    · exact hr e h4
    · rw [List.mem_singleton] at h4
      exact ⟨_,_,_,_,h4,by simp,by simp⟩
  · exact ⟨(fun c hc=>by simp only [List.mem_cons,List.not_mem_nil,or_false] at hc;rcases hc with rfl | rfl | rfl | rfl | rfl | rfl | rfl | rfl | rfl | rfl <;> refine ⟨rfl,?_⟩ <;> first | (simp [frzOk,hget];done) | (simp [frzOk,hget];omega)),⟨fi,ye,tr,la,lb,lc,ld,le,rs,lg⟩,rfl,LawS.of hS.tr hS.tl hS.a hS.al hS.b hS.bl hS.c hS.cl hS.d hS.dl hS.e hS.el hr (by omega) hS.g hS.gl⟩
end Go.AM
namespace Go.AM
open Go Go.Proofs Go.IntWalk
attribute [local go_sem] allI_cons allI_nil arg1 arg2 callGc_false callGc_true ev_callG false_or gcallK_b gcallK_w intV memI_cons memI_nil nS ne_eq not_false_eq_true okN okP_eq okR pickS plan0 preBt_eq preC_eq preN_eq preP_eq preR_eq preTx_eq slV strV Θ1 Θ2 Θ3 Θ4 Θ5 Θ6 Θ7 Θ8 Θ9 ΘA ΘB
set_option maxRecDepth 100000
set_option maxHeartbeats 8000000
theorem bl_6:BLCase 6:=by
  intro fi ye tr la lb lc ld le lf lg hM code y m hcl hm1 hm2
  have q:∀ a b:Int,a≠b->(a == b)=false:=fun a b h=>by simpa using h
  have hS:=hM.s
  have nd:ld.length<=1000:=hM.dl
  have tk:∀ l:List PV,l.take l.length=l:=fun l=>List.take_length
  simp (config:={maxSteps:=1000000}) only [q 6 0 (by decide),q 6 1 (by decide),q 6 2 (by decide),q 6 3 (by decide),q 6 4 (by decide),q 6 5 (by decide),blBody,blTail,finBL,Cbl,planB,Tryz.f8,tk,ev_rowlit0,ev_rowlit,loadC_eq,lawZ,or_false,Nat.reduceBEq,planJ,planK,List.take_succ_cons,List.take_nil,go_sem,↓reduceIte,reduceCtorEq,Nat.reduceEqDiff,Nat.reduceLT,↓all_qV,Int.reduceToNat,Int.reduceLT,Int.reduceLE,Nat.reduceAdd,Nat.reduceLeDiff,Nat.reduceMul]
  refine AWp.seqc (T:=plan0) ?_
  simp only [or_false,Nat.reduceBEq,planJ,planK,go_sem,↓reduceIte,reduceCtorEq,Nat.reduceEqDiff,Nat.reduceLT,↓all_qV,Int.reduceToNat,Int.reduceLT,Int.reduceLE,Nat.reduceAdd,Nat.reduceLeDiff,Nat.reduceMul]
  refine AWp.condA (t:=true) rfl (fun _=>?_) (fun h=>by cases h)
  refine AWp.permM0 [1,2,9,10,4,5,8,12,6,13,0,3,7,11,14,15,16,17,18,19] [132,133,140,141,135,136,139,143,137,144] (by kernel_rfl) rfl ?_
  simp (config:={maxSteps:=1000000}) only [opsOf,List.filterMap_cons,List.filterMap_nil,List.getElem?_toArray,List.getElem?_cons_succ,List.getElem?_cons_zero,stepsM_nil,stepsM_cons,KM_ap,ann,solidO,okO,okB,allP,loadS,tk,ev_rowlit0,ev_rowlit,loadC_eq,lawZ,or_false,Nat.reduceBEq,planJ,planK,List.take_succ_cons,List.take_nil,go_sem,↓reduceIte,reduceCtorEq,Nat.reduceEqDiff,Nat.reduceLT,↓all_qV,Int.reduceToNat,Int.reduceLT,Int.reduceLE,Nat.reduceAdd,Nat.reduceLeDiff,Nat.reduceMul]
  refine ⟨rfl,fun e he=>by obtain ⟨_,_,_,rfl,_⟩:=hS.d e he;rfl,by omega,by simp only [maxLen];omega,fun e he=>?_,fun x hx=>⟨(⟨tr,rfl,hM.tp⟩:∃ l,[PV.sl tr]=[PV.sl l]/\treeP l),fun x1 hx1 x2 hx2=>?_⟩⟩
  · simp only [List.mem_cons,List.not_mem_nil,or_false] at he
    rcases he with rfl | rfl | rfl
    · exact ⟨_,rfl,by simp⟩
    · exact ⟨_,rfl,by simp⟩
    · exact ⟨_,rfl,hcl⟩
  · have e1:x.length<=1000:=hx
    have e2:x1.length<=100:=hx1.1
    exact ⟨rfl,fun e he=>by rw [List.mem_singleton] at he;subst he;rfl,Nat.le_refl _,by omega,by simp only [maxLen];omega,(fun c hc=>by simp only [List.mem_cons,List.not_mem_nil,or_false] at hc;rcases hc with rfl | rfl | rfl | rfl | rfl | rfl | rfl | rfl | rfl | rfl <;> refine ⟨rfl,?_⟩ <;> first | (simp [frzOk,hget];done) | (simp [frzOk,hget];omega)),⟨⟨fi,ye,tr,la,lb,lc,_,le,lf,lg⟩,rfl,LawS.of hS.tr hS.tl hS.a hS.al hS.b hS.bl hS.c hS.cl ((snoc_ok hS.d nd ⟨_,_,_,rfl,by omega,by omega⟩)).1 ((snoc_ok hS.d nd ⟨_,_,_,rfl,by omega,by omega⟩)).2 hS.e hS.el hS.f hS.fl hS.g hS.gl⟩⟩
theorem bl_7:BLCase 7:=by
  intro fi ye tr la lb lc ld le lf lg hM code y m hcl hm1 hm2
  have q:∀ a b:Int,a≠b->(a == b)=false:=fun a b h=>by simpa using h
  have hS:=hM.s
  have ne:le.length<=1000:=hM.el
  have tk:∀ l:List PV,l.take l.length=l:=fun l=>List.take_length
  simp (config:={maxSteps:=1000000}) only [q 7 0 (by decide),q 7 1 (by decide),q 7 2 (by decide),q 7 3 (by decide),q 7 4 (by decide),q 7 5 (by decide),blBody,blTail,finBL,Cbl,planB,Tryz.f8,tk,ev_rowlit0,ev_rowlit,loadC_eq,lawZ,or_false,Nat.reduceBEq,planJ,planK,List.take_succ_cons,List.take_nil,go_sem,↓reduceIte,reduceCtorEq,Nat.reduceEqDiff,Nat.reduceLT,↓all_qV,Int.reduceToNat,Int.reduceLT,Int.reduceLE,Nat.reduceAdd,Nat.reduceLeDiff,Nat.reduceMul]
  refine wpc_sound (T:=planK) _ _ _ ?_
  simp (config:={maxSteps:=1000000}) only [q 7 0 (by decide),q 7 1 (by decide),q 7 2 (by decide),q 7 3 (by decide),q 7 4 (by decide),q 7 5 (by decide),q 7 6 (by decide),blBody,blTail,finBL,Cbl,planB,Tryz.f8,tk,ev_rowlit0,ev_rowlit,loadC_eq,lawZ,or_false,Nat.reduceBEq,planJ,planK,List.take_succ_cons,List.take_nil,go_sem,↓reduceIte,reduceCtorEq,Nat.reduceEqDiff,Nat.reduceLT,↓all_qV,Int.reduceToNat,Int.reduceLT,Int.reduceLE,Nat.reduceAdd,Nat.reduceLeDiff,Nat.reduceMul]
  refine AWp.seqc (T:=plan0) ?_
  simp only [or_false,Nat.reduceBEq,planJ,planK,go_sem,↓reduceIte,reduceCtorEq,Nat.reduceEqDiff,Nat.reduceLT,↓all_qV,Int.reduceToNat,Int.reduceLT,Int.reduceLE,Nat.reduceAdd,Nat.reduceLeDiff,Nat.reduceMul]
  refine AWp.condA (t:=true) rfl (fun _=>?_) (fun h=>by cases h)
  refine AWp.permM0 [1,2,4,5,6,8,9,10,12,13,15,16,17,19,20,21,0,3,7,11,14,18,22,23,24,25,26,27] [153,154,156,157,158,160,161,162,164,165,167,168,169,171,172,173] (by kernel_rfl) rfl ?_
  simp (config:={maxSteps:=1000000}) only [opsOf,List.filterMap_cons,List.filterMap_nil,List.getElem?_toArray,List.getElem?_cons_succ,List.getElem?_cons_zero,stepsM_nil,stepsM_cons,KM_ap,ann,solidO,okO,okB,allP,loadS,tk,ev_rowlit0,ev_rowlit,loadC_eq,lawZ,or_false,Nat.reduceBEq,planJ,planK,List.take_succ_cons,List.take_nil,go_sem,↓reduceIte,reduceCtorEq,Nat.reduceEqDiff,Nat.reduceLT,↓all_qV,Int.reduceToNat,Int.reduceLT,Int.reduceLE,Nat.reduceAdd,Nat.reduceLeDiff,Nat.reduceMul]
  refine ⟨rfl,fun e he=>by obtain ⟨_,_,_,_,_,_,_,rfl,_⟩:=hS.e e he;rfl,by omega,by simp only [maxLen];omega,(⟨tr,rfl,hM.tp⟩:∃ l,[PV.sl tr]=[PV.sl l]/\treeP l),fun x hx x1 hx1 x2 hx2=>⟨fun e he=>?_,fun x3 hx3=>⟨by omega,fun x4 hx4=>?_⟩⟩⟩
  · simp only [List.mem_cons,List.not_mem_nil,or_false] at he
    rcases he with rfl | rfl | rfl
    · exact ⟨_,rfl,by simp⟩
    · exact ⟨_,rfl,by simp⟩
    · exact ⟨_,rfl,hcl⟩
  · have e1:x.length<=100:=hx.1
    have e2:x3.length<=1000:=hx3
    exact ⟨rfl,fun e he=>by rw [List.mem_singleton] at he;subst he;rfl,Nat.le_refl _,by omega,by simp only [maxLen];omega,(fun c hc=>by simp only [List.mem_cons,List.not_mem_nil,or_false] at hc;rcases hc with rfl | rfl | rfl | rfl | rfl | rfl | rfl | rfl | rfl | rfl <;> refine ⟨rfl,?_⟩ <;> first | (simp [frzOk,hget];done) | (simp [frzOk,hget];omega)),⟨⟨fi,ye,tr,la,lb,lc,ld,_,lf,lg⟩,rfl,LawS.of hS.tr hS.tl hS.a hS.al hS.b hS.bl hS.c hS.cl hS.d hS.dl ((snoc_ok hS.e ne ⟨_,_,_,_,_,_,_,rfl,by omega,by omega⟩)).1 ((snoc_ok hS.e ne ⟨_,_,_,_,_,_,_,rfl,by omega,by omega⟩)).2 hS.f hS.fl hS.g hS.gl⟩⟩
end Go.AM
namespace Go.AM
open Go Go.Proofs Go.IntWalk
set_option maxRecDepth 100000
set_option maxHeartbeats 8000000
noncomputable def blQ:QSpec:=qV Tp preBL Law.v okBL
theorem w_blQ:QSound GG 8 blQ:=by
  unfold blQ
  refine QSound.of_wpcV (C:=cxQ Tryz.prog M0 ΘB noΨ [94,111,118,131,152,181,198,220] [9000] 229) 9000 Tryz.func8 rfl rfl rfl (Fit.all (G:=GG) hM0 hΘB hnoΨ mixed) rfl (fun args h=>?_) (fun args h=>?_)
  · obtain ⟨L,rfl,hM⟩:=h
    exact ⟨L,hM.s⟩
  · obtain ⟨⟨fi,ye,tr,la,lb,lc,ld,le,lf,lg⟩,rfl,hM⟩:=h
    refine ⟨by simp [cxQ],?_⟩
    refine wpc_sound (T:=planB) _ _ _ ?_
    simp (config:={maxSteps:=1000000}) only [Law.v,lawV,planB,ΘB,ΘA,Θ9,Θ8,Θ7,Θ6,Θ5,Θ4,Θ3,Θ2,Θ1,nS,pickS,preN_eq,preP_eq,okP_eq,preR_eq,allI_nil,allI_cons,memI_nil,memI_cons,or_false,false_or,okN,okR,arg1,arg2,ne_eq,not_false_eq_true,intV,Nat.reduceBEq,preC_eq,preBt_eq,preTx_eq,strV,slV,plan0,true_and,List.take_succ_cons,List.take_nil,Tryz.f8,go_sem,↓reduceIte,reduceCtorEq,Nat.reduceEqDiff,Nat.reduceLT,↓all_qV,Int.reduceToNat,Int.reduceLT,Int.reduceLE,Nat.reduceAdd,Nat.reduceLeDiff,Nat.reduceMul,ev_callG,gcallK_b,gcallK_w,callGc_true,callGc_false]
    have htl:=hM.tl
    have hfi:=hM.fi
    have hye:=hM.ye
    simp only at htl hfi hye
    have w1:IntKind.i64.wrap (fi-1)=fi-1:=i64_in _ (by omega)
    have w2:IntKind.i64.wrap (fi+ye)=fi+ye:=i64_in _ (by omega)
    simp only [w1,w2]
    refine AWp.join (c:=?c1) (Q:=?Q1) (T:=planJ) (C:=cxQ Tryz.prog M0 ΘB noΨ [94,111,118,131,152,181,198,220] [9000] 229) (fun z:(List UInt8 × Int × Int × Int)=>([(0,.ptr 9000 0),(3,.ptr 3 0),(4,.ptr 4 0),(5,.pv (.str z.1)),(6,.pv (.int .i64 z.2.1)),(7,.pv (.int .i64 z.2.2.1)),(47,.pv (.int .i64 z.2.2.2))],[(3,.cells [.pv (.int .i64 fi),.pv (.int .i64 ye),.pv (.sl tr),.pv (.sl la),.pv (.sl lb),.pv (.sl lc),.pv (.sl ld),.pv (.sl le),.pv (.sl lf),.pv (.sl lg)]),(4,.cells lawZ),(9000,.obj Tp)])) (fun z=>z.1.length<=1000/\(-2<=z.2.2.1/\z.2.2.1<=1000000000001)/\0<=z.2.2.2/\z.2.2.2<12) (fun key=>?main) ?rest
    case main=>
      refine fun bc hbc k hk=>⟨fun g1=>⟨by kernel_rfl,?_,fun j hj=>?_⟩,fun g1=>⟨by omega,fun y hy m hm t ht=>?_⟩⟩
      · simp only [Bool.and_eq_true,decide_eq_true_eq] at g1;omega
      · obtain ⟨i,rfl⟩:=Int.eq_ofNat_of_zero_le hj.1
        obtain ⟨c,nm,he,hc,_⟩:=hM.tq _ (getD_mem (show i<tr.length by omega))
        have he3:tr.getD i default=.agg [.str c,.str nm]:=he
        rw [Int.toNat_natCast,he3]
        refine ⟨⟨hj.1,hj.2,rfl⟩,by show 1<=2;decide,by omega,fun y hy m hm t ht=>?_⟩
        refine key (c,y,m,t) _ ⟨by simp only;omega,by simp only;omega,ht⟩ ⟨?_,?_,rfl,rfl,rfl⟩
        · simp [fitR,look,PV.pp]
        · simp [fitH,hget,lawZ]
      · refine key (bc,y,m,t) _ ⟨by simp only;have:bc.length<=100:=hbc;omega,by simp only;omega,ht⟩ ⟨?_,?_,rfl,rfl,rfl⟩
        · simp [fitR,look]
        · simp [fitH,hget,lawZ]
    case rest=>
      rintro ⟨code,y,m,t⟩ ⟨hcl,hm1,ht0,ht12⟩
      simp only at hcl hm1 ht0 ht12
      have hT:t=0\/t=1\/t=2\/t=3\/t=4\/t=5\/t=6\/t=7\/t=8\/t=9\/t=10\/t=11:=by omega
      rcases hT with rfl | rfl | rfl | rfl | rfl | rfl | rfl | rfl | rfl | rfl | rfl | rfl
      · exact bl_0 fi ye tr la lb lc ld le lf lg hM code y m hcl hm1.1 hm1.2
      · exact bl_1 fi ye tr la lb lc ld le lf lg hM code y m hcl hm1.1 hm1.2
      · exact bl_2 fi ye tr la lb lc ld le lf lg hM code y m hcl hm1.1 hm1.2
      · exact bl_3 fi ye tr la lb lc ld le lf lg hM code y m hcl hm1.1 hm1.2
      · exact bl_4 fi ye tr la lb lc ld le lf lg hM code y m hcl hm1.1 hm1.2
      · exact bl_5 fi ye tr la lb lc ld le lf lg hM code y m hcl hm1.1 hm1.2
      · exact bl_6 fi ye tr la lb lc ld le lf lg hM code y m hcl hm1.1 hm1.2
      · exact bl_7 fi ye tr la lb lc ld le lf lg hM code y m hcl hm1.1 hm1.2
      · exact bl_8 fi ye tr la lb lc ld le lf lg hM code y m hcl hm1.1 hm1.2
      · exact bl_9 fi ye tr la lb lc ld le lf lg hM code y m hcl hm1.1 hm1.2
      · exact bl_10 fi ye tr la lb lc ld le lf lg hM code y m hcl hm1.1 hm1.2
      · exact bl_11 fi ye tr la lb lc ld le lf lg hM code y m hcl hm1.1 hm1.2
noncomputable def ΘC (g:FuncId):Option QSpec:=putΘ ΘB 8 (qV Tp preBL Law.v okBL) g
theorem hΘC:QTab GG ΘC:=hΘB.put w_blQ
end Go.AM
