/-
  A part of a proof.
-/
import Derived.Test.YteiphfohadlgiaaGreatDoorYV
import Derived.Test.YteiphfohadlgiaaGreatDoorY9s
import Derived.Test.YteiphfohadlgiaaGreatDoorYE
import Derived.Test.YteiphfohadlgiaaGreatDoorAG
set_option linter.unusedSimpArgs false
set_option linter.unusedVariables false
namespace Go.AM
open Go Go.Proofs Go.IntWalk
attribute [local go_sem] List.length_map List.take_nil List.take_succ_cons allI_cons allI_nil arg1 arg2 callGc_false callGc_true ev_callG false_or gcallK_b gcallK_w intV memI_cons memI_nil nS ne_eq not_false_eq_true okN okP_eq okR on__eq on_ll_eq on_p_eq on_plii_eq on_plsii_eq or_false pickS preC_eq preLf_eq preN_eq preNo_eq preP_eq preR_eq preT_eq psiNew_eq slV strV Θ1 Θ2 Θ3 Θ4 Θ5 Θ6 Θ7 Θ8 Θ9 ΘA ΘB ΘC Ψ1
set_option maxRecDepth 100000
set_option maxHeartbeats 8000000
def on_lppsii (p:List PV->PV->PV->List UInt8->Int->Int->Prop) (f:List PV->PV->PV->List UInt8->Int->Int->PV):PSpec
  | [.sl a0,a1,a2,.str a3,.int .i64 a4,.int .i64 a5]=>(p a0 a1 a2 a3 a4 a5,f a0 a1 a2 a3 a4 a5)
  | _=>(False,default)
theorem on_lppsii_eq {p:List PV->PV->PV->List UInt8->Int->Int->Prop} {f:List PV->PV->PV->List UInt8->Int->Int->PV} {a0:List PV} {a1:PV} {a2:PV} {a3:List UInt8} {a4:Int} {a5:Int}:on_lppsii p f [.sl a0,a1,a2,.str a3,.int .i64 a4,.int .i64 a5]=(p a0 a1 a2 a3 a4 a5,f a0 a1 a2 a3 a4 a5):=rfl
theorem on_lppsii_inv {p:List PV->PV->PV->List UInt8->Int->Int->Prop} {f:List PV->PV->PV->List UInt8->Int->Int->PV} {args:List PV} (h:(on_lppsii p f args).1):∃ a0:List PV,∃ a1:PV,∃ a2:PV,∃ a3:List UInt8,∃ a4:Int,∃ a5:Int,args=[.sl a0,a1,a2,.str a3,.int .i64 a4,.int .i64 a5]/\p a0 a1 a2 a3 a4 a5:=by
  unfold on_lppsii at h
  split at h
  · exact ⟨_,_,_,_,_,_,rfl,h⟩
  · exact h.elim
theorem shA_le (rs:List PV) (y d:Int):∀ (es:List PV) (acc:List Int),(shA rs y d es acc).1.length<=acc.length+es.length
  | [],acc=>by simp [shA]
  | x::r,acc=>by
    rw [shA]
    cases (shrF (pctOf x) (recF rs (srcOf x) y d)).2 != 0 with
    | true=>rw [cond_true];exact Nat.zero_le _
    | false=>
      rw [cond_false]
      have:=shA_le rs y d r (acc++[(shrF (pctOf x) (recF rs (srcOf x) y d)).1])
      simp only [List.length_append,List.length_cons,List.length_nil] at this ⊢
      omega
theorem sharesF_le {L:Law} (hS:LawS L) (rs:List PV) (y d:Int):(sharesF L rs y d).1.length<=4611686018427387904:=by
  have h1:=hS.dl
  have h2:=shA_le rs y d L.d []
  unfold sharesF
  cases chkF L rs != 0 with
  | true=>rw [cond_true];exact Nat.zero_le _
  | false=>rw [cond_false];simp only [List.length_nil] at h2;omega
theorem hc3 {H:AHeap} {a b:List UInt8} {c:Int}:∀ x:AV,x∈[AV.pv (.str a),AV.pv (.str b),AV.pv (.int .i64 c)]->x.one=true/\frzOk H 3 x:=fun x hx=>by
  simp only [List.mem_cons,List.not_mem_nil,or_false] at hx
  rcases hx with rfl | rfl | rfl <;> exact ⟨rfl,by simp [frzOk]⟩
theorem hc10 {H:AHeap} {a b:Int} {c d e f g h i j:List PV}:∀ x:AV,x∈[AV.pv (.int .i64 a),AV.pv (.int .i64 b),AV.pv (.sl c),AV.pv (.sl d),AV.pv (.sl e),AV.pv (.sl f),AV.pv (.sl g),AV.pv (.sl h),AV.pv (.sl i),AV.pv (.sl j)]->x.one=true/\frzOk H 3 x:=fun x hx=>by
  simp only [List.mem_cons,List.not_mem_nil,or_false] at hx
  rcases hx with rfl | rfl | rfl | rfl | rfl | rfl | rfl | rfl | rfl | rfl <;> exact ⟨rfl,by simp [frzOk]⟩
noncomputable def EL (g:FuncId):PSpec:=(putΦ (putΦ (putΦ (putΦ (putΦ (putΦ (putΦ (putΦ (putΦ M5 18 shareS) 13 sharesES) 11 earnedS) 15 restS) 19 rshareS) 14 rsharesES) 12 rearnedS) 16 rrestS) 5 awake11S) g
theorem hEL:TabSound GG EL:=(((((((((hM5.put w_shareS).put w_sharesES).put w_earnedS).put w_restS).put w_rshareS).put w_rsharesES).put w_rearnedS).put w_rrestS).put w_awake11S)
def planAt (n:Nat):Plan:={ keep:=fun _=>none,cut:=fun _=>false,stop:=fun i=>i == n }
noncomputable def exS:PSpec:=on_lppsii (fun es r x c y d=>(es.length<=9223372036854775807/\∀ e,e∈es->isI e)/\(∃ F:Facts,r=F.v/\FactsR F)/\(∃ s c p,x=.agg [.str s,.str c,.int .i64 p]/\s.length<=1000000000000000/\c.length<=1000000000000000)/\c.length<=9223372036854775807) (fun _ _ _ _ _ _=>.bool true)
theorem k_exL_4 {args:List PV}:EL 4 args=smallFS args:=rfl
theorem k_exL_5 {args:List PV}:EL 5 args=awake11S args:=rfl
theorem k_exL_11 {args:List PV}:EL 11 args=earnedS args:=rfl
theorem k_exL_12 {args:List PV}:EL 12 args=rearnedS args:=rfl
theorem k_exL_13 {args:List PV}:EL 13 args=sharesES args:=rfl
theorem k_exL_14 {args:List PV}:EL 14 args=rsharesES args:=rfl
theorem k_exL_15 {args:List PV}:EL 15 args=restS args:=rfl
theorem k_exL_16 {args:List PV}:EL 16 args=rrestS args:=rfl
theorem k_exL_17 {args:List PV}:EL 17 args=intsS args:=rfl
theorem k_exL_18 {args:List PV}:EL 18 args=shareS args:=rfl
theorem k_exL_19 {args:List PV}:EL 19 args=rshareS args:=rfl
theorem w_exS:PSound GG 3 exS:=by
  refine PSound.of_wpc (C:=cxQ Tryz.prog EL ΘC Ψ1 [211] [] 253) (T:=planAt 4) Tryz.func3 rfl rfl rfl (Fit.all (G:=GG) hEL hΘC hΨ1 mixed) (fun args h=>?_)
  unfold exS at h
  obtain ⟨es0,r0,x0,code,year,day,rfl,⟨he1,he2⟩,⟨⟨⟨fi,ye,tr,la,lb,lc,ld,le,lf,lg⟩,lt,lr,lk⟩,rfl,hR⟩,⟨xs,xc,xp,rfl,hxs,hxc⟩,hcl⟩:=on_lppsii_inv h
  have hF:∃ F:Facts,.agg [.int .i64 fi,.int .i64 ye,.sl tr,.sl la,.sl lb,.sl lc,.sl ld,.sl le,.sl lf,.sl lg,.sl lt,.sl lr,.sl lk]=F.v/\FactsR F:=⟨⟨⟨fi,ye,tr,la,lb,lc,ld,le,lf,lg⟩,lt,lr,lk⟩,rfl,hR⟩
  have hfo:factO (.agg [.int .i64 fi,.int .i64 ye,.sl tr,.sl la,.sl lb,.sl lc,.sl ld,.sl le,.sl lf,.sl lg,.sl lt,.sl lr,.sl lk])=⟨⟨fi,ye,tr,la,lb,lc,ld,le,lf,lg⟩,lt,lr,lk⟩:=rfl
  refine ⟨by simp [cxQ],?_⟩
  have hwx:IntKind.i64.wrap ((xs.length:Int)+(xc.length:Int))=(xs.length:Int)+(xc.length:Int):=i64_in _ (by omega)
  obtain ⟨B,hB⟩:∃ B,smFa ⟨⟨fi,ye,tr,la,lb,lc,ld,le,lf,lg⟩,lt,lr,lk⟩=B:=⟨_,rfl⟩
  simp (config:={maxSteps:=1000000}) only [exS,on_lppsii_eq,Facts.v,hfo,hB,hwx,k_exL_4,smallFS,k_exL_5,awake11S,k_exL_11,earnedS,k_exL_12,rearnedS,k_exL_13,sharesES,k_exL_14,rsharesES,k_exL_15,restS,k_exL_16,rrestS,k_exL_17,intsS,k_exL_18,shareS,k_exL_19,rshareS,newS,Nat.reduceBEq,Tryz.f3,argL,planAt,go_sem,↓reduceIte,reduceCtorEq,Nat.reduceEqDiff,Nat.reduceLT,↓all_qVz,↓all_qVz',Int.reduceToNat,Int.reduceLT,Int.reduceLE,Nat.reduceAdd,Nat.reduceLeDiff,Nat.reduceMul]
  have hc13:∀ {H:AHeap} (c:AV),c∈[AV.pv (PV.int IntKind.i64 fi),AV.pv (PV.int IntKind.i64 ye),AV.pv (PV.sl tr),AV.pv (PV.sl la),AV.pv (PV.sl lb),AV.pv (PV.sl lc),AV.pv (PV.sl ld),AV.pv (PV.sl le),AV.pv (PV.sl lf),AV.pv (PV.sl lg),AV.pv (PV.sl lt),AV.pv (PV.sl lr),AV.pv (PV.sl lk)]->c.one=true/\frzOk H 3 c:=fun c hc=>by
    simp only [List.mem_cons,List.not_mem_nil,or_false] at hc
    rcases hc with rfl | rfl | rfl | rfl | rfl | rfl | rfl | rfl | rfl | rfl | rfl | rfl | rfl <;> exact ⟨rfl,by simp [frzOk]⟩
  refine ⟨⟨hc13,hF⟩,fun h=>by simpa using h,fun hg=>⟨⟨he1,he2⟩,?_⟩⟩
  simp only [Bool.or_eq_false_iff,Bool.not_eq_false',decide_eq_false_iff_not] at hg
  obtain ⟨⟨hBt,hg1⟩,hg2⟩:=hg
  rw [hBt] at hB
  obtain ⟨hrS,hrR,hrl⟩:=small_facts hR hB
  simp only at hrS hrR hrl
  have hxs:xs.length<=100:=by omega
  have hxc:xc.length<=100:=by omega
  have hcl:code.length<=60:=by omega
  clear hg1 hg2 hwx hB hfo hF hR hc13 he1 he2
  refine AWp.here (T:=planAt 8) (α:=Unit) (fun _=>([(3,.pv (.str code)),(4,.pv (.int .i64 year)),(5,.pv (.int .i64 day)),(7,.ptr 7 0),(8,.ptr 8 0),(13,.ptr 61 0)],
    [(7,.cells [.pv (.int .i64 fi),.pv (.int .i64 ye),.pv (.sl tr),.pv (.sl la),.pv (.sl lb),.pv (.sl lc),.pv (.sl ld),.pv (.sl le),.pv (.sl lf),.pv (.sl lg),.pv (.sl lt),.pv (.sl lr),.pv (.sl lk)]),(8,.cells [.pv (.str xs),.pv (.str xc),.pv (.int .i64 xp)]),(61,.obj Tp)])) (fun _=>True) ⟨(),trivial,⟨by simp [fitR,look,upd],by simp [fitH,hget,hset],rfl,rfl,rfl⟩⟩ ?_
  intro _ _
  simp (config:={maxSteps:=1000000}) only [Facts.v,Law.v,lawV,loadC_eq,k_exL_4,smallFS,k_exL_5,awake11S,k_exL_11,earnedS,k_exL_12,rearnedS,k_exL_13,sharesES,k_exL_14,rsharesES,k_exL_15,restS,k_exL_16,rrestS,k_exL_17,intsS,k_exL_18,shareS,k_exL_19,rshareS,newS,Nat.reduceBEq,planAt,go_sem,↓reduceIte,reduceCtorEq,Nat.reduceEqDiff,Nat.reduceLT,↓all_qVz,↓all_qVz',Int.reduceToNat,Int.reduceLT,Int.reduceLE,Nat.reduceAdd,Nat.reduceLeDiff,Nat.reduceMul]
  intro f hf
  rw [Stop_eq]
  simp (config:={maxSteps:=1000000}) only [Law.v,lawV,loadC_eq,k_exL_4,smallFS,k_exL_5,awake11S,k_exL_11,earnedS,k_exL_12,rearnedS,k_exL_13,sharesES,k_exL_14,rsharesES,k_exL_15,restS,k_exL_16,rrestS,k_exL_17,intsS,k_exL_18,shareS,k_exL_19,rshareS,newS,Nat.reduceBEq,planAt,go_sem,↓reduceIte,reduceCtorEq,Nat.reduceEqDiff,Nat.reduceLT,↓all_qV,Int.reduceToNat,Int.reduceLT,Int.reduceLE,Nat.reduceAdd,Nat.reduceLeDiff,Nat.reduceMul]
  have hM:LawM f.law:=hf.1.M
  have hfl:=hf.2.1
  have hfR:∀ x,x∈f.re->isR x:=fun x hx=>by
    obtain ⟨n,d,c,a,e,hc,_⟩:=hf.2.2.1 x hx
    exact ⟨n,d,c,a,e,by omega⟩
  clear hf
  refine ⟨by kernel_rfl,⟨hc10,_,rfl,hM⟩,fun bl hbl=>⟨⟨hc10,hc10⟩,?_⟩⟩
  have hbl:LawS bl:=hbl
  have hA:∀ k:Nat,k<3->∃ L:Law,([.agg [.int .i64 f.law.first,.int .i64 f.law.years,.sl f.law.tree,.sl f.law.a,.sl f.law.b,.sl f.law.c,.sl f.law.d,.sl f.law.e,.sl f.law.f,.sl f.law.g],.agg [.int .i64 bl.first,.int .i64 bl.years,.sl bl.tree,.sl bl.a,.sl bl.b,.sl bl.c,.sl bl.d,.sl bl.e,.sl bl.f,.sl bl.g],.agg [.int .i64 fi,.int .i64 ye,.sl tr,.sl la,.sl lb,.sl lc,.sl ld,.sl le,.sl lf,.sl lg]]:List PV).getD k default=.agg [.int .i64 L.first,.int .i64 L.years,.sl L.tree,.sl L.a,.sl L.b,.sl L.c,.sl L.d,.sl L.e,.sl L.f,.sl L.g]/\LawS L:=fun k hk=>by
    have:k=0\/k=1\/k=2:=by omega
    rcases this with rfl | rfl | rfl
    · exact ⟨f.law,rfl,hM.s⟩
    · exact ⟨bl,rfl,hbl⟩
    · exact ⟨⟨fi,ye,tr,la,lb,lc,ld,le,lf,lg⟩,rfl,hrS⟩
  have hAl:([.agg [.int .i64 f.law.first,.int .i64 f.law.years,.sl f.law.tree,.sl f.law.a,.sl f.law.b,.sl f.law.c,.sl f.law.d,.sl f.law.e,.sl f.law.f,.sl f.law.g],.agg [.int .i64 bl.first,.int .i64 bl.years,.sl bl.tree,.sl bl.a,.sl bl.b,.sl bl.c,.sl bl.d,.sl bl.e,.sl bl.f,.sl bl.g],.agg [.int .i64 fi,.int .i64 ye,.sl tr,.sl la,.sl lb,.sl lc,.sl ld,.sl le,.sl lf,.sl lg]]:List PV).length=3:=rfl
  generalize ([.agg [.int .i64 f.law.first,.int .i64 f.law.years,.sl f.law.tree,.sl f.law.a,.sl f.law.b,.sl f.law.c,.sl f.law.d,.sl f.law.e,.sl f.law.f,.sl f.law.g],.agg [.int .i64 bl.first,.int .i64 bl.years,.sl bl.tree,.sl bl.a,.sl bl.b,.sl bl.c,.sl bl.d,.sl bl.e,.sl bl.f,.sl bl.g],.agg [.int .i64 fi,.int .i64 ye,.sl tr,.sl la,.sl lb,.sl lc,.sl ld,.sl le,.sl lf,.sl lg]]:List PV)=A at hA hAl ⊢
  refine AWp.loop (T:=plan0) (α:=Nat) (fun k=>([(3,.pv (.str code)),(4,.pv (.int .i64 year)),(5,.pv (.int .i64 day)),(7,.ptr 7 0),(8,.ptr 8 0),(13,.ptr 61 0),(14,.ptr 14 0),(72,.pv (.sl A)),(73,.pv (.int .i64 3)),(74,.pv (.int .i64 k))],[(7,.cells [.pv (.int .i64 fi),.pv (.int .i64 ye),.pv (.sl tr),.pv (.sl la),.pv (.sl lb),.pv (.sl lc),.pv (.sl ld),.pv (.sl le),.pv (.sl lf),.pv (.sl lg),.pv (.sl lt),.pv (.sl lr),.pv (.sl lk)]),(8,.cells [.pv (.str xs),.pv (.str xc),.pv (.int .i64 xp)]),(14,.cells [.pv (.int .i64 f.law.first),.pv (.int .i64 f.law.years),.pv (.sl f.law.tree),.pv (.sl f.law.a),.pv (.sl f.law.b),.pv (.sl f.law.c),.pv (.sl f.law.d),.pv (.sl f.law.e),.pv (.sl f.law.f),.pv (.sl f.law.g),.pv (.sl f.tr),.pv (.sl f.re),.pv (.sl f.ca)]),(61,.obj Tp)])) (fun k=>k<=3) (fun k=>3-k) ⟨0,Nat.zero_le _,⟨by simp [fitR,look],by simp [fitH,hget],rfl,rfl,rfl⟩⟩ ?_
  intro k hk
  have hk1:IntKind.i64.wrap ((k:Int)+1)=((k+1:Nat):Int):=by rw [i64_in _ (by omega)];omega
  by_cases hklt:k<3
  · have c1:decide ((k:Int)<3)=true:=by simp;omega
    obtain ⟨L,hL,hLS⟩:=hA k hklt
    simp (config:={maxSteps:=1000000}) only [c1,hL,hAl,indexA,Int.toNat_natCast,bne_self_eq_false,beq_self_eq_true,Bool.not_true,Bool.or_false,decide_true,decide_false,List.length_cons,List.length_nil,loadC_eq,k_exL_4,smallFS,k_exL_5,awake11S,k_exL_11,earnedS,k_exL_12,rearnedS,k_exL_13,sharesES,k_exL_14,rsharesES,k_exL_15,restS,k_exL_16,rrestS,k_exL_17,intsS,k_exL_18,shareS,k_exL_19,rshareS,newS,Nat.reduceBEq,plan0,go_sem,↓reduceIte,reduceCtorEq,Nat.reduceEqDiff,Nat.reduceLT,↓all_qV,Int.reduceToNat,Int.reduceLT,Int.reduceLE,Nat.reduceAdd,Nat.reduceLeDiff,Nat.reduceMul]
    refine ⟨⟨by omega,by omega⟩,?_⟩
    have hR2:∀ j:Nat,j<2->∃ r:List PV,([.sl f.re,.sl lr]:List PV).getD j default=.sl r/\(∀ x,x∈r->isR x)/\r.length<=1000:=fun j hj=>by
      have:j=0\/j=1:=by omega
      rcases this with rfl | rfl
      · exact ⟨f.re,rfl,hfR,by omega⟩
      · exact ⟨lr,rfl,hrR,by omega⟩
    have hRl:([.sl f.re,.sl lr]:List PV).length=2:=rfl
    generalize ([.sl f.re,.sl lr]:List PV)=R at hR2 hRl ⊢
    refine AWp.loop (T:=plan0) (α:=Nat) (fun j=>([(3,.pv (.str code)),(4,.pv (.int .i64 year)),(5,.pv (.int .i64 day)),(7,.ptr 7 0),(8,.ptr 8 0),(13,.ptr 61 0),(14,.ptr 14 0),(72,.pv (.sl A)),(73,.pv (.int .i64 3)),(74,.pv (.int .i64 k)),(16,.ptr 16 0),(82,.pv (.sl R)),(83,.pv (.int .i64 2)),(84,.pv (.int .i64 j))],[(7,.cells [.pv (.int .i64 fi),.pv (.int .i64 ye),.pv (.sl tr),.pv (.sl la),.pv (.sl lb),.pv (.sl lc),.pv (.sl ld),.pv (.sl le),.pv (.sl lf),.pv (.sl lg),.pv (.sl lt),.pv (.sl lr),.pv (.sl lk)]),(8,.cells [.pv (.str xs),.pv (.str xc),.pv (.int .i64 xp)]),(14,.cells [.pv (.int .i64 f.law.first),.pv (.int .i64 f.law.years),.pv (.sl f.law.tree),.pv (.sl f.law.a),.pv (.sl f.law.b),.pv (.sl f.law.c),.pv (.sl f.law.d),.pv (.sl f.law.e),.pv (.sl f.law.f),.pv (.sl f.law.g),.pv (.sl f.tr),.pv (.sl f.re),.pv (.sl f.ca)]),(16,.cells [.pv (.int .i64 L.first),.pv (.int .i64 L.years),.pv (.sl L.tree),.pv (.sl L.a),.pv (.sl L.b),.pv (.sl L.c),.pv (.sl L.d),.pv (.sl L.e),.pv (.sl L.f),.pv (.sl L.g)]),(61,.obj Tp)])) (fun j=>j<=2) (fun j=>2-j) ⟨0,Nat.zero_le _,⟨by simp [fitR,look],by simp [fitH,hget],rfl,rfl,rfl⟩⟩ ?_
    intro j hj
    have hj1:IntKind.i64.wrap ((j:Int)+1)=((j+1:Nat):Int):=by rw [i64_in _ (by omega)];omega
    by_cases hjlt:j<2
    · have c2:decide ((j:Int)<2)=true:=by simp;omega
      obtain ⟨rs,hr,hrI,hrL⟩:=hR2 j hjlt
      simp (config:={maxSteps:=1000000}) only [c2,hr,hRl,indexA,Int.toNat_natCast,bne_self_eq_false,beq_self_eq_true,Bool.not_true,Bool.or_false,decide_true,decide_false,List.length_cons,List.length_nil,loadC_eq,k_exL_4,smallFS,k_exL_5,awake11S,k_exL_11,earnedS,k_exL_12,rearnedS,k_exL_13,sharesES,k_exL_14,rsharesES,k_exL_15,restS,k_exL_16,rrestS,k_exL_17,intsS,k_exL_18,shareS,k_exL_19,rshareS,newS,Nat.reduceBEq,plan0,go_sem,↓reduceIte,reduceCtorEq,Nat.reduceEqDiff,Nat.reduceLT,↓all_qV,Int.reduceToNat,Int.reduceLT,Int.reduceLE,Nat.reduceAdd,Nat.reduceLeDiff,Nat.reduceMul]
      refine ⟨⟨by omega,by omega⟩,by kernel_rfl,?_⟩
      intro n hn
      have hD:∀ i:Nat,i<2->∃ yy dd:Int,([.agg [.int .i64 year,.int .i64 day],.agg [.int .i64 f.law.first,.int .i64 (IntKind.i64.wrap (IntKind.i64.wrap (360 * f.law.first)+n))]]:List PV).getD i default=.agg [.int .i64 yy,.int .i64 dd]:=fun i hi=>by
        have:i=0\/i=1:=by omega
        rcases this with rfl | rfl
        · exact ⟨year,day,rfl⟩
        · exact ⟨_,_,rfl⟩
      have hDl:([.agg [.int .i64 year,.int .i64 day],.agg [.int .i64 f.law.first,.int .i64 (IntKind.i64.wrap (IntKind.i64.wrap (360 * f.law.first)+n))]]:List PV).length=2:=rfl
      generalize ([.agg [.int .i64 year,.int .i64 day],.agg [.int .i64 f.law.first,.int .i64 (IntKind.i64.wrap (IntKind.i64.wrap (360 * f.law.first)+n))]]:List PV)=D at hD hDl ⊢
      refine AWp.loop (T:=plan0) (α:=Nat) (fun i=>([(3,.pv (.str code)),(4,.pv (.int .i64 year)),(5,.pv (.int .i64 day)),(7,.ptr 7 0),(8,.ptr 8 0),(13,.ptr 61 0),(14,.ptr 14 0),(72,.pv (.sl A)),(73,.pv (.int .i64 3)),(74,.pv (.int .i64 k)),(16,.ptr 16 0),(82,.pv (.sl R)),(83,.pv (.int .i64 2)),(84,.pv (.int .i64 j)),(18,.pv (.sl rs)),(102,.pv (.sl D)),(103,.pv (.int .i64 2)),(104,.pv (.int .i64 i))],[(7,.cells [.pv (.int .i64 fi),.pv (.int .i64 ye),.pv (.sl tr),.pv (.sl la),.pv (.sl lb),.pv (.sl lc),.pv (.sl ld),.pv (.sl le),.pv (.sl lf),.pv (.sl lg),.pv (.sl lt),.pv (.sl lr),.pv (.sl lk)]),(8,.cells [.pv (.str xs),.pv (.str xc),.pv (.int .i64 xp)]),(14,.cells [.pv (.int .i64 f.law.first),.pv (.int .i64 f.law.years),.pv (.sl f.law.tree),.pv (.sl f.law.a),.pv (.sl f.law.b),.pv (.sl f.law.c),.pv (.sl f.law.d),.pv (.sl f.law.e),.pv (.sl f.law.f),.pv (.sl f.law.g),.pv (.sl f.tr),.pv (.sl f.re),.pv (.sl f.ca)]),(16,.cells [.pv (.int .i64 L.first),.pv (.int .i64 L.years),.pv (.sl L.tree),.pv (.sl L.a),.pv (.sl L.b),.pv (.sl L.c),.pv (.sl L.d),.pv (.sl L.e),.pv (.sl L.f),.pv (.sl L.g)]),(61,.obj Tp)])) (fun i=>i<=2) (fun i=>2-i) ⟨0,Nat.zero_le _,⟨by simp [fitR,look],by simp [fitH,hget],rfl,rfl,rfl⟩⟩ ?_
      intro i hi
      have hi1:IntKind.i64.wrap ((i:Int)+1)=((i+1:Nat):Int):=by rw [i64_in _ (by omega)];omega
      by_cases hilt:i<2
      · have c3:decide ((i:Int)<2)=true:=by simp;omega
        obtain ⟨yy,dd,hyd⟩:=hD i hilt
        simp (config:={maxSteps:=1000000}) only [c3,hyd,hDl,indexA,Int.toNat_natCast,bne_self_eq_false,beq_self_eq_true,Bool.not_true,Bool.or_false,decide_true,decide_false,List.length_cons,List.length_nil,loadC_eq,k_exL_4,smallFS,k_exL_5,awake11S,k_exL_11,earnedS,k_exL_12,rearnedS,k_exL_13,sharesES,k_exL_14,rsharesES,k_exL_15,restS,k_exL_16,rrestS,k_exL_17,intsS,k_exL_18,shareS,k_exL_19,rshareS,newS,Nat.reduceBEq,plan0,go_sem,↓reduceIte,reduceCtorEq,Nat.reduceEqDiff,Nat.reduceLT,↓all_qV,Int.reduceToNat,Int.reduceLT,Int.reduceLE,Nat.reduceAdd,Nat.reduceLeDiff,Nat.reduceMul]
        refine ⟨⟨by omega,by omega⟩,hM.tp,fun cl hcl9=>?_⟩
        have hE:∀ m:Nat,m<2->∃ s:List UInt8,([.str code,.str cl]:List PV).getD m default=.str s:=fun m hm=>by
          have:m=0\/m=1:=by omega
          rcases this with rfl | rfl
          · exact ⟨code,rfl⟩
          · exact ⟨cl,rfl⟩
        have hEl:([.str code,.str cl]:List PV).length=2:=rfl
        generalize ([.str code,.str cl]:List PV)=E at hE hEl ⊢
        have hfact:factP (.agg [.int .i64 L.first,.int .i64 L.years,.sl L.tree,.sl L.a,.sl L.b,.sl L.c,.sl L.d,.sl L.e,.sl L.f,.sl L.g]) rs:=⟨⟨L,rfl,hLS⟩,hrI,by omega⟩
        refine AWp.loop (T:=plan0) (α:=Nat) (fun m=>([(3,.pv (.str code)),(4,.pv (.int .i64 year)),(5,.pv (.int .i64 day)),(7,.ptr 7 0),(8,.ptr 8 0),(13,.ptr 61 0),(14,.ptr 14 0),(72,.pv (.sl A)),(73,.pv (.int .i64 3)),(74,.pv (.int .i64 k)),(16,.ptr 16 0),(82,.pv (.sl R)),(83,.pv (.int .i64 2)),(84,.pv (.int .i64 j)),(18,.pv (.sl rs)),(102,.pv (.sl D)),(103,.pv (.int .i64 2)),(104,.pv (.int .i64 i)),(20,.ptr 20 0),(114,.pv (.sl E)),(115,.pv (.int .i64 2)),(116,.pv (.int .i64 m))],[(7,.cells [.pv (.int .i64 fi),.pv (.int .i64 ye),.pv (.sl tr),.pv (.sl la),.pv (.sl lb),.pv (.sl lc),.pv (.sl ld),.pv (.sl le),.pv (.sl lf),.pv (.sl lg),.pv (.sl lt),.pv (.sl lr),.pv (.sl lk)]),(8,.cells [.pv (.str xs),.pv (.str xc),.pv (.int .i64 xp)]),(14,.cells [.pv (.int .i64 f.law.first),.pv (.int .i64 f.law.years),.pv (.sl f.law.tree),.pv (.sl f.law.a),.pv (.sl f.law.b),.pv (.sl f.law.c),.pv (.sl f.law.d),.pv (.sl f.law.e),.pv (.sl f.law.f),.pv (.sl f.law.g),.pv (.sl f.tr),.pv (.sl f.re),.pv (.sl f.ca)]),(16,.cells [.pv (.int .i64 L.first),.pv (.int .i64 L.years),.pv (.sl L.tree),.pv (.sl L.a),.pv (.sl L.b),.pv (.sl L.c),.pv (.sl L.d),.pv (.sl L.e),.pv (.sl L.f),.pv (.sl L.g)]),(20,.cells [.pv (.int .i64 yy),.pv (.int .i64 dd)]),(61,.obj Tp)])) (fun m=>m<=2) (fun m=>2-m) ⟨0,Nat.zero_le _,⟨by simp [fitR,look],by simp [fitH,hget],rfl,rfl,rfl⟩⟩ ?_
        intro m hm
        have hm1:IntKind.i64.wrap ((m:Int)+1)=((m+1:Nat):Int):=by rw [i64_in _ (by omega)];omega
        by_cases hmlt:m<2
        · have c4:decide ((m:Int)<2)=true:=by simp;omega
          obtain ⟨s,hs⟩:=hE m hmlt
          simp (config:={maxSteps:=2000000}) only [c4,hs,hEl,hm1,indexA,Int.toNat_natCast,bne_self_eq_false,beq_self_eq_true,Bool.not_true,Bool.or_false,decide_true,decide_false,List.length_cons,List.length_nil,loadC_eq,k_exL_4,smallFS,k_exL_5,awake11S,k_exL_11,earnedS,k_exL_12,rearnedS,k_exL_13,sharesES,k_exL_14,rsharesES,k_exL_15,restS,k_exL_16,rrestS,k_exL_17,intsS,k_exL_18,shareS,k_exL_19,rshareS,newS,Nat.reduceBEq,plan0,go_sem,↓reduceIte,reduceCtorEq,Nat.reduceEqDiff,Nat.reduceLT,↓all_qV,Int.reduceToNat,Int.reduceLT,Int.reduceLE,Nat.reduceAdd,Nat.reduceLeDiff,Nat.reduceMul]
          repeat' (with_reducible refine And.intro ?_ ?_)
          all_goals try first | exact hc10 | exact hfact | omega | trivial
          exact ⟨m+1,by omega,by omega,⟨by simp [fitR,look],by simp [fitH,hget],rfl,rfl,rfl⟩⟩
        · have c4:decide ((m:Int)<2)=false:=by simp;omega
          have hdw:∀ e,e∈L.d->e.cells.length=3:=fun e he=>by obtain ⟨s,c,p,rfl,_⟩:=hLS.d e he;rfl
          have hdl:=hLS.dl
          simp (config:={maxSteps:=2000000}) only [c4,ev_rowlit,bne_self_eq_false,beq_self_eq_true,Bool.not_true,Bool.or_false,decide_true,decide_false,List.length_cons,List.length_nil,loadC_eq,k_exL_4,smallFS,k_exL_5,awake11S,k_exL_11,earnedS,k_exL_12,rearnedS,k_exL_13,sharesES,k_exL_14,rsharesES,k_exL_15,restS,k_exL_16,rrestS,k_exL_17,intsS,k_exL_18,shareS,k_exL_19,rshareS,newS,Nat.reduceBEq,plan0,go_sem,↓reduceIte,reduceCtorEq,Nat.reduceEqDiff,Nat.reduceLT,↓all_qV,Int.reduceToNat,Int.reduceLT,Int.reduceLE,Nat.reduceAdd,Nat.reduceLeDiff,Nat.reduceMul]
          repeat' (with_reducible refine And.intro ?_ ?_)
          all_goals try first | exact hc10 | exact hfact | exact hc3 | exact ⟨_,rfl⟩ | exact sharesF_le hLS _ _ _ | exact hdw | omega | (simp only [maxLen];omega) | trivial
          obtain ⟨es,hes⟩:∃ es,PV.agg [.str xs,.str xc,.int .i64 xp]::L.d=es:=⟨_,rfl⟩
          have hesl:es.length=1+L.d.length:=by rw [<- hes,List.length_cons];omega
          have hesE:∀ e,e∈es->∃ s c p,e=.agg [.str s,.str c,.int .i64 p]/\s.length<=1000000000000:=fun e he=>by
            rw [<- hes] at he
            rcases List.mem_cons.1 he with rfl | he
            · exact ⟨xs,xc,xp,rfl,by omega⟩
            · obtain ⟨s,c,p,rfl,hs,_⟩:=hLS.d e he
              exact ⟨s,c,p,rfl,hs⟩
          refine AWp.loop (T:=plan0) (α:=Nat) (fun q=>([(3,.pv (.str code)),(4,.pv (.int .i64 year)),(5,.pv (.int .i64 day)),(7,.ptr 7 0),(8,.ptr 8 0),(13,.ptr 61 0),(14,.ptr 14 0),(72,.pv (.sl A)),(73,.pv (.int .i64 3)),(74,.pv (.int .i64 k)),(16,.ptr 16 0),(82,.pv (.sl R)),(83,.pv (.int .i64 2)),(84,.pv (.int .i64 j)),(18,.pv (.sl rs)),(102,.pv (.sl D)),(103,.pv (.int .i64 2)),(104,.pv (.int .i64 i)),(20,.ptr 20 0),(214,.rs 211 es.length),(215,.pv (.int .i64 es.length)),(216,.pv (.int .i64 q))],[(7,.cells [.pv (.int .i64 fi),.pv (.int .i64 ye),.pv (.sl tr),.pv (.sl la),.pv (.sl lb),.pv (.sl lc),.pv (.sl ld),.pv (.sl le),.pv (.sl lf),.pv (.sl lg),.pv (.sl lt),.pv (.sl lr),.pv (.sl lk)]),(8,.cells [.pv (.str xs),.pv (.str xc),.pv (.int .i64 xp)]),(14,.cells [.pv (.int .i64 f.law.first),.pv (.int .i64 f.law.years),.pv (.sl f.law.tree),.pv (.sl f.law.a),.pv (.sl f.law.b),.pv (.sl f.law.c),.pv (.sl f.law.d),.pv (.sl f.law.e),.pv (.sl f.law.f),.pv (.sl f.law.g),.pv (.sl f.tr),.pv (.sl f.re),.pv (.sl f.ca)]),(16,.cells [.pv (.int .i64 L.first),.pv (.int .i64 L.years),.pv (.sl L.tree),.pv (.sl L.a),.pv (.sl L.b),.pv (.sl L.c),.pv (.sl L.d),.pv (.sl L.e),.pv (.sl L.f),.pv (.sl L.g)]),(20,.cells [.pv (.int .i64 yy),.pv (.int .i64 dd)]),(61,.obj Tp),(211,.row 3 es)])) (fun q=>q<=es.length) (fun q=>es.length-q)
            ⟨0,Nat.zero_le _,⟨by rw [hesl];simp [fitR,look],by rw [<- hes];simp [fitH,hget],rfl,rfl,rfl⟩⟩ ?_
          intro q hq
          have hq1:IntKind.i64.wrap ((q:Int)+1)=((q+1:Nat):Int):=by rw [i64_in _ (by omega)];omega
          by_cases hqlt:q<es.length
          · have c5:decide ((q:Int)<(es.length:Int))=true:=by simp;omega
            obtain ⟨s,c,p,he,hs⟩:=hesE _ (getD_mem hqlt)
            have hE3:∃ s1 c1 p1,PV.agg [.str s,.str c,.int .i64 p]=earV s1 c1 p1/\s1.length<=1000000000000:=⟨s,c,p,rfl,hs⟩
            simp (config:={maxSteps:=2000000}) only [c5,he,hq1,bne_self_eq_false,beq_self_eq_true,Bool.not_true,Bool.or_false,decide_true,decide_false,List.length_cons,List.length_nil,loadC_eq,k_exL_4,smallFS,k_exL_5,awake11S,k_exL_11,earnedS,k_exL_12,rearnedS,k_exL_13,sharesES,k_exL_14,rsharesES,k_exL_15,restS,k_exL_16,rrestS,k_exL_17,intsS,k_exL_18,shareS,k_exL_19,rshareS,newS,Nat.reduceBEq,plan0,go_sem,↓reduceIte,reduceCtorEq,Nat.reduceEqDiff,Nat.reduceLT,↓all_qV,Int.reduceToNat,Int.reduceLT,Int.reduceLE,Nat.reduceAdd,Nat.reduceLeDiff,Nat.reduceMul]
            repeat' (with_reducible refine And.intro ?_ ?_)
            all_goals try first | exact hc3 | exact hE3 | exact hrI | omega | trivial
            exact ⟨q+1,by omega,by omega,⟨by simp [fitR,look],by simp [fitH,hget],rfl,rfl,rfl⟩⟩
          · have c5:decide ((q:Int)<(es.length:Int))=false:=by simp;omega
            simp (config:={maxSteps:=2000000}) only [c5,hi1,bne_self_eq_false,beq_self_eq_true,Bool.not_true,Bool.or_false,decide_true,decide_false,List.length_cons,List.length_nil,loadC_eq,k_exL_4,smallFS,k_exL_5,awake11S,k_exL_11,earnedS,k_exL_12,rearnedS,k_exL_13,sharesES,k_exL_14,rsharesES,k_exL_15,restS,k_exL_16,rrestS,k_exL_17,intsS,k_exL_18,shareS,k_exL_19,rshareS,newS,Nat.reduceBEq,plan0,go_sem,↓reduceIte,reduceCtorEq,Nat.reduceEqDiff,Nat.reduceLT,↓all_qV,Int.reduceToNat,Int.reduceLT,Int.reduceLE,Nat.reduceAdd,Nat.reduceLeDiff,Nat.reduceMul]
            exact ⟨i+1,by omega,by omega,⟨by simp [fitR,look],by simp [fitH,hget],rfl,rfl,rfl⟩⟩
      · have c3:decide ((i:Int)<2)=false:=by simp;omega
        simp (config:={maxSteps:=1000000}) only [c3,hj1,bne_self_eq_false,beq_self_eq_true,Bool.not_true,Bool.or_false,decide_true,decide_false,List.length_cons,List.length_nil,loadC_eq,k_exL_4,smallFS,k_exL_5,awake11S,k_exL_11,earnedS,k_exL_12,rearnedS,k_exL_13,sharesES,k_exL_14,rsharesES,k_exL_15,restS,k_exL_16,rrestS,k_exL_17,intsS,k_exL_18,shareS,k_exL_19,rshareS,newS,Nat.reduceBEq,plan0,go_sem,↓reduceIte,reduceCtorEq,Nat.reduceEqDiff,Nat.reduceLT,↓all_qV,Int.reduceToNat,Int.reduceLT,Int.reduceLE,Nat.reduceAdd,Nat.reduceLeDiff,Nat.reduceMul]
        exact ⟨j+1,by omega,by omega,⟨by simp [fitR,look],by simp [fitH,hget],rfl,rfl,rfl⟩⟩
    · have c2:decide ((j:Int)<2)=false:=by simp;omega
      simp (config:={maxSteps:=1000000}) only [c2,hk1,bne_self_eq_false,beq_self_eq_true,Bool.not_true,Bool.or_false,decide_true,decide_false,List.length_cons,List.length_nil,loadC_eq,k_exL_4,smallFS,k_exL_5,awake11S,k_exL_11,earnedS,k_exL_12,rearnedS,k_exL_13,sharesES,k_exL_14,rsharesES,k_exL_15,restS,k_exL_16,rrestS,k_exL_17,intsS,k_exL_18,shareS,k_exL_19,rshareS,newS,Nat.reduceBEq,plan0,go_sem,↓reduceIte,reduceCtorEq,Nat.reduceEqDiff,Nat.reduceLT,↓all_qV,Int.reduceToNat,Int.reduceLT,Int.reduceLE,Nat.reduceAdd,Nat.reduceLeDiff,Nat.reduceMul]
      exact ⟨k+1,by omega,by omega,⟨by simp [fitR,look],by simp [fitH,hget],rfl,rfl,rfl⟩⟩
  · have c1:decide ((k:Int)<3)=false:=by simp;omega
    simp (config:={maxSteps:=1000000}) only [c1,bne_self_eq_false,beq_self_eq_true,Bool.not_true,Bool.or_false,decide_true,decide_false,List.length_cons,List.length_nil,loadC_eq,k_exL_4,smallFS,k_exL_5,awake11S,k_exL_11,earnedS,k_exL_12,rearnedS,k_exL_13,sharesES,k_exL_14,rsharesES,k_exL_15,restS,k_exL_16,rrestS,k_exL_17,intsS,k_exL_18,shareS,k_exL_19,rshareS,newS,Nat.reduceBEq,plan0,go_sem,↓reduceIte,reduceCtorEq,Nat.reduceEqDiff,Nat.reduceLT,↓all_qV,Int.reduceToNat,Int.reduceLT,Int.reduceLE,Nat.reduceAdd,Nat.reduceLeDiff,Nat.reduceMul]
end Go.AM
namespace Go.AM
open Go Go.Proofs
abbrev shI:Sh:=.int .i64
theorem list_of {e:Sh} {Pr:PV->Prop} (hp:∀ ds,HasZ e ds->Pr (boxSh e ds)) {cs:List PV} (h:HasZ (.sl e) cs):∃ es,cs=[.sl es]/\(∀ x,x∈es->Pr x)/\es.length<=9223372036854775807:=by
  obtain ⟨es,rfl,hl,hall⟩:=h.sl_inv
  refine ⟨es,rfl,fun x hx=>?_,hl⟩
  obtain ⟨ds,rfl,hd⟩:=hall x hx
  exact hp ds hd
abbrev shHead:Sh:=.st [.str,.str]
theorem head_of {ds:List PV} (h:HasZ shHead ds):∃ c n,boxSh shHead ds=hV c n:=by
  obtain ⟨_,_,rfl,h1,h⟩:=h.cons_inv
  obtain ⟨_,_,rfl,h2,h⟩:=h.cons_inv
  obtain rfl:=h.nil_inv
  obtain ⟨v1,rfl,w1⟩:=h1.str_inv
  obtain ⟨v2,rfl,w2⟩:=h2.str_inv
  exact ⟨v1,v2,rfl⟩
abbrev shLine:Sh:=.st [.str,shI,shI]
theorem line_of {ds:List PV} (h:HasZ shLine ds):∃ s y m,boxSh shLine ds=.agg [.str s,.int .i64 y,.int .i64 m]:=by
  obtain ⟨_,_,rfl,h1,h⟩:=h.cons_inv
  obtain ⟨_,_,rfl,h2,h⟩:=h.cons_inv
  obtain ⟨_,_,rfl,h3,h⟩:=h.cons_inv
  obtain rfl:=h.nil_inv
  obtain ⟨v1,rfl,w1⟩:=h1.str_inv
  obtain ⟨v2,rfl,_⟩:=h2.i64_inv
  obtain ⟨v3,rfl,_⟩:=h3.i64_inv
  exact ⟨v1,v2,v3,rfl⟩
abbrev shEar:Sh:=.st [.str,.str,shI]
theorem ear_of {ds:List PV} (h:HasZ shEar ds):∃ s c p,boxSh shEar ds=.agg [.str s,.str c,.int .i64 p]/\s.length<=1000000000000000/\c.length<=1000000000000000:=by
  obtain ⟨_,_,rfl,h1,h⟩:=h.cons_inv
  obtain ⟨_,_,rfl,h2,h⟩:=h.cons_inv
  obtain ⟨_,_,rfl,h3,h⟩:=h.cons_inv
  obtain rfl:=h.nil_inv
  obtain ⟨v1,rfl,w1⟩:=h1.str_inv
  obtain ⟨v2,rfl,w2⟩:=h2.str_inv
  obtain ⟨v3,rfl,_⟩:=h3.i64_inv
  exact ⟨v1,v2,v3,rfl,by omega,by omega⟩
abbrev shCond:Sh:=.st [.str,shI,shI,shI,shI,.str,shI]
theorem cond_of {ds:List PV} (h:HasZ shCond ds):∃ c y am k d s l,boxSh shCond ds=.agg [.str c,.int .i64 y,.int .i64 am,.int .i64 k,.int .i64 d,.str s,.int .i64 l]/\c.length<=1000000000000000/\s.length<=1000000000000000:=by
  obtain ⟨_,_,rfl,h1,h⟩:=h.cons_inv
  obtain ⟨_,_,rfl,h2,h⟩:=h.cons_inv
  obtain ⟨_,_,rfl,h3,h⟩:=h.cons_inv
  obtain ⟨_,_,rfl,h4,h⟩:=h.cons_inv
  obtain ⟨_,_,rfl,h5,h⟩:=h.cons_inv
  obtain ⟨_,_,rfl,h6,h⟩:=h.cons_inv
  obtain ⟨_,_,rfl,h7,h⟩:=h.cons_inv
  obtain rfl:=h.nil_inv
  obtain ⟨v1,rfl,w1⟩:=h1.str_inv
  obtain ⟨v2,rfl,_⟩:=h2.i64_inv
  obtain ⟨v3,rfl,_⟩:=h3.i64_inv
  obtain ⟨v4,rfl,_⟩:=h4.i64_inv
  obtain ⟨v5,rfl,_⟩:=h5.i64_inv
  obtain ⟨v6,rfl,w6⟩:=h6.str_inv
  obtain ⟨v7,rfl,_⟩:=h7.i64_inv
  exact ⟨v1,v2,v3,v4,v5,v6,v7,rfl,by omega,by omega⟩
abbrev shRule:Sh:=.st [shI,.str,.str,shI]
theorem rule_of {ds:List PV} (h:HasZ shRule ds):∃ n s c p,boxSh shRule ds=.agg [.int .i64 n,.str s,.str c,.int .i64 p]/\s.length<=1000000000000000/\c.length<=1000000000000000:=by
  obtain ⟨_,_,rfl,h1,h⟩:=h.cons_inv
  obtain ⟨_,_,rfl,h2,h⟩:=h.cons_inv
  obtain ⟨_,_,rfl,h3,h⟩:=h.cons_inv
  obtain ⟨_,_,rfl,h4,h⟩:=h.cons_inv
  obtain rfl:=h.nil_inv
  obtain ⟨v1,rfl,_⟩:=h1.i64_inv
  obtain ⟨v2,rfl,w2⟩:=h2.str_inv
  obtain ⟨v3,rfl,w3⟩:=h3.str_inv
  obtain ⟨v4,rfl,_⟩:=h4.i64_inv
  exact ⟨v1,v2,v3,v4,rfl,by omega,by omega⟩
abbrev shChg:Sh:=.st [shI,.str,shI,shI]
theorem chg_of {ds:List PV} (h:HasZ shChg ds):∃ k c y' m,boxSh shChg ds=.agg [.int .i64 k,.str c,.int .i64 y',.int .i64 m]:=by
  obtain ⟨_,_,rfl,h1,h⟩:=h.cons_inv
  obtain ⟨_,_,rfl,h2,h⟩:=h.cons_inv
  obtain ⟨_,_,rfl,h3,h⟩:=h.cons_inv
  obtain ⟨_,_,rfl,h4,h⟩:=h.cons_inv
  obtain rfl:=h.nil_inv
  obtain ⟨v1,rfl,_⟩:=h1.i64_inv
  obtain ⟨v2,rfl,w2⟩:=h2.str_inv
  obtain ⟨v3,rfl,_⟩:=h3.i64_inv
  obtain ⟨v4,rfl,_⟩:=h4.i64_inv
  exact ⟨v1,v2,v3,v4,rfl⟩
abbrev shAmd:Sh:=.st [shI,shI,.sl shChg]
theorem amd_of {ds:List PV} (h:HasZ shAmd ds):∃ d n ch,boxSh shAmd ds=.agg [.int .i64 d,.int .i64 n,.sl ch]/\(∀ y,y∈ch->∃ k c y' m,y=.agg [.int .i64 k,.str c,.int .i64 y',.int .i64 m])/\ch.length<=9223372036854775807:=by
  obtain ⟨_,_,rfl,h1,h⟩:=h.cons_inv
  obtain ⟨_,_,rfl,h2,h⟩:=h.cons_inv
  obtain ⟨_,_,rfl,h3,h⟩:=h.cons_inv
  obtain rfl:=h.nil_inv
  obtain ⟨v1,rfl,_⟩:=h1.i64_inv
  obtain ⟨v2,rfl,_⟩:=h2.i64_inv
  obtain ⟨v3,rfl,w3⟩:=list_of (Pr:=fun x=>∃ k c y' m,x=.agg [.int .i64 k,.str c,.int .i64 y',.int .i64 m]) (fun ds hd=>chg_of hd) h3
  exact ⟨v1,v2,v3,rfl,w3⟩
abbrev shTr:Sh:=.st [shI,shI,shI,shI,.str,.str,shI]
theorem tr_of {ds:List PV} (h:HasZ shTr ds):∃ n d y r s c a,boxSh shTr ds=.agg [.int .i64 n,.int .i64 d,.int .i64 y,.int .i64 r,.str s,.str c,.int .i64 a]/\s.length<=1000000000000000/\c.length<=1000000000000000:=by
  obtain ⟨_,_,rfl,h1,h⟩:=h.cons_inv
  obtain ⟨_,_,rfl,h2,h⟩:=h.cons_inv
  obtain ⟨_,_,rfl,h3,h⟩:=h.cons_inv
  obtain ⟨_,_,rfl,h4,h⟩:=h.cons_inv
  obtain ⟨_,_,rfl,h5,h⟩:=h.cons_inv
  obtain ⟨_,_,rfl,h6,h⟩:=h.cons_inv
  obtain ⟨_,_,rfl,h7,h⟩:=h.cons_inv
  obtain rfl:=h.nil_inv
  obtain ⟨v1,rfl,_⟩:=h1.i64_inv
  obtain ⟨v2,rfl,_⟩:=h2.i64_inv
  obtain ⟨v3,rfl,_⟩:=h3.i64_inv
  obtain ⟨v4,rfl,_⟩:=h4.i64_inv
  obtain ⟨v5,rfl,w5⟩:=h5.str_inv
  obtain ⟨v6,rfl,w6⟩:=h6.str_inv
  obtain ⟨v7,rfl,_⟩:=h7.i64_inv
  exact ⟨v1,v2,v3,v4,v5,v6,v7,rfl,by omega,by omega⟩
abbrev shRe:Sh:=.st [shI,shI,.str,shI]
theorem re_of {ds:List PV} (h:HasZ shRe ds):∃ n d c a,boxSh shRe ds=.agg [.int .i64 n,.int .i64 d,.str c,.int .i64 a]:=by
  obtain ⟨_,_,rfl,h1,h⟩:=h.cons_inv
  obtain ⟨_,_,rfl,h2,h⟩:=h.cons_inv
  obtain ⟨_,_,rfl,h3,h⟩:=h.cons_inv
  obtain ⟨_,_,rfl,h4,h⟩:=h.cons_inv
  obtain rfl:=h.nil_inv
  obtain ⟨v1,rfl,_⟩:=h1.i64_inv
  obtain ⟨v2,rfl,_⟩:=h2.i64_inv
  obtain ⟨v3,rfl,w3⟩:=h3.str_inv
  obtain ⟨v4,rfl,_⟩:=h4.i64_inv
  exact ⟨v1,v2,v3,v4,rfl⟩
abbrev shCa:Sh:=.st [shI,shI,.str,shI,shI]
theorem ca_of {ds:List PV} (h:HasZ shCa ds):∃ n d c y a,boxSh shCa ds=.agg [.int .i64 n,.int .i64 d,.str c,.int .i64 y,.int .i64 a]:=by
  obtain ⟨_,_,rfl,h1,h⟩:=h.cons_inv
  obtain ⟨_,_,rfl,h2,h⟩:=h.cons_inv
  obtain ⟨_,_,rfl,h3,h⟩:=h.cons_inv
  obtain ⟨_,_,rfl,h4,h⟩:=h.cons_inv
  obtain ⟨_,_,rfl,h5,h⟩:=h.cons_inv
  obtain rfl:=h.nil_inv
  obtain ⟨v1,rfl,_⟩:=h1.i64_inv
  obtain ⟨v2,rfl,_⟩:=h2.i64_inv
  obtain ⟨v3,rfl,w3⟩:=h3.str_inv
  obtain ⟨v4,rfl,_⟩:=h4.i64_inv
  obtain ⟨v5,rfl,_⟩:=h5.i64_inv
  exact ⟨v1,v2,v3,v4,v5,rfl⟩
abbrev shLaw:Sh:=.st [shI,shI,.sl shHead,.sl shLine,.sl shLine,.sl shLine,.sl shEar,.sl shCond,.sl shRule,.sl shAmd]
theorem law_of {ds:List PV} (h:HasZ shLaw ds):∃ L:Law,ds=[.int .i64 L.first,.int .i64 L.years,.sl L.tree,.sl L.a,.sl L.b,.sl L.c,.sl L.d,.sl L.e,.sl L.f,.sl L.g]/\LawR L:=by
  obtain ⟨_,_,rfl,h1,h⟩:=h.cons_inv
  obtain ⟨_,_,rfl,h2,h⟩:=h.cons_inv
  obtain ⟨_,_,rfl,h3,h⟩:=h.cons_inv
  obtain ⟨_,_,rfl,h4,h⟩:=h.cons_inv
  obtain ⟨_,_,rfl,h5,h⟩:=h.cons_inv
  obtain ⟨_,_,rfl,h6,h⟩:=h.cons_inv
  obtain ⟨_,_,rfl,h7,h⟩:=h.cons_inv
  obtain ⟨_,_,rfl,h8,h⟩:=h.cons_inv
  obtain ⟨_,_,rfl,h9,h⟩:=h.cons_inv
  obtain ⟨_,_,rfl,h10,h⟩:=h.cons_inv
  obtain rfl:=h.nil_inv
  obtain ⟨v1,rfl,_⟩:=h1.i64_inv
  obtain ⟨v2,rfl,_⟩:=h2.i64_inv
  obtain ⟨v3,rfl,p3,q3⟩:=list_of (Pr:=fun x=>∃ c n,x=hV c n) (fun ds hd=>head_of hd) h3
  obtain ⟨v4,rfl,p4,q4⟩:=list_of (Pr:=fun x=>∃ s y m,x=.agg [.str s,.int .i64 y,.int .i64 m]) (fun ds hd=>line_of hd) h4
  obtain ⟨v5,rfl,p5,q5⟩:=list_of (Pr:=fun x=>∃ s y m,x=.agg [.str s,.int .i64 y,.int .i64 m]) (fun ds hd=>line_of hd) h5
  obtain ⟨v6,rfl,p6,q6⟩:=list_of (Pr:=fun x=>∃ s y m,x=.agg [.str s,.int .i64 y,.int .i64 m]) (fun ds hd=>line_of hd) h6
  obtain ⟨v7,rfl,p7,q7⟩:=list_of (Pr:=fun x=>∃ s c p,x=.agg [.str s,.str c,.int .i64 p]/\s.length<=1000000000000000/\c.length<=1000000000000000) (fun ds hd=>ear_of hd) h7
  obtain ⟨v8,rfl,p8,q8⟩:=list_of (Pr:=fun x=>∃ c y am k d s l,x=.agg [.str c,.int .i64 y,.int .i64 am,.int .i64 k,.int .i64 d,.str s,.int .i64 l]/\c.length<=1000000000000000/\s.length<=1000000000000000) (fun ds hd=>cond_of hd) h8
  obtain ⟨v9,rfl,p9,q9⟩:=list_of (Pr:=fun x=>∃ n s c p,x=.agg [.int .i64 n,.str s,.str c,.int .i64 p]/\s.length<=1000000000000000/\c.length<=1000000000000000) (fun ds hd=>rule_of hd) h9
  obtain ⟨v10,rfl,p10,q10⟩:=list_of (Pr:=fun x=>∃ d n ch,x=.agg [.int .i64 d,.int .i64 n,.sl ch]/\(∀ y,y∈ch->∃ k c y' m,y=.agg [.int .i64 k,.str c,.int .i64 y',.int .i64 m])/\ch.length<=9223372036854775807) (fun ds hd=>amd_of hd) h10
  exact ⟨⟨v1,v2,v3,v4,v5,v6,v7,v8,v9,v10⟩,rfl,⟨p3,q3,p4,q4,p5,q5,p6,q6,p7,q7,p8,q8,p9,q9,p10,q10⟩⟩
abbrev shFacts:Sh:=.st [shLaw,.sl shTr,.sl shRe,.sl shCa]
theorem facts_of {ds:List PV} (h:HasZ shFacts ds):∃ F:Facts,boxSh shFacts ds=F.v/\FactsR F:=by
  obtain ⟨_,_,rfl,h1,h⟩:=h.cons_inv
  obtain ⟨_,_,rfl,h2,h⟩:=h.cons_inv
  obtain ⟨_,_,rfl,h3,h⟩:=h.cons_inv
  obtain ⟨_,_,rfl,h4,h⟩:=h.cons_inv
  obtain rfl:=h.nil_inv
  obtain ⟨L,rfl,hL⟩:=law_of h1
  obtain ⟨v2,rfl,p2⟩:=list_of (Pr:=fun x=>∃ n d y r s c a,x=.agg [.int .i64 n,.int .i64 d,.int .i64 y,.int .i64 r,.str s,.str c,.int .i64 a]/\s.length<=1000000000000000/\c.length<=1000000000000000) (fun ds hd=>tr_of hd) h2
  obtain ⟨v3,rfl,p3⟩:=list_of (Pr:=fun x=>∃ n d c a,x=.agg [.int .i64 n,.int .i64 d,.str c,.int .i64 a]) (fun ds hd=>re_of hd) h3
  obtain ⟨v4,rfl,p4⟩:=list_of (Pr:=fun x=>∃ n d c y a,x=.agg [.int .i64 n,.int .i64 d,.str c,.int .i64 y,.int .i64 a]) (fun ds hd=>ca_of hd) h4
  exact ⟨⟨L,v2,v3,v4⟩,rfl,⟨hL,p2,p3,p4⟩⟩
end Go.AM
