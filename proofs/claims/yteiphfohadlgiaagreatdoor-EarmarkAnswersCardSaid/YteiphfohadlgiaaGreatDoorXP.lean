/-
  A part of a proof.
-/
import Derived.Test.YteiphfohadlgiaaGreatDoorX6o
set_option linter.unusedSimpArgs false
set_option linter.unusedVariables false
namespace Go.AM
open Go Go.Proofs Go.IntWalk
set_option maxRecDepth 100000
set_option maxHeartbeats 1000000
noncomputable def Θ7 (g:FuncId):Option QSpec:=putΘ Θ6 22 (qV Tp preNo Law.v okLaw) g
theorem hΘ7:QTab GG Θ7:=hΘ6.put w_ruledS
theorem preRe_eq {l:PV} {n:Int}:preRe [l,.int .i64 n]=(lawP l/\0<=n/\n<=10):=propext ⟨fun ⟨l',k',e,h⟩=>by simp only [List.cons.injEq,PV.int.injEq,and_true,true_and] at e;obtain ⟨rfl,rfl⟩:=e;exact h,fun h=>⟨l,n,rfl,h⟩⟩
theorem preNo_eq:preNo []=True:=propext ⟨fun _=>trivial,fun _=>rfl⟩
structure Facts where
  law:Law
  tr:List PV
  re:List PV
  ca:List PV
def Facts.v (f:Facts):PV:=.agg [.int .i64 f.law.first,.int .i64 f.law.years,.sl f.law.tree,.sl f.law.a,.sl f.law.b,.sl f.law.c,.sl f.law.d,.sl f.law.e,.sl f.law.f,.sl f.law.g,.sl f.tr,.sl f.re,.sl f.ca]
def Facts.ok (f:Facts):Prop:=f.law.ok/\f.re.length<=20/\(∀ x,x∈f.re->recP f.law.v x)/\∃ day,RecI day f.re
def okFacts (_:List PV) (f:Facts):Prop:=f.ok
noncomputable def factsS:QSpec:=qV Tp preNo Facts.v okFacts
theorem w_factsS:QSound GG 7 factsS:=by
  unfold factsS
  refine QSound.of_wpcV (C:=cxQ Tryz.prog Φ14 Θ7 noΨ [] [9000] 17) 9000 Tryz.func7 rfl rfl rfl (Fit.all (G:=GG) hΦ14 hΘ7 hnoΨ mixed) rfl (fun args h=>?_) (fun args h=>?_)
  · exact ⟨⟨law00,[],[],[]⟩,law00_ok,Nat.zero_le _,by simp,0,RecI.nil⟩
  · unfold preNo at h
    subst h
    refine ⟨by simp [cxQ],?_⟩
    refine wpc_sound (T:=plan0) _ _ _ ?_
    simp (config:={maxSteps:=1000000}) only [Θ7,Θ6,Θ5,Θ4,Θ3,Θ2,Θ1,preN_eq,preP_eq,okP_eq,preR_eq,allI_nil,allI_cons,memI_nil,memI_cons,or_false,false_or,okN,okR,arg1,arg2,ne_eq,not_false_eq_true,intV,Nat.reduceBEq,preRe_eq,preNo_eq,List.take_succ_cons,List.take_nil,slV,loadC_eq,Law.v,lawV,plan0,Tryz.f7,go_sem,↓reduceIte,reduceCtorEq,Nat.reduceEqDiff,Nat.reduceLT,↓all_qV,Int.reduceToNat,Int.reduceLT,Int.reduceLE,Nat.reduceAdd,Nat.reduceLeDiff,Nat.reduceMul]
    have hc10:∀ {H:AHeap} {x:Law} (c:AV),c∈[AV.pv (PV.int IntKind.i64 x.first),AV.pv (PV.int IntKind.i64 x.years),AV.pv (PV.sl x.tree),AV.pv (PV.sl x.a),AV.pv (PV.sl x.b),AV.pv (PV.sl x.c),AV.pv (PV.sl x.d),AV.pv (PV.sl x.e),AV.pv (PV.sl x.f),AV.pv (PV.sl x.g)]->c.one=true/\frzOk H 3 c:=fun c hc=>by simp only [List.mem_cons,List.not_mem_nil,or_false] at hc;rcases hc with rfl | rfl | rfl | rfl | rfl | rfl | rfl | rfl | rfl | rfl <;> exact ⟨rfl,by simp [frzOk]⟩
    refine fun x hx=>⟨by kernel_rfl,⟨hc10,Law.ok.P hx⟩,fun x1 _=>⟨⟨hc10,Law.ok.P hx⟩,fun x2 h2=>⟨⟨hc10,Law.ok.P hx⟩,fun x3 _=>⟨fun c hc=>?_,⟨x,x1,x2,x3⟩,rfl,hx,h2⟩⟩⟩⟩
    simp only [List.mem_cons,List.not_mem_nil,or_false] at hc
    rcases hc with rfl | rfl | rfl | rfl | rfl | rfl | rfl | rfl | rfl | rfl | rfl | rfl | rfl <;> exact ⟨rfl,by simp [frzOk]⟩
noncomputable def Θ8 (g:FuncId):Option QSpec:=putΘ Θ7 7 (qV Tp preNo Facts.v okFacts) g
theorem hΘ8:QTab GG Θ8:=hΘ7.put w_factsS
noncomputable def Ξ0 (g:FuncId):PSpec:=putΦ Φ36 5 awake11S g
theorem hΞ0:TabSound GG Ξ0:=hΦ36.put w_awake11S
theorem preT_eq {es:List PV}:preT [.sl es]=(es.length<=9223372036854775807/\∀ e,e∈es->isI e):=propext ⟨fun ⟨es',e,h⟩=>by simp only [List.cons.injEq,PV.sl.injEq,and_true] at e;subst e;exact h,fun h=>⟨es,rfl,h⟩⟩
end Go.AM
