/-
  A part of a proof.
-/
import Derived.Test.YtkajgkbhkkgdbaaGreatDoorZZ
import Derived.IntWalk
set_option linter.unusedSimpArgs false
set_option linter.unusedVariables false
namespace Go.AM
open Go Go.Proofs Go.IntWalk
set_option maxRecDepth 100000
def plan0:Plan:={ keep:=fun _=>none,cut:=fun _=>false,stop:=fun _=>false }
noncomputable def GG:Glob:=globE Tryz.prog 1 2 0 3 4 (by decide) (by kernel_rfl)
theorem mixed:GG.P.follows .mixedOrders=true:=by kernel_rfl
noncomputable def Φ0:FuncId->PSpec:=fun _=>noSpec
theorem hΦ0:TabSound GG Φ0:=TabSound.nil
theorem hnoΘ:QTab GG noΘ:=QTab.nil
theorem hnoΨ:ETab GG noΨ:=ETab.nil
def isI (p:PV):Prop:=∃ n,p=.int .i64 n/\ -9223372036854775808<=n/\n<=9223372036854775807
def Tp (cs:List PV):Prop:=∃ (ints:List PV) (k:Nat),cs=[.sl ints,.int .i64 k]/\k<=ints.length/\ints.length<=500/\∀ e,e∈ints->isI e
def preN (args:List PV):Prop:=∃ k:Int,args=[.int .i64 k]/\1<=k/\k<=1000000000000000000
theorem preN_eq {k:Int}:preN [.int .i64 k]=(1<=k/\k<=1000000000000000000):=propext ⟨fun ⟨k',e,h⟩=>by simp only [List.cons.injEq,PV.int.injEq,and_true,true_and] at e;subst e;exact h,fun h=>⟨k,rfl,h⟩⟩
def intV (n:Int):PV:=.int .i64 n
def arg1:List PV->Int
  | .int _ k::_=>k
  | _=>0
def arg2:List PV->Int
  | _::.int _ k::_=>k
  | _=>0
def okN (args:List PV) (n:Int):Prop:=0<=n/\n<arg1 args
noncomputable def nS:QSpec:=qV Tp preN intV okN
theorem w_nS:QSound GG 16 nS:=by
  unfold nS
  refine QSound.of_wpcV (C:=cxQ Tryz.prog Φ0 noΘ noΨ [] [9000] 41) 9000 Tryz.func16 rfl rfl rfl (Fit.all (G:=GG) hΦ0 hnoΘ hnoΨ mixed) rfl (fun args h=>?_) (fun args h=>?_)
  · obtain ⟨k,rfl,h1,h2⟩:=h
    exact ⟨0,Int.le_refl _,h1⟩
  · obtain ⟨k,rfl,h1,h2⟩:=h
    refine ⟨by simp [cxQ],?_⟩
    refine AWp.look_in (κ:=9000) (J:=Tp) rfl (fun cs hJ hone=>?_)
    obtain ⟨ints,at',rfl,hk,hl,hi⟩:=hJ
    refine wpc_sound (T:=plan0) _ _ _ ?_
    by_cases hlt:at'<ints.length
    · obtain ⟨m,hm,hm1,hm2⟩:∃ m,ints.getD at' default=.int .i64 m/\ -9223372036854775808<=m/\m<=9223372036854775807:=by
        have h3:=hi (ints[at']'hlt) (List.getElem_mem _)
        obtain ⟨m,e,b1,b2⟩:=h3
        exact ⟨m,by simp [List.getD_eq_getElem?_getD,hlt,e],b1,b2⟩
      have c1:decide ((ints.length:Int)<=(at':Int))=false:=by simp;omega
      simp only [c1,hm,List.map_cons,List.map_nil,Tryz.f16,plan0,go_sem,↓reduceIte,reduceCtorEq,Nat.reduceEqDiff,Nat.reduceLT,↓all_qV,Int.reduceToNat,Int.reduceLT,Int.reduceLE,Nat.reduceAdd,Nat.reduceLeDiff,Nat.reduceMul]
      have hw:IntKind.i64.wrap ((at':Int)+1)=((at'+1:Nat):Int):=by rw [i64_in _ (by omega)];omega
      have tp:Tp [.sl ints,.int .i64 ((at'+1:Nat):Int)]:=⟨ints,at'+1,rfl,by omega,hl,hi⟩
      have b1:m.tmod k<k:=Int.tmod_lt_of_pos m (by omega)
      have b2: -k<m.tmod k:=Int.lt_tmod_of_pos m (by omega)
      rw [hw]
      refine ⟨by kernel_rfl,by kernel_rfl,by omega,by omega,fun h=>⟨⟨_,rfl,tp,rfl⟩,?_⟩,fun h=>⟨⟨_,rfl,tp,rfl⟩,?_⟩⟩
      · simp only [decide_eq_true_eq] at h
        exact ⟨_,rfl,by rw [i64_in _ (by omega)];omega,by rw [i64_in _ (by omega)];simp only [arg1];omega⟩
      · simp only [decide_eq_false_iff_not] at h
        exact ⟨_,rfl,by omega,b1⟩
    · have c1:decide ((ints.length:Int)<=(at':Int))=true:=by simp;omega
      simp only [c1,List.map_cons,List.map_nil,Tryz.f16,plan0,go_sem,↓reduceIte,reduceCtorEq,Nat.reduceEqDiff,Nat.reduceLT,↓all_qV,Int.reduceToNat,Int.reduceLT,Int.reduceLE,Nat.reduceAdd,Nat.reduceLeDiff,Nat.reduceMul]
      refine ⟨by kernel_rfl,⟨_,rfl,⟨ints,at',rfl,hk,hl,hi⟩,rfl⟩,⟨0,rfl,Int.le_refl _,h1⟩⟩
noncomputable def Θ1 (g:FuncId):Option QSpec:=putΘ noΘ 16 (qV Tp preN intV okN) g
theorem hΘ1:QTab GG Θ1:=hnoΘ.put w_nS
def preR (args:List PV):Prop:=∃ a b:Int,args=[.int .i64 a,.int .i64 b]/\ -1000000000000000<=a/\a<=b/\b<=1000000000000000
def okR (args:List PV) (n:Int):Prop:=arg1 args<=n/\n<=arg2 args
noncomputable def rangeS:QSpec:=qV Tp preR intV okR
theorem w_rangeS:QSound GG 37 rangeS:=by
  unfold rangeS
  refine QSound.of_wpcV (C:=cxQ Tryz.prog Φ0 Θ1 noΨ [] [9000] 15) 9000 Tryz.func37 rfl rfl rfl (Fit.all (G:=GG) hΦ0 hΘ1 hnoΨ mixed) rfl (fun args h=>?_) (fun args h=>?_)
  · obtain ⟨a,b,rfl,h1,h2,h3⟩:=h
    exact ⟨a,Int.le_refl _,h2⟩
  · obtain ⟨a,b,rfl,h1,h2,h3⟩:=h
    refine ⟨by simp [cxQ],?_⟩
    refine wpc_sound (T:=plan0) _ _ _ ?_
    have hw:IntKind.i64.wrap (IntKind.i64.wrap (b-a)+1)=b-a+1:=by rw [i64_in (b-a) (by omega),i64_in _ (by omega)]
    simp only [hw,Θ1,nS,preN_eq,okN,arg1,intV,Tryz.f37,plan0,go_sem,↓reduceIte,reduceCtorEq,Nat.reduceEqDiff,Nat.reduceLT,↓all_qV,Int.reduceToNat,Int.reduceLT,Int.reduceLE,Nat.reduceAdd,Nat.reduceLeDiff,Nat.reduceMul]
    refine ⟨⟨by omega,by omega⟩,fun n hn=>⟨_,rfl,?_⟩⟩
    rw [i64_in _ (by omega)]
    exact ⟨by simp only [arg1];omega,by simp only [arg2];omega⟩
noncomputable def Θ2 (g:FuncId):Option QSpec:=putΘ Θ1 37 (qV Tp preR intV okR) g
theorem hΘ2:QTab GG Θ2:=hΘ1.put w_rangeS
def preP (args:List PV):Prop:=∃ es,args=[.sl es]/\es≠[]/\es.length<=1000000/\∀ e,e∈es->isI e
def okP (args:List PV) (n:Int):Prop:=∃ es,args=[.sl es]/\intV n∈es
noncomputable def pickS:QSpec:=qV Tp preP intV okP
theorem w_pickS:QSound GG 29 pickS:=by
  unfold pickS
  refine QSound.of_wpcV (C:=cxQ Tryz.prog Φ0 Θ2 noΨ [] [9000] 12) 9000 Tryz.func29 rfl rfl rfl (Fit.all (G:=GG) hΦ0 hΘ2 hnoΨ mixed) rfl (fun args h=>?_) (fun args h=>?_)
  · obtain ⟨es,rfl,h1,h2,h3⟩:=h
    cases es with
    | nil=>exact absurd rfl h1
    | cons e r=>
      obtain ⟨n,rfl,_⟩:=h3 e List.mem_cons_self
      exact ⟨n,_,rfl,List.mem_cons_self⟩
  · obtain ⟨es,rfl,h1,h2,h3⟩:=h
    refine ⟨by simp [cxQ],?_⟩
    refine wpc_sound (T:=plan0) _ _ _ ?_
    have hpos:=List.length_pos_iff.2 h1
    simp only [Θ2,Θ1,nS,preN_eq,okN,arg1,Tryz.f29,plan0,go_sem,↓reduceIte,reduceCtorEq,Nat.reduceEqDiff,Nat.reduceLT,↓all_qVs,Int.reduceToNat,Int.reduceLT,Int.reduceLE,Nat.reduceAdd,Nat.reduceLeDiff,Nat.reduceMul]
    refine ⟨⟨by omega,by omega⟩,fun n hn=>?_⟩
    obtain ⟨j,rfl⟩:=Int.eq_ofNat_of_zero_le hn.1
    have hj:j<es.length:=by omega
    obtain ⟨m,hm,b1,b2⟩:∃ m,es.getD j default=.int .i64 m/\.int .i64 m∈es/\True:=by
      have h4:=h3 (es[j]'hj) (List.getElem_mem _)
      obtain ⟨m,e,_⟩:=h4
      exact ⟨m,by simp [List.getD_eq_getElem?_getD,hj,e],by rw [<- e];exact List.getElem_mem _,trivial⟩
    simp only [Later_eq,intV,hm,plan0,go_sem,↓reduceIte,reduceCtorEq,Nat.reduceEqDiff,Nat.reduceLT,↓all_qV,Int.reduceToNat,Int.reduceLT,Int.reduceLE,Nat.reduceAdd,Nat.reduceLeDiff,Nat.reduceMul]
    exact ⟨hn,m,rfl,es,rfl,b1⟩
noncomputable def Θ3 (g:FuncId):Option QSpec:=putΘ Θ2 29 (qV Tp preP intV okP) g
theorem hΘ3:QTab GG Θ3:=hΘ2.put w_pickS
def preT (args:List PV):Prop:=∃ es,args=[.sl es]/\es.length<=9223372036854775807/\∀ e,e∈es->isI e
noncomputable def newS:ESpec:=psiNew Tp preT
theorem w_newS:ESound GG 7 newS:=by
  unfold newS
  refine ESound.of_new (C:=cxQ Tryz.prog Φ0 noΘ noΨ [] [] 10) (T:=plan0) Tryz.func7 rfl rfl rfl rfl (Fit.all (G:=GG) hΦ0 hnoΘ hnoΨ mixed) (fun args h=>?_)
  obtain ⟨es,rfl,h1,h2⟩:=h
  refine ⟨by simp [cxQ],?_⟩
  simp only [Tryz.f7,plan0,go_sem,↓reduceIte,reduceCtorEq,Nat.reduceEqDiff,Nat.reduceLT,↓all_qV,Int.reduceToNat,Int.reduceLT,Int.reduceLE,Nat.reduceAdd,Nat.reduceLeDiff,Nat.reduceMul]
  refine ⟨⟨by split <;> omega,by split <;> omega,fun p hp=>?_⟩,_,rfl,⟨_,0,rfl,Nat.zero_le _,?_,fun e he=>h2 e (List.mem_of_mem_take he)⟩,rfl⟩
  · obtain ⟨n,rfl,_⟩:=h2 p hp;rfl
  · rw [List.length_take]
    split <;> omega
noncomputable def Ψ1 (g:FuncId):Option ESpec:=putΨ noΨ 7 newS g
theorem hΨ1:ETab GG Ψ1:=hnoΨ.put w_newS psiNew_mono
end Go.AM
