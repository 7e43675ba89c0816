/-
  A part of a proof.
-/
import Derived.Test.YteiphfohadlgiaaGreatDoorP6
set_option linter.unusedSimpArgs false
set_option linter.unusedVariables false
namespace Go.AM
open Go Go.Proofs Go.IntWalk
set_option maxRecDepth 100000
def on_ll (p:List PV->List PV->Prop) (f:List PV->List PV->PV):PSpec
  | [.sl a0,.sl a1]=>(p a0 a1,f a0 a1)
  | _=>(False,default)
theorem on_ll_eq {p:List PV->List PV->Prop} {f:List PV->List PV->PV} {a0:List PV} {a1:List PV}:on_ll p f [.sl a0,.sl a1]=(p a0 a1,f a0 a1):=rfl
theorem on_ll_inv {p:List PV->List PV->Prop} {f:List PV->List PV->PV} {args:List PV} (h:(on_ll p f args).1):∃ a0:List PV,∃ a1:List PV,args=[.sl a0,.sl a1]/\p a0 a1:=by
  unfold on_ll at h
  split at h
  · exact ⟨_,_,rfl,h⟩
  · exact h.elim
def nOf:PV->Int
  | .int _ n=>n
  | _=>0
def allI (es:List PV):Prop:=∃ l:List Int,es=l.map intV
noncomputable def Φ4 (g:FuncId):PSpec:=putΦ (putΦ Φ2 64 partsS) 98 partsCS g
theorem hΦ4:TabSound GG Φ4:=(hΦ2.put w_partsS).put w_partsCS
noncomputable def equalS:PSpec:=on_ll (fun a b=>allI a/\allI b/\a.length<=4611686018427387904) (fun a b=>.bool (a.map nOf == b.map nOf))
theorem getD_intV {l:List Int} {i:Nat} (h:i<l.length):(l.map intV).getD i default=.int .i64 (l.getD i 0):=by
  simp [List.getD_eq_getElem?_getD,h,intV]
theorem w_equalS:PSound GG 100 equalS:=by
  refine PSound.of_wpc (C:=cxP Tryz.prog Φ0 [] 26) (T:=plan0) Tryz.func100 rfl rfl rfl (Fit.pure (G:=GG) hΦ0 mixed) (fun args h=>?_)
  unfold equalS at h
  obtain ⟨p,q,rfl,hp⟩:=on_ll_inv h
  refine ⟨by simp [cxP],?_⟩
  simp only [equalS,on_ll_eq,Tryz.f100,argL,plan0]
  obtain ⟨⟨a,rfl⟩,⟨b,rfl⟩,hl⟩:=hp
  have hn:∀ l:List Int,(l.map intV).map nOf=l:=fun l=>by simp [List.map_map,Function.comp_def,nOf,intV]
  simp only [List.length_map] at hl
  simp only [hn,List.length_map,go_sem,↓reduceIte,reduceCtorEq,Nat.reduceEqDiff,Nat.reduceLT,↓all_qV,Int.reduceToNat,Int.reduceLT,Int.reduceLE,Nat.reduceAdd,Nat.reduceLeDiff,Nat.reduceMul]
  refine ⟨fun h=>?_,fun h=>?_⟩
  · have:¬ a=b:=fun e=>by subst e;simp at h
    simp [this]
  · have h9:(a.length:Int)=b.length:=by simpa using h
    have hab:a.length=b.length:=by omega
    refine AWp.loop (T:=plan0) (α:=Nat) (fun i=>([(0,.pv (.sl (a.map intV))),(1,.pv (.sl (b.map intV))),(12,.pv (.int .i64 a.length)),(13,.pv (.int .i64 i))],[])) (fun i=>i<=a.length/\a.take i=b.take i) (fun i=>a.length-i)
      ⟨0,⟨Nat.zero_le _,rfl⟩,⟨by simp [fitR,look],trivial,rfl,rfl,rfl⟩⟩ ?_
    rintro i ⟨h1,h2⟩
    have hi1:i<a.length->IntKind.i64.wrap ((i:Int)+1)=((i+1:Nat):Int):=fun _=>by rw [i64_in _ (by omega)];omega
    by_cases hlt:i<a.length
    · have c0:decide ((i:Int)<(a.length:Int))=true:=by simp;omega
      have g1:=getD_intV hlt
      have g2:=getD_intV (l:=b) (i:=i) (by omega)
      simp only [c0,g1,g2,hi1 hlt,List.length_map,plan0,go_sem,↓reduceIte,reduceCtorEq,Nat.reduceEqDiff,Nat.reduceLT,↓all_qV,Int.reduceToNat,Int.reduceLT,Int.reduceLE,Nat.reduceAdd,Nat.reduceLeDiff,Nat.reduceMul]
      refine ⟨by kernel_rfl,by omega,by omega,fun h3=>?_,fun h3=>⟨i+1,⟨by omega,?_⟩,by omega,⟨by simp [fitR,look],trivial,rfl,rfl,rfl⟩⟩⟩
      · have:¬ a=b:=fun e=>by subst e;simp at h3
        simp [this]
      · have h4:a.getD i 0=b.getD i 0:=by simpa using h3
        rw [List.take_add_one,List.take_add_one,h2]
        simp only [List.getD_eq_getElem?_getD,List.getElem?_eq_getElem hlt,List.getElem?_eq_getElem (show i<b.length by omega),Option.getD_some,Option.toList_some] at h4 ⊢
        rw [h4]
    · have c0:decide ((i:Int)<(a.length:Int))=false:=by simp;omega
      simp only [c0,plan0,go_sem,↓reduceIte,reduceCtorEq,Nat.reduceEqDiff,Nat.reduceLT,↓all_qV,Int.reduceToNat,Int.reduceLT,Int.reduceLE,Nat.reduceAdd,Nat.reduceLeDiff,Nat.reduceMul]
      have e1:i=a.length:=by omega
      rw [List.take_of_length_le (by omega),List.take_of_length_le (by omega)] at h2
      simp [h2]
noncomputable def Φ5 (g:FuncId):PSpec:=putΦ Φ4 100 equalS g
theorem hΦ5:TabSound GG Φ5:=hΦ4.put w_equalS
def undC (a b:List UInt8):Bool:=decide (0<(partsR b).length)&&decide ((partsR b).length<=(partsR a).length)&&((partsR a).take (partsR b).length == partsR b)
noncomputable def underCS:PSpec:=on_ss (fun a b=>a.length<=1000000000000/\b.length<=1000000000000) (fun a b=>.bool (undC a b))
theorem partsR_len (s:List UInt8):(partsR s).length<=4:=by
  unfold partsR
  split
  · simp
  · split
    · simp
    · omega
theorem w_underCS:PSound GG 61 underCS:=by
  refine PSound.of_wpc (C:=cxP Tryz.prog Φ5 [] 29) (T:=plan0) Tryz.func61 rfl rfl rfl (Fit.pure (G:=GG) hΦ5 mixed) (fun args h=>?_)
  unfold underCS at h
  obtain ⟨a,b,rfl,hp⟩:=on_ss_inv h
  refine ⟨by simp [cxP],?_⟩
  simp only [underCS,on_ss_eq,Tryz.f61,argL,plan0]
  simp only [Φ5,Φ4,partsCS,equalS,on_s_eq,on_ll_eq,List.length_map,go_sem,↓reduceIte,reduceCtorEq,Nat.reduceEqDiff,Nat.reduceLT,↓all_qV,Int.reduceToNat,Int.reduceLT,Int.reduceLE,Nat.reduceAdd,Nat.reduceLeDiff,Nat.reduceMul]
  have hn:∀ l:List Int,(l.map intV).map nOf=l:=fun l=>by simp [List.map_map,Function.comp_def,nOf,intV]
  have ht:(List.map intV (partsR a)).take (partsR b).length=((partsR a).take (partsR b).length).map intV:=by rw [List.map_take]
  have b1:=partsR_len a
  have b2:=partsR_len b
  refine ⟨hp.1,hp.2,fun h1=>⟨by omega,?_,?_⟩,fun h1=>⟨⟨_,ht⟩,⟨_,rfl⟩,?_⟩,?_⟩
  · simp only [Bool.and_eq_true,decide_eq_true_eq] at h1
    omega
  · intro p hp'
    simp only [List.mem_map] at hp'
    obtain ⟨x,_,rfl⟩:=hp'
    rfl
  · rw [ht,List.length_map,List.length_take];omega
  · rw [ht,hn,hn]
    unfold undC
    simp only [Int.natCast_pos,Int.ofNat_le]
noncomputable def Φ6 (g:FuncId):PSpec:=putΦ Φ5 61 underCS g
theorem hΦ6:TabSound GG Φ6:=hΦ5.put w_underCS
def vld (n:Int):Bool:=decide (0<=n)&&decide (n<=36000)
noncomputable def validS:PSpec:=on_i (fun _=>True) (fun n=>.bool (vld n))
theorem w_validS:PSound GG 58 validS:=by
  refine PSound.of_wpc (C:=cxP Tryz.prog Φ0 [] 9) (T:=plan0) Tryz.func58 rfl rfl rfl (Fit.pure (G:=GG) hΦ0 mixed) (fun args h=>?_)
  unfold validS at h
  obtain ⟨n,rfl,hp⟩:=on_i_inv h
  refine ⟨by simp [cxP],?_⟩
  simp only [validS,on_i_eq,Tryz.f58,argL,plan0]
  simp only [go_sem,↓reduceIte,reduceCtorEq,Nat.reduceEqDiff,Nat.reduceLT,↓all_qV,Int.reduceToNat,Int.reduceLT,Int.reduceLE,Nat.reduceAdd,Nat.reduceLeDiff,Nat.reduceMul]
  rfl
def amt (n:Int):Bool:=decide (-1000000000000<=n)&&decide (n<=1000000000000)
noncomputable def amtS:PSpec:=on_i (fun _=>True) (fun n=>.bool (amt n))
theorem w_amtS:PSound GG 60 amtS:=by
  refine PSound.of_wpc (C:=cxP Tryz.prog Φ0 [] 9) (T:=plan0) Tryz.func60 rfl rfl rfl (Fit.pure (G:=GG) hΦ0 mixed) (fun args h=>?_)
  unfold amtS at h
  obtain ⟨n,rfl,hp⟩:=on_i_inv h
  refine ⟨by simp [cxP],?_⟩
  simp only [amtS,on_i_eq,Tryz.f60,argL,plan0]
  simp only [go_sem,↓reduceIte,reduceCtorEq,Nat.reduceEqDiff,Nat.reduceLT,↓all_qV,Int.reduceToNat,Int.reduceLT,Int.reduceLE,Nat.reduceAdd,Nat.reduceLeDiff,Nat.reduceMul]
  rfl
noncomputable def Φ7 (g:FuncId):PSpec:=putΦ (putΦ Φ6 58 validS) 60 amtS g
theorem hΦ7:TabSound GG Φ7:=(hΦ6.put w_validS).put w_amtS
def yrOf (n:Int):Int:=bif vld n then n / 360 else -1
noncomputable def yearS:PSpec:=on_i (fun _=>True) (fun n=>.int .i64 (yrOf n))
theorem w_yearS:PSound GG 59 yearS:=by
  refine PSound.of_wpc (C:=cxP Tryz.prog Φ7 [] 8) (T:=plan0) Tryz.func59 rfl rfl rfl (Fit.pure (G:=GG) hΦ7 mixed) (fun args h=>?_)
  unfold yearS at h
  obtain ⟨n,rfl,hp⟩:=on_i_inv h
  refine ⟨by simp [cxP],?_⟩
  simp only [yearS,on_i_eq,Tryz.f59,argL,plan0]
  simp only [Φ7,validS,on_i_eq,go_sem,↓reduceIte,reduceCtorEq,Nat.reduceEqDiff,Nat.reduceLT,↓all_qV,Int.reduceToNat,Int.reduceLT,Int.reduceLE,Nat.reduceAdd,Nat.reduceLeDiff,Nat.reduceMul]
  refine ⟨fun h=>?_,fun h=>?_⟩
  · have h:vld n=false:=by simpa using h
    simp [yrOf,h]
  · have h:vld n=true:=by simpa using h
    have h2:0<=n/\n<=36000:=by simpa [vld] using h
    simp only [yrOf,h,cond_true]
    exact ⟨by decide,by rw [i64_quo _ _ (by omega)]⟩
noncomputable def Φ8 (g:FuncId):PSpec:=putΦ Φ7 59 yearS g
theorem hΦ8:TabSound GG Φ8:=hΦ7.put w_yearS
def on_lsii (p:List PV->List UInt8->Int->Int->Prop) (f:List PV->List UInt8->Int->Int->PV):PSpec
  | [.sl a0,.str a1,.int .i64 a2,.int .i64 a3]=>(p a0 a1 a2 a3,f a0 a1 a2 a3)
  | _=>(False,default)
theorem on_lsii_eq {p:List PV->List UInt8->Int->Int->Prop} {f:List PV->List UInt8->Int->Int->PV} {a0:List PV} {a1:List UInt8} {a2:Int} {a3:Int}:on_lsii p f [.sl a0,.str a1,.int .i64 a2,.int .i64 a3]=(p a0 a1 a2 a3,f a0 a1 a2 a3):=rfl
theorem on_lsii_inv {p:List PV->List UInt8->Int->Int->Prop} {f:List PV->List UInt8->Int->Int->PV} {args:List PV} (h:(on_lsii p f args).1):∃ a0:List PV,∃ a1:List UInt8,∃ a2:Int,∃ a3:Int,args=[.sl a0,.str a1,.int .i64 a2,.int .i64 a3]/\p a0 a1 a2 a3:=by
  unfold on_lsii at h
  split at h
  · exact ⟨_,_,_,_,rfl,h⟩
  · exact h.elim
def recV (n d:Int) (c:List UInt8) (a:Int):PV:=.agg [.int .i64 n,.int .i64 d,.str c,.int .i64 a]
def isR (e:PV):Prop:=∃ n d c a,e=recV n d c a/\c.length<=1000000000000
def cntR (src:List UInt8) (y d:Int):PV->Int
  | .agg [_,.int _ dd,.str c,.int _ a]=>if (vld dd&&decide (dd<=d)&&yrOf dd == y&&amt a&&undC c src)=true then a else 0
  | _=>0
def sumL:List Int->Int
  | []=>0
  | x::r=>x+sumL r
theorem sumL_append (a b:List Int):sumL (a++b)=sumL a+sumL b:=by
  induction a with
  | nil=>simp [sumL]
  | cons x r ih=>simp only [List.cons_append,sumL,ih];omega
def recF (rs:List PV) (src:List UInt8) (y d:Int):Int:=sumL ((rs.take 1000).map (cntR src y d))
theorem cntR_le (src:List UInt8) (y d:Int) (e:PV): -1000000000000<=cntR src y d e/\cntR src y d e<=1000000000000:=by
  unfold cntR
  split
  · split
    · rename_i h
      simp only [Bool.and_eq_true,amt,decide_eq_true_eq] at h
      omega
    · omega
  · omega
theorem sumL_le (src:List UInt8) (y d:Int):∀ l:List PV,-(1000000000000 * (l.length:Int))<=sumL (l.map (cntR src y d))/\sumL (l.map (cntR src y d))<=1000000000000 * (l.length:Int)
  | []=>by simp [sumL]
  | e::r=>by
    have h1:=cntR_le src y d e
    have h2:=sumL_le src y d r
    simp only [List.map_cons,sumL,List.length_cons]
    omega
noncomputable def receivedS:PSpec:=on_lsii (fun rs src y d=>(∀ e,e∈rs->isR e)/\rs.length<=4611686018427387904/\src.length<=1000000000000) (fun rs src y d=>.int .i64 (recF rs src y d))
theorem w_receivedS:PSound GG 37 receivedS:=by
  refine PSound.of_wpc (C:=cxP Tryz.prog Φ8 [] 55) (T:=plan0) Tryz.func37 rfl rfl rfl (Fit.pure (G:=GG) hΦ8 mixed) (fun args h=>?_)
  unfold receivedS at h
  obtain ⟨rs,src,y,d,rfl,hp⟩:=on_lsii_inv h
  refine ⟨by simp [cxP],?_⟩
  simp only [receivedS,on_lsii_eq,Tryz.f37,argL,plan0]
  obtain ⟨hr,hl,hs⟩:=hp
  have hmin:(if (1000:Int)<(rs.length:Int) then (1000:Int) else (rs.length:Int))=((min rs.length 1000:Nat):Int):=by split <;> omega
  have hw4:∀ p,p∈rs->p.width=4:=fun p hp'=>by obtain ⟨n,dd,c,a,rfl,_⟩:=hr p hp';rfl
  simp only [hmin,go_sem,↓reduceIte,reduceCtorEq,Nat.reduceEqDiff,Nat.reduceLT,↓all_qV,Int.reduceToNat,Int.reduceLT,Int.reduceLE,Nat.reduceAdd,Nat.reduceLeDiff,Nat.reduceMul]
  generalize hm:min rs.length 1000=m
  have hm1:m<=rs.length:=by omega
  have hm2:m<=1000:=by omega
  have hrec:recF rs src y d=sumL ((rs.take m).map (cntR src y d)):=by
    unfold recF
    by_cases h9:rs.length<=1000
    · rw [List.take_of_length_le h9,List.take_of_length_le (by omega)]
    · rw [show m=1000 by omega]
  have htl:(rs.take m).length=m:=by rw [List.length_take];omega
  refine ⟨⟨by omega,by omega,fun p hp'=>(hw4 p hp').symm⟩,?_⟩
  rw [htl,hrec]
  refine AWp.loop (T:=plan0) (α:=Nat) (fun i=>([(1,.pv (.str src)),(2,.pv (.int .i64 y)),(3,.pv (.int .i64 d)),(9,.pv (.int .i64 (sumL (((rs.take m).take i).map (cntR src y d))))),(16,.pv (.sl (rs.take m))),(17,.pv (.int .i64 m)),(18,.pv (.int .i64 i))],[])) (fun i=>i<=m) (fun i=>m-i)
    ⟨0,Nat.zero_le _,⟨by simp [fitR,look,sumL],trivial,rfl,rfl,rfl⟩⟩ ?_
  intro i hi
  have hi1:IntKind.i64.wrap ((i:Int)+1)=((i+1:Nat):Int):=by rw [i64_in _ (by omega)];omega
  by_cases hlt:i<m
  · have c0:decide ((i:Int)<(m:Int))=true:=by simp;omega
    obtain ⟨n,dd,c,a,he,hc⟩:=hr (rs.getD i default) (by rw [List.getD_eq_getElem?_getD,List.getElem?_eq_getElem (show i<rs.length by omega)];exact List.getElem_mem _)
    have he2:(rs.take m)[i]?=some (recV n dd c a):=by
      rw [List.getElem?_take,if_pos hlt,List.getElem?_eq_getElem (show i<rs.length by omega)]
      rw [List.getD_eq_getElem?_getD,List.getElem?_eq_getElem (show i<rs.length by omega)] at he
      exact congrArg some he
    have he3:(rs.take m).getD i default=.agg [.int .i64 n,.int .i64 dd,.str c,.int .i64 a]:=by rw [List.getD_eq_getElem?_getD,he2];rfl
    have hsum:sumL (((rs.take m).take (i+1)).map (cntR src y d))=sumL (((rs.take m).take i).map (cntR src y d))+cntR src y d (recV n dd c a):=by
      rw [List.take_add_one,he2,List.map_append,sumL_append]
      simp [sumL]
    have hb:=sumL_le src y d ((rs.take m).take i)
    have hb2:((rs.take m).take i).length<=1000:=by rw [List.length_take,List.length_take];omega
    have hcn:cntR src y d (recV n dd c a)=if (vld dd&&decide (dd<=d)&&yrOf dd == y&&amt a&&undC c src)=true then a else 0:=rfl
    generalize sumL (((rs.take m).take i).map (cntR src y d))=acc at hsum hb ⊢
    simp only [c0,he3,hi1,htl,List.take_succ_cons,List.take_nil,Φ8,Φ7,Φ6,validS,amtS,yearS,underCS,on_i_eq,on_ss_eq,plan0,go_sem,↓reduceIte,reduceCtorEq,Nat.reduceEqDiff,Nat.reduceLT,↓all_qV,Int.reduceToNat,Int.reduceLT,Int.reduceLE,Nat.reduceAdd,Nat.reduceLeDiff,Nat.reduceMul]
    refine ⟨⟨by omega,by omega⟩,fun _=>⟨hc,hs⟩,fun h9=>⟨i+1,hlt,by omega,⟨?_,trivial,rfl,rfl,rfl⟩⟩,fun h9=>⟨i+1,hlt,by omega,⟨?_,trivial,rfl,rfl,rfl⟩⟩⟩
    · rw [hsum,hcn,if_pos h9]
      have ha: -1000000000000<=a/\a<=1000000000000:=by
        simp only [Bool.and_eq_true,amt,decide_eq_true_eq] at h9
        omega
      simp [fitR,look,i64_in (acc+a) (by omega)]
    · rw [hsum,hcn,if_neg (by rw [h9];decide)]
      simp [fitR,look]
  · have c0:decide ((i:Int)<(m:Int))=false:=by simp;omega
    have e1:i=m:=by omega
    subst e1
    rw [List.take_of_length_le (by omega:(rs.take i).length<=i)]
    simp only [c0,plan0,go_sem,↓reduceIte,reduceCtorEq,Nat.reduceEqDiff,Nat.reduceLT,↓all_qV,Int.reduceToNat,Int.reduceLT,Int.reduceLE,Nat.reduceAdd,Nat.reduceLeDiff,Nat.reduceMul]
noncomputable def Φ9 (g:FuncId):PSpec:=putΦ Φ8 37 receivedS g
theorem hΦ9:TabSound GG Φ9:=hΦ8.put w_receivedS
def on_plii (p:PV->List PV->Int->Int->Prop) (f:PV->List PV->Int->Int->PV):PSpec
  | [a0,.sl a1,.int .i64 a2,.int .i64 a3]=>(p a0 a1 a2 a3,f a0 a1 a2 a3)
  | _=>(False,default)
theorem on_plii_eq {p:PV->List PV->Int->Int->Prop} {f:PV->List PV->Int->Int->PV} {a0:PV} {a1:List PV} {a2:Int} {a3:Int}:on_plii p f [a0,.sl a1,.int .i64 a2,.int .i64 a3]=(p a0 a1 a2 a3,f a0 a1 a2 a3):=rfl
theorem on_plii_inv {p:PV->List PV->Int->Int->Prop} {f:PV->List PV->Int->Int->PV} {args:List PV} (h:(on_plii p f args).1):∃ a0:PV,∃ a1:List PV,∃ a2:Int,∃ a3:Int,args=[a0,.sl a1,.int .i64 a2,.int .i64 a3]/\p a0 a1 a2 a3:=by
  unfold on_plii at h
  split at h
  · exact ⟨_,_,_,_,rfl,h⟩
  · exact h.elim
def earV (s c:List UInt8) (p:Int):PV:=.agg [.str s,.str c,.int .i64 p]
def shrF (p:Int) (n:Int):Int × Int:=if (decide (p<0)||decide (100<p)||decide (1000000000000000<n))=true then (0,2) else ((if n<0 then 0 else n) * p / 100,0)
def srcOf:PV->List UInt8
  | .agg [.str s,_,_]=>s
  | _=>[]
def pctOf:PV->Int
  | .agg [_,_,.int _ p]=>p
  | _=>0
noncomputable def shareS:PSpec:=on_plii (fun e rs y d=>(∃ s c p,e=earV s c p/\s.length<=1000000000000)/\(∀ x,x∈rs->isR x)/\rs.length<=4611686018427387904)
  (fun e rs y d=>.tup [.int .i64 (shrF (pctOf e) (recF rs (srcOf e) y d)).1,.int .i64 (shrF (pctOf e) (recF rs (srcOf e) y d)).2])
theorem recF_le (rs:List PV) (src:List UInt8) (y d:Int): -1000000000000000<=recF rs src y d/\recF rs src y d<=1000000000000000:=by
  unfold recF
  have h:=sumL_le src y d (rs.take 1000)
  have:(rs.take 1000).length<=1000:=by rw [List.length_take];omega
  omega
theorem w_shareS:PSound GG 18 shareS:=by
  refine PSound.of_wpc (C:=cxP Tryz.prog Φ9 [] 35) (T:=plan0) Tryz.func18 rfl rfl rfl (Fit.pure (G:=GG) hΦ9 mixed) (fun args h=>?_)
  unfold shareS at h
  obtain ⟨e,rs,y,d,rfl,hp⟩:=on_plii_inv h
  refine ⟨by simp [cxP],?_⟩
  simp only [shareS,on_plii_eq,Tryz.f18,argL,plan0]
  obtain ⟨⟨s,c,p,rfl,hs⟩,hr,hl⟩:=hp
  have hb:=recF_le rs s y d
  simp only [earV,Φ9,receivedS,on_lsii_eq,go_sem,↓reduceIte,reduceCtorEq,Nat.reduceEqDiff,Nat.reduceLT,↓all_qV,Int.reduceToNat,Int.reduceLT,Int.reduceLE,Nat.reduceAdd,Nat.reduceLeDiff,Nat.reduceMul]
  refine ⟨⟨hr,hl,hs⟩,fun h1=>?_,fun h1=>⟨by decide,?_⟩⟩
  · rw [show pctOf (.agg [.str s,.str c,.int .i64 p])=p from rfl,show srcOf (.agg [.str s,.str c,.int .i64 p])=s from rfl]
    unfold shrF;rw [if_pos h1]
  · have h2:¬ p<0/\¬ 100<p:=by
      simp only [Bool.or_eq_false_iff,decide_eq_false_iff_not] at h1
      exact h1.1
    have hs2:shrF p (recF rs s y d)=((if recF rs s y d<0 then 0 else recF rs s y d) * p / 100,0):=by unfold shrF;exact if_neg (by rw [h1];decide)
    have e3:(if 0>recF rs s y d then 0 else recF rs s y d)=(if recF rs s y d<0 then 0 else recF rs s y d):=rfl
    rw [show pctOf (.agg [.str s,.str c,.int .i64 p])=p from rfl,show srcOf (.agg [.str s,.str c,.int .i64 p])=s from rfl,hs2,e3]
    generalize hn:(if recF rs s y d<0 then 0 else recF rs s y d)=n
    have hn2:0<=n/\n<=1000000000000000:=by subst hn;split <;> omega
    have h3:0<=n * p:=Int.mul_nonneg hn2.1 (by omega)
    have h4:n * p<=1000000000000000 * 100:=Int.mul_le_mul hn2.2 (by omega) (by omega) (by omega)
    rw [i64_in (n * p) (by omega),Int.tdiv_eq_ediv_of_nonneg h3,i64_in _ (by omega)]
noncomputable def Φ10 (g:FuncId):PSpec:=putΦ Φ9 18 shareS g
theorem hΦ10:TabSound GG Φ10:=hΦ9.put w_shareS
def on_ (p:Prop) (f:PV):PSpec
  | []=>(p ,f )
  | _=>(False,default)
theorem on__eq {p:Prop} {f:PV}  :on_ p f []=(p ,f ):=rfl
theorem on__inv {p:Prop} {f:PV} {args:List PV} (h:(on_ p f args).1):args=[]/\p  :=by
  unfold on_ at h
  split at h
  · exact ⟨rfl,h⟩
  · exact h.elim
noncomputable def awake11S:PSpec:=on_ (True) (.bool true)
theorem und99:undC [57] [57]=true:=by decide +kernel
theorem w_awake11S:PSound GG 5 awake11S:=by
  refine PSound.of_wpc (C:=cxP Tryz.prog Φ10 [] 37) (T:=plan0) Tryz.func5 rfl rfl rfl (Fit.pure (G:=GG) hΦ10 mixed) (fun args h=>?_)
  unfold awake11S at h
  obtain ⟨rfl,hp⟩:=on__inv h
  refine ⟨by simp [cxP],?_⟩
  simp only [awake11S,on__eq,Tryz.f5,argL,plan0]
  have k1:recF [.agg [.int .i64 1,.int .i64 0,.str [57],.int .i64 99]] [57] 0 5=99:=by
    simp [recF,cntR,sumL,und99,vld,yrOf,amt]
  have k2:recF [.agg [.int .i64 1,.int .i64 0,.str [57],.int .i64 33],.agg [.int .i64 2,.int .i64 0,.str [57],.int .i64 33],.agg [.int .i64 3,.int .i64 0,.str [57],.int .i64 33]] [57] 0 5=99:=by
    simp [recF,cntR,sumL,und99,vld,yrOf,amt]
  have k3:shrF 33 99=(32,0):=by decide
  simp only [k1,k2,k3,srcOf,pctOf,Φ10,shareS,on_plii_eq,List.take_succ_cons,List.take_nil,go_sem,↓reduceIte,reduceCtorEq,Nat.reduceEqDiff,Nat.reduceLT,↓all_qV,Int.reduceToNat,Int.reduceLT,Int.reduceLE,Nat.reduceAdd,Nat.reduceLeDiff,Nat.reduceMul]
  and_intros
  all_goals first
    | exact ⟨_,_,_,rfl,by simp⟩
    | (intro c hc
       simp only [List.mem_cons,List.not_mem_nil,or_false] at hc
       rcases hc with rfl | rfl | rfl <;> exact ⟨rfl,trivial⟩)
    | (intro x hx
       simp only [List.mem_cons,List.not_mem_nil,or_false] at hx
       first
         | (subst hx;exact ⟨_,_,_,_,rfl,by simp⟩)
         | (rcases hx with rfl | rfl | rfl <;> exact ⟨_,_,_,_,rfl,by simp⟩))
end Go.AM
namespace Go.AM
open Go Go.Proofs Go.IntWalk
attribute [local go_sem] List.length_map
set_option maxRecDepth 100000
theorem parG_int:∀ (s:List UInt8) (acc:List Int) (v d f:Int),∃ l:List Int,parG s (acc.map intV) v d f=l.map intV/\l.length<=4
  | [],acc,v,d,f=>by
    unfold parG
    cases (d == 0||decide (2<d)||f == 48) with
    | true=>exact ⟨[],rfl,by decide⟩
    | false=>
      simp only [cond_false]
      split
      · exact ⟨[],rfl,by decide⟩
      · rename_i h
        exact ⟨acc++[v],by simp,by simp only [List.length_append,List.length_map,List.length_cons,List.length_nil] at h ⊢;omega⟩
  | c::r,acc,v,d,f=>by
    unfold parG
    cases h1:((c.toNat:Int) == 46) with
    | true=>
      simp only [cond_true]
      cases (d == 0||decide (2<d)||f == 48) with
      | true=>exact ⟨[],rfl,by decide⟩
      | false=>
        have:=parG_int r (acc++[v]) 0 0 0
        simpa using this
    | false=>
      simp only [cond_false]
      cases (decide ((c.toNat:Int)<48)||decide (57<(c.toNat:Int))) with
      | true=>exact ⟨[],rfl,by decide⟩
      | false=>exact parG_int r acc _ _ _
theorem parts_int (s:List UInt8):∃ l:List Int,parts s=l.map intV/\l.length<=4:=by
  unfold parts
  split
  · exact ⟨[],rfl,by decide⟩
  · exact parG_int s [] 0 0 0
def pI (s:List UInt8):List Int:=(parts s).map nOf
theorem parts_eq (s:List UInt8):parts s=(pI s).map intV/\(pI s).length<=4:=by
  obtain ⟨l,h1,h2⟩:=parts_int s
  have:pI s=l:=by unfold pI;rw [h1];simp [List.map_map,Function.comp_def,nOf,intV]
  rw [this]
  exact ⟨h1,h2⟩
def cmpL:List Int->List Int->Int
  | [],[]=>0
  | [],_::_=> -1
  | _::_,[]=>1
  | x::p,y::q=>if x<y then -1 else if y<x then 1 else cmpL p q
def cmpF (a b:List UInt8):Int:=
  bif (((pI a).length:Int) == 0||((pI b).length:Int) == 0) then
    (bif decide (0<((pI a).length:Int)) then 1 else bif decide (0<((pI b).length:Int)) then -1 else bif Op.bytesLess a b then -1 else bif !(Op.bytesLess a b||a == b) then 1 else 0)
  else cmpL (pI a) (pI b)
theorem cmpL_end {p q:List Int} {i:Nat} (h1:i<=p.length) (h2:i<=q.length) (h:¬ (i<p.length/\i<q.length)):cmpL (p.drop i) (q.drop i)=if p.length<q.length then -1 else if q.length<p.length then 1 else 0:=by
  by_cases h3:p.length<q.length
  · rw [show p.drop i=[] from List.drop_eq_nil_of_le (by omega),List.drop_eq_getElem_cons (show i<q.length by omega),if_pos h3];rfl
  · by_cases h4:q.length<p.length
    · rw [List.drop_eq_getElem_cons (show i<p.length by omega),show q.drop i=[] from List.drop_eq_nil_of_le (by omega),if_neg h3,if_pos h4];rfl
    · rw [show q.drop i=[] from List.drop_eq_nil_of_le (by omega),show p.drop i=[] from List.drop_eq_nil_of_le (by omega),if_neg h3,if_neg h4];rfl
noncomputable def compareS:PSpec:=on_ss (fun a b=>a.length<=4611686018427387904/\b.length<=4611686018427387904) (fun a b=>.int .i64 (cmpF a b))
theorem w_compareS:PSound GG 101 compareS:=by
  refine PSound.of_wpc (C:=cxP Tryz.prog Φ10 [] 78) (T:=plan0) Tryz.func101 rfl rfl rfl (Fit.pure (G:=GG) hΦ10 mixed) (fun args h=>?_)
  unfold compareS at h
  obtain ⟨a,b,rfl,hp⟩:=on_ss_inv h
  refine ⟨by simp [cxP],?_⟩
  simp only [compareS,on_ss_eq,Tryz.f101,argL,plan0]
  obtain ⟨e1,n1⟩:=parts_eq a
  obtain ⟨e2,n2⟩:=parts_eq b
  unfold cmpF
  generalize pI a=p at e1 n1 ⊢
  generalize pI b=q at e2 n2 ⊢
  simp only [e1,e2,Φ10,Φ9,Φ8,Φ7,Φ6,Φ5,Φ4,partsS,on_s_eq,go_sem,↓reduceIte,reduceCtorEq,Nat.reduceEqDiff,Nat.reduceLT,↓all_qV,Int.reduceToNat,Int.reduceLT,Int.reduceLE,Nat.reduceAdd,Nat.reduceLeDiff,Nat.reduceMul]
  refine ⟨hp.1,hp.2,fun h1=>⟨fun h2=>?_,fun h2=>⟨fun h3=>?_,fun h3=>⟨fun h4=>?_,fun h4=>⟨fun h5=>?_,fun h5=>?_⟩⟩⟩⟩,fun h1=>?_⟩
  · rw [h1,h2];rfl
  · rw [h1,h2,h3];rfl
  · rw [h1,h2,h3,h4];rfl
  · rw [h4] at h5;rw [h1,h2,h3,h4,h5];rfl
  · rw [h4] at h5;rw [h1,h2,h3,h4,h5];rfl
  · rw [h1,cond_false]
    refine AWp.loop (T:=plan0) (α:=Nat) (fun i=>([(5,.pv (.sl (p.map intV))),(6,.pv (.sl (q.map intV))),(7,.pv (.int .i64 i))],[])) (fun i=>(i<=p.length/\i<=q.length)/\cmpL (p.drop i) (q.drop i)=cmpL p q) (fun i=>p.length-i)
      ⟨0,⟨⟨Nat.zero_le _,Nat.zero_le _⟩,rfl⟩,⟨by simp [fitR,look],trivial,rfl,rfl,rfl⟩⟩ ?_
    rintro i ⟨⟨g1,g2⟩,g3⟩
    have hi1:IntKind.i64.wrap ((i:Int)+1)=((i+1:Nat):Int):=by rw [i64_in _ (by omega)];omega
    by_cases hlt:i<p.length/\i<q.length
    · have c0:decide ((i:Int)<(p.length:Int))=true:=by simp;omega
      have c1:decide ((i:Int)<(q.length:Int))=true:=by simp;omega
      have k1:=getD_intV hlt.1
      have k2:=getD_intV hlt.2
      have d1:p.drop i=p.getD i 0::p.drop (i+1):=by rw [List.drop_eq_getElem_cons hlt.1];simp [List.getD_eq_getElem?_getD,hlt.1]
      have d2:q.drop i=q.getD i 0::q.drop (i+1):=by rw [List.drop_eq_getElem_cons hlt.2];simp [List.getD_eq_getElem?_getD,hlt.2]
      rw [d1,d2,cmpL] at g3
      simp only [c0,c1,k1,k2,hi1,plan0,go_sem,↓reduceIte,reduceCtorEq,Nat.reduceEqDiff,Nat.reduceLT,↓all_qV,Int.reduceToNat,Int.reduceLT,Int.reduceLE,Nat.reduceAdd,Nat.reduceLeDiff,Nat.reduceMul]
      refine ⟨by kernel_rfl,by omega,by omega,fun h3=>?_,fun h3=>⟨by kernel_rfl,by omega,by omega,fun h4=>?_,fun h4=>⟨i+1,⟨⟨by omega,by omega⟩,?_⟩,by omega,⟨by simp [fitR,look],trivial,rfl,rfl,rfl⟩⟩⟩⟩
      · rw [<- g3,if_pos (by simpa using h3)]
      · rw [<- g3,if_neg (by simpa using h3),if_pos (by simpa using h4)]
      · rw [<- g3,if_neg (by simpa using h3),if_neg (by simpa using h4)]
    · have hcond:(decide ((i:Int)<(p.length:Int))&&decide ((i:Int)<(q.length:Int)))=false:=by
        by_cases h9:i<p.length
        · have:¬ (i:Int)<q.length:=by omega
          simp [this]
        · have:¬ (i:Int)<p.length:=by omega
          simp [this]
      simp only [hcond,plan0,go_sem,↓reduceIte,reduceCtorEq,Nat.reduceEqDiff,Nat.reduceLT,↓all_qV,Int.reduceToNat,Int.reduceLT,Int.reduceLE,Nat.reduceAdd,Nat.reduceLeDiff,Nat.reduceMul]
      rw [cmpL_end g1 g2 hlt] at g3
      rw [<- g3]
      refine ⟨fun h3=>?_,fun h3=>⟨fun h4=>?_,fun h4=>?_⟩⟩
      · simp only [decide_eq_true_eq] at h3
        rw [if_pos (by omega)]
      · simp only [decide_eq_true_eq,decide_eq_false_iff_not] at h3 h4
        rw [if_neg (by omega),if_pos (by omega)]
      · simp only [decide_eq_false_iff_not] at h3 h4
        rw [if_neg (by omega),if_neg (by omega)]
theorem w_itoaS:PSound GG 66 itoaQ:=itoa_sound lItoa ⟨_,Tryz.func66,by kernel_rfl,by kernel_rfl⟩ (fun w h=>(show (cellE _ w/\cellE _ w)/\cellI _ w/\Lib.TabIs GG.P w "internal/strconv.uint64pow10" .u64 Lib.pow10Tab from h).2.2)
noncomputable def Φ11 (g:FuncId):PSpec:=putΦ (putΦ Φ10 101 compareS) 66 itoaQ g
theorem hΦ11:TabSound GG Φ11:=(hΦ10.put w_compareS).put w_itoaS
def on_l (p:List PV->Prop) (f:List PV->PV):PSpec
  | [.sl a0]=>(p a0,f a0)
  | _=>(False,default)
theorem on_l_eq {p:List PV->Prop} {f:List PV->PV} {a0:List PV}:on_l p f [.sl a0]=(p a0,f a0):=rfl
theorem on_l_inv {p:List PV->Prop} {f:List PV->PV} {args:List PV} (h:(on_l p f args).1):∃ a0:List PV,args=[.sl a0]/\p a0:=by
  unfold on_l at h
  split at h
  · exact ⟨_,rfl,h⟩
  · exact h.elim
def codeG:Bool->List UInt8->List Int->List UInt8
  | _,out,[]=>out
  | b,out,n::r=>bif decide (n<1)||decide (99<n) then [] else codeG false ((bif b then out else out++[46])++Lib.itoa n) r
def codeF (l:List Int):List UInt8:=if 4<l.length then [] else codeG true [] l
theorem itoa_len:∀ n:Nat,1<=n->n<=99->(Lib.itoa (n:Int)).length<=2:=by
  intro n h1 h2
  have:∀ n:_root_.Fin 100,(Lib.itoa ((n.val:Nat):Int)).length<=2:=by decide +kernel
  exact this ⟨n,by omega⟩
theorem codeG_len:∀ (b:Bool) (out:List UInt8) (l:List Int),(codeG b out l).length<=out.length+3 * l.length
  | _,out,[]=>by simp [codeG]
  | b,out,n::r=>by
    rw [codeG]
    cases h:decide (n<1)||decide (99<n) with
    | true=>simp
    | false=>
      simp only [Bool.or_eq_false_iff,decide_eq_false_iff_not] at h
      simp only [cond_false]
      have h1:=codeG_len false ((bif b then out else out++[46])++Lib.itoa n) r
      have h2:=itoa_len n.toNat (by omega) (by omega)
      rw [Int.toNat_of_nonneg (by omega)] at h2
      have h3:(bif b then out else out++[46]).length<=out.length+1:=by cases b <;> simp
      simp only [List.length_append,List.length_cons] at h1 ⊢
      omega
noncomputable def codeS:PSpec:=on_l (fun es=>allI es/\es.length<=4611686018427387904) (fun es=>.str (codeF (es.map nOf)))
theorem w_codeS:PSound GG 43 codeS:=by
  refine PSound.of_wpc (C:=cxP Tryz.prog Φ11 [] 32) (T:=plan0) Tryz.func43 rfl rfl rfl (Fit.pure (G:=GG) hΦ11 mixed) (fun args h=>?_)
  unfold codeS at h
  obtain ⟨es,rfl,hp⟩:=on_l_inv h
  refine ⟨by simp [cxP],?_⟩
  simp only [codeS,on_l_eq,Tryz.f43,argL,plan0]
  obtain ⟨⟨l,rfl⟩,hl⟩:=hp
  have hn:(l.map intV).map nOf=l:=by simp [List.map_map,Function.comp_def,nOf,intV]
  simp only [List.length_map] at hl
  simp only [hn,go_sem,↓reduceIte,reduceCtorEq,Nat.reduceEqDiff,Nat.reduceLT,↓all_qV,Int.reduceToNat,Int.reduceLT,Int.reduceLE,Nat.reduceAdd,Nat.reduceLeDiff,Nat.reduceMul]
  refine ⟨fun h=>?_,fun h=>?_⟩
  · have : 4 < l.length := by have h9:4<(l.length:Int):=by simpa using h
                              exact_mod_cast h9
    unfold codeF;rw [if_pos this]
  · have h4:¬ 4<l.length:=by
      intro h9
      have:decide (4<(l.length:Int))=true:=by simp;omega
      rw [this] at h;cases h
    refine AWp.loop (T:=plan0) (α:=Nat × List UInt8) (fun x=>([(3,.pv (.str x.2)),(9,.pv (.sl (l.map intV))),(10,.pv (.int .i64 l.length)),(11,.pv (.int .i64 x.1))],[])) (fun x=>x.1<=l.length/\codeG (x.1 == 0) x.2 (l.drop x.1)=codeF l/\x.2.length<=3 * x.1) (fun x=>l.length-x.1)
      ⟨(0,[]),⟨Nat.zero_le _,by unfold codeF;rw [if_neg h4];rfl,Nat.le_refl _⟩,⟨by simp [fitR,look],trivial,rfl,rfl,rfl⟩⟩ ?_
    rintro ⟨i,out⟩ ⟨g1,g2,g3⟩
    simp only at g1 g2 g3
    have hi1:IntKind.i64.wrap ((i:Int)+1)=((i+1:Nat):Int):=by rw [i64_in _ (by omega)];omega
    by_cases hlt:i<l.length
    · have c0:decide ((i:Int)<(l.length:Int))=true:=by simp;omega
      have k1:=getD_intV hlt
      have d1:l.drop i=l.getD i 0::l.drop (i+1):=by rw [List.drop_eq_getElem_cons hlt];simp [List.getD_eq_getElem?_getD,hlt]
      rw [d1,codeG] at g2
      generalize l.getD i 0=n at g2 k1
      simp only [c0,k1,hi1,Φ11,itoaQ,on_i_eq,plan0,go_sem,↓reduceIte,reduceCtorEq,Nat.reduceEqDiff,Nat.reduceLT,↓all_qV,Int.reduceToNat,Int.reduceLT,Int.reduceLE,Nat.reduceAdd,Nat.reduceLeDiff,Nat.reduceMul]
      refine ⟨⟨by omega,by omega⟩,fun h5=>?_,fun h5=>?_⟩
      · rw [h5] at g2;exact congrArg PV.str g2
      · rw [h5,cond_false] at g2
        have hb:1<=n/\n<=99:=by
          simp only [Bool.or_eq_false_iff,decide_eq_false_iff_not] at h5
          omega
        have h2:=itoa_len n.toNat (by omega) (by omega)
        rw [Int.toNat_of_nonneg (by omega)] at h2
        refine ⟨fun h6=>⟨by omega,by omega,by simp only [List.length_append,List.length_cons,List.length_nil];omega,(i+1,out++[46]++Lib.itoa n),⟨by simp only;omega,?_,?_⟩,by simp only;omega,⟨by simp [fitR,look],trivial,rfl,rfl,rfl⟩⟩,
          fun h6=>⟨by omega,by omega,(i+1,out++Lib.itoa n),⟨by simp only;omega,?_,?_⟩,by simp only;omega,⟨by simp [fitR,look],trivial,rfl,rfl,rfl⟩⟩⟩
        · have:(i == 0)=false:=by simp at h6 ⊢;omega
          rw [this,cond_false] at g2
          exact g2
        · simp only [List.length_append,List.length_cons,List.length_nil];omega
        · have:(i == 0)=true:=by simp at h6 ⊢;omega
          rw [this,cond_true] at g2
          exact g2
        · simp only [List.length_append,List.length_cons,List.length_nil];omega
    · have c0:decide ((i:Int)<(l.length:Int))=false:=by simp;omega
      simp only [c0,plan0,go_sem,↓reduceIte,reduceCtorEq,Nat.reduceEqDiff,Nat.reduceLT,↓all_qV,Int.reduceToNat,Int.reduceLT,Int.reduceLE,Nat.reduceAdd,Nat.reduceLeDiff,Nat.reduceMul]
      rw [List.drop_eq_nil_of_le (by omega),codeG] at g2
      exact congrArg PV.str g2
end Go.AM
