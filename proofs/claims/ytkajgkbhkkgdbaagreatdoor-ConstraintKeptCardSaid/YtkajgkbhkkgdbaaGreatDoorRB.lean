/-
  A part of a proof.
-/
import Derived.Test.YtkajgkbhkkgdbaaGreatDoorZZ
import Derived.IntWalk
set_option linter.unusedSimpArgs false
set_option linter.unusedVariables false
namespace Go.AM
open Go Go.Proofs Go.IntWalk
set_option maxRecDepth 100000
def plan0:Plan:={ keep:=fun _=>none,cut:=fun _=>false,stop:=fun _=>false }
noncomputable def GG:Glob:=globE Tryz.prog 1 2 0 3 4 (by decide) (by kernel_rfl)
theorem mixed:GG.P.follows .mixedOrders=true:=by kernel_rfl
noncomputable def Φ0:FuncId->PSpec:=fun _=>noSpec
theorem hΦ0:TabSound GG Φ0:=TabSound.nil
theorem hnoΘ:QTab GG noΘ:=QTab.nil
theorem hnoΨ:ETab GG noΨ:=ETab.nil
def isI (p:PV):Prop:=∃ n,p=.int .i64 n/\ -9223372036854775808<=n/\n<=9223372036854775807
def Tp (cs:List PV):Prop:=∃ (ints:List PV) (k:Nat),cs=[.sl ints,.int .i64 k]/\k<=ints.length/\ints.length<=500/\∀ e,e∈ints->isI e
def preN (args:List PV):Prop:=∃ k:Int,args=[.int .i64 k]/\1<=k/\k<=1000000000000000000
theorem preN_eq {k:Int}:preN [.int .i64 k]=(1<=k/\k<=1000000000000000000):=propext ⟨fun ⟨k',e,h⟩=>by simp only [List.cons.injEq,PV.int.injEq,and_true,true_and] at e;subst e;exact h,fun h=>⟨k,rfl,h⟩⟩
def intV (n:Int):PV:=.int .i64 n
def arg1:List PV->Int
 | .int _ k::_=>k
 | _=>0
def arg2:List PV->Int
 | _::.int _ k::_=>k
 | _=>0
def okN (args:List PV) (n:Int):Prop:=0<=n/\n<arg1 args
noncomputable def nS:QSpec:=qV Tp preN intV okN
theorem w_nS:QSound GG 16 nS:=by
 unfold nS
 refine QSound.of_wpcV (C:=cxQ Tryz.prog Φ0 noΘ noΨ [] [9000] 41) 9000 Tryz.func16 rfl rfl rfl (Fit.all (G:=GG) hΦ0 hnoΘ hnoΨ mixed) rfl (fun args h=>?_) (fun args h=>?_)
 · obtain ⟨k,rfl,h1,h2⟩:=h
   exact ⟨0,Int.le_refl _,h1⟩
 · obtain ⟨k,rfl,h1,h2⟩:=h
   refine ⟨by simp [cxQ],?_⟩
   refine AWp.look_in (κ:=9000) (J:=Tp) rfl (fun cs hJ hone=>?_)
   obtain ⟨ints,at',rfl,hk,hl,hi⟩:=hJ
   refine wpc_sound (T:=plan0) _ _ _ ?_
   by_cases hlt:at'<ints.length
   · obtain ⟨m,hm,hm1,hm2⟩:∃ m,ints.getD at' default=.int .i64 m/\ -9223372036854775808<=m/\m<=9223372036854775807:=by
       have h3:=hi (ints[at']'hlt) (List.getElem_mem _)
       obtain ⟨m,e,b1,b2⟩:=h3
       exact ⟨m,by simp [List.getD_eq_getElem?_getD,hlt,e],b1,b2⟩
     have c1:decide ((ints.length:Int)<=(at':Int))=false:=by simp;omega
     simp only [c1,hm,List.map_cons,List.map_nil,Tryz.f16,plan0,go_sem,↓reduceIte,reduceCtorEq,Nat.reduceEqDiff,Nat.reduceLT,Nat.reduceAdd,Nat.reduceLeDiff]
     have hw:IntKind.i64.wrap ((at':Int)+1)=((at'+1:Nat):Int):=by rw [i64_in _ (by omega)];omega
     have tp:Tp [.sl ints,.int .i64 ((at'+1:Nat):Int)]:=⟨ints,at'+1,rfl,by omega,hl,hi⟩
     have b1:m.tmod k<k:=Int.tmod_lt_of_pos m (by omega)
     have b2: -k<m.tmod k:=Int.lt_tmod_of_pos m (by omega)
     rw [hw]
     refine ⟨by kernel_rfl,by kernel_rfl,by omega,by omega,fun h=>⟨⟨_,rfl,tp,rfl⟩,?_⟩,fun h=>⟨⟨_,rfl,tp,rfl⟩,?_⟩⟩
     · simp only [decide_eq_true_eq] at h
       exact ⟨_,rfl,by rw [i64_in _ (by omega)];omega,by rw [i64_in _ (by omega)];simp only [arg1];omega⟩
     · simp only [decide_eq_false_iff_not] at h
       exact ⟨_,rfl,by omega,b1⟩
   · have c1:decide ((ints.length:Int)<=(at':Int))=true:=by simp;omega
     simp only [c1,List.map_cons,List.map_nil,Tryz.f16,plan0,go_sem,↓reduceIte,reduceCtorEq,Nat.reduceEqDiff,Nat.reduceLT,Nat.reduceAdd,Nat.reduceLeDiff]
     refine ⟨by kernel_rfl,⟨_,rfl,⟨ints,at',rfl,hk,hl,hi⟩,rfl⟩,⟨0,rfl,Int.le_refl _,h1⟩⟩
noncomputable def Θ1 (g:FuncId):Option QSpec:=putΘ noΘ 16 (qV Tp preN intV okN) g
theorem hΘ1:QTab GG Θ1:=hnoΘ.put w_nS
def preR (args:List PV):Prop:=∃ a b:Int,args=[.int .i64 a,.int .i64 b]/\ -1000000000000000<=a/\a<=b/\b<=1000000000000000
def okR (args:List PV) (n:Int):Prop:=arg1 args<=n/\n<=arg2 args
noncomputable def rangeS:QSpec:=qV Tp preR intV okR
theorem w_rangeS:QSound GG 37 rangeS:=by
 unfold rangeS
 refine QSound.of_wpcV (C:=cxQ Tryz.prog Φ0 Θ1 noΨ [] [9000] 15) 9000 Tryz.func37 rfl rfl rfl (Fit.all (G:=GG) hΦ0 hΘ1 hnoΨ mixed) rfl (fun args h=>?_) (fun args h=>?_)
 · obtain ⟨a,b,rfl,h1,h2,h3⟩:=h
   exact ⟨a,Int.le_refl _,h2⟩
 · obtain ⟨a,b,rfl,h1,h2,h3⟩:=h
   refine ⟨by simp [cxQ],?_⟩
   refine wpc_sound (T:=plan0) _ _ _ ?_
   have hw:IntKind.i64.wrap (IntKind.i64.wrap (b-a)+1)=b-a+1:=by rw [i64_in (b-a) (by omega),i64_in _ (by omega)]
   simp only [hw,Θ1,preN_eq,okN,arg1,intV,Tryz.f37,plan0,go_sem,↓reduceIte,reduceCtorEq,Nat.reduceEqDiff,Nat.reduceLT,↓all_qV,Nat.reduceAdd]
   refine ⟨⟨by omega,by omega⟩,fun n hn=>⟨_,rfl,?_⟩⟩
   rw [i64_in _ (by omega)]
   exact ⟨by simp only [arg1];omega,by simp only [arg2];omega⟩
noncomputable def Θ2 (g:FuncId):Option QSpec:=putΘ Θ1 37 (qV Tp preR intV okR) g
theorem hΘ2:QTab GG Θ2:=hΘ1.put w_rangeS
def preP (args:List PV):Prop:=∃ es,args=[.sl es]/\es≠[]/\es.length<=1000000/\∀ e,e∈es->isI e
def okP (args:List PV) (n:Int):Prop:=∃ es,args=[.sl es]/\intV n∈es
noncomputable def pickS:QSpec:=qV Tp preP intV okP
theorem w_pickS:QSound GG 29 pickS:=by
 unfold pickS
 refine QSound.of_wpcV (C:=cxQ Tryz.prog Φ0 Θ2 noΨ [] [9000] 12) 9000 Tryz.func29 rfl rfl rfl (Fit.all (G:=GG) hΦ0 hΘ2 hnoΨ mixed) rfl (fun args h=>?_) (fun args h=>?_)
 · obtain ⟨es,rfl,h1,h2,h3⟩:=h
   cases es with
   | nil=>exact absurd rfl h1
   | cons e r=>
     obtain ⟨n,rfl,_⟩:=h3 e List.mem_cons_self
     exact ⟨n,_,rfl,List.mem_cons_self⟩
 · obtain ⟨es,rfl,h1,h2,h3⟩:=h
   refine ⟨by simp [cxQ],?_⟩
   refine wpc_sound (T:=plan0) _ _ _ ?_
   have hpos:=List.length_pos_iff.2 h1
   simp only [Θ2,Θ1,preN_eq,okN,arg1,Tryz.f29,plan0,go_sem,↓reduceIte,reduceCtorEq,Nat.reduceEqDiff,Nat.reduceLT,↓all_qVs]
   refine ⟨⟨by omega,by omega⟩,fun n hn=>?_⟩
   obtain ⟨j,rfl⟩:=Int.eq_ofNat_of_zero_le hn.1
   have hj:j<es.length:=by omega
   obtain ⟨m,hm,b1,b2⟩:∃ m,es.getD j default=.int .i64 m/\.int .i64 m∈es/\True:=by
    have h4:=h3 (es[j]'hj) (List.getElem_mem _)
    obtain ⟨m,e,_⟩:=h4
    exact ⟨m,by simp [List.getD_eq_getElem?_getD,hj,e],by rw [<- e];exact List.getElem_mem _,trivial⟩
   simp only [Later_eq,intV,hm,go_sem,Nat.reduceLeDiff]
   exact ⟨hn,m,rfl,es,rfl,b1⟩
noncomputable def Θ3 (g:FuncId):Option QSpec:=putΘ Θ2 29 (qV Tp preP intV okP) g
theorem hΘ3:QTab GG Θ3:=hΘ2.put w_pickS
def preT (args:List PV):Prop:=∃ es,args=[.sl es]/\es.length<=9223372036854775807/\∀ e,e∈es->isI e
noncomputable def newS:ESpec:=psiNew Tp preT
theorem w_newS:ESound GG 7 newS:=by
 unfold newS
 refine ESound.of_new (C:=cxQ Tryz.prog Φ0 noΘ noΨ [] [] 10) (T:=plan0) Tryz.func7 rfl rfl rfl rfl (Fit.all (G:=GG) hΦ0 hnoΘ hnoΨ mixed) (fun args h=>?_)
 obtain ⟨es,rfl,h1,h2⟩:=h
 refine ⟨by simp [cxQ],?_⟩
 simp only [plan0,go_sem,↓reduceIte,reduceCtorEq,Nat.reduceEqDiff,Nat.reduceLT,Nat.reduceAdd,Nat.reduceLeDiff]
 refine ⟨⟨by split <;> omega,by split <;> omega,fun p hp=>?_⟩,_,rfl,⟨_,0,rfl,Nat.zero_le _,?_,fun e he=>h2 e (List.mem_of_mem_take he)⟩,rfl⟩
 · obtain ⟨n,rfl,_⟩:=h2 p hp;rfl
 · rw [List.length_take]
   split <;> omega
noncomputable def Ψ1 (g:FuncId):Option ESpec:=putΨ noΨ 7 newS g
theorem hΨ1:ETab GG Ψ1:=hnoΨ.put w_newS psiNew_mono
theorem drop_getD {s:List UInt8} {i:Nat} (h:i<s.length):s.drop i=s.getD i 0::s.drop (i+1):=by
 rw [List.drop_eq_getElem_cons h];simp [List.getD_eq_getElem?_getD,h]
def goodF:Int->Int->List UInt8->Bool
 | d,g,[]=>decide (0<d)&&decide (g<=4)
 | d,g,c::r=>bif ((c.toNat:Int) == 46) then (bif d == 0 then false else goodF 0 (g+1) r) else
     bif (decide ((c.toNat:Int)<48)||decide (57<(c.toNat:Int))||d == 0&&(c.toNat:Int) == 48||d == 2) then false else goodF (d+1) g r
noncomputable def goodS:PSpec:=on_s (fun s=>s.length<=4611686018427387904) (fun s=>.bool (goodF 0 1 s))
theorem w_goodS:PSound GG 76 goodS:=by
 refine PSound.of_wpc (C:=cxP Tryz.prog Φ0 [] 54) (T:=plan0) Tryz.func76 rfl rfl rfl (Fit.pure (G:=GG) hΦ0 mixed) (fun args h=>?_)
 unfold goodS at h
 obtain ⟨s,rfl,hp⟩:=on_s_inv h
 refine ⟨by simp [cxP],?_⟩
 simp only [goodS,on_s_eq,Tryz.f76,argL,plan0]
 simp only [go_sem,↓reduceIte,Nat.reduceLT]
 refine AWp.loop (T:=plan0) (α:=Nat × Int × Int) (fun x=>([(0,.pv (.str s)),(5,.pv (.int .i64 x.1)),(3,.pv (.int .i64 x.2.1)),(4,.pv (.int .i64 x.2.2))],[]))
  (fun x=>x.1<=s.length/\(0<=x.2.1/\x.2.1<=2)/\(0<=x.2.2/\x.2.2<=x.1+1)/\goodF x.2.1 x.2.2 (s.drop x.1)=goodF 0 1 s) (fun x=>s.length-x.1) ⟨(0,0,1),⟨Nat.zero_le _,⟨by decide,by decide⟩,⟨by decide,by decide⟩,rfl⟩,⟨by simp [fitR,look],trivial,rfl,rfl,rfl⟩⟩ ?_
 rintro ⟨i,d,g⟩ ⟨h1,h2,h3,h4⟩
 simp only at h1 h2 h3 h4
 have hi:i<s.length->IntKind.i64.wrap ((i:Int)+1)=((i+1:Nat):Int):=fun _=>by rw [i64_in _ (by omega)];omega
 have hg:IntKind.i64.wrap (g+1)=g+1:=i64_in _ (by omega)
 have hd:IntKind.i64.wrap (d+1)=d+1:=i64_in _ (by omega)
 by_cases hlt:i<s.length
 · rw [drop_getD hlt,goodF] at h4
   have c0:decide ((i:Int)<(s.length:Int))=true:=by simp;omega
   simp only [c0,hi hlt,hg,hd,plan0,indexA,go_sem,↓reduceIte,reduceCtorEq,Nat.reduceEqDiff,Nat.reduceLT]
   generalize ((s.getD i 0).toNat:Int)=n at h4 ⊢
   refine ⟨by omega,fun h=>?_,fun h=>?_⟩
   · rw [h] at h4
     refine ⟨fun h'=>?_,fun h'=>?_⟩
     · rw [h'] at h4;exact congrArg PV.bool h4
     · rw [h'] at h4
       exact ⟨(i+1,0,g+1),⟨hlt,⟨by simp only;omega,by simp only;omega⟩,⟨by simp only;omega,by simp only;omega⟩,h4⟩,by simp only;omega,⟨by simp [fitR,look],trivial,rfl,rfl,rfl⟩⟩
   · rw [h] at h4
     refine ⟨by omega,fun _=>by omega,fun _=>by omega,fun h5 h6=>by rw [h5,h6];rfl,fun h'=>?_,fun h'=>?_⟩
     · rw [h'] at h4;exact congrArg PV.bool h4
     · rw [h'] at h4
       refine ⟨(i+1,d+1,g),⟨hlt,⟨by simp only;omega,?_⟩,⟨by simp only;omega,by simp only;omega⟩,h4⟩,by simp only;omega,⟨by simp [fitR,look],trivial,rfl,rfl,rfl⟩⟩
       simp only [Bool.or_eq_false_iff,beq_eq_false_iff_ne] at h'
       have:=h'.2
       simp only
       omega
 · have c0:decide ((i:Int)<(s.length:Int))=false:=by simp;omega
   have:s.drop i=[]:=List.drop_eq_nil_of_le (by omega)
   rw [this,goodF] at h4
   simp only [c0,plan0,indexA,go_sem,↓reduceIte,reduceCtorEq,Nat.reduceEqDiff,Nat.reduceLT]
   exact congrArg PV.bool h4
noncomputable def Φ1 (g:FuncId):PSpec:=putΦ Φ0 76 goodS g
theorem hΦ1:TabSound GG Φ1:=hΦ0.put w_goodS
def on_ss (p:List UInt8->List UInt8->Prop) (f:List UInt8->List UInt8->PV):PSpec
 | [.str a0,.str a1]=>(p a0 a1,f a0 a1)
 | _=>(False,default)
theorem on_ss_eq {p:List UInt8->List UInt8->Prop} {f:List UInt8->List UInt8->PV} {a0:List UInt8} {a1:List UInt8}:on_ss p f [.str a0,.str a1]=(p a0 a1,f a0 a1):=rfl
theorem on_ss_inv {p:List UInt8->List UInt8->Prop} {f:List UInt8->List UInt8->PV} {args:List PV} (h:(on_ss p f args).1):∃ a0:List UInt8,∃ a1:List UInt8,args=[.str a0,.str a1]/\p a0 a1:=by
 unfold on_ss at h
 split at h
 · exact ⟨_,_,rfl,h⟩
 · exact h.elim
def gd (s:List UInt8):Bool:=goodF 0 1 s
def undF (a b:List UInt8):Bool:=bif (!gd a||!gd b||decide ((a.length:Int)<b.length)||!(a.take b.length == b)) then false else ((a.length:Int) == b.length||((a.getD b.length 0).toNat:Int) == 46)
noncomputable def underS:PSpec:=on_ss (fun a b=>a.length<=4611686018427387904/\b.length<=4611686018427387904) (fun a b=>.bool (undF a b))
theorem w_underS:PSound GG 77 underS:=by
 refine PSound.of_wpc (C:=cxP Tryz.prog Φ1 [] 40) (T:=plan0) Tryz.func77 rfl rfl rfl (Fit.pure (G:=GG) hΦ1 mixed) (fun args h=>?_)
 unfold underS at h
 obtain ⟨a,b,rfl,hp⟩:=on_ss_inv h
 refine ⟨by simp [cxP],?_⟩
 simp only [underS,on_ss_eq,Tryz.f77,argL,plan0]
 simp only [Φ1,goodS,on_s_eq,indexA,go_sem,↓reduceIte,reduceCtorEq,Nat.reduceEqDiff,Nat.reduceLT]
 and_intros
 all_goals first
  | exact hp.1
  | exact fun _=>hp.2
  | (intro h1;simp only [Bool.not_eq_true',Bool.or_eq_false_iff,decide_eq_false_iff_not] at h1;omega)
  | (intro h1;unfold undF gd;rw [h1];rfl)
  | (intro h1
     refine ⟨fun h2=>?_,?_⟩
     · simp only [Bool.not_eq_true',Bool.or_eq_false_iff,decide_eq_false_iff_not,beq_eq_false_iff_ne] at h1 h2
       omega
     · unfold undF gd;rw [h1];rfl)
  | (intro h1;simpa using h1)
def dotF (s:List UInt8):Nat->List UInt8
 | 0=>[]
 | k+1=>bif ((s.getD k 0).toNat:Int) == 46 then s.take k else dotF s k
def parF (s:List UInt8):List UInt8:=bif gd s then dotF s s.length else []
noncomputable def parentS:PSpec:=on_s (fun s=>s.length<=4611686018427387904) (fun s=>.str (parF s))
theorem w_parentS:PSound GG 78 parentS:=by
 refine PSound.of_wpc (C:=cxP Tryz.prog Φ1 [] 21) (T:=plan0) Tryz.func78 rfl rfl rfl (Fit.pure (G:=GG) hΦ1 mixed) (fun args h=>?_)
 unfold parentS at h
 obtain ⟨s,rfl,hp⟩:=on_s_inv h
 refine ⟨by simp [cxP],?_⟩
 simp only [parentS,on_s_eq,Tryz.f78,argL,plan0]
 simp only [Φ1,goodS,on_s_eq,go_sem,↓reduceIte,reduceCtorEq,Nat.reduceLT]
 refine ⟨hp,fun h1=>?_,fun h1=>?_⟩
 · unfold parF gd;simp only [Bool.not_eq_true'] at h1;rw [h1];rfl
 · have h1:goodF 0 1 s=true:=by simpa using h1
   refine AWp.loop (T:=plan0) (α:=Nat) (fun k=>([(0,.pv (.str s)),(3,.pv (.int .i64 ((k:Int)-1)))],[])) (fun k=>k<=s.length/\dotF s k=parF s) (fun k=>k)
    ⟨s.length,⟨Nat.le_refl _,by unfold parF gd;rw [h1];rfl⟩,⟨by simp [fitR,look,i64_in ((s.length:Int)-1) (by omega)],trivial,rfl,rfl,rfl⟩⟩ ?_
   rintro k ⟨h2,h3⟩
   cases k with
   | zero=>
     have c0:decide ((0:Int)<=((0:Nat):Int)-1)=false:=by decide
     simp only [plan0,indexA,go_sem,↓reduceIte,reduceCtorEq,Nat.reduceEqDiff,Nat.reduceLT]
     exact ⟨fun h=>absurd h (by decide),fun _=>congrArg PV.str h3⟩
   | succ k=>
     have c1:((k+1:Nat):Int)-1=(k:Int):=by omega
     have c0:decide ((0:Int)<=(k:Int))=true:=by simp
     have c2:IntKind.i64.wrap ((k:Int)-1)=(k:Int)-1:=i64_in _ (by omega)
     simp only [c1,c0,c2,plan0,indexA,go_sem,↓reduceIte,reduceCtorEq,Nat.reduceEqDiff,Nat.reduceLT]
     rw [dotF] at h3
     refine ⟨by omega,fun h4=>⟨by omega,?_⟩,fun h4=>?_⟩
     · rw [h4] at h3;exact congrArg PV.str h3
     · rw [h4] at h3
       exact ⟨k,⟨by omega,h3⟩,by omega,⟨by simp [fitR,look],trivial,rfl,rfl,rfl⟩⟩
noncomputable def Φ2 (g:FuncId):PSpec:=putΦ (putΦ Φ1 77 underS) 78 parentS g
theorem hΦ2:TabSound GG Φ2:=(hΦ1.put w_underS).put w_parentS
def parG:List UInt8->List PV->Int->Int->Int->List PV
 | [],acc,v,d,f=>bif d == 0||decide (2<d)||f == 48 then [] else (if 4<(acc++[intV v]).length then [] else acc++[intV v])
 | c::r,acc,v,d,f=>bif (c.toNat:Int) == 46 then (bif d == 0||decide (2<d)||f == 48 then [] else parG r (acc++[intV v]) 0 0 0) else
     bif decide ((c.toNat:Int)<48)||decide (57<(c.toNat:Int)) then [] else parG r acc (10 * v+((c.toNat:Int)-48)) (d+1) (bif d == 0 then (c.toNat:Int) else f)
def parts (s:List UInt8):List PV:=if 12<s.length then [] else parG s [] 0 0 0
noncomputable def partsS:PSpec:=on_s (fun s=>s.length<=4611686018427387904) (fun s=>.sl (parts s))
theorem w_partsS:PSound GG 73 partsS:=by
 refine PSound.of_wpc (C:=cxP Tryz.prog Φ0 [] 68) (T:=plan0) Tryz.func73 rfl rfl rfl (Fit.pure (G:=GG) hΦ0 mixed) (fun args h=>?_)
 unfold partsS at h
 obtain ⟨s,rfl,hp⟩:=on_s_inv h
 refine ⟨by simp [cxP],?_⟩
 simp only [partsS,on_s_eq,Tryz.f73,argL,plan0]
 simp only [go_sem,↓reduceIte,reduceCtorEq,Nat.reduceLT]
 refine ⟨fun h1=>?_,fun h1=>?_⟩
 · have:12<s.length:=by simp at h1;omega
   unfold parts;rw [if_pos this]
 · have h12:s.length<=12:=by simp at h1;omega
   refine AWp.adoptS (s:=3) (κ:=8000) (k:=1) (by simp [look]) rfl (by decide) ?_
   refine AWp.loop (T:=plan0) (α:=Nat × List PV × Int × Int × Int) (fun x=>([(0,.pv (.str s)),(6,.pv (.int .i64 x.1)),(3,.rs 8000 x.2.1.length),(4,.pv (.int .i64 x.2.2.1)),(5,.pv (.int .i64 x.2.2.2.1))],[(8000,.row 1 x.2.1)]))
    (fun x=>x.1<=s.length+1/\x.2.1.length<=x.1/\(0<=x.2.2.2.1/\x.2.2.2.1<=x.1)/\(0<=x.2.2.1/\x.2.2.1<10 ^ x.1)/\(0<x.2.2.2.1->x.2.2.2.2=((s.getD ((x.1:Int)-x.2.2.2.1).toNat 0).toNat:Int))/\
      (if x.1<=s.length then parG (s.drop x.1) x.2.1 x.2.2.1 x.2.2.2.1 x.2.2.2.2 else (if 4<x.2.1.length then [] else x.2.1))=parts s)
    (fun x=>s.length+2-x.1) ⟨(0,[],0,0,0),?_,⟨by simp [fitR,look,upd],by simp [fitH,hget,hset],rfl,rfl,rfl⟩⟩ ?_
   · refine ⟨Nat.zero_le _,Nat.le_refl _,⟨by decide,by decide⟩,⟨by decide,by decide⟩,fun h=>absurd h (by decide),?_⟩
     rw [if_pos (Nat.zero_le _)];unfold parts;rw [if_neg (by omega)];rfl
   rintro ⟨i,acc,v,d,f⟩ ⟨h2,h3,h4,h5,h6,h7⟩
   simp only at h2 h3 h4 h5 h6 h7
   have h10:(10:Int) ^ i<=10 ^ 13:=by
    have:(10:Nat) ^ i<=10 ^ 13:=Nat.pow_le_pow_right (by decide) (by omega)
    exact_mod_cast this
   have hw:IntKind.i64.wrap ((i:Int)-d)=(i:Int)-d:=i64_in _ (by omega)
   have hi1:IntKind.i64.wrap ((i:Int)+1)=((i+1:Nat):Int):=by rw [i64_in _ (by omega)];omega
   have hd1:IntKind.i64.wrap (d+1)=d+1:=i64_in _ (by omega)
   have hE:(d == 0||decide (2<d)||((s.getD ((i:Int)-d).toNat 0).toNat:Int) == 48)=(d == 0||decide (2<d)||f == 48):=by
    by_cases h:0<d
    · rw [<- h6 h]
    · have:d=0:=by omega
      subst this;rfl
   by_cases hle:i<=s.length
   · have c0:decide ((i:Int)<=(s.length:Int))=true:=by simp;omega
     rw [if_pos hle] at h7
     simp only [c0,hw,hE,hi1,hd1,plan0,indexA,go_sem,↓reduceIte,reduceCtorEq,Nat.reduceEqDiff,Nat.reduceLT,Nat.reduceLeDiff,Nat.reduceMul]
     refine ⟨fun h=>?_,fun h=>?_,fun h=>?_⟩
     · have:¬ (i:Int)=s.length:=by simpa using h
       omega
     · have hg:parG (s.drop i) acc v d f=bif (d == 0||decide (2<d)||f == 48) then [] else (if i+1<=s.length then parG (s.drop (i+1)) (acc++[intV v]) 0 0 0 else (if 4<(acc++[intV v]).length then [] else acc++[intV v])):=by
         by_cases hlt:i<s.length
         · have e1:((i:Int) == (s.length:Int))=false:=by simp;omega
           rw [e1,Bool.false_or] at h
           rw [drop_getD hlt,parG,h,if_pos (by omega)];rfl
         · rw [List.drop_eq_nil_of_le (by omega),parG,if_neg (show ¬ (i+1<=s.length) by omega)]
       rw [hg] at h7
       refine ⟨fun h8=>?_,fun h8=>?_,fun h8=>?_⟩
       · simp only [Bool.not_eq_true',Bool.or_eq_false_iff,beq_eq_false_iff_ne,decide_eq_false_iff_not] at h8
         omega
       · rw [h8] at h7;exact congrArg PV.sl h7
       · rw [h8] at h7
         refine ⟨rfl,fun e he=>by simp only [List.mem_singleton] at he;subst he;rfl,Nat.le_refl _,by omega,by simp only [maxLen];omega,(i+1,acc++[intV v],0,0,0),⟨by simp only;omega,by simp only [List.length_append,List.length_cons,List.length_nil];omega,⟨by simp only;omega,by simp only;omega⟩,⟨by simp only;omega,?_⟩,fun h9=>absurd h9 (by simp only;omega),h7⟩,by simp only;omega,⟨by simp [fitR,look],by simp [fitH,hget,intV],rfl,rfl,rfl⟩⟩
         simp only
         exact Int.pow_pos (by decide)
     · have hlt:i<s.length:=by
         simp only [Bool.or_eq_false_iff,beq_eq_false_iff_ne] at h
         have:=h.1
         omega
       have e1:((i:Int) == (s.length:Int))=false:=by simp;omega
       rw [e1,Bool.false_or] at h
       rw [drop_getD hlt,parG,h,cond_false] at h7
       refine ⟨by omega,fun _=>by omega,fun h8=>?_,fun h8=>⟨by omega,?_⟩⟩
       · rw [h8] at h7;exact congrArg PV.sl h7
       · rw [h8,cond_false] at h7
         simp only [Bool.or_eq_false_iff,decide_eq_false_iff_not] at h8
         have e2:IntKind.i64.wrap (IntKind.i64.wrap (10 * v)+IntKind.i64.wrap (IntKind.u8.wrap (((s.getD i 0).toNat:Int)-48)))=10 * v+(((s.getD i 0).toNat:Int)-48):=by
          rw [u8_in _ (by omega),i64_in (10 * v) (by omega),i64_in (((s.getD i 0).toNat:Int)-48) (by omega),i64_in _ (by omega)]
         have e3:(10:Int) ^ (i+1)=10 ^ i * 10:=Int.pow_succ 10 i
         refine ⟨(i+1,acc,10 * v+(((s.getD i 0).toNat:Int)-48),d+1,bif d == 0 then ((s.getD i 0).toNat:Int) else f),⟨by simp only;omega,by simp only;omega,⟨by simp only;omega,by simp only;omega⟩,⟨by simp only;omega,by simp only;omega⟩,fun _=>?_,?_⟩,by simp only;omega,⟨by simp only [fitR,look_cons,Nat.reduceEqDiff,↓reduceIte,e2,and_self],by simp [fitH,hget],rfl,rfl,rfl⟩⟩
         · simp only
           have e4:((i+1:Nat):Int)-(d+1)=(i:Int)-d:=by omega
           rw [e4]
           by_cases h9:0<d
           · have:(d == 0)=false:=by simp;omega
             rw [this];exact h6 h9
           · have:d=0:=by omega
             subst this
             simp
         · simp only
           rw [if_pos (by omega)];exact h7
   · have c0:decide ((i:Int)<=(s.length:Int))=false:=by simp;omega
     rw [if_neg hle] at h7
     simp only [c0,hw,hE,hi1,hd1,plan0,indexA,go_sem,↓reduceIte,reduceCtorEq,Nat.reduceEqDiff,Nat.reduceLT,Nat.reduceLeDiff,Nat.reduceMul]
     refine ⟨fun h=>?_,fun h=>⟨Nat.le_refl _,?_⟩⟩
     · have:4<acc.length:=by simp at h;omega
       rw [if_pos this] at h7;exact congrArg PV.sl h7
     · have:¬ 4<acc.length:=by simp at h;omega
       rw [if_neg this] at h7;rw [List.take_length];exact congrArg PV.sl h7
end Go.AM
