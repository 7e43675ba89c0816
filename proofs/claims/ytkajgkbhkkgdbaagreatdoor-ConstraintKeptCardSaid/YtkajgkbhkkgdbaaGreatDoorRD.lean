/-
  A part of a proof.
-/
import Derived.Test.YtkajgkbhkkgdbaaGreatDoorP6
set_option linter.unusedSimpArgs false
set_option linter.unusedVariables false
namespace Go.AM
open Go Go.Proofs Go.IntWalk
set_option maxRecDepth 100000
def on_ll (p:List PV->List PV->Prop) (f:List PV->List PV->PV):PSpec
 | [.sl a0,.sl a1]=>(p a0 a1,f a0 a1)
 | _=>(False,default)
theorem on_ll_eq {p:List PV->List PV->Prop} {f:List PV->List PV->PV} {a0:List PV} {a1:List PV}:on_ll p f [.sl a0,.sl a1]=(p a0 a1,f a0 a1):=rfl
theorem on_ll_inv {p:List PV->List PV->Prop} {f:List PV->List PV->PV} {args:List PV} (h:(on_ll p f args).1):∃ a0:List PV,∃ a1:List PV,args=[.sl a0,.sl a1]/\p a0 a1:=by
 unfold on_ll at h
 split at h
 · exact ⟨_,_,rfl,h⟩
 · exact h.elim
def nOf:PV->Int
 | .int _ n=>n
 | _=>0
def allI (es:List PV):Prop:=∃ l:List Int,es=l.map intV
noncomputable def Φ4 (g:FuncId):PSpec:=putΦ (putΦ Φ2 73 partsS) 121 partsCS g
theorem hΦ4:TabSound GG Φ4:=(hΦ2.put w_partsS).put w_partsCS
noncomputable def equalS:PSpec:=on_ll (fun a b=>allI a/\allI b/\a.length<=4611686018427387904) (fun a b=>.bool (a.map nOf == b.map nOf))
theorem getD_intV {l:List Int} {i:Nat} (h:i<l.length):(l.map intV).getD i default=.int .i64 (l.getD i 0):=by
 simp [List.getD_eq_getElem?_getD,h,intV]
theorem w_equalS:PSound GG 158 equalS:=by
 refine PSound.of_wpc (C:=cxP Tryz.prog Φ0 [] 26) (T:=plan0) Tryz.func158 rfl rfl rfl (Fit.pure (G:=GG) hΦ0 mixed) (fun args h=>?_)
 unfold equalS at h
 obtain ⟨p,q,rfl,hp⟩:=on_ll_inv h
 refine ⟨by simp [cxP],?_⟩
 simp only [equalS,on_ll_eq,Tryz.f158,argL,plan0]
 obtain ⟨⟨a,rfl⟩,⟨b,rfl⟩,hl⟩:=hp
 have hn:∀ l:List Int,(l.map intV).map nOf=l:=fun l=>by simp [List.map_map,Function.comp_def,nOf,intV]
 simp only [List.length_map] at hl
 simp only [hn,List.length_map,go_sem,↓reduceIte,reduceCtorEq,Nat.reduceEqDiff,Nat.reduceLT]
 refine ⟨fun h=>?_,fun h=>?_⟩
 · have:¬ a=b:=fun e=>by subst e;simp at h
   simp [this]
 · have h9:(a.length:Int)=b.length:=by simpa using h
   have hab:a.length=b.length:=by omega
   refine AWp.loop (T:=plan0) (α:=Nat) (fun i=>([(0,.pv (.sl (a.map intV))),(1,.pv (.sl (b.map intV))),(12,.pv (.int .i64 a.length)),(13,.pv (.int .i64 i))],[])) (fun i=>i<=a.length/\a.take i=b.take i) (fun i=>a.length-i)
    ⟨0,⟨Nat.zero_le _,rfl⟩,⟨by simp [fitR,look],trivial,rfl,rfl,rfl⟩⟩ ?_
   rintro i ⟨h1,h2⟩
   have hi1:i<a.length->IntKind.i64.wrap ((i:Int)+1)=((i+1:Nat):Int):=fun _=>by rw [i64_in _ (by omega)];omega
   by_cases hlt:i<a.length
   · have c0:decide ((i:Int)<(a.length:Int))=true:=by simp;omega
     have g1:=getD_intV hlt
     have g2:=getD_intV (l:=b) (i:=i) (by omega)
     simp only [c0,g1,g2,hi1 hlt,List.length_map,plan0,go_sem,↓reduceIte,reduceCtorEq,Nat.reduceEqDiff,Nat.reduceLT,Nat.reduceLeDiff]
     refine ⟨by kernel_rfl,by omega,by omega,fun h3=>?_,fun h3=>⟨i+1,⟨by omega,?_⟩,by omega,⟨by simp [fitR,look],trivial,rfl,rfl,rfl⟩⟩⟩
     · have:¬ a=b:=fun e=>by subst e;simp at h3
       simp [this]
     · have h4:a.getD i 0=b.getD i 0:=by simpa using h3
       rw [List.take_add_one,List.take_add_one,h2]
       simp only [List.getD_eq_getElem?_getD,List.getElem?_eq_getElem hlt,List.getElem?_eq_getElem (show i<b.length by omega),Option.getD_some,Option.toList_some] at h4 ⊢
       rw [h4]
   · have c0:decide ((i:Int)<(a.length:Int))=false:=by simp;omega
     simp only [c0,plan0,go_sem,↓reduceIte,reduceCtorEq,Nat.reduceEqDiff,Nat.reduceLT]
     have e1:i=a.length:=by omega
     rw [List.take_of_length_le (by omega),List.take_of_length_le (by omega)] at h2
     simp [h2]
noncomputable def Φ5 (g:FuncId):PSpec:=putΦ Φ4 158 equalS g
theorem hΦ5:TabSound GG Φ5:=hΦ4.put w_equalS
def undC (a b:List UInt8):Bool:=decide (0<(partsR b).length)&&decide ((partsR b).length<=(partsR a).length)&&((partsR a).take (partsR b).length == partsR b)
noncomputable def underCS:PSpec:=on_ss (fun a b=>a.length<=1000000000000/\b.length<=1000000000000) (fun a b=>.bool (undC a b))
theorem partsR_len (s:List UInt8):(partsR s).length<=4:=by
 unfold partsR
 split
 · simp
 · split
   · simp
   · omega
theorem w_underCS:PSound GG 136 underCS:=by
 refine PSound.of_wpc (C:=cxP Tryz.prog Φ5 [] 29) (T:=plan0) Tryz.func136 rfl rfl rfl (Fit.pure (G:=GG) hΦ5 mixed) (fun args h=>?_)
 unfold underCS at h
 obtain ⟨a,b,rfl,hp⟩:=on_ss_inv h
 refine ⟨by simp [cxP],?_⟩
 simp only [underCS,on_ss_eq,Tryz.f136,argL,plan0]
 simp only [Φ5,Φ4,partsCS,equalS,on_s_eq,on_ll_eq,List.length_map,go_sem,↓reduceIte,reduceCtorEq,Nat.reduceEqDiff,Nat.reduceLT]
 have hn:∀ l:List Int,(l.map intV).map nOf=l:=fun l=>by simp [List.map_map,Function.comp_def,nOf,intV]
 have ht:(List.map intV (partsR a)).take (partsR b).length=((partsR a).take (partsR b).length).map intV:=by rw [List.map_take]
 have b1:=partsR_len a
 have b2:=partsR_len b
 refine ⟨hp.1,hp.2,fun h1=>⟨by omega,?_,?_⟩,fun h1=>⟨⟨_,ht⟩,⟨_,rfl⟩,?_⟩,?_⟩
 · simp only [Bool.and_eq_true,decide_eq_true_eq] at h1
   omega
 · intro p hp'
   simp only [List.mem_map] at hp'
   obtain ⟨x,_,rfl⟩:=hp'
   rfl
 · rw [ht,List.length_map,List.length_take];omega
 · rw [ht,hn,hn]
   unfold undC
   simp only [Int.natCast_pos,Int.ofNat_le]
noncomputable def Φ6 (g:FuncId):PSpec:=putΦ Φ5 136 underCS g
theorem hΦ6:TabSound GG Φ6:=hΦ5.put w_underCS
noncomputable def Φ7 (g:FuncId):PSpec:=Φ6 g
theorem hΦ7:TabSound GG Φ7:=hΦ6
noncomputable def Φ8 (g:FuncId):PSpec:=Φ7 g
theorem hΦ8:TabSound GG Φ8:=hΦ7
def sumL:List Int->Int
 | []=>0
 | x::r=>x+sumL r
theorem sumL_append (a b:List Int):sumL (a++b)=sumL a+sumL b:=by
 induction a with
 | nil=>simp [sumL]
 | cons x r ih=>simp only [List.cons_append,sumL,ih];omega
noncomputable def Φ9 (g:FuncId):PSpec:=Φ8 g
theorem hΦ9:TabSound GG Φ9:=hΦ8
def srcOf:PV->List UInt8
 | .agg [.str s,_,_]=>s
 | _=>[]
def pctOf:PV->Int
 | .agg [_,_,.int _ p]=>p
 | _=>0
noncomputable def Φ10 (g:FuncId):PSpec:=Φ9 g
theorem hΦ10:TabSound GG Φ10:=hΦ9
def on_ (p:Prop) (f:PV):PSpec
 | []=>(p ,f )
 | _=>(False,default)
theorem on__eq {p:Prop} {f:PV}  :on_ p f []=(p ,f ):=rfl
theorem on__inv {p:Prop} {f:PV} {args:List PV} (h:(on_ p f args).1):args=[]/\p  :=by
 unfold on_ at h
 split at h
 · exact ⟨rfl,h⟩
 · exact h.elim
end Go.AM
namespace Go.AM
open Go Go.Proofs Go.IntWalk
attribute [local go_sem] List.length_map
set_option maxRecDepth 100000
theorem parG_int:∀ (s:List UInt8) (acc:List Int) (v d f:Int),∃ l:List Int,parG s (acc.map intV) v d f=l.map intV/\l.length<=4
 | [],acc,v,d,f=>by
   unfold parG
   cases (d == 0||decide (2<d)||f == 48) with
   | true=>exact ⟨[],rfl,by decide⟩
   | false=>
     simp only [cond_false]
     split
     · exact ⟨[],rfl,by decide⟩
     · rename_i h
       exact ⟨acc++[v],by simp,by simp only [List.length_append,List.length_map,List.length_cons,List.length_nil] at h ⊢;omega⟩
 | c::r,acc,v,d,f=>by
   unfold parG
   cases h1:((c.toNat:Int) == 46) with
   | true=>
     simp only [cond_true]
     cases (d == 0||decide (2<d)||f == 48) with
     | true=>exact ⟨[],rfl,by decide⟩
     | false=>
       have:=parG_int r (acc++[v]) 0 0 0
       simpa using this
   | false=>
     simp only [cond_false]
     cases (decide ((c.toNat:Int)<48)||decide (57<(c.toNat:Int))) with
     | true=>exact ⟨[],rfl,by decide⟩
     | false=>exact parG_int r acc _ _ _
theorem parts_int (s:List UInt8):∃ l:List Int,parts s=l.map intV/\l.length<=4:=by
 unfold parts
 split
 · exact ⟨[],rfl,by decide⟩
 · exact parG_int s [] 0 0 0
def pI (s:List UInt8):List Int:=(parts s).map nOf
theorem parts_eq (s:List UInt8):parts s=(pI s).map intV/\(pI s).length<=4:=by
 obtain ⟨l,h1,h2⟩:=parts_int s
 have:pI s=l:=by unfold pI;rw [h1];simp [List.map_map,Function.comp_def,nOf,intV]
 rw [this]
 exact ⟨h1,h2⟩
def cmpL:List Int->List Int->Int
 | [],[]=>0
 | [],_::_=> -1
 | _::_,[]=>1
 | x::p,y::q=>if x<y then -1 else if y<x then 1 else cmpL p q
def cmpF (a b:List UInt8):Int:=
 bif (((pI a).length:Int) == 0||((pI b).length:Int) == 0) then
  (bif decide (0<((pI a).length:Int)) then 1 else bif decide (0<((pI b).length:Int)) then -1 else bif Op.bytesLess a b then -1 else bif !(Op.bytesLess a b||a == b) then 1 else 0)
 else cmpL (pI a) (pI b)
theorem cmpL_end {p q:List Int} {i:Nat} (h1:i<=p.length) (h2:i<=q.length) (h:¬ (i<p.length/\i<q.length)):cmpL (p.drop i) (q.drop i)=if p.length<q.length then -1 else if q.length<p.length then 1 else 0:=by
 by_cases h3:p.length<q.length
 · rw [show p.drop i=[] from List.drop_eq_nil_of_le (by omega),List.drop_eq_getElem_cons (show i<q.length by omega),if_pos h3];rfl
 · by_cases h4:q.length<p.length
   · rw [List.drop_eq_getElem_cons (show i<p.length by omega),show q.drop i=[] from List.drop_eq_nil_of_le (by omega),if_neg h3,if_pos h4];rfl
   · rw [show q.drop i=[] from List.drop_eq_nil_of_le (by omega),show p.drop i=[] from List.drop_eq_nil_of_le (by omega),if_neg h3,if_neg h4];rfl
noncomputable def compareS:PSpec:=on_ss (fun a b=>a.length<=4611686018427387904/\b.length<=4611686018427387904) (fun a b=>.int .i64 (cmpF a b))
theorem w_compareS:PSound GG 69 compareS:=by
 refine PSound.of_wpc (C:=cxP Tryz.prog Φ10 [] 78) (T:=plan0) Tryz.func69 rfl rfl rfl (Fit.pure (G:=GG) hΦ10 mixed) (fun args h=>?_)
 unfold compareS at h
 obtain ⟨a,b,rfl,hp⟩:=on_ss_inv h
 refine ⟨by simp [cxP],?_⟩
 simp only [compareS,on_ss_eq,Tryz.f69,argL,plan0]
 obtain ⟨e1,n1⟩:=parts_eq a
 obtain ⟨e2,n2⟩:=parts_eq b
 unfold cmpF
 generalize pI a=p at e1 n1 ⊢
 generalize pI b=q at e2 n2 ⊢
 simp only [e1,e2,Φ10,Φ9,Φ8,Φ7,Φ6,Φ5,Φ4,partsS,on_s_eq,go_sem,↓reduceIte,reduceCtorEq,Nat.reduceEqDiff,Nat.reduceLT]
 refine ⟨hp.1,hp.2,fun h1=>⟨fun h2=>?_,fun h2=>⟨fun h3=>?_,fun h3=>⟨fun h4=>?_,fun h4=>⟨fun h5=>?_,fun h5=>?_⟩⟩⟩⟩,fun h1=>?_⟩
 · rw [h1,h2];rfl
 · rw [h1,h2,h3];rfl
 · rw [h1,h2,h3,h4];rfl
 · rw [h4] at h5;rw [h1,h2,h3,h4,h5];rfl
 · rw [h4] at h5;rw [h1,h2,h3,h4,h5];rfl
 · rw [h1,cond_false]
   refine AWp.loop (T:=plan0) (α:=Nat) (fun i=>([(5,.pv (.sl (p.map intV))),(6,.pv (.sl (q.map intV))),(7,.pv (.int .i64 i))],[])) (fun i=>(i<=p.length/\i<=q.length)/\cmpL (p.drop i) (q.drop i)=cmpL p q) (fun i=>p.length-i)
    ⟨0,⟨⟨Nat.zero_le _,Nat.zero_le _⟩,rfl⟩,⟨by simp [fitR,look],trivial,rfl,rfl,rfl⟩⟩ ?_
   rintro i ⟨⟨g1,g2⟩,g3⟩
   have hi1:IntKind.i64.wrap ((i:Int)+1)=((i+1:Nat):Int):=by rw [i64_in _ (by omega)];omega
   by_cases hlt:i<p.length/\i<q.length
   · have c0:decide ((i:Int)<(p.length:Int))=true:=by simp;omega
     have c1:decide ((i:Int)<(q.length:Int))=true:=by simp;omega
     have k1:=getD_intV hlt.1
     have k2:=getD_intV hlt.2
     have d1:p.drop i=p.getD i 0::p.drop (i+1):=by rw [List.drop_eq_getElem_cons hlt.1];simp [List.getD_eq_getElem?_getD,hlt.1]
     have d2:q.drop i=q.getD i 0::q.drop (i+1):=by rw [List.drop_eq_getElem_cons hlt.2];simp [List.getD_eq_getElem?_getD,hlt.2]
     rw [d1,d2,cmpL] at g3
     simp only [c0,c1,k1,k2,hi1,plan0,go_sem,↓reduceIte,reduceCtorEq,Nat.reduceEqDiff,Nat.reduceLT,Nat.reduceLeDiff]
     refine ⟨by kernel_rfl,by omega,by omega,fun h3=>?_,fun h3=>⟨by kernel_rfl,by omega,by omega,fun h4=>?_,fun h4=>⟨i+1,⟨⟨by omega,by omega⟩,?_⟩,by omega,⟨by simp [fitR,look],trivial,rfl,rfl,rfl⟩⟩⟩⟩
     · rw [<- g3,if_pos (by simpa using h3)]
     · rw [<- g3,if_neg (by simpa using h3),if_pos (by simpa using h4)]
     · rw [<- g3,if_neg (by simpa using h3),if_neg (by simpa using h4)]
   · have hcond:(decide ((i:Int)<(p.length:Int))&&decide ((i:Int)<(q.length:Int)))=false:=by
       by_cases h9:i<p.length
       · have:¬ (i:Int)<q.length:=by omega
         simp [this]
       · have:¬ (i:Int)<p.length:=by omega
         simp [this]
     simp only [hcond,plan0,go_sem,↓reduceIte,Nat.reduceEqDiff,Nat.reduceLT]
     rw [cmpL_end g1 g2 hlt] at g3
     rw [<- g3]
     refine ⟨fun h3=>?_,fun h3=>⟨fun h4=>?_,fun h4=>?_⟩⟩
     · simp only [decide_eq_true_eq] at h3
       rw [if_pos (by omega)]
     · simp only [decide_eq_true_eq,decide_eq_false_iff_not] at h3 h4
       rw [if_neg (by omega),if_pos (by omega)]
     · simp only [decide_eq_false_iff_not] at h3 h4
       rw [if_neg (by omega),if_neg (by omega)]
theorem w_itoaS:PSound GG 125 itoaQ:=itoa_sound lItoa ⟨_,Tryz.func125,by kernel_rfl,by kernel_rfl⟩ (fun w h=>(show (cellE _ w/\cellE _ w)/\cellI _ w/\Lib.TabIs GG.P w "internal/strconv.uint64pow10" .u64 Lib.pow10Tab from h).2.2)
noncomputable def Φ11 (g:FuncId):PSpec:=putΦ (putΦ Φ10 69 compareS) 125 itoaQ g
theorem hΦ11:TabSound GG Φ11:=(hΦ10.put w_compareS).put w_itoaS
def on_l (p:List PV->Prop) (f:List PV->PV):PSpec
 | [.sl a0]=>(p a0,f a0)
 | _=>(False,default)
theorem on_l_eq {p:List PV->Prop} {f:List PV->PV} {a0:List PV}:on_l p f [.sl a0]=(p a0,f a0):=rfl
theorem on_l_inv {p:List PV->Prop} {f:List PV->PV} {args:List PV} (h:(on_l p f args).1):∃ a0:List PV,args=[.sl a0]/\p a0:=by
 unfold on_l at h
 split at h
 · exact ⟨_,rfl,h⟩
 · exact h.elim
def codeG:Bool->List UInt8->List Int->List UInt8
 | _,out,[]=>out
 | b,out,n::r=>bif decide (n<1)||decide (99<n) then [] else codeG false ((bif b then out else out++[46])++Lib.itoa n) r
def codeF (l:List Int):List UInt8:=if 4<l.length then [] else codeG true [] l
theorem itoa_len:∀ n:Nat,1<=n->n<=99->(Lib.itoa (n:Int)).length<=2:=by
 intro n h1 h2
 have:∀ n:_root_.Fin 100,(Lib.itoa ((n.val:Nat):Int)).length<=2:=by decide +kernel
 exact this ⟨n,by omega⟩
theorem codeG_len:∀ (b:Bool) (out:List UInt8) (l:List Int),(codeG b out l).length<=out.length+3 * l.length
 | _,out,[]=>by simp [codeG]
 | b,out,n::r=>by
   rw [codeG]
   cases h:decide (n<1)||decide (99<n) with
   | true=>simp
   | false=>
     simp only [Bool.or_eq_false_iff,decide_eq_false_iff_not] at h
     simp only [cond_false]
     have h1:=codeG_len false ((bif b then out else out++[46])++Lib.itoa n) r
     have h2:=itoa_len n.toNat (by omega) (by omega)
     rw [Int.toNat_of_nonneg (by omega)] at h2
     have h3:(bif b then out else out++[46]).length<=out.length+1:=by cases b <;> simp
     simp only [List.length_append,List.length_cons] at h1 ⊢
     omega
noncomputable def codeS:PSpec:=on_l (fun es=>allI es/\es.length<=4611686018427387904) (fun es=>.str (codeF (es.map nOf)))
theorem w_codeS:PSound GG 74 codeS:=by
 refine PSound.of_wpc (C:=cxP Tryz.prog Φ11 [] 32) (T:=plan0) Tryz.func74 rfl rfl rfl (Fit.pure (G:=GG) hΦ11 mixed) (fun args h=>?_)
 unfold codeS at h
 obtain ⟨es,rfl,hp⟩:=on_l_inv h
 refine ⟨by simp [cxP],?_⟩
 simp only [codeS,on_l_eq,Tryz.f74,argL,plan0]
 obtain ⟨⟨l,rfl⟩,hl⟩:=hp
 have hn:(l.map intV).map nOf=l:=by simp [List.map_map,Function.comp_def,nOf,intV]
 simp only [List.length_map] at hl
 simp only [hn,go_sem,↓reduceIte,reduceCtorEq,Nat.reduceLT]
 refine ⟨fun h=>?_,fun h=>?_⟩
 · have : 4 < l.length := by have h9:4<(l.length:Int):=by simpa using h
                             exact_mod_cast h9
   unfold codeF;rw [if_pos this]
 · have h4:¬ 4<l.length:=by
     intro h9
     have:decide (4<(l.length:Int))=true:=by simp;omega
     rw [this] at h;cases h
   refine AWp.loop (T:=plan0) (α:=Nat × List UInt8) (fun x=>([(3,.pv (.str x.2)),(9,.pv (.sl (l.map intV))),(10,.pv (.int .i64 l.length)),(11,.pv (.int .i64 x.1))],[])) (fun x=>x.1<=l.length/\codeG (x.1 == 0) x.2 (l.drop x.1)=codeF l/\x.2.length<=3 * x.1) (fun x=>l.length-x.1)
    ⟨(0,[]),⟨Nat.zero_le _,by unfold codeF;rw [if_neg h4];rfl,Nat.le_refl _⟩,⟨by simp [fitR,look],trivial,rfl,rfl,rfl⟩⟩ ?_
   rintro ⟨i,out⟩ ⟨g1,g2,g3⟩
   simp only at g1 g2 g3
   have hi1:IntKind.i64.wrap ((i:Int)+1)=((i+1:Nat):Int):=by rw [i64_in _ (by omega)];omega
   by_cases hlt:i<l.length
   · have c0:decide ((i:Int)<(l.length:Int))=true:=by simp;omega
     have k1:=getD_intV hlt
     have d1:l.drop i=l.getD i 0::l.drop (i+1):=by rw [List.drop_eq_getElem_cons hlt];simp [List.getD_eq_getElem?_getD,hlt]
     rw [d1,codeG] at g2
     generalize l.getD i 0=n at g2 k1
     simp only [c0,k1,hi1,Φ11,itoaQ,on_i_eq,plan0,go_sem,↓reduceIte,reduceCtorEq,Nat.reduceEqDiff,Nat.reduceLT,Nat.reduceLeDiff]
     refine ⟨⟨by omega,by omega⟩,fun h5=>?_,fun h5=>?_⟩
     · rw [h5] at g2;exact congrArg PV.str g2
     · rw [h5,cond_false] at g2
       have hb:1<=n/\n<=99:=by
        simp only [Bool.or_eq_false_iff,decide_eq_false_iff_not] at h5
        omega
       have h2:=itoa_len n.toNat (by omega) (by omega)
       rw [Int.toNat_of_nonneg (by omega)] at h2
       refine ⟨fun h6=>⟨by omega,by omega,by simp only [List.length_append,List.length_cons,List.length_nil];omega,(i+1,out++[46]++Lib.itoa n),⟨by simp only;omega,?_,?_⟩,by simp only;omega,⟨by simp [fitR,look],trivial,rfl,rfl,rfl⟩⟩,
        fun h6=>⟨by omega,by omega,(i+1,out++Lib.itoa n),⟨by simp only;omega,?_,?_⟩,by simp only;omega,⟨by simp [fitR,look],trivial,rfl,rfl,rfl⟩⟩⟩
       · have:(i == 0)=false:=by simp at h6 ⊢;omega
         rw [this,cond_false] at g2
         exact g2
       · simp only [List.length_append,List.length_cons,List.length_nil];omega
       · have:(i == 0)=true:=by simp at h6 ⊢;omega
         rw [this,cond_true] at g2
         exact g2
       · simp only [List.length_append];omega
   · have c0:decide ((i:Int)<(l.length:Int))=false:=by simp;omega
     simp only [c0,plan0,go_sem,↓reduceIte,Nat.reduceEqDiff,Nat.reduceLT]
     rw [List.drop_eq_nil_of_le (by omega),codeG] at g2
     exact congrArg PV.str g2
end Go.AM
