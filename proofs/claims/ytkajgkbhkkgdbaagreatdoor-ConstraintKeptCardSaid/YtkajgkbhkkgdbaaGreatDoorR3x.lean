/-
  A part of a proof.
-/
import Derived.Test.YtkajgkbhkkgdbaaGreatDoorR3
set_option linter.unusedSimpArgs false
set_option linter.unusedVariables false
namespace Go.AM
open Go Go.Proofs Go.IntWalk
set_option maxRecDepth 100000
set_option maxHeartbeats 1000000
noncomputable def nanSS:PSpec:=on_s (fun _=>True) (fun _=>.bool false)
theorem w_nanSS:PSound GG 153 nanSS:=by
 refine PSound.of_wpc (C:=cxP Tryz.prog Φ0 [] 6) (T:=plan0) Tryz.func153 rfl rfl rfl (Fit.pure (G:=GG) hΦ0 mixed) (fun args h=>?_)
 unfold nanSS at h
 obtain ⟨s,rfl,hp⟩:=on_s_inv h
 refine ⟨by simp [cxP],?_⟩
 simp only [nanSS,on_s_eq,Tryz.f153,argL,plan0]
 simp only [go_sem,↓reduceIte,reduceCtorEq,Nat.reduceEqDiff,Nat.reduceLT]
noncomputable def nanIS:PSpec:=on_i (fun _=>True) (fun _=>.bool false)
theorem w_nanIS:PSound GG 124 nanIS:=by
 refine PSound.of_wpc (C:=cxP Tryz.prog Φ0 [] 6) (T:=plan0) Tryz.func124 rfl rfl rfl (Fit.pure (G:=GG) hΦ0 mixed) (fun args h=>?_)
 unfold nanIS at h
 obtain ⟨n,rfl,hp⟩:=on_i_inv h
 refine ⟨by simp [cxP],?_⟩
 simp only [nanIS,on_i_eq,Tryz.f124,argL,plan0]
 simp only [go_sem,↓reduceIte,reduceCtorEq,Nat.reduceEqDiff,Nat.reduceLT]
 simp
noncomputable def Φ22 (g:FuncId):PSpec:=putΦ (putΦ Φ21 153 nanSS) 124 nanIS g
theorem hΦ22:TabSound GG Φ22:=(hΦ21.put w_nanSS).put w_nanIS
theorem Φ22_ns {args:List PV}:Φ22 153 args=nanSS args:=rfl
theorem Φ22_ni {args:List PV}:Φ22 124 args=nanIS args:=rfl
def cmpS (a b:List UInt8):Int:=bif Op.bytesLess a b then -1 else bif !(Op.bytesLess a b||a == b) then 1 else 0
def cmpI (a b:Int):Int:=bif decide (a<b) then -1 else bif decide (b<a) then 1 else 0
noncomputable def cmpSS:PSpec:=on_ss (fun _ _=>True) (fun a b=>.int .i64 (cmpS a b))
theorem w_cmpSS:PSound GG 122 cmpSS:=by
 refine PSound.of_wpc (C:=cxP Tryz.prog Φ22 [] 20) (T:=plan0) Tryz.func122 rfl rfl rfl (Fit.pure (G:=GG) hΦ22 mixed) (fun args h=>?_)
 unfold cmpSS at h
 obtain ⟨a,b,rfl,hp⟩:=on_ss_inv h
 refine ⟨by simp [cxP],?_⟩
 simp only [cmpSS,on_ss_eq,Tryz.f122,argL,plan0]
 simp only [Φ22_ns,nanSS,on_s_eq,go_sem,↓reduceIte,reduceCtorEq,Nat.reduceEqDiff,Nat.reduceLT]
 refine ⟨fun h1=>?_,fun h1=>⟨fun h2=>?_,fun h2=>?_⟩⟩ <;> unfold cmpS
 · rw [h1];rfl
 · rw [h1] at h2 ⊢;rw [h2];rfl
 · rw [h1] at h2 ⊢;rw [h2];rfl
def on_ii (p:Int->Int->Prop) (f:Int->Int->PV):PSpec
 | [.int .i64 a0,.int .i64 a1]=>(p a0 a1,f a0 a1)
 | _=>(False,default)
theorem on_ii_eq {p:Int->Int->Prop} {f:Int->Int->PV} {a0:Int} {a1:Int}:on_ii p f [.int .i64 a0,.int .i64 a1]=(p a0 a1,f a0 a1):=rfl
theorem on_ii_inv {p:Int->Int->Prop} {f:Int->Int->PV} {args:List PV} (h:(on_ii p f args).1):∃ a0:Int,∃ a1:Int,args=[.int .i64 a0,.int .i64 a1]/\p a0 a1:=by
 unfold on_ii at h
 split at h
 · exact ⟨_,_,rfl,h⟩
 · exact h.elim
noncomputable def cmpIS:PSpec:=on_ii (fun _ _=>True) (fun a b=>.int .i64 (cmpI a b))
theorem w_cmpIS:PSound GG 65 cmpIS:=by
 refine PSound.of_wpc (C:=cxP Tryz.prog Φ22 [] 20) (T:=plan0) Tryz.func65 rfl rfl rfl (Fit.pure (G:=GG) hΦ22 mixed) (fun args h=>?_)
 unfold cmpIS at h
 obtain ⟨a,b,rfl,hp⟩:=on_ii_inv h
 refine ⟨by simp [cxP],?_⟩
 simp only [cmpIS,on_ii_eq,Tryz.f65,argL,plan0]
 simp only [Φ22_ni,nanIS,on_i_eq,go_sem,↓reduceIte,reduceCtorEq,Nat.reduceEqDiff,Nat.reduceLT]
 refine ⟨fun h1=>?_,fun h1=>⟨fun h2=>?_,fun h2=>?_⟩⟩ <;> unfold cmpI
 · rw [h1];rfl
 · rw [h1,h2];rfl
 · rw [h1,h2];rfl
noncomputable def Φ23 (g:FuncId):PSpec:=putΦ (putΦ Φ22 122 cmpSS) 65 cmpIS g
theorem hΦ23:TabSound GG Φ23:=(hΦ22.put w_cmpSS).put w_cmpIS
theorem Φ23_i {args:List PV}:Φ23 65 args=cmpIS args:=rfl
theorem cmpL_step (x y:Int) (p q:List Int):cmpL (x::p) (y::q)=bif cmpI x y != 0 then cmpI x y else cmpL p q:=by
 rw [cmpL];unfold cmpI
 by_cases h1:x<y
 · simp [h1]
 · by_cases h2:y<x
   · simp [h1,h2]
   · simp [h1,h2]
noncomputable def cmpLS:PSpec:=on_ll (fun a b=>allI a/\allI b/\a.length<=4611686018427387904/\b.length<=4611686018427387904) (fun a b=>.int .i64 (cmpL (a.map nOf) (b.map nOf)))
theorem w_cmpLS:PSound GG 123 cmpLS:=by
 refine PSound.of_wpc (C:=cxP Tryz.prog Φ23 [] 36) (T:=plan0) Tryz.func123 rfl rfl rfl (Fit.pure (G:=GG) hΦ23 mixed) (fun args h=>?_)
 unfold cmpLS at h
 obtain ⟨a,b,rfl,hp⟩:=on_ll_inv h
 refine ⟨by simp [cxP],?_⟩
 simp only [cmpLS,on_ll_eq,Tryz.f123,argL,plan0]
 obtain ⟨⟨p,rfl⟩,⟨q,rfl⟩,hl,hl2⟩:=hp
 have hn:∀ l:List Int,(l.map intV).map nOf=l:=fun l=>by simp [List.map_map,Function.comp_def,nOf,intV]
 simp only [List.length_map] at hl hl2
 simp only [hn,List.length_map,go_sem,↓reduceIte,reduceCtorEq,Nat.reduceLT]
 refine AWp.loop (T:=plan0) (α:=Nat) (fun i=>([(0,.pv (.sl (p.map intV))),(1,.pv (.sl (q.map intV))),(9,.pv (.sl (p.map intV))),(10,.pv (.int .i64 p.length)),(11,.pv (.int .i64 i))],[])) (fun i=>(i<=p.length/\i<=q.length)/\cmpL (p.drop i) (q.drop i)=cmpL p q) (fun i=>p.length-i)
  ⟨0,⟨⟨Nat.zero_le _,Nat.zero_le _⟩,rfl⟩,⟨by simp [fitR,look],trivial,rfl,rfl,rfl⟩⟩ ?_
 rintro i ⟨⟨g1,g2⟩,g3⟩
 have hi1:IntKind.i64.wrap ((i:Int)+1)=((i+1:Nat):Int):=by rw [i64_in _ (by omega)];omega
 by_cases hlt:i<p.length
 · have c0:decide ((i:Int)<(p.length:Int))=true:=by simp;omega
   have k1:=getD_intV hlt
   have d1:p.drop i=p.getD i 0::p.drop (i+1):=by rw [List.drop_eq_getElem_cons hlt];simp [List.getD_eq_getElem?_getD,hlt]
   by_cases hlq:i<q.length
   · have c1:decide ((q.length:Int)<=(i:Int))=false:=by simp;omega
     have k2:=getD_intV hlq
     have d2:q.drop i=q.getD i 0::q.drop (i+1):=by rw [List.drop_eq_getElem_cons hlq];simp [List.getD_eq_getElem?_getD,hlq]
     rw [d1,d2,cmpL_step] at g3
     simp only [c0,c1,k1,k2,hi1,List.length_map,Φ23_i,cmpIS,on_ii_eq,plan0,go_sem,↓reduceIte,reduceCtorEq,Nat.reduceEqDiff,Nat.reduceLT,Nat.reduceLeDiff]
     refine ⟨⟨by omega,by omega⟩,⟨by omega,by omega⟩,fun h3=>?_,fun h3=>⟨i+1,⟨⟨by omega,by omega⟩,?_⟩,by omega,⟨by simp [fitR,look],trivial,rfl,rfl,rfl⟩⟩⟩
     · rw [h3,cond_true] at g3;rw [g3]
     · rw [h3,cond_false] at g3;exact g3
   · have c1:decide ((q.length:Int)<=(i:Int))=true:=by simp;omega
     rw [d1,show q.drop i=[] from List.drop_eq_nil_of_le (by omega)] at g3
     simp only [c0,c1,k1,hi1,List.length_map,Φ23_i,cmpIS,plan0,go_sem,↓reduceIte,reduceCtorEq,Nat.reduceEqDiff,Nat.reduceLT,Nat.reduceLeDiff]
     rw [<- g3]
     exact ⟨⟨by omega,by omega⟩,rfl⟩
 · have c0:decide ((i:Int)<(p.length:Int))=false:=by simp;omega
   rw [cmpL_end g1 g2 (by omega)] at g3
   simp only [c0,List.length_map,plan0,go_sem,↓reduceIte,reduceCtorEq,Nat.reduceEqDiff,Nat.reduceLT]
   rw [<- g3]
   refine ⟨fun h=>?_,fun h=>?_⟩
   · rw [if_pos (by simpa using h)]
   · have h9:¬ (p.length:Int)<q.length:=by simpa using h
     rw [if_neg (by omega),if_neg (by omega)]
noncomputable def Φ24 (g:FuncId):PSpec:=putΦ Φ23 123 cmpLS g
theorem hΦ24:TabSound GG Φ24:=hΦ23.put w_cmpLS
theorem Φ24_s {args:List PV}:Φ24 122 args=cmpSS args:=rfl
theorem Φ24_l {args:List PV}:Φ24 123 args=cmpLS args:=rfl
theorem Φ24_parts {args:List PV}:Φ24 121 args=partsCS args:=rfl
def cmpC (a b:List UInt8):Int:=bif ((partsR a).length:Int) == 0&&((partsR b).length:Int) == 0 then cmpS a b else cmpL (partsR a) (partsR b)
noncomputable def cmpCS:PSpec:=on_ss (fun a b=>a.length<=1000000000000/\b.length<=1000000000000) (fun a b=>.int .i64 (cmpC a b))
theorem w_cmpCS:PSound GG 64 cmpCS:=by
 refine PSound.of_wpc (C:=cxP Tryz.prog Φ24 [] 25) (T:=plan0) Tryz.func64 rfl rfl rfl (Fit.pure (G:=GG) hΦ24 mixed) (fun args h=>?_)
 unfold cmpCS at h
 obtain ⟨a,b,rfl,hp⟩:=on_ss_inv h
 refine ⟨by simp [cxP],?_⟩
 simp only [cmpCS,on_ss_eq,Tryz.f64,argL,plan0]
 have hn:∀ l:List Int,(l.map intV).map nOf=l:=fun l=>by simp [List.map_map,Function.comp_def,nOf,intV]
 have b1:=partsR_len a
 have b2:=partsR_len b
 simp only [hn,Φ24_parts,Φ24_s,Φ24_l,partsCS,cmpSS,cmpLS,on_s_eq,on_ss_eq,on_ll_eq,List.length_map,go_sem,↓reduceIte,reduceCtorEq,Nat.reduceEqDiff,Nat.reduceLT]
 refine ⟨hp.1,hp.2,fun h=>?_,fun h=>⟨⟨⟨_,rfl⟩,⟨_,rfl⟩,by omega,by omega⟩,?_⟩⟩ <;> unfold cmpC
 · rw [h];rfl
 · rw [h];rfl
noncomputable def Φ25 (g:FuncId):PSpec:=putΦ Φ24 64 cmpCS g
theorem hΦ25:TabSound GG Φ25:=hΦ24.put w_cmpCS
theorem get_bytes (s:List UInt8) {i:Nat} (h:i<s.length):(⟨s.toArray⟩:ByteArray).get! i=s.getD i 0:=by
 show (s.toArray)[i]! =_
 simp [List.getD_eq_getElem?_getD,h]
def nmB (b:UInt8):Bool:=!(decide (((b.toNat:Nat):Int)<32)||decide ((126:Int)<((b.toNat:Nat):Int)))
theorem decode_name (s:List UInt8) (i:Nat) (h:i<s.length):(nmB (s.getD i 0)=true->Utf8.decode ⟨s.toArray⟩ i=((s.getD i 0).toNat,1))/\
 (nmB (s.getD i 0)=false->(decide (((Utf8.decode ⟨s.toArray⟩ i).1:Int)<32)||decide ((126:Int)<((Utf8.decode ⟨s.toArray⟩ i).1:Int)))=true):=by
 have e:((⟨s.toArray⟩:ByteArray).get! (i+0)).toNat=(s.getD i 0).toNat:=by rw [Nat.add_zero,get_bytes s h]
 by_cases h1:(s.getD i 0).toNat<128
 · have hd:Utf8.decode ⟨s.toArray⟩ i=((s.getD i 0).toNat,1):=by simp only [Utf8.decode,e,h1,if_true]
   exact ⟨fun _=>hd,fun h2=>by rw [hd];unfold nmB at h2;simpa only [Bool.not_eq_false'] using h2⟩
 · refine ⟨fun h2=>?_,fun _=>?_⟩
   · unfold nmB at h2
     simp only [Bool.not_eq_true',Bool.or_eq_false_iff,decide_eq_false_iff_not] at h2
     omega
   · have:128<=(Utf8.decode ⟨s.toArray⟩ i).1:=by
       have hre:(128:Nat)<=Utf8.runeError:=by decide
       unfold Utf8.decode
       simp only [e]
       rw [if_neg h1]
       split
       · split
         · assumption
         · exact hre
       · split
         · split
           · rename_i h9;simp only [Bool.and_eq_true,decide_eq_true_eq] at h9;simp only;omega
           · exact hre
         · split
           · split
             · rename_i h9;simp only [Bool.and_eq_true,decide_eq_true_eq] at h9;simp only;omega
             · exact hre
           · exact hre
     simp only [Bool.or_eq_true,decide_eq_true_eq]
     exact .inr (by omega)
def trL (b:Int):List UInt8->List UInt8
 | []=>[]
 | x::r=>bif ((x.toNat:Int) == b) then trL b r else x::r
def trK (s:List UInt8) (b:Int):Nat->Nat
 | 0=>0
 | k+1=>bif (((s.getD k 0).toNat:Int) == b) then trK s b k else k+1
def trR (b:Int) (s:List UInt8):List UInt8:=s.take (trK s b s.length)
theorem trK_le (s:List UInt8) (b:Int):∀ k,trK s b k<=k
 | 0=>Nat.le_refl _
 | k+1=>by
   have:=trK_le s b k
   unfold trK
   cases (((s.getD k 0).toNat:Int) == b) <;> simp <;> omega
noncomputable def trLS:PSpec:=on_su (fun s _=>s.length<=4611686018427387904) (fun s b=>.str (trL b s))
theorem w_trLS:PSound GG 204 trLS:=by
 refine PSound.of_wpc (C:=cxP Tryz.prog Φ0 [] 17) (T:=plan0) Tryz.func204 rfl rfl rfl (Fit.pure (G:=GG) hΦ0 mixed) (fun args h=>?_)
 unfold trLS at h
 obtain ⟨s,b,rfl,hp⟩:=on_su_inv h
 refine ⟨by simp [cxP],?_⟩
 simp only [trLS,on_su_eq,Tryz.f204,argL,plan0]
 simp only [go_sem,↓reduceIte,Nat.reduceLT]
 refine AWp.loop (T:=plan0) (α:=List UInt8) (fun x=>([(0,.pv (.str x)),(1,.pv (.int .u8 b))],[])) (fun x=>x.length<=s.length/\trL b x=trL b s) (fun x=>x.length)
  ⟨s,⟨Nat.le_refl _,rfl⟩,⟨by simp [fitR,look],trivial,rfl,rfl,rfl⟩⟩ ?_
 rintro x ⟨h1,h2⟩
 cases x with
 | nil=>
   simp only [indexA,plan0,go_sem,↓reduceIte,reduceCtorEq,Nat.reduceEqDiff,Nat.reduceLT,Int.reduceLT,Int.reduceLE]
   simp [<- h2,trL]
 | cons y r=>
   have c0:decide ((0:Int)<((r.length+1:Nat):Int))=true:=decide_eq_true (by omega)
   rw [trL] at h2
   simp only [c0,indexA,plan0,go_sem,↓reduceIte,reduceCtorEq,Nat.reduceEqDiff,Nat.reduceLT,Int.reduceLE]
   have h1:r.length+1<=s.length:=h1
   refine ⟨by omega,fun h3=>⟨by omega,r,⟨by omega,?_⟩,by omega,⟨by simp [fitR,look],trivial,rfl,rfl,rfl⟩⟩,fun h3=>?_⟩
   · rw [h3,cond_true] at h2;exact h2
   · rw [h3,cond_false] at h2;rw [h2]
noncomputable def trRS:PSpec:=on_su (fun s _=>s.length<=4611686018427387904) (fun s b=>.str (trR b s))
theorem w_trRS:PSound GG 205 trRS:=by
 refine PSound.of_wpc (C:=cxP Tryz.prog Φ0 [] 23) (T:=plan0) Tryz.func205 rfl rfl rfl (Fit.pure (G:=GG) hΦ0 mixed) (fun args h=>?_)
 unfold trRS at h
 obtain ⟨s,b,rfl,hp⟩:=on_su_inv h
 refine ⟨by simp [cxP],?_⟩
 simp only [trRS,on_su_eq,Tryz.f205,argL,plan0]
 simp only [go_sem,↓reduceIte,Nat.reduceLT]
 refine AWp.loop (T:=plan0) (α:=Nat) (fun k=>([(0,.pv (.str (s.take k))),(1,.pv (.int .u8 b))],[])) (fun k=>k<=s.length/\trK s b k=trK s b s.length) (fun k=>k)
  ⟨s.length,⟨Nat.le_refl _,rfl⟩,⟨by simp [fitR,look],trivial,rfl,rfl,rfl⟩⟩ ?_
 rintro k ⟨h1,h2⟩
 have hk:(s.take k).length=k:=by rw [List.length_take];omega
 cases k with
 | zero=>
   have c0:decide False=false:=rfl
   simp only [c0,indexA,plan0,go_sem,↓reduceIte,reduceCtorEq,Nat.reduceEqDiff,Nat.reduceLT,Int.reduceLT]
   unfold trR
   rw [<- h2];rfl
 | succ k=>
   have c0:decide ((0:Int)<((k+1:Nat):Int))=true:=decide_eq_true (by omega)
   have c1:IntKind.i64.wrap (((k+1:Nat):Int)-1)=(k:Int):=by rw [i64_in _ (by omega)];omega
   have g1:(s.take (k+1)).getD k 0=s.getD k 0:=by
    simp [List.getD_eq_getElem?_getD]
   rw [trK] at h2
   simp only [hk,c0,c1,g1,indexA,plan0,go_sem,↓reduceIte,reduceCtorEq,Nat.reduceEqDiff,Nat.reduceLT]
   refine ⟨⟨by omega,by omega⟩,fun h3=>⟨⟨by omega,by omega⟩,k,⟨by omega,?_⟩,by omega,⟨by simp [fitR,look,List.take_take],trivial,rfl,rfl,rfl⟩⟩,fun h3=>?_⟩
   · rw [h3,cond_true] at h2;exact h2
   · rw [h3,cond_false] at h2;unfold trR;rw [<- h2]
noncomputable def Φ26 (g:FuncId):PSpec:=putΦ (putΦ Φ25 204 trLS) 205 trRS g
theorem hΦ26:TabSound GG Φ26:=(hΦ25.put w_trLS).put w_trRS
theorem Φ26_l {args:List PV}:Φ26 204 args=trLS args:=rfl
theorem Φ26_r {args:List PV}:Φ26 205 args=trRS args:=rfl
def trimF (s:List UInt8):List UInt8:=trL 32 (trR 32 s)
noncomputable def trimS:PSpec:=on_ss (fun s c=>s.length<=4611686018427387904/\c=[32]) (fun s _=>.str (trimF s))
theorem w_trimS:PSound GG 195 trimS:=by
 refine PSound.of_wpc (C:=cxP Tryz.prog Φ26 [] 43) (T:=plan0) Tryz.func195 rfl rfl rfl (Fit.pure (G:=GG) hΦ26 mixed) (fun args h=>?_)
 unfold trimS at h
 obtain ⟨s,c,rfl,hp⟩:=on_ss_inv h
 refine ⟨by simp [cxP],?_⟩
 simp only [trimS,on_ss_eq,Tryz.f195,argL,plan0]
 obtain ⟨hl,rfl⟩:=hp
 have hr:(trR 32 s).length<=s.length:=by unfold trR;rw [List.length_take];omega
 have c0:(([32]:List UInt8) == [])=false:=rfl
 have c1:((UInt8.toNat 32:Nat):Int)=32:=rfl
 simp only [c0,c1,decide_true,Φ26_l,Φ26_r,trLS,trRS,on_su_eq,indexA,go_sem,↓reduceIte,reduceCtorEq,Nat.reduceEqDiff,Nat.reduceLT,Int.reduceLT]
 refine ⟨fun h1=>?_,fun _=>⟨by kernel_rfl,hl,by omega,rfl⟩⟩
 have:s=[]:=by simpa using h1
 subst this;rfl
noncomputable def Φ27 (g:FuncId):PSpec:=putΦ Φ26 195 trimS g
theorem hΦ27:TabSound GG Φ27:=hΦ26.put w_trimS
theorem Φ27_trim {args:List PV}:Φ27 195 args=trimS args:=rfl
def nmF (s:List UInt8):Bool:=s.all nmB&&(decide ((1:Int)<=(s.length:Int))&&decide ((s.length:Int)<=40)&&(trimF s == s))
noncomputable def nameS:PSpec:=on_s (fun s=>s.length<=4611686018427387904) (fun s=>.bool (nmF s))
theorem w_nameS:PSound GG 184 nameS:=by
 refine PSound.of_wpc (C:=cxP Tryz.prog Φ27 [] 30) (T:=plan0) Tryz.func184 rfl rfl rfl (Fit.pure (G:=GG) hΦ27 mixed) (fun args h=>?_)
 unfold nameS at h
 obtain ⟨s,rfl,hp⟩:=on_s_inv h
 refine ⟨by simp [cxP],?_⟩
 simp only [nameS,on_s_eq,Tryz.f184,argL,plan0]
 simp only [go_sem,↓reduceIte,reduceCtorEq,Nat.reduceLT]
 refine AWp.loop (T:=plan0) (α:=Nat) (fun k=>([(0,.pv (.str s)),(6,.it 6)],[(6,.iter s k)])) (fun k=>k<=s.length/\(s.take k).all nmB=true) (fun k=>s.length-k)
  ⟨0,⟨Nat.zero_le _,rfl⟩,⟨by simp [fitR,look],by simp [fitH,hget],rfl,rfl,rfl⟩⟩ ?_
 rintro k ⟨h1,h2⟩
 by_cases hlt:k<s.length
 · have c0:decide (k<s.length)=true:=by simpa using hlt
   obtain ⟨d1,d2⟩:=decode_name s k hlt
   by_cases hb:nmB (s.getD k 0)=true
   · have hb2:(decide (((s.getD k 0).toNat:Int)<32)||decide ((126:Int)<((s.getD k 0).toNat:Int)))=false:=by
       unfold nmB at hb;simpa only [Bool.not_eq_true'] using hb
     simp only [c0,d1 hb,hb2,plan0,go_sem,↓reduceIte,reduceCtorEq,Nat.reduceEqDiff,Nat.reduceLT,Nat.reduceAdd]
     refine ⟨k+1,⟨by omega,?_⟩,by omega,⟨by simp [fitR,look],by simp [fitH,hget],rfl,rfl,rfl⟩⟩
     rw [List.take_add_one,List.all_append,h2,Bool.true_and]
     rw [List.getD_eq_getElem?_getD,List.getElem?_eq_getElem hlt] at hb
     rw [List.getElem?_eq_getElem hlt]
     simpa using hb
   · simp only [c0,d2 (by simpa using hb),plan0,go_sem,↓reduceIte,reduceCtorEq,Nat.reduceEqDiff,Nat.reduceLT,Nat.reduceAdd]
     have:s.all nmB=false:=by
      rw [List.all_eq_false]
      refine ⟨s.getD k 0,?_,hb⟩
      rw [List.getD_eq_getElem?_getD,List.getElem?_eq_getElem hlt];exact List.getElem_mem _
     unfold nmF
     rw [this];rfl
 · have c0:decide (k<s.length)=false:=by simpa using hlt
   simp only [c0,Φ27_trim,trimS,on_ss_eq,plan0,go_sem,↓reduceIte,reduceCtorEq,Nat.reduceEqDiff,Nat.reduceLT,Nat.reduceAdd]
   rw [List.take_of_length_le (by omega)] at h2
   refine ⟨fun _=>hp,?_⟩
   unfold nmF
   rw [h2,Bool.true_and]
noncomputable def Φ28 (g:FuncId):PSpec:=putΦ Φ27 184 nameS g
theorem hΦ28:TabSound GG Φ28:=hΦ27.put w_nameS
def on_pp (p:PV->PV->Prop) (f:PV->PV->PV):PSpec
 | [a0,a1]=>(p a0 a1,f a0 a1)
 | _=>(False,default)
theorem on_pp_eq {p:PV->PV->Prop} {f:PV->PV->PV} {a0:PV} {a1:PV}:on_pp p f [a0,a1]=(p a0 a1,f a0 a1):=rfl
theorem on_pp_inv {p:PV->PV->Prop} {f:PV->PV->PV} {args:List PV} (h:(on_pp p f args).1):∃ a0:PV,∃ a1:PV,args=[a0,a1]/\p a0 a1:=by
 unfold on_pp at h
 split at h
 · exact ⟨_,_,rfl,h⟩
 · exact h.elim
noncomputable def has1S:PSpec:=on_pp (fun e c=>isH e/\∃ s,c=.pp (.str s) 0) (fun e c=>match c with
 | .pp (.str s) _=>.bool (hCode e == s)
 | _=>default)
theorem w_has1S:PSound GG 171 has1S:=by
 refine PSound.of_wpc (C:=cxP Tryz.prog Φ0 [] 8) (T:=plan0) Tryz.func171 rfl rfl rfl (Fit.pure (G:=GG) hΦ0 mixed) (fun args h=>?_)
 unfold has1S at h
 obtain ⟨e,c,rfl,hp⟩:=on_pp_inv h
 refine ⟨by simp [cxP],?_⟩
 simp only [has1S,on_pp_eq,Tryz.f171,argL,plan0]
 obtain ⟨⟨a,n,rfl,_⟩,s,rfl⟩:=hp
 simp only [hV,hCode,go_sem,↓reduceIte,reduceCtorEq,Nat.reduceEqDiff,Nat.reduceLT,Nat.reduceAdd,Nat.reduceLeDiff]
end Go.AM
