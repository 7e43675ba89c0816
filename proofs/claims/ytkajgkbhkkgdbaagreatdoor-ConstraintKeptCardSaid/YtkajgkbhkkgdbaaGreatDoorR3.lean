/-
  A part of a proof.
-/
import Derived.Test.YtkajgkbhkkgdbaaGreatDoorR6j
set_option linter.unusedSimpArgs false
set_option linter.unusedVariables false
namespace Go.AM
open Go Go.Proofs
set_option maxRecDepth 100000
set_option maxHeartbeats 4000000
def isCode (s:List UInt8):Bool:=decide ((0:Int)<((partsR s).length:Int))
def parC (s:List UInt8):List UInt8:=bif isCode s then dotF s s.length else []
def lvC (L:List (List UInt8)) (top:List UInt8):List (List UInt8):=L.filter (fun c=>isCode c&&L.all (fun x=>!(parC x == c))&&(top == []||undC c top))
theorem SX_par:∀ c,c∈SX->isCode c=true/\parC c=parF c:=by decide +kernel
section
variable {L:List (List UInt8)}
end
end Go.AM
namespace Go.AM
open Go Go.Proofs Go.IntWalk
set_option maxRecDepth 100000
set_option maxHeartbeats 1000000
theorem Φ14_parts {args:List PV}:Φ14 121 args=partsCS args:=rfl
noncomputable def isS:PSpec:=on_s (fun s=>s.length<=1000000000000) (fun s=>.bool (isCode s))
theorem w_isS:PSound GG 134 isS:=by
 refine PSound.of_wpc (C:=cxP Tryz.prog Φ14 [] 7) (T:=plan0) Tryz.func134 rfl rfl rfl (Fit.pure (G:=GG) hΦ14 mixed) (fun args h=>?_)
 unfold isS at h
 obtain ⟨s,rfl,hp⟩:=on_s_inv h
 refine ⟨by simp [cxP],?_⟩
 simp only [isS,on_s_eq,Tryz.f134,argL,plan0]
 simp only [Φ14_parts,partsCS,on_s_eq,List.length_map,go_sem,↓reduceIte,reduceCtorEq,Nat.reduceLT]
 exact ⟨hp,rfl⟩
noncomputable def Φ15 (g:FuncId):PSpec:=putΦ Φ14 134 isS g
theorem hΦ15:TabSound GG Φ15:=hΦ14.put w_isS
def ldot (s:List UInt8) (b:Int):Nat->Int
 | 0=> -1
 | k+1=>bif ((s.getD k 0).toNat:Int) == b then (k:Int) else ldot s b k
def on_su (p:List UInt8->Int->Prop) (f:List UInt8->Int->PV):PSpec
 | [.str a0,.int .u8 a1]=>(p a0 a1,f a0 a1)
 | _=>(False,default)
theorem on_su_eq {p:List UInt8->Int->Prop} {f:List UInt8->Int->PV} {a0:List UInt8} {a1:Int}:on_su p f [.str a0,.int .u8 a1]=(p a0 a1,f a0 a1):=rfl
theorem on_su_inv {p:List UInt8->Int->Prop} {f:List UInt8->Int->PV} {args:List PV} (h:(on_su p f args).1):∃ a0:List UInt8,∃ a1:Int,args=[.str a0,.int .u8 a1]/\p a0 a1:=by
 unfold on_su at h
 split at h
 · exact ⟨_,_,rfl,h⟩
 · exact h.elim
noncomputable def lastS:PSpec:=on_su (fun s _=>s.length<=4611686018427387904) (fun s b=>.int .i64 (ldot s b s.length))
theorem w_lastS:PSound GG 161 lastS:=by
 refine PSound.of_wpc (C:=cxP Tryz.prog Φ0 [] 19) (T:=plan0) Tryz.func161 rfl rfl rfl (Fit.pure (G:=GG) hΦ0 mixed) (fun args h=>?_)
 unfold lastS at h
 obtain ⟨s,b,rfl,hp⟩:=on_su_inv h
 refine ⟨by simp [cxP],?_⟩
 simp only [lastS,on_su_eq,Tryz.f161,argL,plan0]
 simp only [go_sem,↓reduceIte,reduceCtorEq,Nat.reduceLT]
 refine AWp.loop (T:=plan0) (α:=Nat) (fun k=>([(0,.pv (.str s)),(1,.pv (.int .u8 b)),(5,.pv (.int .i64 ((k:Int)-1)))],[])) (fun k=>k<=s.length/\ldot s b k=ldot s b s.length) (fun k=>k)
  ⟨s.length,⟨Nat.le_refl _,rfl⟩,⟨by simp [fitR,look,i64_in ((s.length:Int)-1) (by omega)],trivial,rfl,rfl,rfl⟩⟩ ?_
 rintro k ⟨h2,h3⟩
 cases k with
 | zero=>
   have c0:decide ((0:Int)<=((0:Nat):Int)-1)=false:=by decide
   simp only [indexA,plan0,go_sem,↓reduceIte,reduceCtorEq,Nat.reduceEqDiff,Nat.reduceLT]
   exact ⟨fun h=>absurd h (by decide),fun _=>congrArg (PV.int .i64) h3⟩
 | succ k=>
   have c1:((k+1:Nat):Int)-1=(k:Int):=by omega
   have c0:decide ((0:Int)<=(k:Int))=true:=by simp
   have c2:IntKind.i64.wrap ((k:Int)-1)=(k:Int)-1:=i64_in _ (by omega)
   simp only [c1,c0,c2,indexA,plan0,go_sem,↓reduceIte,reduceCtorEq,Nat.reduceEqDiff,Nat.reduceLT]
   rw [ldot] at h3
   refine ⟨by omega,fun h4=>?_,fun h4=>?_⟩
   · rw [h4] at h3;exact congrArg (PV.int .i64) h3
   · rw [h4] at h3
     exact ⟨k,⟨by omega,h3⟩,by omega,⟨by simp [fitR,look],trivial,rfl,rfl,rfl⟩⟩
noncomputable def Φ16 (g:FuncId):PSpec:=putΦ Φ15 161 lastS g
theorem hΦ16:TabSound GG Φ16:=hΦ15.put w_lastS
theorem Φ16_last {args:List PV}:Φ16 161 args=lastS args:=rfl
noncomputable def lastBS:PSpec:=on_su (fun s _=>s.length<=4611686018427387904) (fun s b=>.int .i64 (ldot s b s.length))
theorem w_lastBS:PSound GG 147 lastBS:=by
 refine PSound.of_wpc (C:=cxP Tryz.prog Φ16 [] 8) (T:=plan0) Tryz.func147 rfl rfl rfl (Fit.pure (G:=GG) hΦ16 mixed) (fun args h=>?_)
 unfold lastBS at h
 obtain ⟨s,b,rfl,hp⟩:=on_su_inv h
 refine ⟨by simp [cxP],?_⟩
 simp only [lastBS,on_su_eq,Tryz.f147,argL,plan0]
 simp only [Φ16_last,lastS,on_su_eq,go_sem,↓reduceIte,reduceCtorEq,Nat.reduceEqDiff,Nat.reduceLT]
 exact hp
noncomputable def Φ17 (g:FuncId):PSpec:=putΦ Φ16 147 lastBS g
theorem hΦ17:TabSound GG Φ17:=hΦ16.put w_lastBS
theorem Φ17_last {args:List PV}:Φ17 147 args=lastBS args:=rfl
theorem Φ17_is {args:List PV}:Φ17 134 args=isS args:=rfl
theorem ldot_le (s:List UInt8) (b:Int):∀ k,-1<=ldot s b k/\ldot s b k<k
 | 0=>by simp [ldot]
 | k+1=>by
   have ih:=ldot_le s b k
   unfold ldot
   cases ((s.getD k 0).toNat:Int) == b with
   | true=>simp;omega
   | false=>simp;omega
theorem dotF_ldot (s:List UInt8):∀ k,dotF s k=s.take (ldot s 46 k).toNat
 | 0=>by simp [dotF,ldot]
 | k+1=>by
   unfold dotF ldot
   cases ((s.getD k 0).toNat:Int) == 46 with
   | true=>simp
   | false=>simp only [cond_false];exact dotF_ldot s k
noncomputable def parCS:PSpec:=on_s (fun s=>s.length<=1000000000000) (fun s=>.str (parC s))
theorem w_parCS:PSound GG 135 parCS:=by
 refine PSound.of_wpc (C:=cxP Tryz.prog Φ17 [] 11) (T:=plan0) Tryz.func135 rfl rfl rfl (Fit.pure (G:=GG) hΦ17 mixed) (fun args h=>?_)
 unfold parCS at h
 obtain ⟨s,rfl,hp⟩:=on_s_inv h
 refine ⟨by simp [cxP],?_⟩
 simp only [parCS,on_s_eq,Tryz.f135,argL,plan0]
 simp only [Φ17_is,Φ17_last,isS,lastBS,on_s_eq,on_su_eq,go_sem,↓reduceIte,reduceCtorEq,Nat.reduceEqDiff,Nat.reduceLT]
 have b1:=ldot_le s 46 s.length
 refine ⟨hp,fun h1=>?_,fun h1=>⟨by omega,⟨by split <;> omega,by split <;> omega⟩,?_⟩⟩
 · have h1:isCode s=false:=by simpa using h1
   unfold parC;rw [h1];rfl
 · have h1:isCode s=true:=by simpa using h1
   unfold parC;rw [h1,cond_true,dotF_ldot]
   congr 2
   split <;> omega
noncomputable def Φ18 (g:FuncId):PSpec:=putΦ Φ17 135 parCS g
theorem hΦ18:TabSound GG Φ18:=hΦ17.put w_parCS
def emap (l:List (List UInt8 × Bool)):List (PV × PV):=l.map fun p=>(PV.str p.1,PV.bool p.2)
def kput (c:List UInt8) (b:Bool):List (List UInt8 × Bool)->List (List UInt8 × Bool)
 | []=>[(c,b)]
 | (k,v)::r=>if c == k then (c,b)::r else (k,v)::kput c b r
def kdel (c:List UInt8):List (List UInt8 × Bool)->List (List UInt8 × Bool)
 | []=>[]
 | (k,v)::r=>if c == k then r else (k,v)::kdel c r
def kget (c:List UInt8):List (List UInt8 × Bool)->Bool
 | []=>false
 | (k,v)::r=>if c == k then v else kget c r
def knew (l:List (List UInt8 × Bool)):Prop:=(l.map Prod.fst).Nodup
theorem mput_emap (c:List UInt8) (b:Bool):∀ l,mput (.str c) (.bool b) (emap l)=emap (kput c b l)
 | []=>rfl
 | (k,v)::r=>by
   have ih:=mput_emap c b r
   show (if (c == k)=true then _ else _)=_
   unfold kput
   by_cases h:(c == k)=true
   · simp only [h,if_true];rfl
   · simp only [h,Bool.false_eq_true,if_false];exact congrArg (List.cons _) ih
theorem mdel_emap (c:List UInt8):∀ l,mdel (.str c) (emap l)=emap (kdel c l)
 | []=>rfl
 | (k,v)::r=>by
   have ih:=mdel_emap c r
   show (if (c == k)=true then _ else _)=_
   unfold kdel
   by_cases h:(c == k)=true
   · simp only [h,if_true];rfl
   · simp only [h,Bool.false_eq_true,if_false];exact congrArg (List.cons _) ih
theorem mget_emap (c:List UInt8):∀ l,mval (.bool false) (.str c) (emap l)=.bool (kget c l)
 | []=>rfl
 | (k,v)::r=>by
   have ih:=mget_emap c r
   unfold mval at ih ⊢
   show Option.getD (if (c == k)=true then _ else _) _=_
   unfold kget
   by_cases h:(c == k)=true
   · simp only [h,if_true];rfl
   · simp only [h,Bool.false_eq_true,if_false];exact ih
theorem emap_ok {P:Program} {t:TypeId} (h:P.underlying t=some .string) {l:List (List UInt8 × Bool)}:∀ p,p∈emap l->keyOkB P t p.1=true:=by
 intro p hp
 unfold emap at hp
 obtain ⟨x,_,rfl⟩:=List.mem_map.1 hp
 show keyKind (P.underlying t) (.str x.1)=true
 rw [h];rfl
theorem kput_keys (c:List UInt8) (b:Bool) (x:List UInt8):∀ l,x∈(kput c b l).map Prod.fst↔x=c\/x∈l.map Prod.fst
 | []=>by simp [kput]
 | (k,v)::r=>by
   have ih:=kput_keys c b x r
   unfold kput
   by_cases h:c=k
   · subst h;simp
   · have h2:(c == k)=false:=by simpa using h
     simp only [h2,Bool.false_eq_true,if_false,List.map_cons,List.mem_cons,ih]
     constructor
     · rintro (h | h | h) <;> simp [h]
     · rintro (h | h | h) <;> simp [h]
theorem kput_new {c:List UInt8} {b:Bool}:∀ {l},knew l->knew (kput c b l)
 | [],_=>by simp [kput,knew]
 | (k,v)::r,h=>by
   unfold knew at h
   rw [List.map_cons,List.nodup_cons] at h
   unfold kput
   by_cases h1:c=k
   · subst h1
     simp only [beq_self_eq_true,if_true]
     unfold knew
     rw [List.map_cons,List.nodup_cons];exact h
   · have h2:(c == k)=false:=by simpa using h1
     simp only [h2,Bool.false_eq_true,if_false]
     unfold knew
     rw [List.map_cons,List.nodup_cons]
     refine ⟨fun hm=>?_,kput_new (l:=r) h.2⟩
     rcases (kput_keys c b k r).1 hm with h3 | h3
     · exact h1 h3.symm
     · exact h.1 h3
theorem kput_get (c:List UInt8) (b:Bool) (d:List UInt8):∀ l,kget d (kput c b l)=if d == c then b else kget d l
 | []=>by simp [kput,kget]
 | (k,v)::r=>by
   have ih:=kput_get c b d r
   unfold kput
   by_cases h1:c=k
   · subst h1
     simp only [beq_self_eq_true,if_true,kget]
     by_cases h3:(d == c)=true
     · simp [h3]
     · simp only [h3,Bool.false_eq_true,if_false]
   · have h2:(c == k)=false:=by simpa using h1
     simp only [h2,Bool.false_eq_true,if_false,kget,ih]
     by_cases h3:d=k
     · subst h3
       have:(d == c)=false:=by simpa using fun e=>h1 e.symm
       simp only [this,beq_self_eq_true,Bool.false_eq_true,if_true,if_false]
     · have:(d == k)=false:=by simpa using h3
       simp only [this,Bool.false_eq_true,if_false]
theorem kget_none {c:List UInt8}:∀ {l:List (List UInt8 × Bool)},c∉l.map Prod.fst->kget c l=false
 | [],_=>rfl
 | (k,v)::r,h=>by
   rw [List.map_cons,List.mem_cons,not_or] at h
   have:(c == k)=false:=by simpa using h.1
   unfold kget
   simp only [this,Bool.false_eq_true,if_false]
   exact kget_none h.2
theorem kdel_keys (c:List UInt8) (x:List UInt8):∀ l,x∈(kdel c l).map Prod.fst->x∈l.map Prod.fst
 | [],h=>h
 | (k,v)::r,h=>by
   unfold kdel at h
   by_cases h1:(c == k)=true
   · simp only [h1,if_true] at h
     exact List.mem_cons_of_mem _ h
   · simp only [h1,Bool.false_eq_true,if_false,List.map_cons,List.mem_cons] at h
     rcases h with h | h
     · simp [h]
     · exact List.mem_cons_of_mem _ (kdel_keys c x r h)
theorem kdel_new {c:List UInt8}:∀ {l},knew l->knew (kdel c l)
 | [],h=>h
 | (k,v)::r,h=>by
   unfold knew at h
   rw [List.map_cons,List.nodup_cons] at h
   unfold kdel
   by_cases h1:(c == k)=true
   · simp only [h1,if_true];exact h.2
   · simp only [h1,Bool.false_eq_true,if_false]
     unfold knew
     rw [List.map_cons,List.nodup_cons]
     exact ⟨fun hm=>h.1 (kdel_keys c k r hm),kdel_new (l:=r) h.2⟩
theorem kdel_get (c d:List UInt8):∀ {l},knew l->kget d (kdel c l)=if d == c then false else kget d l
 | [],_=>by simp [kdel,kget]
 | (k,v)::r,h=>by
   unfold knew at h
   rw [List.map_cons,List.nodup_cons] at h
   have ih:=kdel_get c d (l:=r) h.2
   unfold kdel
   by_cases h1:c=k
   · subst h1
     simp only [beq_self_eq_true,if_true,kget]
     by_cases h3:d=c
     · subst h3
       simp only [beq_self_eq_true,if_true]
       exact kget_none h.1
     · have:(d == c)=false:=by simpa using h3
       simp [this]
   · have h2:(c == k)=false:=by simpa using h1
     simp only [h2,Bool.false_eq_true,if_false,kget,ih]
     by_cases h3:d=k
     · subst h3
       have:(d == c)=false:=by simpa using fun e=>h1 e.symm
       simp only [this,beq_self_eq_true,Bool.false_eq_true,if_true,if_false]
     · have:(d == k)=false:=by simpa using h3
       simp only [this,Bool.false_eq_true,if_false]
noncomputable def Φ19 (g:FuncId):PSpec:=Φ18 g
theorem hΦ19:TabSound GG Φ19:=hΦ18
theorem Φ19_parent {args:List PV}:Φ19 135 args=parCS args:=rfl
theorem Φ19_is {args:List PV}:Φ19 134 args=isS args:=rfl
theorem Φ19_under {args:List PV}:Φ19 136 args=underCS args:=rfl
noncomputable def lvS:PSpec:=on_ls (fun l top=>(∀ e,e∈l->isH e)/\l.length<=1000000000000/\top.length<=1000000000000) (fun l top=>.sl ((lvC (l.map hCode) top).map PV.str))
def stC (L D:List (List UInt8)) (c:List UInt8):Bool:=isCode c&&L.contains c&&D.all (fun x=>!(parC x == c))
theorem w_lvS:PSound GG 89 lvS:=by
 refine PSound.of_wpc (C:=cxP Tryz.prog Φ19 [] 65) (T:=plan0) Tryz.func89 rfl rfl rfl (Fit.pure (G:=GG) hΦ19 mixed) (fun args h=>?_)
 unfold lvS at h
 obtain ⟨l,top,rfl,hp⟩:=on_ls_inv h
 refine ⟨by simp [cxP],?_⟩
 simp only [lvS,on_ls_eq,Tryz.f89,argL,plan0]
 obtain ⟨hl,hn,ht⟩:=hp
 simp only [go_sem,↓reduceIte,reduceCtorEq,Nat.reduceLT]
 refine AWp.loop (T:=plan0) (α:=Nat × List (List UInt8 × Bool)) (fun x=>([(0,.pv (.sl l)),(1,.pv (.str top)),(5,.mp 13),(14,.pv (.sl l)),(15,.pv (.int .i64 l.length)),(16,.pv (.int .i64 x.1))],[(13,.map (emap x.2))]))
  (fun x=>x.1<=l.length/\knew x.2/\∀ c,kget c x.2=(isCode c&&((l.take x.1).map hCode).contains c)) (fun x=>l.length-x.1)
  ⟨(0,[]),⟨Nat.zero_le _,List.nodup_nil,fun c=>by simp [kget]⟩,⟨by simp [fitR,look],by simp [fitH,hget,emap],rfl,rfl,rfl⟩⟩ ?_
 rintro ⟨i,es⟩ ⟨h1,h2,h3⟩
 simp only at h1 h2 h3
 have hi1:IntKind.i64.wrap ((i:Int)+1)=((i+1:Nat):Int):=by rw [i64_in _ (by omega)];omega
 by_cases hlt:i<l.length
 · have c0:decide ((i:Int)<(l.length:Int))=true:=by simp;omega
   obtain ⟨c,nm,he,hc⟩:=hl _ (getD_mem hlt)
   have he3:l.getD i default=.agg [.str c,.str nm]:=he
   have hkk:=@emap_ok Tryz.prog _ Tryz.underlying9 es
   simp only [c0,he3,hi1,mput_emap,List.take_succ_cons,List.take_nil,Φ19_is,isS,on_s_eq,plan0,go_sem,↓reduceIte,reduceCtorEq,Nat.reduceEqDiff,Nat.reduceLT,Nat.reduceAdd,Nat.reduceLeDiff]
   refine ⟨⟨by omega,by omega⟩,by kernel_rfl,hc,hkk,(i+1,kput c (isCode c) es),⟨by simp only;omega,kput_new h2,fun d=>?_⟩,by simp only;omega,⟨by simp [fitR,look],by simp [fitH,hget],rfl,rfl,rfl⟩⟩
   simp only
   rw [kput_get,h3,take_succ_getD hlt,he3,List.map_append]
   by_cases e:d=c
   · subst e
     simp [hCode]
   · have e2:(d == c)=false:=by simpa using e
     simp only [e2,Bool.false_eq_true,if_false]
     congr 1
     rw [Bool.eq_iff_iff,List.contains_iff_mem,List.contains_iff_mem,List.mem_append]
     simp [hCode,e]
 · have c0:decide ((i:Int)<(l.length:Int))=false:=by simp;omega
   have e1:i=l.length:=by omega
   subst e1
   rw [List.take_length] at h3
   simp only [c0,plan0,go_sem,↓reduceIte,reduceCtorEq,Nat.reduceEqDiff,Nat.reduceLT,Nat.reduceAdd,Nat.reduceLeDiff]
   refine AWp.loop (T:=plan0) (α:=Nat × List (List UInt8 × Bool)) (fun x=>([(0,.pv (.sl l)),(1,.pv (.str top)),(5,.mp 13),(27,.pv (.sl l)),(28,.pv (.int .i64 l.length)),(29,.pv (.int .i64 x.1))],[(13,.map (emap x.2))]))
    (fun x=>x.1<=l.length/\knew x.2/\∀ c,kget c x.2=stC (l.map hCode) ((l.take x.1).map hCode) c) (fun x=>l.length-x.1)
    ⟨(0,es),⟨Nat.zero_le _,h2,fun c=>by rw [h3];simp [stC]⟩,⟨by simp [fitR,look],by simp [fitH,hget],rfl,rfl,rfl⟩⟩ ?_
   clear h2 h3 hi1 c0
   rintro ⟨i,es⟩ ⟨h1,h2,h3⟩
   simp only at h1 h2 h3
   have hi1:IntKind.i64.wrap ((i:Int)+1)=((i+1:Nat):Int):=by rw [i64_in _ (by omega)];omega
   by_cases hlt:i<l.length
   · have c0:decide ((i:Int)<(l.length:Int))=true:=by simp;omega
     obtain ⟨c,nm,he,hc⟩:=hl _ (getD_mem hlt)
     have he3:l.getD i default=.agg [.str c,.str nm]:=he
     have hkk:=@emap_ok Tryz.prog _ Tryz.underlying9 es
     simp only [c0,he3,hi1,mdel_emap,List.take_succ_cons,List.take_nil,Φ19_parent,parCS,on_s_eq,plan0,go_sem,↓reduceIte,reduceCtorEq,Nat.reduceEqDiff,Nat.reduceLT,Nat.reduceAdd,Nat.reduceLeDiff]
     refine ⟨⟨by omega,by omega⟩,hc,hkk,(i+1,kdel (parC c) es),⟨by simp only;omega,kdel_new h2,fun d=>?_⟩,by simp only;omega,⟨by simp [fitR,look],by simp [fitH,hget],rfl,rfl,rfl⟩⟩
     simp only
     rw [kdel_get _ _ h2,h3,take_succ_getD hlt,he3,List.map_append]
     unfold stC
     rw [List.all_append]
     by_cases e:d=parC c
     · subst e
       simp [hCode]
     · have e2:(d == parC c)=false:=by simpa using e
       have e3:(parC c == d)=false:=by simpa using fun h=>e h.symm
       simp [hCode,e2,e3]
   · have c0:decide ((i:Int)<(l.length:Int))=false:=by simp;omega
     have e1:i=l.length:=by omega
     subst e1
     rw [List.take_length] at h3
     simp only [c0,plan0,go_sem,↓reduceIte,reduceCtorEq,Nat.reduceEqDiff,Nat.reduceLT,Nat.reduceAdd,Nat.reduceLeDiff]
     refine AWp.adoptS (s:=10) (κ:=8000) (k:=1) (by simp [look]) (by simp [hget]) (by decide) ?_
     refine AWp.loop (T:=plan0) (α:=Nat × List (List UInt8)) (fun x=>([(1,.pv (.str top)),(5,.mp 13),(10,.rs 8000 x.2.length),(38,.pv (.sl l)),(39,.pv (.int .i64 l.length)),(40,.pv (.int .i64 x.1))],[(13,.map (emap es)),(8000,.row 1 (x.2.map PV.str))]))
      (fun x=>x.1<=l.length/\x.2=((l.take x.1).map hCode).filter (fun c=>isCode c&&(l.map hCode).all (fun x=>!(parC x == c))&&(top == []||undC c top))) (fun x=>l.length-x.1)
      ⟨(0,[]),⟨Nat.zero_le _,rfl⟩,⟨by simp [fitR,look,upd],by simp [fitH,hget,hset],rfl,rfl,rfl⟩⟩ ?_
     clear hi1 c0
     rintro ⟨i,acc⟩ ⟨g1,g2⟩
     simp only at g1 g2
     have hi1:IntKind.i64.wrap ((i:Int)+1)=((i+1:Nat):Int):=by rw [i64_in _ (by omega)];omega
     have hal:acc.length<=i:=by rw [g2];exact Nat.le_trans (List.length_filter_le _ _) (by rw [List.length_map,List.length_take];omega)
     have tk:(acc.map PV.str).take acc.length=acc.map PV.str:=List.take_of_length_le (by simp)
     by_cases hlt:i<l.length
     · have c0:decide ((i:Int)<(l.length:Int))=true:=by simp;omega
       obtain ⟨c,nm,he,hc⟩:=hl _ (getD_mem hlt)
       have he3:l.getD i default=.agg [.str c,.str nm]:=he
       have hkk:=@emap_ok Tryz.prog _ Tryz.underlying9 es
       have hcm:(l.map hCode).contains c=true:=by
        rw [List.contains_iff_mem]
        exact List.mem_map.2 ⟨_,getD_mem hlt,by rw [he3];rfl⟩
       have hst:mval (.bool false) (.str c) (emap es)=.bool (isCode c&&(l.map hCode).all (fun x=>!(parC x == c))):=by
        rw [mget_emap,h3];unfold stC;rw [hcm,Bool.and_true]
       have hstep:((l.take (i+1)).map hCode).filter (fun c=>isCode c&&(l.map hCode).all (fun x=>!(parC x == c))&&(top == []||undC c top))=acc++(if (isCode c&&(l.map hCode).all (fun x=>!(parC x == c))&&(top == []||undC c top))=true then [c] else []):=by
        rw [take_succ_getD hlt,he3,List.map_append,List.filter_append,g2]
        congr 1
        by_cases h9:(isCode c&&(l.map hCode).all (fun x=>!(parC x == c))&&(top == []||undC c top))=true
        · simp only [List.map_cons,List.map_nil,hCode,List.filter_cons,h9,if_true,List.filter_nil]
        · simp only [List.map_cons,List.map_nil,hCode,List.filter_cons,h9,Bool.false_eq_true,if_false,List.filter_nil]
       generalize (isCode c&&(l.map hCode).all (fun x=>!(parC x == c)))=q at hst hstep
       simp only [c0,he3,hi1,tk,hst,List.length_map,List.take_succ_cons,List.take_nil,Φ19_under,underCS,on_ss_eq,plan0,go_sem,↓reduceIte,reduceCtorEq,Nat.reduceEqDiff,Nat.reduceLT,Nat.reduceAdd,Nat.reduceLeDiff,Nat.reduceMul]
       refine ⟨⟨by omega,by omega⟩,hkk,fun _=>⟨by omega,by omega⟩,fun a b=>by rw [a,b];rfl,fun h7=>⟨rfl,fun e he=>by simp only [List.mem_singleton] at he;subst he;rfl,Nat.le_refl _,by omega,by simp only [maxLen];omega,(i+1,acc++[c]),⟨by simp only;omega,by rw [h7] at hstep;simpa using hstep.symm⟩,by simp only;omega,⟨by simp [fitR,look],by simp [fitH,hget],rfl,rfl,rfl⟩⟩,
        fun h7=>⟨(i+1,acc),⟨by simp only;omega,by rw [h7] at hstep;simpa using hstep.symm⟩,by simp only;omega,⟨by simp [fitR,look],by simp [fitH,hget],rfl,rfl,rfl⟩⟩⟩
     · have c0:decide ((i:Int)<(l.length:Int))=false:=by simp;omega
       simp only [c0,tk,List.length_map,plan0,go_sem,↓reduceIte,reduceCtorEq,Nat.reduceEqDiff,Nat.reduceLT,Nat.reduceAdd,Nat.reduceLeDiff]
       have e1:i=l.length:=by omega
       subst e1
       rw [List.take_length] at g2
       rw [g2]
       exact ⟨by simp,rfl⟩
noncomputable def Φ20 (g:FuncId):PSpec:=putΦ Φ19 89 lvS g
theorem hΦ20:TabSound GG Φ20:=hΦ19.put w_lvS
noncomputable def Φ21 (g:FuncId):PSpec:=Φ20 g
theorem hΦ21:TabSound GG Φ21:=hΦ20
end Go.AM
