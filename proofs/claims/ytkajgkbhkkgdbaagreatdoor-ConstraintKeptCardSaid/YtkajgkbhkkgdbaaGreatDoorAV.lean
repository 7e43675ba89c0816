/-
  A part of a proof.
-/
import Derived.Test.YtkajgkbhkkgdbaaGreatDoorAT
import Derived.RangeFuncNested
import Derived.RangeFuncCalls
import Derived.LoopNIn
set_option linter.unusedSimpArgs false
set_option linter.unusedVariables false
namespace Go.AM
open Go
def stepAt (C:Ctx) (H0:AHeap) (ops:Array Oper) (i:Nat) (st:ASt) (K:ASt->Prop):Prop:=
 match ops[i]? with
 | none=>K st
 | some o=>stepG C true H0 ops o st K
def aAny (C:Ctx) (H0:AHeap) (md:Region.Mode) (ops:Array Oper) (K:ASt->Prop):Nat->Array Bool->ASt->Prop
 | 0,listed,st=>Region.ready md ops listed=[]/\K st
 | fuel+1,listed,st=>(Region.ready md ops listed=[]->K st)/\∀ i∈Region.ready md ops listed,stepAt C H0 ops i st (aAny C H0 md ops K fuel (listed.setIfInBounds i true))
def EMono (C:Ctx):Prop:=∀ f ψ,C.Ψ f=some ψ->∀ d args st (K K':AV->ASt->Prop),(∀ r s,K r s->K' r s)->ψ d args st K->ψ d args st K'
section
variable {G:Glob} {E:Base} {N:Nat} {C:Ctx} {ops:Array Oper} {md:Region.Mode}
theorem aAny_wp {H0:AHeap} (hP0:∀ κ,(E.L0 κ).isSome=true->κ∈C.pins) (hC:TabsAll G C) (hN:C.N=N) {K:ASt->Prop} {Q:Exit->Act->World->Prop} (hQ:∀ a w,Beh G E N K a w->Q .normal a w):∀ (fuel:Nat) (listed:Array Bool) (a:Act) (w:World),
 Beh G E N (aAny C H0 md ops K fuel listed) a w->wpAny G.P md ops Q fuel listed a w
 | 0,listed,a,w,⟨st,L,h,hR,hd⟩=>⟨h.1,hQ a w ⟨st,L,h.2,hR,hd⟩⟩
 | fuel+1,listed,a,w,⟨st,L,h,hR,hd⟩=>by
   refine ⟨fun h0=>hQ a w ⟨st,L,h.1 h0,hR,hd⟩,fun i hi=>?_⟩
   have hs:=h.2 i hi
   unfold stepAt at hs
   unfold wpOp
   cases ho:ops[i]? with
   | none=>
     rw [ho] at hs
     exact aAny_wp hP0 hC hN hQ fuel _ a w ⟨st,L,hs,hR,hd⟩
   | some o=>
     rw [ho] at hs
     exact stepG_wp hP0 hC hN hR hd hs (fun a' w' hb=>aAny_wp hP0 hC hN hQ fuel _ a' w' hb)
theorem putD_mono {st:ASt} {d:Option Tmp} {v:AV} {K K':ASt->Prop} (hk:∀ s,K s->K' s) (h:putD N st d v K):putD N st d v K':=by
 cases d with
 | none=>exact hk _ h
 | some t=>exact ⟨h.1,hk _ h.2⟩
theorem newB_mono {st:ASt} {d:Option Tmp} {B:ABlk} {v:Nat->AV} {K K':ASt->Prop} (hk:∀ s,K s->K' s) (h:newB N st d B v K):newB N st d B v K':=by
 cases d with
 | none=>exact h
 | some t=>exact ⟨h.1,h.2.1,hk _ h.2.2⟩
theorem storeA_mono {st:ASt} {t:TypeId} {x v:AV} {K K':ASt->Prop} (hk:∀ s,K s->K' s) (h:storeA C st t x v K):storeA C st t x v K':=by
 unfold storeA at h ⊢
 split at h
 · split at h
   · exact ⟨h.1,h.2.1,h.2.2.1,hk _ h.2.2.2⟩
   · exact h.elim
 · split at h
   · exact ⟨h.1,h.2.1,h.2.2.1,h.2.2.2.1,h.2.2.2.2.1,h.2.2.2.2.2.1,hk _ h.2.2.2.2.2.2⟩
   · exact h.elim
 · exact h.elim
theorem appendA_mono {st:ASt} {d:Option Tmp} {t tx:TypeId} {s x:AV} {K K':ASt->Prop} (hk:∀ s,K s->K' s) (h:appendA C st d t tx s x K):appendA C st d t tx s x K':=by
 unfold appendA at h ⊢
 split at h
 · split at h
   · obtain ⟨h1,h2,h3,h4,h5⟩:=h
     refine ⟨h1,h2,h3,h4,?_⟩
     split at h5
     · exact ⟨h5.1,h5.2.1,newB_mono hk h5.2.2⟩
     · split at h5
       · exact ⟨h5.1,h5.2.1,h5.2.2.1,h5.2.2.2.1,h5.2.2.2.2.1,h5.2.2.2.2.2.1,hk _ h5.2.2.2.2.2.2⟩
       · exact h5.elim
     · exact h5.elim
   · exact h.elim
 · exact h.elim
theorem makeA_mono {st:ASt} {d:Option Tmp} {t:TypeId} {l c:AV} {K K':ASt->Prop} (hk:∀ s,K s->K' s) (h:makeA C st d t l c K):makeA C st d t l c K':=by
 unfold makeA at h ⊢
 split at h
 · split at h
   · obtain ⟨h1,h2,h3,h4,h5,h6,h7,h8,h9,h10,h11⟩:=h
     exact ⟨h1,h2,h3,h4,h5,h6,h7,h8,h9,h10,newB_mono hk h11⟩
   · exact h.elim
 · exact h.elim
theorem rangeA_mono {st:ASt} {d:Option Tmp} {t:TypeId} {x:AV} {K K':ASt->Prop} (hk:∀ s,K s->K' s) (h:rangeA C st d t x K):rangeA C st d t x K':=by
 unfold rangeA at h ⊢
 split at h
 · exact newB_mono hk h
 · exact h.elim
theorem nextA_mono {st:ASt} {d:Option Tmp} {x:AV} {K K':ASt->Prop} (hk:∀ s,K s->K' s) (h:nextA C st d x K):nextA C st d x K':=by
 unfold nextA at h ⊢
 split at h
 · split at h
   · exact ⟨fun c=>putD_mono hk (h.1 c),fun c=>putD_mono hk (h.2 c)⟩
   · exact h.elim
 · exact h.elim
theorem mapA_mono {st:ASt} {t:TypeId} {m k v:AV} {K K':ASt->Prop} (hk:∀ s,K s->K' s) (h:mapA C st t m k v K):mapA C st t m k v K':=by
 unfold mapA at h ⊢
 split at h
 · split at h
   · exact ⟨h.1,h.2.1,h.2.2.1,h.2.2.2.1,h.2.2.2.2.1,hk _ h.2.2.2.2.2⟩
   · exact h.elim
 · exact h.elim
theorem delA_mono {st:ASt} {d:Option Tmp} {t:TypeId} {m k:AV} {K K':ASt->Prop} (hk:∀ s,K s->K' s) (h:delA C st d t m k K):delA C st d t m k K':=by
 unfold delA at h ⊢
 split at h
 · split at h
   · exact ⟨h.1,h.2.1,putD_mono hk h.2.2⟩
   · exact h.elim
 · exact h.elim
theorem clrA_mono {st:ASt} {d:Option Tmp} {t:TypeId} {x:AV} {K K':ASt->Prop} (hk:∀ s,K s->K' s) (h:clrA C st d t x K):clrA C st d t x K':=by
 unfold clrA at h ⊢
 split at h
 · split at h
   · exact ⟨h.1,h.2.1,h.2.2.1,h.2.2.2.1,h.2.2.2.2.1,h.2.2.2.2.2.1,h.2.2.2.2.2.2.1,putD_mono hk h.2.2.2.2.2.2.2⟩
   · exact h.elim
 · exact h.elim
theorem aopE_mono (hE:EMono C) {o:Oper} {st:ASt} {K K':ASt->Prop} (hk:∀ s,K s->K' s) (h:aopE C o st K):aopE C o st K':=by
 unfold aopE at h ⊢
 split at h
 · split at h
   · exact ⟨h.1,newB_mono hk h.2⟩
   · exact h.elim
 · exact ⟨h.1,h.2.1,newB_mono hk h.2.2⟩
 · exact ⟨h.1,h.2.1,makeA_mono hk h.2.2⟩
 · exact ⟨h.1,h.2.1,h.2.2.1,storeA_mono hk h.2.2.2⟩
 · exact ⟨h.1,rangeA_mono hk h.2⟩
 · exact ⟨h.1,nextA_mono hk h.2⟩
 · exact newB_mono hk h
 · exact ⟨h.1,h.2.1,h.2.2.1,h.2.2.2.1,mapA_mono hk h.2.2.2.2⟩
 · split at h
   · exact ⟨h.1,h.2.1,delA_mono hk h.2.2⟩
   · exact h.elim
 · split at h
   · exact ⟨h.1,clrA_mono hk h.2⟩
   · exact h.elim
 · split at h
   · exact ⟨h.1,h.2.1,appendA_mono hk h.2.2⟩
   · exact h.elim
 · split at h
   · split at h
     · rename_i hψ
       exact ⟨h.1,h.2.1,hE _ _ hψ _ _ _ _ _ (fun r s hp=>putD_mono hk hp) h.2.2⟩
     · exact ⟨h.1,putD_mono hk h.2⟩
   · exact ⟨h.1,putD_mono hk h.2⟩
 · exact ⟨h.1,putD_mono hk h.2⟩
theorem rowLit_mono {o:Oper} {st:ASt} {K K':ASt->Prop} (hk:∀ s,K s->K' s) (h:rowLit C o st K):rowLit C o st K':=by
 unfold rowLit at h ⊢
 split at h
 · split at h
   · split at h
     · obtain ⟨h1,h2,h3,h4,h5,h6,h7⟩:=h
       exact ⟨h1,h2,h3,h4,h5,h6,newB_mono hk h7⟩
     · exact h.elim
   · exact h.elim
 · exact h.elim
theorem effA_mono (hE:EMono C) {o:Oper} {st:ASt} {K K':ASt->Prop} (hk:∀ s,K s->K' s) (h:effA C o st K):effA C o st K':=by
 unfold effA at h ⊢
 split at h
 · exact rowLit_mono hk h
 · split at h
   · split at h
     · exact aopE_mono hE hk h
     · exact ⟨h.1,fun r hr=>putD_mono hk (h.2 r hr)⟩
   · exact ⟨h.1,fun r hr=>putD_mono hk (h.2 r hr)⟩
 · exact aopE_mono hE hk h
theorem stepG_mono (hE:EMono C) {dr:Bool} {H0:AHeap} {o:Oper} {st:ASt} {K K':ASt->Prop} (hk:∀ s,K s->K' s) (h:stepG C dr H0 ops o st K):stepG C dr H0 ops o st K':=by
 unfold stepG at h ⊢
 split at h
 · exact h.elim
 · split at h
   · rename_i hc
     rw [if_pos hc]
     unfold stepQ at h ⊢
     split at h
     · exact ⟨h.1,fun r hr=>putD_mono hk (h.2 r hr)⟩
     · exact ⟨h.1,fun r hr hz=>putD_mono hk (h.2 r hr hz)⟩
   · rename_i hc
     rw [if_neg hc]
     split at h
     · exact effA_mono hE hk h
     · exact ⟨fun hc=>effA_mono hE hk (h.1 hc),fun hc=>putD_mono hk (h.2 hc)⟩
def waitOf (md:Region.Mode) (fr:Array Nat) (o:Oper):Nat:=o.after.toList.foldr (fun e m=>if Region.binds md e then (2 ^ e.on ||| fr.getD e.on 0) ||| m else m) 0
def waits (md:Region.Mode) (l:List Oper):Array Nat:=l.foldl (fun fr o=>fr.push (waitOf md fr o)) #[]
def depsLt (md:Region.Mode) (o:Oper) (k:Nat):Bool:=o.after.toList.all fun e=>!Region.binds md e||decide (e.on<k)
def checkJ (C:Ctx) (ops:Array Oper) (m:Nat) (y:Oper):Nat->List Oper->Bool
 | _,[]=>true
 | i,x::r=>(m.testBit i||pairOk C ops x y)&&checkJ C ops m y (i+1) r
def checkL (C:Ctx) (md:Region.Mode) (ops:Array Oper) (fr:Array Nat) (all:List Oper):Nat->List Oper->Bool
 | _,[]=>true
 | k,y::r=>depsLt md y k&&(fr.getD k 0 == waitOf md fr y)&&checkJ C ops (fr.getD k 0) y 0 (all.take k)&&checkL C md ops fr all (k+1) r
def checkD (C:Ctx) (md:Region.Mode) (ops:Array Oper):Bool:=checkL C md ops (waits md ops.toList) ops.toList 0 ops.toList
theorem waitOf_spec {fr:Array Nat} {o:Oper} {i:Nat} (h:(waitOf md fr o).testBit i=true):∃ e∈o.after,Region.binds md e=true/\(e.on=i\/(fr.getD e.on 0).testBit i=true):=by
 unfold waitOf at h
 have:∀ l:List Edge,(l.foldr (fun e m=>if Region.binds md e then (2 ^ e.on ||| fr.getD e.on 0) ||| m else m) 0).testBit i=true->∃ e∈l,Region.binds md e=true/\(e.on=i\/(fr.getD e.on 0).testBit i=true):=by
  intro l
  induction l with
  | nil=>intro h;simp at h
  | cons e r ih=>
    intro h
    simp only [List.foldr_cons] at h
    split at h
    · rename_i hb
      rw [Nat.testBit_or,Nat.testBit_or,Bool.or_eq_true,Bool.or_eq_true] at h
      rcases h with (h | h) | h
      · rw [Nat.testBit_two_pow] at h
        exact ⟨e,List.mem_cons_self,hb,.inl (by simpa using h)⟩
      · exact ⟨e,List.mem_cons_self,hb,.inr h⟩
      · obtain ⟨e',h1,h2⟩:=ih h
        exact ⟨e',List.mem_cons_of_mem _ h1,h2⟩
    · obtain ⟨e',h1,h2⟩:=ih h
      exact ⟨e',List.mem_cons_of_mem _ h1,h2⟩
 obtain ⟨e,h1,h2⟩:=this _ h
 exact ⟨e,by simpa using h1,h2⟩
theorem checkJ_spec {m:Nat} {y:Oper}:∀ (l:List Oper) (i:Nat),checkJ C ops m y i l=true->∀ j x,l[j]?=some x->m.testBit (i+j)=false->pairOk C ops x y=true
 | [],_,_,j,x,hx,_=>by simp at hx
 | o::r,i,h,j,x,hx,hm=>by
   simp only [checkJ,Bool.and_eq_true] at h
   cases j with
   | zero=>
     simp only [List.getElem?_cons_zero,Option.some.injEq] at hx
     subst hx
     rw [Nat.add_zero] at hm
     simpa [hm] using h.1
   | succ j=>
     refine checkJ_spec r (i+1) h.2 j x (by simpa using hx) ?_
     rw [<- hm];congr 1;omega
theorem checkL_spec {fr:Array Nat} {all:List Oper}:∀ (l:List Oper) (k:Nat),checkL C md ops fr all k l=true->∀ j y,l[j]?=some y->
 (∀ e∈y.after,Region.binds md e=true->e.on<k+j)/\fr.getD (k+j) 0=waitOf md fr y/\∀ i x,(all.take (k+j))[i]?=some x->(fr.getD (k+j) 0).testBit i=false->pairOk C ops x y=true
 | [],_,_,j,y,hy=>by simp at hy
 | o::r,k,h,j,y,hy=>by
   simp only [checkL,Bool.and_eq_true,beq_iff_eq] at h
   obtain ⟨⟨⟨h1,h2⟩,h3⟩,h4⟩:=h
   cases j with
   | zero=>
     simp only [List.getElem?_cons_zero,Option.some.injEq] at hy
     subst hy
     refine ⟨fun e he hb=>?_,h2,fun i x hx hm=>?_⟩
     · unfold depsLt at h1
       have:=List.all_eq_true.1 h1 e (by simpa using he)
       simpa [hb] using this
     · exact checkJ_spec _ 0 h3 i x hx (by rw [Nat.zero_add];exact hm)
   | succ j=>
     have:=checkL_spec r (k+1) h4 j y (by simpa using hy)
     rw [show k+1+j=k+(j+1) by omega] at this
     exact this
theorem getD_tf {listed:Array Bool} {i:Nat} (h:listed.getD i false=true):listed.getD i true=true:=by
 rcases Nat.lt_or_ge i listed.size with h' | h'
 · simp [h'] at h ⊢;exact h
 · simp [Array.getElem?_eq_none h'] at h
theorem aAny_first {H0:AHeap} (hE:EMono C) {K:ASt->Prop} {i:Nat} {oi:Oper} (hi:ops[i]?=some oi) (fr:Nat->Nat)
 (hcl:∀ j oj,ops[j]?=some oj->∀ i,(fr j).testBit i=true->∃ e∈oj.after,Region.binds md e=true/\(e.on=i\/(fr e.on).testBit i=true)):
 ∀ (fuel:Nat) (listed:Array Bool) (st:ASt),
  (∀ S:List Nat,S.Nodup->(∀ j∈S,listed.getD j true=false)->S.length<=fuel+1)->
  (∀ e,listed.getD e false=true->∀ i,(fr e).testBit i=true->listed.getD i false=true)->
  (∀ j oj,ops[j]?=some oj->j≠i->listed.getD j true=false->(fr j).testBit i=false->Swap C H0 ops oi oj)->
  i∈Region.ready md ops listed->stepG C true H0 ops oi st (aAny C H0 md ops K fuel (listed.setIfInBounds i true))->aAny C H0 md ops K (fuel+1) listed st:=by
 intro fuel
 induction fuel with
 | zero=>
   intro listed st hcnt _ _ hr H
   refine ⟨fun h=>(by rw [h] at hr;cases hr),fun j hj=>?_⟩
   by_cases hji:j=i
   · subst hji;unfold stepAt;rw [hi];exact H
   · have:=hcnt [i,j] (by simp [Ne.symm hji]) (by
       intro k hk
       simp at hk
       rcases hk with rfl | rfl
       · exact (mem_ready.1 hr).1
       · exact (mem_ready.1 hj).1)
     simp at this
 | succ fuel ih=>
   intro listed st hcnt hdc hfree hr H
   refine ⟨fun h=>(by rw [h] at hr;cases hr),fun j hj=>?_⟩
   by_cases hji:j=i
   · subst hji;unfold stepAt;rw [hi];exact H
   · obtain ⟨hjun,oj,hoj,hall⟩:=mem_ready.1 hj
     have hiun:=(mem_ready.1 hr).1
     have hfc:∀ i',(fr j).testBit i'=true->listed.getD i' false=true:=fun i' hb=>by
      obtain ⟨e,he,hbd,hor⟩:=hcl j oj hoj i' hb
      have hl:=hall e he hbd
      rcases hor with rfl | h'
      · exact hl
      · exact hdc _ hl _ h'
     have hnf:(fr j).testBit i=false:=by
      cases hb:(fr j).testBit i with
      | false=>rfl
      | true=>rw [getD_tf (hfc i hb)] at hiun;cases hiun
     have hsw:=hfree j oj hoj hji hjun hnf
     have H':stepG C true H0 ops oi st (fun st'=>stepG C true H0 ops oj st' (aAny C H0 md ops K fuel ((listed.setIfInBounds i true).setIfInBounds j true))):=by
      refine stepG_mono hE (fun s hs=>?_) H
      have:=hs.2 j (ready_mono hj hji)
      unfold stepAt at this
      rw [hoj] at this
      exact this
     have H2:=hsw st _ H'
     unfold stepAt
     rw [hoj]
     refine stepG_mono hE (fun s hs=>?_) H2
     refine ih (listed.setIfInBounds j true) s ?_ ?_ ?_ (ready_mono hr (Ne.symm hji)) ?_
     · intro S hS hall'
       have h1:∀ k∈S,k≠j/\listed.getD k true=false:=fun k hk=>by
        have h2:=hall' k hk
        by_cases hkj:k=j
        · subst hkj
          have hlt:k<listed.size:=by
           rcases Nat.lt_or_ge k listed.size with h' | h'
           · exact h'
           · simp [Array.getElem?_eq_none h'] at hjun
          simp [hlt] at h2
        · exact ⟨hkj,by rw [getD_set_ne true (Ne.symm hkj)] at h2;exact h2⟩
       have:=hcnt (j::S) (List.nodup_cons.2 ⟨fun hm=>(h1 j hm).1 rfl,hS⟩) (by
        intro k hk
        rcases List.mem_cons.1 hk with rfl | hk
        · exact hjun
        · exact (h1 k hk).2)
       simp at this
       omega
     · intro e he i' hb
       by_cases hej:e=j
       · subst hej;exact getD_set_true (hfc i' hb)
       · rw [getD_set_ne false (Ne.symm hej)] at he
         exact getD_set_true (hdc e he i' hb)
     · intro k ok hk hki hun hno
       refine hfree k ok hk hki ?_ hno
       by_cases hjk:j=k
       · subst hjk;exact hjun
       · rw [getD_set_ne true hjk] at hun;exact hun
     · rw [Array.setIfInBounds_comm _ _ hji]
       exact hs
theorem nodup_len:∀ (S l:List Nat),S.Nodup->(∀ j,j∈S->j∈l)->S.length<=l.length
 | [],_,_,_=>Nat.zero_le _
 | a::S,l,hn,hs=>by
   have ha:=hs a List.mem_cons_self
   have h2:=nodup_len S (l.erase a) (List.nodup_cons.1 hn).2 (fun j hj=>(List.mem_erase_of_ne (fun e=>(List.nodup_cons.1 hn).1 (by subst e;exact hj))).2 (hs j (List.mem_cons_of_mem _ hj)))
   rw [List.length_erase_of_mem ha] at h2
   have:=List.length_pos_of_mem ha
   simp only [List.length_cons]
   omega
theorem aAny_lex {G:Glob} {H0:AHeap} (hC:TabsAll G C) (hE:EMono C) {K:ASt->Prop} (hchk:checkD C md ops=true):∀ (l:List Oper) (k:Nat) (listed:Array Bool) (st:ASt),(∀ j,l[j]?=ops[k+j]?)->
 listed.size=ops.size->(∀ j,j<ops.size->listed.getD j false=decide (j<k))->k+l.length=ops.size->
 stepsG C true H0 ops l st K->aAny C H0 md ops K l.length listed st:=by
 have hspec:=checkL_spec ops.toList 0 hchk
 simp only [Nat.zero_add] at hspec
 have hsp:∀ j y,ops[j]?=some y->(∀ e∈y.after,Region.binds md e=true->e.on<j)/\(waits md ops.toList).getD j 0=waitOf md (waits md ops.toList) y/\∀ i x,i<j->ops[i]?=some x->((waits md ops.toList).getD j 0).testBit i=false->pairOk C ops x y=true:=by
  intro j y hy
  obtain ⟨h1,h2,h3⟩:=hspec j y (by simpa using hy)
  refine ⟨h1,h2,fun i x hij hx hm=>h3 i x ?_ hm⟩
  rw [List.getElem?_take,if_pos hij]
  simpa using hx
 have hcl:∀ j oj,ops[j]?=some oj->∀ i,((waits md ops.toList).getD j 0).testBit i=true->∃ e∈oj.after,Region.binds md e=true/\(e.on=i\/((waits md ops.toList).getD e.on 0).testBit i=true):=by
  intro j oj hj i hb
  rw [(hsp j oj hj).2.1] at hb
  exact waitOf_spec hb
 intro l
 induction l with
 | nil=>
   intro k listed st hl hsz hlk hk h
   simp only [List.length_nil,Nat.add_zero] at hk
   refine ⟨?_,h⟩
   rw [List.eq_nil_iff_forall_not_mem]
   intro j hj
   obtain ⟨h0,o,ho,_⟩:=mem_ready.1 hj
   have hlt:=(Array.getElem?_eq_some_iff.1 ho).1
   have:=hlk j hlt
   rw [show decide (j<k)=true by simp;omega] at this
   rw [getD_tf this] at h0
   cases h0
 | cons o r ih=>
   intro k listed st hl hsz hlk hk h
   have h0:ops[k]?=some o:=by simpa using (hl 0).symm
   have hklt:=(Array.getElem?_eq_some_iff.1 h0).1
   simp only [List.length_cons] at hk ⊢
   have tf:∀ j,j<ops.size->listed.getD j true=listed.getD j false:=fun j hj=>by
    have:j<listed.size:=by rw [hsz];exact hj
    simp [this]
   have unl:∀ j,listed.getD j true=false->k<=j/\j<ops.size:=fun j hj=>by
    have hlt:j<ops.size:=by
     rcases Nat.lt_or_ge j listed.size with h' | h'
     · rw [<- hsz];exact h'
     · simp [Array.getElem?_eq_none h'] at hj
    rw [tf j hlt,hlk j hlt] at hj
    exact ⟨by simpa using hj,hlt⟩
   refine aAny_first hE h0 (fun j=>(waits md ops.toList).getD j 0) hcl r.length listed st ?_ ?_ ?_ ?_ ?_
   · intro S hS hall
     have:=nodup_len S (List.range' k (r.length+1)) hS (fun j hj=>by
      obtain ⟨h1,h2⟩:=unl j (hall j hj)
      rw [List.mem_range'_1]
      omega)
     simpa using this
   · intro e he i hb
     have hlt:e<ops.size:=by
      rcases Nat.lt_or_ge e listed.size with h' | h'
      · rw [<- hsz];exact h'
      · simp [Array.getElem?_eq_none h'] at he
     rw [hlk e hlt] at he
     have hek:e<k:=by simpa using he
     obtain ⟨oe,hoe⟩:∃ oe,ops[e]?=some oe:=⟨_,Array.getElem?_eq_getElem hlt⟩
     have:∀ n e,e<n->e<k->∀ oe,ops[e]?=some oe->((waits md ops.toList).getD e 0).testBit i=true->i<e:=by
      intro n
      induction n with
      | zero=>intro e h;omega
      | succ n ihn=>
        intro e hen hek oe hoe hb
        obtain ⟨d,hd,hbd,hor⟩:=hcl e oe hoe i hb
        have hde:=(hsp e oe hoe).1 d hd hbd
        rcases hor with rfl | hb'
        · exact hde
        · obtain ⟨od,hod⟩:∃ od,ops[d.on]?=some od:=⟨_,Array.getElem?_eq_getElem (by omega)⟩
          have:=ihn d.on (by omega) (by omega) od hod hb'
          omega
     have hie:=this (e+1) e (by omega) hek oe hoe hb
     rw [hlk i (by omega)]
     simp;omega
   · intro j oj hj hjk hun hm
     obtain ⟨h1,h2⟩:=unl j hun
     exact swap_of_pairOk hC ((hsp j oj hj).2.2 k o (by omega) h0 hm)
   · rw [mem_ready]
     refine ⟨by rw [tf k hklt,hlk k hklt];simp,o,h0,fun e he hb=>?_⟩
     have:=(hsp k o h0).1 e he hb
     rw [hlk e.on (by omega)]
     simpa using this
   · refine stepG_mono hE (fun s hs=>?_) h
     refine ih (k+1) _ s (fun j=>by have:=hl (j+1);simpa [Nat.add_assoc,Nat.add_comm 1 j] using this) (by simpa using hsz) ?_ (by omega) hs
     intro j hj
     by_cases hjk:k=j
     · subst hjk
       have:k<listed.size:=by rw [hsz];exact hj
       simp [this]
     · rw [getD_set_ne false hjk,hlk j hj]
       simp;omega
end
def FF (r:Option Nat):Fence:={ Fence.wide with round:=r }
theorem callsIn_FF {r:Option Nat} {n:Nat} {P:Program} {f:FuncId} {args:Array Value} {w:World} {R:Ending->World->Prop} (h:Calls P f args w R):CallsIn (FF r) n P f args w R:=by
 have:=(callsIn_wide (n:=n)).2 h
 exact this
theorem rowsIn_FF {r:Option Nat} {n:Nat} {P:Program} {row:String} {args:Array Value} {w:World} {R:Value->World->Prop} (h:Rows P row args w R):RowsIn (FF r) n P row args w R:=by
 have:RowsIn Fence.wide n P row args w R:=fun c cs _=>by
  obtain ⟨v,w',hr,hs⟩:=h c cs
  exact ⟨v,w',hr,stepsIn_wide.2 hs⟩
 exact this
section
variable {P:Program} {ops:Array Oper} {Q:Exit->Act->World->Prop} {k:Nat}
theorem put_defers (a:Act) (d:Option Tmp) (v:Value):(a.put d v).defers=a.defers:=by cases d <;> rfl
theorem wpOps_len (hQ:∀ a w,Q .normal a w->a.defers.length<=k) (hp:∀ ch a w,¬ Q (.panic ch) a w) (ho:¬ LetsOut Q):∀ (l:List Nat) (a:Act) (w:World),wpOps P ops Q l a w->a.defers.length<=k:=by
 intro l
 induction l with
 | nil=>exact fun a w h=>hQ a w h
 | cons i rest ih=>
   intro a w h
   unfold wpOps at h
   split at h
   · exact ih a w h
   · rename_i o _
     split at h
     · rcases h with h | ⟨_,h⟩
       · unfold Oper.wp at h
         generalize (execOp a.eval o).run P w=res at h
         unfold Oper.upon at h
         split at h
         · have:=ih _ _ h;rwa [put_defers] at this
         · have:=ih _ _ h;rwa [put_defers] at this
         · have:=ih _ _ h
           rw [put_defers] at this
           simp only [List.length_cons] at this
           omega
         · obtain ⟨e,w',fr,hr,_⟩:=h []
           cases e with
           | returned v=>have:=ih _ _ hr;rwa [put_defers] at this
           | panicked ch=>exact (hp _ _ _ hr).elim
           | outgrown=>exact (ho hr).elim
         · obtain ⟨v,w',hr,_⟩:=h default []
           have:=ih _ _ hr;rwa [put_defers] at this
         · exact (hp _ _ _ h).elim
         · exact h.elim
       · exact (ho h).elim
     · have:=ih _ _ h;rwa [put_defers] at this
theorem semAt_defer {r:Option Nat} {ρ:Operand->Value} {o:Oper} {w w':World} {x:Next} (h:(execOp ρ o).run P w=.ok x w') (hx:∀ d,x≠.defer d):o.semAt r ρ=execOp ρ o:=by
 refine Oper.semAt_eq r ρ o (fun c hc=>?_)
 unfold execOp at h
 rw [hc] at h
 simp only [Sem.run_bind] at h
 cases hr:(resolve ρ c o.type).run P w with
 | halt y w2=>rw [hr] at h;cases h
 | ok d w2=>
   rw [hr] at h
   simp only [Result.andThen_ok,Sem.run_pure,Result.ok.injEq] at h
   exact hx d h.1.symm
theorem wpOps_in (r:Option Nat) (n:Nat) (hQ:∀ a w,Q .normal a w->a.defers.length<=k) (hp:∀ ch a w,¬ Q (.panic ch) a w) (ho:¬ LetsOut Q):∀ (l:List Nat) (a:Act) (w:World),k<=a.defers.length->wpOps P ops Q l a w->wpOpsIn (FF r) n P ops Q l a w:=by
 intro l
 induction l with
 | nil=>exact fun a w _ h=>h
 | cons i rest ih=>
   intro a w hk h
   unfold wpOps at h
   unfold wpOpsIn
   split at h
   · rename_i hi;rw [hi];exact ih a w hk h
   · rename_i o hi
     rw [hi]
     simp only
     have ih':∀ (v:Value) (w':World),wpOps P ops Q rest (a.put o.dst v) w'->wpOpsIn (FF r) n P ops Q rest (a.put o.dst v) w':=fun v w' h=>ih _ _ (by rw [put_defers];exact hk) h
     split at h
     · rename_i hw
       rw [if_pos hw]
       rcases h with h | ⟨_,h⟩
       · refine ⟨fun f _=>trivial,?_⟩
         unfold Oper.wp at h
         cases hres:(execOp a.eval o).run P w with
         | halt x w'=>
           rw [hres] at h
           unfold Oper.upon at h
           split at h
           all_goals first | (rename_i he;cases he;done) | skip
           · exact (hp _ _ _ h).elim
           · exact h.elim
         | ok x w'=>
           rw [hres] at h
           cases x with
           | value v=>
             rw [semAt_defer (r:=(FF r).round) hres (by simp),hres]
             exact ih' v w' h
           | skip=>
             rw [semAt_defer (r:=(FF r).round) hres (by simp),hres]
             exact ih' undef w' h
           | defer d=>
             have:=wpOps_len hQ hp ho _ _ _ h
             rw [put_defers] at this
             simp only [List.length_cons] at this
             omega
           | enter f args=>
             rw [semAt_defer (r:=(FF r).round) hres (by simp),hres]
             refine ⟨(fun hd=>nomatch hd),callsIn_FF (Calls.mono h (fun e w'' he=>?_))⟩
             cases e with
             | returned v=>exact ih' v w'' he
             | panicked ch=>exact he
             | outgrown=>exact he
           | row row args=>
             rw [semAt_defer (r:=(FF r).round) hres (by simp),hres]
             exact ⟨(fun hd=>nomatch hd),rowsIn_FF (Rows.mono h (fun v w'' he=>ih' v w'' he))⟩
           | _=>exact h.elim
       · exact (ho h).elim
     · rename_i hw
       rw [if_neg hw]
       exact ⟨fun f _=>trivial,ih' undef w h⟩
end
section
variable {F:Fence} {n:Nat} {P:Program} {b:Frame} {a:Act} {k:List Item} {cs:List Frame} {w:World} {Q:Exit->Act->World->Prop}
theorem stepR_scope {c:Code}:step P (lone (b.atR a (.code (.scope c)::k)) cs w)=.next (lone (b.atR a (.code c::.inScope c::k)) cs w):=
 step_lone_go (by simp [Go.stepG,Go.stepG.exec,Frame.atR])
theorem stepR_inScope {c:Code}:step P (lone (b.atR a (.inScope c::k)) cs w)=.next (lone (b.atR a k) cs w):=
 step_lone_go (by simp [Go.stepG,Go.stepG.exec,Frame.atR])
theorem wpIn_scope_straight {c:Code} (h:c.wpIn F n P (Exit.noGoto Q) a w):(Code.scope c).wpIn F n P Q a w:=by
 intro b k cs hro hb hr
 have h0:(lone (b.atR a (.code (.scope c)::k)) cs w).fenced P F:=fenced_calm hb hr rfl
 obtain ⟨e,a₁,w₁,hq,harr⟩:=h b (.inScope c::k) cs hro hb hr
 have hx:∀ id,exitTo id (.inScope c::k)=exitTo id k:=fun id=>rfl
 cases e with
 | normal=>exact ⟨.normal,a₁,w₁,hq,.head h0 stepR_scope (StepsIn.trans harr (.one (fenced_calm hb hr rfl) stepR_inScope))⟩
 | exit id=>exact ⟨_,a₁,w₁,hq,.of_steps (.one h0 stepR_scope) ⟨fun k' hk=>harr.1 k' (by rw [hx];exact hk),fun hr hk=>harr.2 hr (by rw [hx];exact hk)⟩⟩
 | goto l=>exact hq.elim
 | ret=>exact ⟨_,a₁,w₁,hq,.of_steps (.one h0 stepR_scope) harr⟩
 | panic ch=>exact ⟨_,a₁,w₁,hq,.of_steps (.one h0 stepR_scope) harr⟩
 | outgrown=>exact ⟨_,a₁,w₁,hq,.of_steps (.one h0 stepR_scope) harr⟩
end
end Go.AM
