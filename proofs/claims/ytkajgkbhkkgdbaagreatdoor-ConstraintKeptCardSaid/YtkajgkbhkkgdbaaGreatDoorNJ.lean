/-
  A part of a proof.
-/
import Derived.Test.YtkajgkbhkkgdbaaGreatDoorNE
set_option linter.unusedSimpArgs false
set_option linter.unusedVariables false
namespace Go.AM
open Go Go.RowKit
def okB:Option ABlk->Prop
 | some (.cells _)=>True
 | some (.obj _)=>True
 | _=>False
def okO (H:AHeap):AV->Prop
 | .pv _=>True
 | .ptr κ _=>okB (hget H κ)
 | _=>False
def allP:List AV->Prop
 | []=>True
 | .pv _::r=>allP r
 | _::_=>False
structure Fr (x:Oper) (st st':ASt):Prop where
 ops:∀ a,a∈x.op.operands.toList->okO st.H (opndV st.ρ a)->opndV st'.ρ a=opndV st.ρ a
 cells:∀ κ cs,hget st.H κ=some (.cells cs)->∃ cs',hget st'.H κ=some (.cells cs')/\(allP cs->cs'=cs)
 obj:∀ κ J,hget st.H κ=some (.obj J)->hget st'.H κ=some (.obj J)
section
variable {G:Glob} {C:Ctx} {ops:Array Oper} {md:Region.Mode}
def SwapA (C:Ctx) (H0:AHeap) (ops:Array Oper) (A:ASt->Prop) (x y:Oper):Prop:=
 ∀ st K,A st->stepG C true H0 ops x st (fun st'=>stepG C true H0 ops y st' K)->stepG C true H0 ops y st (fun st'=>A st'/\stepG C true H0 ops x st' K)
theorem aAny_firstA {H0:AHeap} (hE:EMono C) {K:ASt->Prop} {A:ASt->Prop} {i:Nat} {oi:Oper} (hi:ops[i]?=some oi) (fr:Nat->Nat)
 (hcl:∀ j oj,ops[j]?=some oj->∀ i,(fr j).testBit i=true->∃ e∈oj.after,Region.binds md e=true/\(e.on=i\/(fr e.on).testBit i=true)):
 ∀ (fuel:Nat) (listed:Array Bool) (st:ASt),
  (∀ S:List Nat,S.Nodup->(∀ j∈S,listed.getD j true=false)->S.length<=fuel+1)->
  (∀ e,listed.getD e false=true->∀ i,(fr e).testBit i=true->listed.getD i false=true)->
  (∀ j oj,ops[j]?=some oj->j≠i->listed.getD j true=false->(fr j).testBit i=false->SwapA C H0 ops A oi oj)->
  i∈Region.ready md ops listed->A st->stepG C true H0 ops oi st (aAny C H0 md ops K fuel (listed.setIfInBounds i true))->aAny C H0 md ops K (fuel+1) listed st:=by
 intro fuel
 induction fuel with
 | zero=>
   intro listed st hcnt _ _ hr _ H
   refine ⟨fun h=>(by rw [h] at hr;cases hr),fun j hj=>?_⟩
   by_cases hji:j=i
   · subst hji;unfold stepAt;rw [hi];exact H
   · have:=hcnt [i,j] (by simp [Ne.symm hji]) (by
       intro k hk
       simp at hk
       rcases hk with rfl | rfl
       · exact (mem_ready.1 hr).1
       · exact (mem_ready.1 hj).1)
     simp at this
 | succ fuel ih=>
   intro listed st hcnt hdc hfree hr hA H
   refine ⟨fun h=>(by rw [h] at hr;cases hr),fun j hj=>?_⟩
   by_cases hji:j=i
   · subst hji;unfold stepAt;rw [hi];exact H
   · obtain ⟨hjun,oj,hoj,hall⟩:=mem_ready.1 hj
     have hiun:=(mem_ready.1 hr).1
     have hfc:∀ i',(fr j).testBit i'=true->listed.getD i' false=true:=fun i' hb=>by
      obtain ⟨e,he,hbd,hor⟩:=hcl j oj hoj i' hb
      have hl:=hall e he hbd
      rcases hor with rfl | h'
      · exact hl
      · exact hdc _ hl _ h'
     have hnf:(fr j).testBit i=false:=by
      cases hb:(fr j).testBit i with
      | false=>rfl
      | true=>rw [getD_tf (hfc i hb)] at hiun;cases hiun
     have hsw:=hfree j oj hoj hji hjun hnf
     have H':stepG C true H0 ops oi st (fun st'=>stepG C true H0 ops oj st' (aAny C H0 md ops K fuel ((listed.setIfInBounds i true).setIfInBounds j true))):=by
      refine stepG_mono hE (fun s hs=>?_) H
      have:=hs.2 j (ready_mono hj hji)
      unfold stepAt at this
      rw [hoj] at this
      exact this
     have H2:=hsw st _ hA H'
     unfold stepAt
     rw [hoj]
     refine stepG_mono hE (fun s hs=>?_) H2
     obtain ⟨hA',hs⟩:=hs
     refine ih (listed.setIfInBounds j true) s ?_ ?_ ?_ (ready_mono hr (Ne.symm hji)) hA' ?_
     · intro S hS hall'
       have h1:∀ k∈S,k≠j/\listed.getD k true=false:=fun k hk=>by
        have h2:=hall' k hk
        by_cases hkj:k=j
        · subst hkj
          have hlt:k<listed.size:=by
           rcases Nat.lt_or_ge k listed.size with h' | h'
           · exact h'
           · simp [Array.getElem?_eq_none h'] at hjun
          simp [hlt] at h2
        · exact ⟨hkj,by rw [getD_set_ne true (Ne.symm hkj)] at h2;exact h2⟩
       have:=hcnt (j::S) (List.nodup_cons.2 ⟨fun hm=>(h1 j hm).1 rfl,hS⟩) (by
        intro k hk
        rcases List.mem_cons.1 hk with rfl | hk
        · exact hjun
        · exact (h1 k hk).2)
       simp at this
       omega
     · intro e he i' hb
       by_cases hej:e=j
       · subst hej;exact getD_set_true (hfc i' hb)
       · rw [getD_set_ne false (Ne.symm hej)] at he
         exact getD_set_true (hdc e he i' hb)
     · intro k ok hk hki hun hno
       refine hfree k ok hk hki ?_ hno
       by_cases hjk:j=k
       · subst hjk;exact hjun
       · rw [getD_set_ne true hjk] at hun;exact hun
     · rw [Array.setIfInBounds_comm _ _ hji]
       exact hs
def ann (mk:List Nat) (x:Oper):Bool:=
 match x.dst with
 | some d=>mk.contains d
 | none=>false
end
def AtK (S:List (Nat × Nat)) (ρ:Nat->AV):Prop:=∀ p∈S,∃ off,ρ p.1=.ptr p.2 off
def readApartK (S:List (Nat × Nat)) (x y:Op):Bool:=
 match y,x with
 | .store _ b _,.load _ a=>match keyOf S b,keyOf S a with
   | some kb,some ka=>ka != kb
   | _,_=>false
 | _,_=>false
section
variable {G:Glob} {C:Ctx} {ops:Array Oper} {md:Region.Mode} {S:List (Nat × Nat)}
def dstFree (S:List (Nat × Nat)) (y:Oper):Bool:=match y.dst with
 | some d=>S.all fun p=>p.1 != d
 | none=>true
def pairS (S:List (Nat × Nat)) (C:Ctx) (ops:Array Oper) (x y:Oper):Bool:=
 (pairOk C ops x y&&(cls C true y == 0||cls C true y == 1)&&cls C true x == 0&&dstFree S y)||(x.apart ops y&&cls C true x == 0&&isStore y&&readApartK S x.op y.op)
theorem keyOf_atK {ρ:Nat->AV} (h:AtK S ρ) {x:Operand} {k:Nat} (hk:keyOf S x=some k):∃ off,ox ρ x=.ptr k off:=by
 unfold keyOf at hk
 split at hk
 · rename_i t
   have:∀ l:List (Nat × Nat),l.lookup t=some k->(t,k)∈l:=by
    intro l
    induction l with
    | nil=>intro h;cases h
    | cons p r ih=>
      intro h
      obtain ⟨a,b⟩:=p
      rw [List.lookup_cons] at h
      split at h
      · rename_i he
        simp only [Option.some.injEq] at h
        rw [beq_iff_eq] at he
        subst he;subst h
        exact List.mem_cons_self
      · exact List.mem_cons_of_mem _ (ih h)
   obtain ⟨off,ho⟩:=h _ (this S hk)
   refine ⟨off,?_⟩
   show stripV (ρ t)=_
   rw [ho]
   rfl
 · cases hk
theorem AtK.put {st:ASt} {d:Option Tmp} {v:AV} (h:AtK S st.ρ) (hd:(match d with | some d=>S.all fun p=>p.1 != d | none=>true)=true):AtK S (putS st d v).ρ:=by
 cases d with
 | none=>exact h
 | some d=>
   intro p hp
   have hne:p.1≠d:=by simpa using List.all_eq_true.1 hd p hp
   obtain ⟨off,ho⟩:=h p hp
   refine ⟨off,?_⟩
   show upd st.ρ d v p.1=_
   unfold upd
   rw [if_neg hne]
   exact ho
theorem qop_apartK {ρ:Nat->AV} {H:AHeap} {x y:Oper} (hI:AtK S ρ) (h:readApartK S x.op y.op=true) (hs:(stF C ρ H y).1):qop C ρ (stF C ρ H y).2 x=qop C ρ H x:=by
 obtain ⟨xd,xo,xt,xp,xa,xg⟩:=x
 obtain ⟨yd,yo,yt,yp,ya,yg⟩:=y
 simp only at h
 unfold readApartK at h
 split at h
 · rename_i t b v t2 a
   split at h
   · rename_i kb ka hkb hka
     obtain ⟨ob,hb⟩:=keyOf_atK hI hkb
     obtain ⟨oa,ha⟩:=keyOf_atK hI hka
     have hne:kb≠ka:=by
      have:ka≠kb:=by simpa using h
      exact fun e=>this e.symm
     simp only [stF,hb] at hs ⊢
     obtain ⟨_,_,hst⟩:=hs
     unfold storeF at hst ⊢
     split at hst
     · rename_i key off n he hsz
       simp only [AV.ptr.injEq] at he
       obtain ⟨rfl,rfl⟩:=he
       split at hst
       · rename_i cs hg
         simp only []
         simp only [qop,aopP,ha,loadA,hget_hset_ne _ _ hne]
       · exact hst.elim
     · rename_i he _
       cases he
     · exact hst.elim
   · cases h
 · cases h
theorem swapA_at (hC:TabsAll G C) {H0:AHeap} {x y:Oper} (h:pairS S C ops x y=true):SwapA C H0 ops (fun st=>AtK S st.ρ) x y:=by
 unfold pairS at h
 rw [Bool.or_eq_true] at h
 intro st K hA H
 rcases h with h | h
 · simp only [Bool.or_eq_true,Bool.and_eq_true,beq_iff_eq] at h
   obtain ⟨⟨⟨hp,hy⟩,hx⟩,hd⟩:=h
   unfold dstFree at hd
   have hsw:=swap_of_pairOk hC (H0:=H0) hp st K H
   rcases hy with hy | hy
   · rw [stepG_q hy] at hsw ⊢
     obtain ⟨c,h1,h2,h3⟩:=hsw
     exact ⟨c,h1,h2,fun r hr hz=>⟨(h3 r hr hz).1,hA.put hd,(h3 r hr hz).2⟩⟩
   · rw [stepG_a hy] at hsw ⊢
     obtain ⟨d,h1,h2,h3,h4,h5⟩:=hsw
     rw [h1] at hd
     exact ⟨d,h1,h2,h3,h4,hA.put (d:=some d) hd,h5⟩
 · simp only [Bool.and_eq_true,beq_iff_eq] at h
   obtain ⟨⟨⟨hap,h1⟩,h3⟩,hra⟩:=h
   obtain ⟨a1,a2,a3⟩:=Oper.apart_spec hap
   have some_r:∀ (o:Oper) (ρ:Nat->AV) (H:AHeap) (c:Bool) (z:AV),(c=true->(qop C ρ H o).1)->∃ r,(c=true->(qop C ρ H o).2 r)/\(c=false->r=z):=by
    intro o ρ H c z h
    cases c with
    | true=>obtain ⟨r,hr⟩:=qop_inhab hC (h rfl);exact ⟨r,(fun _=>hr),(fun h=>by cases h)⟩
    | false=>exact ⟨z,(fun h=>by cases h),fun _=>rfl⟩
   rw [stepG_q h1] at H
   rw [stepG_s h3]
   obtain ⟨ci,g1,g2,g3⟩:=H
   obtain ⟨r0,hr0,hz0⟩:=some_r x st.ρ st.H ci (aopP C st.ρ H0 x.op).2 g2
   obtain ⟨b1,b2⟩:=g3 r0 hr0 hz0
   rw [stepG_s h3,stF_put a1,putS_same] at b2
   obtain ⟨e1,e2,e3⟩:=b2
   refine ⟨e1,e2,hA,?_⟩
   rw [stepG_q h1]
   have hq:qop C st.ρ (stF C st.ρ st.H y).2 x=qop C st.ρ st.H x:=qop_apartK hA hra e2
   refine ⟨ci,g1,fun hc=>by rw [hq];exact g2 hc,fun ri hri hzi=>⟨b1,?_⟩⟩
   have:=(g3 ri (fun hc=>by have h9:=hri hc;rw [hq] at h9;exact h9) hzi).2
   rw [stepG_s h3,stF_put a1,putS_same] at this
   rw [putS_H]
   exact this.2.2
def stepsT (S:List (Nat × Nat)) (C:Ctx) (H0:AHeap) (ops:Array Oper) (mk:List Nat):List Oper->ASt->(ASt->Prop)->Prop
 | [],st,K=>K st
 | o::r,st,K=>(ann mk o=true->AtK S st.ρ)/\stepG C true H0 ops o st (fun st'=>stepsT S C H0 ops mk r st' K)
def KT (S:List (Nat × Nat)) (C:Ctx) (H0:AHeap) (ops:Array Oper) (mk:List Nat) (r:List Oper) (K:ASt->Prop):ASt->Prop:=fun st=>stepsT S C H0 ops mk r st K
theorem stepsT_nil {H0:AHeap} {mk:List Nat} {st:ASt} {K:ASt->Prop}:stepsT S C H0 ops mk [] st K=K st:=rfl
theorem stepsT_cons {H0:AHeap} {mk:List Nat} {o:Oper} {r:List Oper} {st:ASt} {K:ASt->Prop}:stepsT S C H0 ops mk (o::r) st K=((ann mk o=true->AtK S st.ρ)/\stepG C true H0 ops o st (KT S C H0 ops mk r K)):=rfl
theorem KT_ap {H0:AHeap} {mk:List Nat} {r:List Oper} {st:ASt} {K:ASt->Prop}:KT S C H0 ops mk r K st=stepsT S C H0 ops mk r st K:=rfl
def pairT (S:List (Nat × Nat)) (mk:List Nat) (C:Ctx) (ops:Array Oper) (x y:Oper):Bool:=bif ann mk x then pairS S C ops x y else pairP C ops x y
theorem aAny_permT {G:Glob} {H0:AHeap} (hC:TabsAll G C) (hE:EMono C) {K:ASt->Prop} {order:List Nat} {mk:List Nat} (hchk:checkQ (pairT S mk C ops) md ops order=true):∀ (l done:List Nat) (listed:Array Bool) (st:ASt),done++l=order->
 listed.size=ops.size->(∀ j,j<ops.size->listed.getD j false=decide (j∈done))->
 stepsT S C H0 ops mk (opsOf ops l) st K->aAny C H0 md ops K l.length listed st:=by
 unfold checkQ at hchk
 rw [Bool.and_eq_true] at hchk
 obtain ⟨hck,hcov⟩:=hchk
 have hcov:∀ i,i<ops.size->i∈order:=fun i hi=>by simpa using List.all_eq_true.1 hcov i (List.mem_range.2 hi)
 have hspec:∀ (p q:List Nat) (j:Nat),order=p++j::q->∃ y,ops[j]?=some y/\(waits md ops.toList).getD j 0=waitOf md (waits md ops.toList) y/\(∀ e∈y.after,Region.binds md e=true->e.on∈p)/\j∉p/\∀ i,i∈p->((waits md ops.toList).getD j 0).testBit i=false->∃ x,ops[i]?=some x/\pairT S mk C ops x y=true:=by
  intro p q j h
  have:=checkO_spec order [] hck p q j h
  simpa using this
 have hcl:∀ j oj,ops[j]?=some oj->∀ i,((waits md ops.toList).getD j 0).testBit i=true->∃ e∈oj.after,Region.binds md e=true/\(e.on=i\/((waits md ops.toList).getD e.on 0).testBit i=true):=by
  intro j oj hj i hb
  obtain ⟨p,q,hpq⟩:=List.append_of_mem (hcov j (Array.getElem?_eq_some_iff.1 hj).1)
  obtain ⟨y,hy,hw,_⟩:=hspec p q j hpq
  rw [hj] at hy
  simp only [Option.some.injEq] at hy
  subst hy
  rw [hw] at hb
  exact waitOf_spec hb
 have hclosed:∀ (n:Nat) (p q:List Nat) (j:Nat),p.length<=n->order=p++j::q->∀ i,((waits md ops.toList).getD j 0).testBit i=true->i∈p:=by
  intro n
  induction n with
  | zero=>
    intro p q j hn hpq i hb
    obtain ⟨y,hy,hw,hdep,_⟩:=hspec p q j hpq
    obtain ⟨e,he,hbd,_⟩:=hcl j y hy i hb
    have:=hdep e he hbd
    have hp:p=[]:=List.length_eq_zero_iff.1 (by omega)
    subst hp
    cases this
  | succ n ih=>
    intro p q j hn hpq i hb
    obtain ⟨y,hy,hw,hdep,_⟩:=hspec p q j hpq
    obtain ⟨e,he,hbd,hor⟩:=hcl j y hy i hb
    have hep:=hdep e he hbd
    rcases hor with rfl | hor
    · exact hep
    · obtain ⟨p1,p2,hp⟩:=List.append_of_mem hep
      have:=ih p1 (p2++j::q) e.on (by rw [hp] at hn;simp at hn;omega) (by rw [hpq,hp];simp) i hor
      rw [hp]
      exact List.mem_append_left _ this
 intro l
 induction l with
 | nil=>
   intro done listed st hdl hsz hlk h
   rw [List.append_nil] at hdl
   refine ⟨?_,h⟩
   rw [List.eq_nil_iff_forall_not_mem]
   intro j hj
   obtain ⟨h0,o,ho,_⟩:=mem_ready.1 hj
   have hlt:=(Array.getElem?_eq_some_iff.1 ho).1
   have:=hlk j hlt
   rw [show decide (j∈done)=true by rw [decide_eq_true_eq,hdl];exact hcov j hlt] at this
   rw [getD_tf this] at h0
   cases h0
 | cons i r ih=>
   intro done listed st hdl hsz hlk h
   obtain ⟨oi,hoi,hwi,hdepi,hni,hpr⟩:=hspec done r i hdl.symm
   have hilt:=(Array.getElem?_eq_some_iff.1 hoi).1
   have tf:∀ j,j<ops.size->listed.getD j true=listed.getD j false:=fun j hj=>by
    have:j<listed.size:=by rw [hsz];exact hj
    simp [this]
   have unl:∀ j,listed.getD j true=false->j<ops.size/\j∉done:=fun j hj=>by
    have hlt:j<ops.size:=by
     rcases Nat.lt_or_ge j listed.size with h' | h'
     · rw [<- hsz];exact h'
     · simp [Array.getElem?_eq_none h'] at hj
    rw [tf j hlt,hlk j hlt] at hj
    exact ⟨hlt,by simpa using hj⟩
   have hsteps:(ann mk oi=true->AtK S st.ρ)/\stepG C true H0 ops oi st (fun st'=>stepsT S C H0 ops mk (opsOf ops r) st' K):=by
    have e:opsOf ops (i::r)=oi::opsOf ops r:=by unfold opsOf;rw [List.filterMap_cons,hoi]
    rw [e] at h
    exact h
   refine aAny_firstA (A:=fun s=>ann mk oi=true->AtK S s.ρ) hE hoi (fun j=>(waits md ops.toList).getD j 0) hcl r.length listed st ?_ ?_ ?_ ?_ hsteps.1 ?_
   · intro Z hZ hall
     have:=nodup_len Z (i::r) hZ (fun j hj=>by
      obtain ⟨h1,h2⟩:=unl j (hall j hj)
      have h3:=hcov j h1
      rw [<- hdl,List.mem_append] at h3
      rcases h3 with h3 | h3
      · exact absurd h3 h2
      · exact h3)
     simpa using this
   · intro e he i' hb
     have hlt:e<ops.size:=by
      rcases Nat.lt_or_ge e listed.size with h' | h'
      · rw [<- hsz];exact h'
      · simp [Array.getElem?_eq_none h'] at he
     rw [hlk e hlt,decide_eq_true_eq] at he
     obtain ⟨p1,p2,hp⟩:=List.append_of_mem he
     have hm:=hclosed p1.length p1 (p2++i::r) e (Nat.le_refl _) (by rw [<- hdl,hp];simp) i' hb
     have hmd:i'∈done:=by rw [hp];exact List.mem_append_left _ hm
     have hi'lt:i'<ops.size:=by
      obtain ⟨q1,q2,hq⟩:=List.append_of_mem hm
      obtain ⟨y,hy,_⟩:=hspec q1 (q2++e::(p2++i::r)) i' (by rw [<- hdl,hp,hq];simp)
      exact (Array.getElem?_eq_some_iff.1 hy).1
     rw [hlk i' hi'lt,decide_eq_true_eq]
     exact hmd
   · intro j oj hj hji hun hm
     obtain ⟨h1,h2⟩:=unl j hun
     have h3:=hcov j h1
     rw [<- hdl,List.mem_append,List.mem_cons] at h3
     rcases h3 with h3 | rfl | h3
     · exact absurd h3 h2
     · exact absurd rfl hji
     · obtain ⟨p1,p2,hp⟩:=List.append_of_mem h3
       obtain ⟨y,hy,_,_,_,hpr2⟩:=hspec (done++i::p1) p2 j (by rw [<- hdl,hp];simp)
       rw [hj] at hy
       simp only [Option.some.injEq] at hy
       subst hy
       obtain ⟨x,hx,hxy⟩:=hpr2 i (by simp) hm
       rw [hoi] at hx
       simp only [Option.some.injEq] at hx
       subst hx
       unfold pairT at hxy
       cases hann:ann mk oi with
       | true=>
         rw [hann] at hxy
         intro s K hA H
         refine stepG_mono hE (fun s hs=>⟨fun _=>hs.1,hs.2⟩) (swapA_at hC hxy s K (hA rfl) H)
       | false=>
         rw [hann] at hxy
         intro s K _ H
         refine stepG_mono hE (fun s hs=>⟨fun h=>(by cases h),hs⟩) (swap_of_pairP hC hxy s K H)
   · rw [mem_ready]
     refine ⟨by rw [tf i hilt,hlk i hilt];simpa using hni,oi,hoi,fun e he hb=>?_⟩
     have hed:=hdepi e he hb
     have helt:e.on<ops.size:=by
      obtain ⟨q1,q2,hq⟩:=List.append_of_mem hed
      obtain ⟨y,hy,_⟩:=hspec q1 (q2++i::r) e.on (by rw [<- hdl,hq];simp)
      exact (Array.getElem?_eq_some_iff.1 hy).1
     rw [hlk e.on helt]
     simpa using hed
   · refine stepG_mono hE (fun s hs=>?_) hsteps.2
     refine ih (done++[i]) _ s (by rw [<- hdl];simp) (by simpa using hsz) ?_ hs
     intro j hj
     by_cases hjk:i=j
     · subst hjk
       have:i<listed.size:=by rw [hsz];exact hj
       simp [this]
     · rw [getD_set_ne false hjk,hlk j hj]
       have:j≠i:=fun e=>hjk e.symm
       simp [this]
theorem region_any_inT {G:Glob} {E:Base} {K:ASt->Prop} {a:Act} {w:World} {id:Nat} {H0:AHeap} {order mk:List Nat} (r:Option Nat) (n:Nat) (hP0:∀ κ,(E.L0 κ).isSome=true->κ∈C.pins) (hC:TabsAll G C) (hE:EMono C) (hm:G.P.follows .mixedOrders=true)
 (hchk:checkQ (pairT S mk C ops) .any ops order=true) (hlen:order.length=ops.size) {st:ASt} {L:Locs} (hs:stepsT S C H0 ops mk (opsOf ops order) st K) (hR:Rel G E (OpqS G E) C.N st a.tmps w L) (hd:a.defers=E.ds):(Code.region id ops true).wpIn (FF r) n G.P (QR G E C.N K) a w:=by
 refine wpIn_region_draw fun t=>?_
 refine wpOps_in (k:=E.ds.length) r n ?_ ?_ ?_ _ a _ ?_ ?_
 · rintro a w ⟨st,L,_,_,hd⟩;rw [hd];exact Nat.le_refl _
 · exact fun ch a w h=>h
 · rintro ⟨a,w,h⟩;exact h
 · rw [hd];exact Nat.le_refl _
 · simp only [Region.schedule,hm,Bool.true_or,if_true]
   refine wpAny_sound ops.size t _ a _ ?_
   have hx:=aAny_permT (K:=K) hC hE hchk order [] (Array.replicate ops.size false) st (by simp) (by simp) (fun j hj=>by simp [hj]) hs
   rw [hlen] at hx
   refine aAny_wp hP0 hC rfl (Q:=QR G E C.N K) (fun a w h=>h) ops.size _ a _ ⟨st,L,hx,?_,hd⟩
   exact hR.grow ⟨rfl,rfl,rfl,Nat.le_refl _,fun _ _ _=>rfl,fun _ _ _=>rfl⟩
theorem AWp.permT0 (S:List (Nat × Nat)) (order mk:List Nat) {id:Nat} {Q:AX->ASt->Prop} {st:ASt} (hchk:checkQ (pairT S mk C ops) .any ops order=true) (hlen:order.length=ops.size)
 (h:stepsT S C st.H ops mk (opsOf ops order) st (fun st'=>Q .normal st')):AWp C (.region id ops true) Q st:=by
 intro G E r n hr hF hP0 a w L hR hd
 refine wpIn_mono (region_any_inT (id:=id) r n hP0 hF.tabs hF.mono hF.mixed hchk hlen h hR hd) (fun e a w he=>?_)
 cases e with
 | normal=>
   obtain ⟨st2,L2,h1,h2,h3⟩:=he
   exact .of ⟨st2,L2,h1,h2,h3⟩
 | _=>exact he.elim
end
theorem AWp.condB {C:Ctx} {c:Operand} {x y:Code} {Q:AX->ASt->Prop} {st:ASt} {t:Bool} (hc:opndV st.ρ c=.pv (.bool t)) (h1:t=true->AWp C x Q st) (h2:t=false->AWp C y Q st):AWp C (.cond c x y) Q st:=by
 intro G E r n hr hF hP0 a w L hR hd
 have hb:=opnd_rel hR.env c
 rw [hc] at hb
 exact wpIn_cond_split (bool_inv hb) (fun ht=>h1 ht G E r n hr hF hP0 a w L hR hd) (fun ht=>h2 ht G E r n hr hF hP0 a w L hR hd)
end Go.AM
