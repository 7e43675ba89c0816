/-
  A part of a proof.
-/
import Derived.Test.YteiphfohadlgiaaGreatDoorNE
import Derived.Laws.Slices
set_option linter.unusedSimpArgs false
set_option linter.unusedVariables false
namespace Go.AM
open Go Go.RowKit
def okB:Option ABlk->Prop
  | some (.cells _)=>True
  | some (.obj _)=>True
  | _=>False
def okO (H:AHeap):AV->Prop
  | .pv _=>True
  | .ptr κ _=>okB (hget H κ)
  | _=>False
def allP:List AV->Prop
  | []=>True
  | .pv _::r=>allP r
  | _::_=>False
def loadS (H:AHeap):AV->Prop
  | .ptr κ _=>match hget H κ with
    | some (.cells cs)=>allP cs
    | _=>False
  | _=>False
def solidO (x:Oper) (st:ASt):Prop:=
  match x.op with
  | .move a=>okO st.H (opndV st.ρ a)
  | .fieldAddr _ a _=>okO st.H (opndV st.ρ a)
  | .load _ a=>loadS st.H (opndV st.ρ a)
  | .buildSlice _ _ parts=>allP ((parts.toList.map (·.2)).map (opndV st.ρ))
  | _=>False
theorem allP_mem:∀ {cs:List AV},allP cs->∀ c∈cs,∃ p,c=.pv p
  | [],_,c,hc=>by cases hc
  | a::r,h,c,hc=>by
    cases a with
    | pv p=>
      rcases List.mem_cons.1 hc with rfl | hc
      · exact ⟨p,rfl⟩
      · exact allP_mem (cs:=r) h c hc
    | _=>exact (show False from h).elim
theorem kill_allP {key:Nat} {cs:List AV} (h:∀ c∈cs,∃ p,c=.pv p):AV.killL key cs=cs:=by
  rw [AV.killL_eq]
  conv=>rhs;rw [<- List.map_id cs]
  refine List.map_congr_left (fun c hc=>?_)
  obtain ⟨p,rfl⟩:=h c hc
  rfl
structure Fr (x:Oper) (st st':ASt):Prop where
  ops:∀ a,a∈x.op.operands.toList->okO st.H (opndV st.ρ a)->opndV st'.ρ a=opndV st.ρ a
  cells:∀ κ cs,hget st.H κ=some (.cells cs)->∃ cs',hget st'.H κ=some (.cells cs')/\(allP cs->cs'=cs)
  obj:∀ κ J,hget st.H κ=some (.obj J)->hget st'.H κ=some (.obj J)
theorem okO_fr {x:Oper} {st st':ASt} (hf:Fr x st st') {v:AV} (h:okO st.H v):okO st'.H v:=by
  cases v with
  | pv p=>trivial
  | ptr κ off=>
    have h:okB (hget st.H κ):=h
    show okB (hget st'.H κ)
    cases hB:hget st.H κ with
    | none=>rw [hB] at h;exact h.elim
    | some B=>
      rw [hB] at h
      cases B with
      | cells cs=>obtain ⟨cs',h1,_⟩:=hf.cells κ cs hB;rw [h1];trivial
      | obj J=>rw [hf.obj κ J hB];trivial
      | _=>exact (show False from h).elim
  | _=>exact (show False from h).elim
theorem loadS_ok {H:AHeap} {v:AV} (h:loadS H v):okO H v:=by
  cases v with
  | ptr κ off=>
    unfold loadS at h
    simp only at h
    show okB (hget H κ)
    split at h
    · rename_i hB;rw [hB];trivial
    · exact h.elim
  | _=>exact (show False from h).elim
theorem solid_fr {C:Ctx} {x:Oper} {st st':ASt} (hf:Fr x st st') (h:solidO x st):solidO x st'/\aopP C st'.ρ st'.H x.op=aopP C st.ρ st.H x.op:=by
  unfold solidO at h ⊢
  have hops:=hf.ops
  cases ho:x.op with
  | move a=>
    rw [ho] at h hops
    have e:=hops a (by simp [Op.operands]) h
    exact ⟨by simp only [e];exact okO_fr hf h,by simp only [aopP,e]⟩
  | fieldAddr t a f=>
    rw [ho] at h hops
    have e:=hops a (by simp [Op.operands]) h
    refine ⟨by simp only [e];exact okO_fr hf h,?_⟩
    simp only [aopP,oc,ox,e]
  | load t a=>
    rw [ho] at h hops
    have e:=hops a (by simp [Op.operands]) (loadS_ok h)
    simp only at h
    simp only [e,aopP,oc,ox]
    cases hv:opndV st.ρ a with
    | ptr κ off=>
      rw [hv] at h
      unfold loadS at h
      simp only at h
      split at h
      · rename_i cs hB
        obtain ⟨cs',h1,h2⟩:=hf.cells κ cs hB
        have:=h2 h
        subst this
        refine ⟨?_,?_⟩
        · show (match hget st'.H κ with | some (.cells cs)=>allP cs | _=>False)
          rw [h1];exact h
        · simp only [stripC,stripV,loadA,h1,hB]
      · exact h.elim
    | _=>rw [hv] at h;exact (show False from h).elim
  | buildSlice t n parts=>
    rw [ho] at h hops
    simp only at h
    have hall:=allP_mem h
    have hv:∀ q∈parts.toList,∃ p,opndV st.ρ q.2=.pv p:=fun q hq=>hall _ (List.mem_map.2 ⟨q.2,List.mem_map.2 ⟨q,hq,rfl⟩,rfl⟩)
    have he:∀ q∈parts.toList,opndV st'.ρ q.2=opndV st.ρ q.2:=fun q hq=>hops q.2 (by simp only [Op.operands,Array.toList_map];exact List.mem_map.2 ⟨q,hq,rfl⟩) (by obtain ⟨p,hp⟩:=hv q hq;rw [hp];trivial)
    have e1:(parts.toList.map (·.2)).map (opndV st'.ρ)=(parts.toList.map (·.2)).map (opndV st.ρ):=by
      rw [List.map_map,List.map_map]
      exact List.map_congr_left (fun q hq=>he q hq)
    refine ⟨by simp only [e1];exact h,?_⟩
    have e2:aopP C st'.ρ st'.H (.buildSlice t n parts)=aopP C st.ρ st'.H (.buildSlice t n parts):=aopP_congr C st'.H _ (fun y hy=>by
      simp only [Op.operands,Array.toList_map] at hy
      obtain ⟨q,hq,rfl⟩:=List.mem_map.1 hy
      exact he q hq)
    rw [e2]
    have hx:∀ q∈parts.toList,∃ p,ox st.ρ q.2=.pv p:=fun q hq=>by obtain ⟨p,hp⟩:=hv q hq;exact ⟨p,by unfold ox;rw [hp];rfl⟩
    have hm:∀ c∈(parts.toList.map fun z=>(z.1,ox st.ρ z.2)).map (·.2),∃ p,c=.pv p:=fun c hc=>by
      rw [List.map_map] at hc
      obtain ⟨q,hq,rfl⟩:=List.mem_map.1 hc
      exact hx q hq
    simp only [aopP]
    generalize (parts.toList.map fun z=>(z.1,ox st.ρ z.2))=ps at hm
    have el:∀ (k:Nat) (l:List AV),(∀ c∈l,∃ p,c=.pv p)->elemOk st'.H k l=elemOk st.H k l:=by
      intro k l
      induction l with
      | nil=>intro _;rfl
      | cons c r ih=>
        intro hl
        obtain ⟨p,rfl⟩:=hl c List.mem_cons_self
        simp only [elemOk,ih (fun c hc=>hl c (List.mem_cons_of_mem _ hc))]
        rfl
    have fl:∀ (l:List AV),(∀ c∈l,∃ p,c=.pv p)->l.map (frz st'.H 4)=l.map (frz st.H 4):=fun l hl=>List.map_congr_left (fun c hc=>by obtain ⟨p,rfl⟩:=hl c hc;rfl)
    simp only [buildSliceA]
    rw [fl _ hm]
    split
    · split
      · simp only [el _ _ hm]
      · rfl
    · rfl
  | _=>rw [ho] at h;exact (show False from h).elim
theorem ok_kill {H:AHeap} {key k:Nat} {es:List PV} (hr:hget H key=some (.row k es)) {v:AV} (h:okO H v):v.kill key=v:=by
  cases v with
  | pv p=>rfl
  | ptr κ off=>
    have h:okB (hget H κ):=h
    have hne:κ≠key:=fun e=>by subst e;rw [hr] at h;exact (show False from h).elim
    exact if_neg hne
  | _=>exact (show False from h).elim
theorem solid_kill {C:Ctx} {x:Oper} {st:ASt} {key k:Nat} {es:List PV} (hr:hget st.H key=some (.row k es)) (h:solidO x st):((aopP C st.ρ st.H x.op).2).kill key=(aopP C st.ρ st.H x.op).2:=by
  unfold solidO at h
  cases ho:x.op with
  | move a=>rw [ho] at h;exact ok_kill hr h
  | fieldAddr t a f=>
    rw [ho] at h
    simp only [aopP,fieldAddrA]
    split
    · simp only at h
      unfold ox
      cases hv:opndV st.ρ a with
      | pv p=>cases p <;> rfl
      | ptr κ off=>
        rw [hv] at h
        have:AV.kill key (.ptr κ off)=.ptr κ off:=ok_kill hr h
        have hne:κ≠key:=fun e=>by
          subst e
          simp only [AV.kill,if_true] at this
          cases this
        exact if_neg hne
      | _=>rw [hv] at h;exact (show False from h).elim
    · rfl
  | load t a=>
    rw [ho] at h
    simp only at h
    simp only [aopP,ox]
    cases hv:opndV st.ρ a with
    | ptr κ off=>
      rw [hv] at h
      unfold loadS at h
      simp only at h
      split at h
      · rename_i cs hB
        simp only [stripV,loadA,hB,partC]
        split
        · rename_i g n h1 h2
          simp only [partA]
          split
          · show AV.agg (AV.killL key _)=_
            rw [kill_allP (fun c hc=>allP_mem h c (List.mem_of_mem_drop (List.mem_of_mem_take hc)))]
          · rw [List.getD_eq_getElem?_getD]
            cases hg:cs[off]? with
            | none=>rfl
            | some c=>
              obtain ⟨p,rfl⟩:=allP_mem h c (List.mem_of_getElem? hg)
              rfl
        · rfl
      · exact h.elim
    | _=>rw [hv] at h;exact (show False from h).elim
  | buildSlice t n parts=>
    simp only [aopP,buildSliceA]
    split
    · split <;> rfl
    · rfl
  | _=>rw [ho] at h;exact (show False from h).elim
section
variable {G:Glob} {C:Ctx} {ops:Array Oper} {md:Region.Mode}
def isSol (x:Oper):Bool:=
  match x.op,x.guard with
  | .move _,none=>true
  | .fieldAddr _ _ _,none=>true
  | .load _ _,none=>true
  | .buildSlice _ _ _,none=>true
  | _,_=>false
theorem isSol_spec {x:Oper} (h:isSol x=true):x.guard=none/\∀ (C:Ctx) (ρ:Nat->AV) (H:AHeap),qop C ρ H x=((aopP C ρ H x.op).1,fun r=>r=(aopP C ρ H x.op).2):=by
  unfold isSol at h
  split at h
  all_goals first
    | (cases h;done)
    | (rename_i z ho hg;exact ⟨hg,fun C ρ H=>by unfold qop;rw [ho]⟩)
    | (rename_i ho hg;exact ⟨hg,fun C ρ H=>by unfold qop;rw [ho]⟩)
def SwapA (C:Ctx) (H0:AHeap) (ops:Array Oper) (A:ASt->Prop) (x y:Oper):Prop:=
  ∀ st K,A st->stepG C true H0 ops x st (fun st'=>stepG C true H0 ops y st' K)->stepG C true H0 ops y st (fun st'=>A st'/\stepG C true H0 ops x st' K)
theorem fr_put {x:Oper} {st:ASt} {d:Option Tmp} {v:AV} (h:∀ t,d=some t->t∉x.looksAt ops):Fr x st (putS st d v):=by
  refine ⟨fun a ha _=>?_,fun κ cs hB=>⟨cs,by rw [putS_same];exact hB,fun _=>rfl⟩,fun κ J hB=>by rw [putS_same];exact hB⟩
  cases d with
  | none=>rfl
  | some t=>exact opnd_upd (looks_tmp (h t rfl) a ha)
theorem fr_new {x:Oper} {st:ASt} {d:Nat} {v:AV} {B:ABlk} (hd:d∉x.looksAt ops) (hn:hget st.H d=none):Fr x st ⟨upd st.ρ d v,hset st.H d B⟩:=by
  refine ⟨fun a ha _=>opnd_upd (looks_tmp hd a ha),fun κ cs hB=>⟨cs,?_,fun _=>rfl⟩,fun κ J hB=>?_⟩
  · show hget (hset st.H d B) κ=_
    rw [hget_hset_ne]
    · exact hB
    · intro e;subst e;rw [hn] at hB;cases hB
  · show hget (hset st.H d B) κ=_
    rw [hget_hset_ne]
    · exact hB
    · intro e;subst e;rw [hn] at hB;cases hB
theorem fr_kill {x:Oper} {st:ASt} {d key k:Nat} {v:AV} {B:ABlk} {es:List PV} (hd:d∉x.looksAt ops) (hr:hget st.H key=some (.row k es)):Fr x st ⟨upd (killR key st.ρ) d v,hset (killH key st.H) key B⟩:=by
  refine ⟨fun a ha ho=>?_,fun κ cs hB=>?_,fun κ J hB=>?_⟩
  · show opndV (upd (killR key st.ρ) d v) a=_
    rw [opnd_upd (looks_tmp hd a ha)]
    cases a with
    | tmp t=>exact ok_kill hr ho
    | _=>rfl
  · have hne:κ≠key:=fun e=>by subst e;rw [hr] at hB;cases hB
    refine ⟨AV.killL key cs,?_,fun hp=>kill_allP (allP_mem hp)⟩
    show hget (hset (killH key st.H) key B) κ=_
    rw [hget_hset_ne]
    · rw [hget_killH,hB];rfl
    · first | exact hne | exact hne.symm
  · have hne:κ≠key:=fun e=>by subst e;rw [hr] at hB;cases hB
    show hget (hset (killH key st.H) key B) κ=_
    rw [hget_hset_ne]
    · rw [hget_killH,hB];rfl
    · first | exact hne | exact hne.symm
def pairN (mk:List Nat) (C:Ctx) (ops:Array Oper) (x y:Oper):Bool:=
  x.apart ops y&&cls C true x == 0&&isSol x&&(cls C true y == 0||cls C true y == 1||isNew C y||isApp y)
theorem swapA_of (hC:TabsAll G C) {H0:AHeap} {x y:Oper} {mk:List Nat} (h:pairN mk C ops x y=true):SwapA C H0 ops (solidO x) x y:=by
  unfold pairN at h
  simp only [Bool.or_eq_true,Bool.and_eq_true,beq_iff_eq] at h
  obtain ⟨⟨⟨hap,hx0⟩,hs⟩,hy⟩:=h
  obtain ⟨a1,a2,a3⟩:=Oper.apart_spec hap
  obtain ⟨hgx,hqx⟩:=isSol_spec hs
  intro st K hA H
  rcases hy with ((hy | hy) | hy) | hy
  · have hsw:=swap_of_pairOk hC (H0:=H0) (x:=x) (y:=y) (by unfold pairOk;simp only [hap,hx0,hy];rfl) st K H
    rw [stepG_q hy] at hsw ⊢
    obtain ⟨c,h1,h2,h3⟩:=hsw
    exact ⟨c,h1,h2,fun r hr hz=>⟨(h3 r hr hz).1,(solid_fr (C:=C) (fr_put a3) hA).1,(h3 r hr hz).2⟩⟩
  · have hsw:=swap_of_pairOk hC (H0:=H0) (x:=x) (y:=y) (by unfold pairOk;simp only [hap,hx0,hy];rfl) st K H
    rw [stepG_a hy] at hsw ⊢
    obtain ⟨d,h1,h2,h3,h4,h5⟩:=hsw
    exact ⟨d,h1,h2,h3,h4,(solid_fr (C:=C) (fr_new (a3 d h1) h3) hA).1,h5⟩
  · have hsw:=swap_qn hC (H0:=H0) hap hx0 hy st K H
    rw [stepG_new hy] at hsw ⊢
    obtain ⟨k,es,d,h0,h1,h2,h3,h4⟩:=hsw
    exact ⟨k,es,d,h0,h1,h2,h3,(solid_fr (C:=C) (fr_new (a3 d h1) h2) hA).1,h4⟩
  · rw [stepG_q hx0] at H
    obtain ⟨c,g1,g2,g3⟩:=H
    have hgc:∀ ρ,guardC ops x ρ=some true:=fun ρ=>by unfold guardC;rw [hgx]
    rw [hgc] at g1
    simp only [Option.some.injEq] at g1
    subst g1
    rw [hqx] at g2 g3
    have hcond:=g2 rfl
    obtain ⟨b1,b2⟩:=g3 _ (fun _=>rfl) (fun h=>by cases h)
    have hwr:∀ r,wrapG x true r=r:=fun r=>by unfold wrapG;rw [hgx]
    rw [hwr,stepG_ap hy] at b2
    rw [stepG_ap hy]
    obtain ⟨st',hout,hK⟩:=b2
    have stepX':∀ st2:ASt,Fr x st st2->K (putS st2 x.dst (aopP C st.ρ st.H x.op).2)->solidO x st2/\stepG C true H0 ops x st2 K:=by
      intro st2 hf hK
      obtain ⟨s1,s2⟩:=solid_fr (C:=C) hf hA
      refine ⟨s1,?_⟩
      rw [stepG_q hx0]
      refine ⟨true,hgc _,fun _=>by rw [hqx,s2];exact hcond,fun r hr _=>⟨b1,?_⟩⟩
      have hr:=hr rfl
      rw [hqx,s2] at hr
      simp only at hr
      rw [hwr,hr]
      exact hK
    obtain ⟨args,ts,s,z,t,tx,e,k,by',zz,es2,d,e1,e2,e3,e4,e5,e6,e7,e8,e9,e10,e11,e12,e13,e14,e15,e16,hh⟩:=hout
    have hd:d∉x.looksAt ops:=a3 d e15
    have hop:∀ q,q∈args.toList->opndV (putS st x.dst (aopP C st.ρ st.H x.op).2).ρ q=opndV st.ρ q:=fun q hq=>by
      cases hxd:x.dst with
      | none=>rfl
      | some t=>exact opnd_upd (looks_tmp (a1 t hxd) q (by rw [e1];simp [Op.operands,Call.operands];simpa using hq))
    have hs1:opndV (putS st x.dst (aopP C st.ρ st.H x.op).2).ρ s=opndV st.ρ s:=hop s (by rw [e2];simp)
    have hz1:opndV (putS st x.dst (aopP C st.ρ st.H x.op).2).ρ z=opndV st.ρ z:=hop z (by rw [e2];simp)
    have hocs:oc st.ρ s:=by unfold oc at e8 ⊢;rw [<- hs1];exact e8
    have hocz:oc st.ρ z:=by unfold oc at e9 ⊢;rw [<- hz1];exact e9
    have hoxs:ox (putS st x.dst (aopP C st.ρ st.H x.op).2).ρ s=ox st.ρ s:=by unfold ox;rw [hs1]
    have hoxz:ox (putS st x.dst (aopP C st.ρ st.H x.op).2).ρ z=ox st.ρ z:=by unfold ox;rw [hz1]
    rw [putS_same,hoxz] at e10
    rw [hoxs,putS_same] at hh
    rcases hh with ⟨hsn,f1,f2,f3,rfl⟩ | ⟨key,hi,es,hsr,f1,f2,f3,f4,f5,rfl⟩
    · refine ⟨_,⟨args,ts,s,z,t,tx,e,k,by',zz,es2,d,e1,e2,e3,e4,e5,e6,e7,hocs,hocz,e10,e11,e12,e13,e14,e15,e16,.inl ⟨hsn,f1,f2,f3,rfl⟩⟩,stepX' _ (fr_new hd f3) ?_⟩
      have:putS { ρ:=upd st.ρ d (.rs d es2.length),H:=hset st.H d (.row k es2) } x.dst (aopP C st.ρ st.H x.op).2={ ρ:=upd (putS st x.dst (aopP C st.ρ st.H x.op).2).ρ d (.rs d es2.length),H:=hset st.H d (.row k es2) }:=by
        cases hxd:x.dst with
        | none=>rfl
        | some q=>
          have:q≠d:=fun h=>a2 q hxd (by rw [e15,h])
          simp only [putS]
          rw [upd_comm _ _ this]
      rw [this]
      exact hK
    · refine ⟨_,⟨args,ts,s,z,t,tx,e,k,by',zz,es2,d,e1,e2,e3,e4,e5,e6,e7,hocs,hocz,e10,e11,e12,e13,e14,e15,e16,.inr ⟨key,hi,es,hsr,f1,f2,f3,f4,f5,rfl⟩⟩,stepX' _ (fr_kill hd f1) ?_⟩
      have hkr:=solid_kill (C:=C) f1 hA
      have:putS { ρ:=upd (killR key st.ρ) d (.rs key (hi+es2.length)),H:=hset (killH key st.H) key (.row k (es.take hi++es2)) } x.dst (aopP C st.ρ st.H x.op).2={ ρ:=upd (killR key (putS st x.dst (aopP C st.ρ st.H x.op).2).ρ) d (.rs key (hi+es2.length)),H:=hset (killH key st.H) key (.row k (es.take hi++es2)) }:=by
        cases hxd:x.dst with
        | none=>rfl
        | some q=>
          have:q≠d:=fun h=>a2 q hxd (by rw [e15,h])
          simp only [putS,killR_upd,hkr]
          rw [upd_comm _ _ this]
      rw [this]
      exact hK
theorem aAny_firstA {H0:AHeap} (hE:EMono C) {K:ASt->Prop} {A:ASt->Prop} {i:Nat} {oi:Oper} (hi:ops[i]?=some oi) (fr:Nat->Nat)
    (hcl:∀ j oj,ops[j]?=some oj->∀ i,(fr j).testBit i=true->∃ e∈oj.after,Region.binds md e=true/\(e.on=i\/(fr e.on).testBit i=true)):
    ∀ (fuel:Nat) (listed:Array Bool) (st:ASt),
      (∀ S:List Nat,S.Nodup->(∀ j∈S,listed.getD j true=false)->S.length<=fuel+1)->
      (∀ e,listed.getD e false=true->∀ i,(fr e).testBit i=true->listed.getD i false=true)->
      (∀ j oj,ops[j]?=some oj->j≠i->listed.getD j true=false->(fr j).testBit i=false->SwapA C H0 ops A oi oj)->
      i∈Region.ready md ops listed->A st->stepG C true H0 ops oi st (aAny C H0 md ops K fuel (listed.setIfInBounds i true))->aAny C H0 md ops K (fuel+1) listed st:=by
  intro fuel
  induction fuel with
  | zero=>
    intro listed st hcnt _ _ hr _ H
    refine ⟨fun h=>(by rw [h] at hr;cases hr),fun j hj=>?_⟩
    by_cases hji:j=i
    · subst hji;unfold stepAt;rw [hi];exact H
    · have:=hcnt [i,j] (by simp [Ne.symm hji]) (by
        intro k hk
        simp at hk
        rcases hk with rfl | rfl
        · exact (mem_ready.1 hr).1
        · exact (mem_ready.1 hj).1)
      simp at this
  | succ fuel ih=>
    intro listed st hcnt hdc hfree hr hA H
    refine ⟨fun h=>(by rw [h] at hr;cases hr),fun j hj=>?_⟩
    by_cases hji:j=i
    · subst hji;unfold stepAt;rw [hi];exact H
    · obtain ⟨hjun,oj,hoj,hall⟩:=mem_ready.1 hj
      have hiun:=(mem_ready.1 hr).1
      have hfc:∀ i',(fr j).testBit i'=true->listed.getD i' false=true:=fun i' hb=>by
        obtain ⟨e,he,hbd,hor⟩:=hcl j oj hoj i' hb
        have hl:=hall e he hbd
        rcases hor with rfl | h'
        · exact hl
        · exact hdc _ hl _ h'
      have hnf:(fr j).testBit i=false:=by
        cases hb:(fr j).testBit i with
        | false=>rfl
        | true=>rw [getD_tf (hfc i hb)] at hiun;cases hiun
      have hsw:=hfree j oj hoj hji hjun hnf
      have H':stepG C true H0 ops oi st (fun st'=>stepG C true H0 ops oj st' (aAny C H0 md ops K fuel ((listed.setIfInBounds i true).setIfInBounds j true))):=by
        refine stepG_mono hE (fun s hs=>?_) H
        have:=hs.2 j (ready_mono hj hji)
        unfold stepAt at this
        rw [hoj] at this
        exact this
      have H2:=hsw st _ hA H'
      unfold stepAt
      rw [hoj]
      refine stepG_mono hE (fun s hs=>?_) H2
      obtain ⟨hA',hs⟩:=hs
      refine ih (listed.setIfInBounds j true) s ?_ ?_ ?_ (ready_mono hr (Ne.symm hji)) hA' ?_
      · intro S hS hall'
        have h1:∀ k∈S,k≠j/\listed.getD k true=false:=fun k hk=>by
          have h2:=hall' k hk
          by_cases hkj:k=j
          · subst hkj
            have hlt:k<listed.size:=by
              rcases Nat.lt_or_ge k listed.size with h' | h'
              · exact h'
              · simp [Array.getElem?_eq_none h'] at hjun
            simp [hlt] at h2
          · exact ⟨hkj,by rw [getD_set_ne true (Ne.symm hkj)] at h2;exact h2⟩
        have:=hcnt (j::S) (List.nodup_cons.2 ⟨fun hm=>(h1 j hm).1 rfl,hS⟩) (by
          intro k hk
          rcases List.mem_cons.1 hk with rfl | hk
          · exact hjun
          · exact (h1 k hk).2)
        simp at this
        omega
      · intro e he i' hb
        by_cases hej:e=j
        · subst hej;exact getD_set_true (hfc i' hb)
        · rw [getD_set_ne false (Ne.symm hej)] at he
          exact getD_set_true (hdc e he i' hb)
      · intro k ok hk hki hun hno
        refine hfree k ok hk hki ?_ hno
        by_cases hjk:j=k
        · subst hjk;exact hjun
        · rw [getD_set_ne true hjk] at hun;exact hun
      · rw [Array.setIfInBounds_comm _ _ hji]
        exact hs
def ann (mk:List Nat) (x:Oper):Bool:=
  match x.dst with
  | some d=>mk.contains d
  | none=>false
def stepsM (C:Ctx) (H0:AHeap) (ops:Array Oper) (mk:List Nat):List Oper->ASt->(ASt->Prop)->Prop
  | [],st,K=>K st
  | o::r,st,K=>(ann mk o=true->solidO o st)/\stepG C true H0 ops o st (fun st'=>stepsM C H0 ops mk r st' K)
def KM (C:Ctx) (H0:AHeap) (ops:Array Oper) (mk:List Nat) (r:List Oper) (K:ASt->Prop):ASt->Prop:=fun st=>stepsM C H0 ops mk r st K
theorem stepsM_nil {H0:AHeap} {mk:List Nat} {st:ASt} {K:ASt->Prop}:stepsM C H0 ops mk [] st K=K st:=rfl
theorem stepsM_cons {H0:AHeap} {mk:List Nat} {o:Oper} {r:List Oper} {st:ASt} {K:ASt->Prop}:stepsM C H0 ops mk (o::r) st K=((ann mk o=true->solidO o st)/\stepG C true H0 ops o st (KM C H0 ops mk r K)):=rfl
theorem KM_ap {H0:AHeap} {mk:List Nat} {r:List Oper} {st:ASt} {K:ASt->Prop}:KM C H0 ops mk r K st=stepsM C H0 ops mk r st K:=rfl
def pairM (mk:List Nat) (C:Ctx) (ops:Array Oper) (x y:Oper):Bool:=bif ann mk x then pairN mk C ops x y else pairP C ops x y
theorem aAny_permM {G:Glob} {H0:AHeap} (hC:TabsAll G C) (hE:EMono C) {K:ASt->Prop} {order:List Nat} {mk:List Nat} (hchk:checkQ (pairM mk C ops) md ops order=true):∀ (l done:List Nat) (listed:Array Bool) (st:ASt),done++l=order->
    listed.size=ops.size->(∀ j,j<ops.size->listed.getD j false=decide (j∈done))->
    stepsM C H0 ops mk (opsOf ops l) st K->aAny C H0 md ops K l.length listed st:=by
  unfold checkQ at hchk
  rw [Bool.and_eq_true] at hchk
  obtain ⟨hck,hcov⟩:=hchk
  have hcov:∀ i,i<ops.size->i∈order:=fun i hi=>by simpa using List.all_eq_true.1 hcov i (List.mem_range.2 hi)
  have hspec:∀ (p q:List Nat) (j:Nat),order=p++j::q->∃ y,ops[j]?=some y/\(waits md ops.toList).getD j 0=waitOf md (waits md ops.toList) y/\(∀ e∈y.after,Region.binds md e=true->e.on∈p)/\j∉p/\∀ i,i∈p->((waits md ops.toList).getD j 0).testBit i=false->∃ x,ops[i]?=some x/\pairM mk C ops x y=true:=by
    intro p q j h
    have:=checkO_spec order [] hck p q j h
    simpa using this
  have hcl:∀ j oj,ops[j]?=some oj->∀ i,((waits md ops.toList).getD j 0).testBit i=true->∃ e∈oj.after,Region.binds md e=true/\(e.on=i\/((waits md ops.toList).getD e.on 0).testBit i=true):=by
    intro j oj hj i hb
    obtain ⟨p,q,hpq⟩:=List.append_of_mem (hcov j (Array.getElem?_eq_some_iff.1 hj).1)
    obtain ⟨y,hy,hw,_⟩:=hspec p q j hpq
    rw [hj] at hy
    simp only [Option.some.injEq] at hy
    subst hy
    rw [hw] at hb
    exact waitOf_spec hb
  have hclosed:∀ (n:Nat) (p q:List Nat) (j:Nat),p.length<=n->order=p++j::q->∀ i,((waits md ops.toList).getD j 0).testBit i=true->i∈p:=by
    intro n
    induction n with
    | zero=>
      intro p q j hn hpq i hb
      obtain ⟨y,hy,hw,hdep,_⟩:=hspec p q j hpq
      obtain ⟨e,he,hbd,_⟩:=hcl j y hy i hb
      have:=hdep e he hbd
      have hp:p=[]:=List.length_eq_zero_iff.1 (by omega)
      subst hp
      cases this
    | succ n ih=>
      intro p q j hn hpq i hb
      obtain ⟨y,hy,hw,hdep,_⟩:=hspec p q j hpq
      obtain ⟨e,he,hbd,hor⟩:=hcl j y hy i hb
      have hep:=hdep e he hbd
      rcases hor with rfl | hor
      · exact hep
      · obtain ⟨p1,p2,hp⟩:=List.append_of_mem hep
        have:=ih p1 (p2++j::q) e.on (by rw [hp] at hn;simp at hn;omega) (by rw [hpq,hp];simp) i hor
        rw [hp]
        exact List.mem_append_left _ this
  intro l
  induction l with
  | nil=>
    intro done listed st hdl hsz hlk h
    rw [List.append_nil] at hdl
    refine ⟨?_,h⟩
    rw [List.eq_nil_iff_forall_not_mem]
    intro j hj
    obtain ⟨h0,o,ho,_⟩:=mem_ready.1 hj
    have hlt:=(Array.getElem?_eq_some_iff.1 ho).1
    have:=hlk j hlt
    rw [show decide (j∈done)=true by rw [decide_eq_true_eq,hdl];exact hcov j hlt] at this
    rw [getD_tf this] at h0
    cases h0
  | cons i r ih=>
    intro done listed st hdl hsz hlk h
    obtain ⟨oi,hoi,hwi,hdepi,hni,hpr⟩:=hspec done r i hdl.symm
    have hilt:=(Array.getElem?_eq_some_iff.1 hoi).1
    have tf:∀ j,j<ops.size->listed.getD j true=listed.getD j false:=fun j hj=>by
      have:j<listed.size:=by rw [hsz];exact hj
      simp [this]
    have unl:∀ j,listed.getD j true=false->j<ops.size/\j∉done:=fun j hj=>by
      have hlt:j<ops.size:=by
        rcases Nat.lt_or_ge j listed.size with h' | h'
        · rw [<- hsz];exact h'
        · simp [Array.getElem?_eq_none h'] at hj
      rw [tf j hlt,hlk j hlt] at hj
      exact ⟨hlt,by simpa using hj⟩
    have hsteps:(ann mk oi=true->solidO oi st)/\stepG C true H0 ops oi st (fun st'=>stepsM C H0 ops mk (opsOf ops r) st' K):=by
      have e:opsOf ops (i::r)=oi::opsOf ops r:=by unfold opsOf;rw [List.filterMap_cons,hoi]
      rw [e] at h
      exact h
    refine aAny_firstA (A:=fun s=>ann mk oi=true->solidO oi s) hE hoi (fun j=>(waits md ops.toList).getD j 0) hcl r.length listed st ?_ ?_ ?_ ?_ hsteps.1 ?_
    · intro Z hZ hall
      have:=nodup_len Z (i::r) hZ (fun j hj=>by
        obtain ⟨h1,h2⟩:=unl j (hall j hj)
        have h3:=hcov j h1
        rw [<- hdl,List.mem_append] at h3
        rcases h3 with h3 | h3
        · exact absurd h3 h2
        · exact h3)
      simpa using this
    · intro e he i' hb
      have hlt:e<ops.size:=by
        rcases Nat.lt_or_ge e listed.size with h' | h'
        · rw [<- hsz];exact h'
        · simp [Array.getElem?_eq_none h'] at he
      rw [hlk e hlt,decide_eq_true_eq] at he
      obtain ⟨p1,p2,hp⟩:=List.append_of_mem he
      have hm:=hclosed p1.length p1 (p2++i::r) e (Nat.le_refl _) (by rw [<- hdl,hp];simp) i' hb
      have hmd:i'∈done:=by rw [hp];exact List.mem_append_left _ hm
      have hi'lt:i'<ops.size:=by
        obtain ⟨q1,q2,hq⟩:=List.append_of_mem hm
        obtain ⟨y,hy,_⟩:=hspec q1 (q2++e::(p2++i::r)) i' (by rw [<- hdl,hp,hq];simp)
        exact (Array.getElem?_eq_some_iff.1 hy).1
      rw [hlk i' hi'lt,decide_eq_true_eq]
      exact hmd
    · intro j oj hj hji hun hm
      obtain ⟨h1,h2⟩:=unl j hun
      have h3:=hcov j h1
      rw [<- hdl,List.mem_append,List.mem_cons] at h3
      rcases h3 with h3 | rfl | h3
      · exact absurd h3 h2
      · exact absurd rfl hji
      · obtain ⟨p1,p2,hp⟩:=List.append_of_mem h3
        obtain ⟨y,hy,_,_,_,hpr2⟩:=hspec (done++i::p1) p2 j (by rw [<- hdl,hp];simp)
        rw [hj] at hy
        simp only [Option.some.injEq] at hy
        subst hy
        obtain ⟨x,hx,hxy⟩:=hpr2 i (by simp) hm
        rw [hoi] at hx
        simp only [Option.some.injEq] at hx
        subst hx
        unfold pairM at hxy
        cases hann:ann mk oi with
        | true=>
          rw [hann] at hxy
          intro s K hA H
          refine stepG_mono hE (fun s hs=>⟨fun _=>hs.1,hs.2⟩) (swapA_of hC (mk:=mk) hxy s K (hA rfl) H)
        | false=>
          rw [hann] at hxy
          intro s K _ H
          refine stepG_mono hE (fun s hs=>⟨fun h=>(by cases h),hs⟩) (swap_of_pairP hC hxy s K H)
    · rw [mem_ready]
      refine ⟨by rw [tf i hilt,hlk i hilt];simpa using hni,oi,hoi,fun e he hb=>?_⟩
      have hed:=hdepi e he hb
      have helt:e.on<ops.size:=by
        obtain ⟨q1,q2,hq⟩:=List.append_of_mem hed
        obtain ⟨y,hy,_⟩:=hspec q1 (q2++i::r) e.on (by rw [<- hdl,hq];simp)
        exact (Array.getElem?_eq_some_iff.1 hy).1
      rw [hlk e.on helt]
      simpa using hed
    · refine stepG_mono hE (fun s hs=>?_) hsteps.2
      refine ih (done++[i]) _ s (by rw [<- hdl];simp) (by simpa using hsz) ?_ hs
      intro j hj
      by_cases hjk:i=j
      · subst hjk
        have:i<listed.size:=by rw [hsz];exact hj
        simp [this]
      · rw [getD_set_ne false hjk,hlk j hj]
        have:j≠i:=fun e=>hjk e.symm
        simp [this]
theorem region_any_inM {G:Glob} {E:Base} {K:ASt->Prop} {a:Act} {w:World} {id:Nat} {H0:AHeap} {order mk:List Nat} (r:Option Nat) (n:Nat) (hP0:∀ κ,(E.L0 κ).isSome=true->κ∈C.pins) (hC:TabsAll G C) (hE:EMono C) (hm:G.P.follows .mixedOrders=true)
    (hchk:checkQ (pairM mk C ops) .any ops order=true) (hlen:order.length=ops.size) {st:ASt} {L:Locs} (hs:stepsM C H0 ops mk (opsOf ops order) st K) (hR:Rel G E (OpqS G E) C.N st a.tmps w L) (hd:a.defers=E.ds):(Code.region id ops true).wpIn (FF r) n G.P (QR G E C.N K) a w:=by
  refine wpIn_region_draw fun t=>?_
  refine wpOps_in (k:=E.ds.length) r n ?_ ?_ ?_ _ a _ ?_ ?_
  · rintro a w ⟨st,L,_,_,hd⟩;rw [hd];exact Nat.le_refl _
  · exact fun ch a w h=>h
  · rintro ⟨a,w,h⟩;exact h
  · rw [hd];exact Nat.le_refl _
  · simp only [Region.schedule,hm,Bool.true_or,if_true]
    refine wpAny_sound ops.size t _ a _ ?_
    have hx:=aAny_permM (K:=K) hC hE hchk order [] (Array.replicate ops.size false) st (by simp) (by simp) (fun j hj=>by simp [hj]) hs
    rw [hlen] at hx
    refine aAny_wp hP0 hC rfl (Q:=QR G E C.N K) (fun a w h=>h) ops.size _ a _ ⟨st,L,hx,?_,hd⟩
    exact hR.grow ⟨rfl,rfl,rfl,Nat.le_refl _,fun _ _ _=>rfl,fun _ _ _=>rfl⟩
theorem AWp.permM0 (order mk:List Nat) {id:Nat} {Q:AX->ASt->Prop} {st:ASt} (hchk:checkQ (pairM mk C ops) .any ops order=true) (hlen:order.length=ops.size)
    (h:stepsM C st.H ops mk (opsOf ops order) st (fun st'=>Q .normal st')):AWp C (.region id ops true) Q st:=by
  intro G E r n hr hF hP0 a w L hR hd
  refine wpIn_mono (region_any_inM (id:=id) r n hP0 hF.tabs hF.mono hF.mixed hchk hlen h hR hd) (fun e a w he=>?_)
  cases e with
  | normal=>
    obtain ⟨st2,L2,h1,h2,h3⟩:=he
    exact .of ⟨st2,L2,h1,h2,h3⟩
  | _=>exact he.elim
end
section
variable {P:Program} {ops:Array Oper} {Q1 Q2:Exit->Act->World->Prop}
theorem getD_setJ {a:Array Value} {d s:Nat} {v:Value} (h:s≠d):(a.setIfInBounds d v).getD s undef=a.getD s undef:=by
  simp only [Array.getD_eq_getD_getElem?]
  rw [Array.getElem?_setIfInBounds_ne (fun e=>h e.symm)]
theorem put_slot {a:Act} {d:Option Tmp} {s:Nat} {v:Value} (h:d≠some s):(a.put d v).tmps.getD s undef=a.tmps.getD s undef:=by
  cases d with
  | none=>rfl
  | some t=>
    show (a.tmps.setIfInBounds t v).getD s undef=a.tmps.getD s undef
    exact getD_setJ (fun e=>h (by rw [e]))
theorem wpOps_seq {s:Nat} {v0:Value} {l2:List Nat} (h:∀ a w,Q1 .normal a w->a.tmps.getD s undef=v0->wpOps P ops Q2 l2 a w) (hp:∀ ch a w,¬ Q1 (.panic ch) a w) (ho:¬ LetsOut Q1):
    ∀ (l1:List Nat),(∀ i o,i∈l1->ops[i]?=some o->o.dst≠some s)->∀ (a:Act) (w:World),a.tmps.getD s undef=v0->wpOps P ops Q1 l1 a w->wpOps P ops Q2 (l1++l2) a w:=by
  intro l1
  induction l1 with
  | nil=>exact fun _ a w h0 h1=>h a w h1 h0
  | cons i r ih=>
    intro hds a w h0 h1
    have ih':=ih (fun i o hi=>hds i o (List.mem_cons_of_mem _ hi))
    unfold wpOps at h1
    show wpOps P ops Q2 (i::(r++l2)) a w
    unfold wpOps
    split at h1
    · exact ih' a w h0 h1
    · rename_i o hi
      have hd:=hds i o List.mem_cons_self hi
      have nx:∀ (v:Value) (w':World),wpOps P ops Q1 r (a.put o.dst v) w'->wpOps P ops Q2 (r++l2) (a.put o.dst v) w':=fun v w' hh=>ih' _ _ (by rw [put_slot hd];exact h0) hh
      split at h1
      · rename_i hw
        rw [if_pos hw]
        refine .inl ?_
        rcases h1 with h1 | ⟨_,h1⟩
        · unfold Oper.wp at h1 ⊢
          generalize (execOp a.eval o).run P w=res at h1
          unfold Oper.upon at h1 ⊢
          split at h1
          · exact nx _ _ h1
          · exact nx _ _ h1
          · exact ih' _ _ (by rw [put_slot hd];exact h0) h1
          · refine Calls.mono h1 (fun e w'' he=>?_)
            cases e with
            | returned v=>exact nx _ _ he
            | panicked ch=>exact (hp _ _ _ he).elim
            | outgrown=>exact (ho he).elim
          · exact Rows.mono h1 (fun v w'' he=>nx _ _ he)
          · exact (hp _ _ _ h1).elim
          · exact h1.elim
        · exact (ho h1).elim
      · rename_i hw
        rw [if_neg hw]
        exact nx _ _ h1
end
theorem stepsG_wpP {G:Glob} {E:Base} {N:Nat} {C:Ctx} (hP0:∀ κ,(E.L0 κ).isSome=true->κ∈C.pins) (hC:TabsAll G C) (hN:C.N=N) {H0:AHeap} {ops:Array Oper} {K:ASt->Prop} {Q:Exit->Act->World->Prop} (hQ:∀ a w,Beh G E N K a w->Q .normal a w):∀ (l:List Oper) (k:Nat),(∀ j o,l[j]?=some o->ops[k+j]?=some o)->
    ∀ (a:Act) (w:World),Beh G E N (fun st=>stepsG C false H0 ops l st K) a w->wpOps G.P ops Q (List.range' k l.length) a w:=by
  intro l
  induction l with
  | nil=>intro k _ a w h;exact hQ a w h
  | cons o r ih=>
    intro k hl a w ⟨st,L,hs,hR,hd⟩
    have h0:ops[k]?=some o:=by simpa using hl 0 o (by simp)
    simp only [List.length_cons,List.range'_succ]
    unfold wpOps
    rw [h0]
    exact stepG_wp hP0 hC hN hR hd hs (fun a' w' hb=>ih (k+1) (fun j o' ho=>by have:=hl (j+1) o' (by simpa using ho);simpa [Nat.add_assoc,Nat.add_comm 1 j] using this) a' w' hb)
theorem sl_len_inv {w:World} {M:Nat->Prop} {es:List PV} {v:Value} (h:PVRel w M (.sl es) v):∃ a cap,v=.slice a es.length cap/\es.length<=cap/\cap<=maxLen/\(∀ c,es.length<=c->c<=maxLen->PVRel w M (.sl es) (.slice a es.length c)):=by
  cases h with
  | sl _ a cap k b o val c1 c2 c3 c4 c5 c6=>exact ⟨a,cap,rfl,c1,c2,fun c h1 h2=>.sl es a c k b o val h1 h2 c3 c4 c5 c6⟩
theorem capApp_in {C:Ctx} {G:Glob} {E:Base} {r:Option Nat} {n:Nat} {id:Nat} {ops:Array Oper} {K:ASt->Prop} {st:ASt} {a:Act} {w:World} {L:Locs} (hF:Fit G C) (hP0:∀ κ,(E.L0 κ).isSome=true->κ∈C.pins) (hR:Rel G E (OpqS G E) C.N st a.tmps w L) (hd:a.defers=E.ds) (pre mid post:List Oper) (s x l m y d:Nat) (es es2:List PV) {t e k by':Nat} {z:Value} {ty1 ty2:TypeId} {p1 p2:String} {f1 f2:Array Edge}
    (hops:ops.toList=pre++⟨some s,.slice t (.tmp x) none (some (.tmp l)) (some (.tmp m)),ty1,p1,f1,none⟩::(mid++⟨some d,.call { callee:=.builtin .append,args:=#[.tmp s,.tmp y],argTypes:=#[t,t] },ty2,p2,f2,none⟩::post))
    (hmid:mid.all (fun o=>o.dst != some s)=true) (hpre:pre.all (fun o=>o.dst != some 999999)=true)
    (ht:C.P.underlying t=some (.slice e)) (hk:szOf C.P e=some k) (hby:bytesT C.P e=some by') (hz:zeroT C.P e=some z) (hk0:0<k) (hzk:z.cells.size=k) (hs:s<C.N) (hw1:allW k es) (hw2:allW k es2) (hne:es2≠[]) (hml:es.length<=maxLen)
    (h:stepsG C false st.H ops pre st (fun st1=>st1.ρ x=.pv (.sl es)/\st1.ρ l=.pv (.int .i64 es.length)/\st1.ρ m=.pv (.int .i64 es.length)/\
      stepsG C false st.H ops mid ⟨upd st1.ρ s (.pv (.sl es)),st1.H⟩ (fun st2=>st2.ρ s=.pv (.sl es)/\srcA st2.H (st2.ρ y)=some es2/\(es.length+es2.length) * by'<=140737488355328/\es.length+es2.length<=maxLen/\hget st2.H d=none/\d<C.N/\
        stepsG C false st.H ops post ⟨upd st2.ρ d (.rs d (es.length+es2.length)),hset st2.H d (.row k (es++es2))⟩ K))):
    (Code.region id ops false).wpIn (FF r) n G.P (QR G E C.N K) a w:=by
  have hP:C.P=G.P:=hF.tabs.base.prog
  rw [hP] at ht hk hby hz
  have hlen:ops.size=pre.length+((mid.length+(post.length+1))+1):=by
    have:=congrArg List.length hops
    simp only [Array.length_toList,List.length_append,List.length_cons] at this
    omega
  have hat:∀ i,ops[i]?=(pre++⟨some s,.slice t (.tmp x) none (some (.tmp l)) (some (.tmp m)),ty1,p1,f1,none⟩::(mid++⟨some d,.call { callee:=.builtin .append,args:=#[.tmp s,.tmp y],argTypes:=#[t,t] },ty2,p2,f2,none⟩::post))[i]?:=fun i=>by rw [<- hops,Array.getElem?_toList]
  have hrange:List.range ops.size=List.range' 0 pre.length++(pre.length::(List.range' (pre.length+1) mid.length++((pre.length+1+mid.length)::List.range' (pre.length+1+mid.length+1) post.length))):=by
    have ap:∀ a b c:Nat,List.range' a (b+c)=List.range' a b++List.range' (a+b) c:=fun a b c=>by
      rw [List.range'_append_1]
    rw [List.range_eq_range',hlen,ap,List.range'_succ,ap,List.range'_succ,Nat.zero_add]
  suffices hreg:wpOps G.P ops (QR G E C.N K) (List.range ops.size) a w by
    refine wpIn_region (wpOps_in (k:=E.ds.length) r n ?_ ?_ ?_ _ a w ?_ hreg)
    · rintro a w ⟨st,L,_,_,hd⟩;rw [hd];exact Nat.le_refl _
    · exact fun ch a w h=>h
    · rintro ⟨a,w,h⟩;exact h
    · rw [hd];exact Nat.le_refl _
  rw [hrange]
  have nop:∀ (K:ASt->Prop) ch a w,¬ QR G E C.N K (.panic ch) a w:=fun K ch a w h=>h
  have noo:∀ (K:ASt->Prop),¬ LetsOut (QR G E C.N K):=fun K=>by rintro ⟨a,w,h⟩;exact h
  have hpreA:∀ j o,pre[j]?=some o->ops[0+j]?=some o:=fun j o ho=>by
    have hlt:=(List.getElem?_eq_some_iff.1 ho).1
    rw [hat,Nat.zero_add,List.getElem?_append_left hlt];exact ho
  have hsoA:ops[pre.length]?=some ⟨some s,.slice t (.tmp x) none (some (.tmp l)) (some (.tmp m)),ty1,p1,f1,none⟩:=by
    rw [hat,List.getElem?_append_right (Nat.le_refl _),Nat.sub_self];rfl
  have hmidA:∀ j o,mid[j]?=some o->ops[pre.length+1+j]?=some o:=fun j o ho=>by
    have hlt:=(List.getElem?_eq_some_iff.1 ho).1
    rw [hat,List.getElem?_append_right (by omega),show pre.length+1+j-pre.length=j+1 by omega,List.getElem?_cons_succ,List.getElem?_append_left hlt];exact ho
  have haoA:ops[pre.length+1+mid.length]?=some ⟨some d,.call { callee:=.builtin .append,args:=#[.tmp s,.tmp y],argTypes:=#[t,t] },ty2,p2,f2,none⟩:=by
    rw [hat,List.getElem?_append_right (by omega),show pre.length+1+mid.length-pre.length=mid.length+1 by omega,List.getElem?_cons_succ,List.getElem?_append_right (Nat.le_refl _),Nat.sub_self];rfl
  have hpostA:∀ j o,post[j]?=some o->ops[pre.length+1+mid.length+1+j]?=some o:=fun j o ho=>by
    rw [hat,List.getElem?_append_right (by omega),show pre.length+1+mid.length+1+j-pre.length=mid.length+1+j+1 by omega,List.getElem?_cons_succ,List.getElem?_append_right (by omega),show mid.length+1+j-mid.length=j+1 by omega,List.getElem?_cons_succ];exact ho
  have nodst:∀ (q:Nat) (lst:List Oper) (k:Nat),lst.all (fun o=>o.dst != some q)=true->(∀ j o,lst[j]?=some o->ops[k+j]?=some o)->∀ i o,i∈List.range' k lst.length->ops[i]?=some o->o.dst≠some q:=by
    intro q lst k ha hl i o hi ho
    rw [List.mem_range'_1] at hi
    obtain ⟨j,rfl⟩:∃ j,i=k+j:=⟨i-k,by omega⟩
    have hj:j<lst.length:=by omega
    have:=hl j _ (List.getElem?_eq_getElem hj)
    rw [ho] at this
    simp only [Option.some.injEq] at this
    rw [this]
    have:=List.all_eq_true.1 ha _ (List.getElem_mem hj)
    simpa using this
  have b1:=stepsG_wpP (G:=G) (E:=E) hP0 hF.tabs rfl (Q:=QR G E C.N _) (fun a w h=>h) pre 0 hpreA a w ⟨st,L,h,hR,hd⟩
  refine wpOps_seq (s:=999999) (v0:=a.tmps.getD 999999 undef) ?_ (nop _) (noo _) (List.range' 0 pre.length) (nodst 999999 pre 0 hpre hpreA) a w rfl b1
  rintro a1 w1 ⟨st1,L1,⟨hx1,hl1,hm1,hmids⟩,hR1,hd1⟩ _
  have vx:=hR1.env x
  have vl:=hR1.env l
  have vm:=hR1.env m
  rw [hx1] at vx;rw [hl1] at vl;rw [hm1] at vm
  have el:=int_inv vl
  have em:=int_inv vm
  obtain ⟨ad,cap,ex,hc1,hc2,hrecap⟩:=sl_len_inv (pv_inv vx)
  unfold wpOps
  rw [hsoA]
  simp only
  rw [if_pos (show Region.wanted _ _=true from rfl)]
  have helem:G.P.elem t=e:=by unfold Program.elem;rw [ht]
  have hrun1:(execOp a1.eval ⟨some s,.slice t (.tmp x) none (some (.tmp l)) (some (.tmp m)),ty1,p1,f1,none⟩).run G.P w1=.ok (.value (.slice (if es.length=0 then ad else ad.map (·.add (0 * k))) es.length es.length)) w1:=by
    have e1:a1.eval (.tmp x)=.slice ad es.length cap:=ex
    have e2:a1.eval (.tmp l)=.int .i64 es.length:=el
    have e3:a1.eval (.tmp m)=.int .i64 es.length:=em
    have hte:G.P.underlying t=some (.slice (G.P.elem t)):=by rw [helem];exact ht
    have hsz:=run_szOf (P:=G.P) (t:=e) (n:=k) hk
    simp only [execOp,Option.map_none,Option.map_some,e1,e2,e3,Sem.run_bind]
    rw [run_sliceAt_slice w1 t _ _ _ _ hte,run_slice_hm w1 t ad es.length cap hte .i64 .i64 (es.length:Int) (es.length:Int) (by omega) (Int.le_refl _) (by omega),helem]
    simp only [hsz,Result.andThen_ok,sliced,Int.toNat_natCast,Nat.sub_zero,Sem.run_pure]
  have hadd:(if es.length=0 then ad else ad.map (·.add (0 * k)))=ad:=by
    split
    · rfl
    · cases ad with
      | none=>rfl
      | some q=>simp [Addr.add]
  rw [hadd] at hrun1
  have o1:OpYields G.P ⟨some s,.slice t (.tmp x) none (some (.tmp l)) (some (.tmp m)),ty1,p1,f1,none⟩ a1 w1 (fun v w'=>w1=w'/\v=.slice ad es.length es.length):=.of_run hrun1 ⟨rfl,rfl⟩
  refine .inl (o1.wp (fun v w' ⟨hw,hv⟩=>?_))
  subst hw;subst hv
  have hvs:PVRel w1 (Mut E L1 st1.H) (.sl es) (.slice ad es.length es.length):=hrecap _ (Nat.le_refl _) hml
  have hRs:=hR1.put (d:=s) hs (.pv (.sl es) _ hvs)
  have hsz:s<a1.tmps.size:=by rw [hR1.size];exact hs
  have hv0:(a1.put (some s) (.slice ad es.length es.length)).tmps.getD s undef=.slice ad es.length es.length:=by
    show (a1.tmps.setIfInBounds s _).getD s undef=_
    simp [hsz]
  have b2:=stepsG_wpP (G:=G) (E:=E) hP0 hF.tabs rfl (Q:=QR G E C.N _) (fun a w h=>h) mid (pre.length+1) hmidA (a1.put (some s) (.slice ad es.length es.length)) w1 ⟨_,L1,hmids,hRs,hd1⟩
  refine wpOps_seq (s:=s) (v0:=.slice ad es.length es.length) ?_ (nop _) (noo _) (List.range' (pre.length+1) mid.length) (nodst s mid (pre.length+1) hmid hmidA) _ w1 hv0 b2
  rintro a2 w2 ⟨st2,L2,⟨hs2,hsrc,hsize,hmax,hfree,hdN,hposts⟩,hR2,hd2⟩ hkeep
  unfold wpOps
  rw [haoA]
  simp only
  rw [if_pos (show Region.wanted _ _=true from rfl)]
  have vs2:=hR2.env s
  rw [hs2] at vs2
  have vy:=hR2.env y
  obtain ⟨hl1',olds,hf1,hn1,hrow1⟩:=srcA_run (P:=G.P) hR2.blk (show srcA st2.H (.pv (.sl es))=some es from rfl) hw1 vs2
  obtain ⟨hl2',news,hf2,hn2,hrow2⟩:=srcA_run (P:=G.P) hR2.blk hsrc hw2 vy
  rw [hkeep] at hl1' hf1
  obtain ⟨i,hi,hik⟩:=Option.map_eq_some_iff.1 hk
  have hib:i.bytes=by':=by unfold bytesT at hby;rw [hi] at hby;simpa using hby
  have hiz:i.zero=some z:=by unfold zeroT at hz;rw [hi] at hz;simpa using hz
  have hn0:0<es2.length:=List.length_pos_iff.2 hne
  have hfd1:=run_drew_loads (P:=G.P) _ _ _ _ hf1
  have hfd2:=run_drew_loads (P:=G.P) _ _ _ _ hf2
  have hszk:=run_szOf (P:=G.P) (t:=e) (n:=k) hk
  have hroom:¬ (es.length+es2.length<=es.length):=by omega
  have h63:¬ (9223372036854775807<((es.length:Int)+(es2.length:Int))):=by simp only [maxLen] at hmax;omega
  have hgr:¬ (281474976710656<Builtin.nextslicecap (es.length+es2.length) es.length * i.bytes):=by
    have:=growslice_fits (need:=es.length+es2.length) (old:=es.length) (bytes:=i.bytes) (by omega) (by rw [hib];exact hsize);omega
  have ev1:a2.eval (.tmp s)=.slice ad es.length es.length:=hkeep
  obtain ⟨xv,hxv⟩:∃ xv,a2.eval (.tmp y)=xv:=⟨_,rfl⟩
  have hxv':a2.tmps.getD y undef=xv:=hxv
  rw [hxv'] at hl2' hf2 hfd2
  have hrun2:(execOp a2.eval ⟨some d,.call { callee:=.builtin .append,args:=#[.tmp s,.tmp y],argTypes:=#[t,t] },ty2,p2,f2,none⟩).run G.P w2=.ok (.value (.slice (some ⟨w2.heap.size,0,none⟩) (es.length+es2.length) (grownCap w2 (es.length+es2.length) es.length e)))
      (w2.drew.alloc (.cells (olds++news++Builtin.zeroCells z.cells (grownCap w2 (es.length+es2.length) es.length e-(es.length+es2.length))) e)):=by
    simp only [execOp,resolve,invoke,builtin,Sem.run_bind,Sem.run_pure,Result.andThen_ok,List.map_toArray,List.map_cons,List.map_nil,ev1,hxv]
    simp [Builtin.append_,run_underlying ht,hszk,hl2',hroom,typeInfo,zeroValue,hi,hiz,h63,hgr,Question.forced,hfd1,hfd2,newRow,grownCap]
  have o2:OpYields G.P ⟨some d,.call { callee:=.builtin .append,args:=#[.tmp s,.tmp y],argTypes:=#[t,t] },ty2,p2,f2,none⟩ a2 w2 (fun v w'=>w'=(w2.drew.alloc (.cells (olds++news++Builtin.zeroCells z.cells (grownCap w2 (es.length+es2.length) es.length e-(es.length+es2.length))) e))/\v=.slice (some ⟨w2.heap.size,0,none⟩) (es.length+es2.length) (grownCap w2 (es.length+es2.length) es.length e)):=.of_run hrun2 ⟨rfl,rfl⟩
  refine .inl (o2.wp (fun v w' ⟨hw,hv⟩=>?_))
  subst hw;subst hv
  have hge:=grownCap_ge w2 (es.length+es2.length) es.length e
  have hall:allW k (es++es2):=fun q hq=>by
    rcases List.mem_append.1 hq with h | h
    · exact hw1 q h
    · exact hw2 q h
  have b3:Beh G E C.N (fun st3=>stepsG C false st.H ops post st3 K) (a2.put (some d) (.slice (some ⟨w2.heap.size,0,none⟩) (es.length+es2.length) (grownCap w2 (es.length+es2.length) es.length e))) (w2.drew.alloc (.cells (olds++news++Builtin.zeroCells z.cells (grownCap w2 (es.length+es2.length) es.length e-(es.length+es2.length))) e)):=by
    refine newB_beh (B:=.row k (es++es2)) (v:=fun d=>.rs d (es.length+es2.length)) (w1:=w2.drew) (cap:=grownCap w2 (es.length+es2.length) es.length e) (d:=some d) ⟨hfree,hdN,hposts⟩ hR2 hd2 (drew_ext w2) rfl (fun κ M' L' H' hkp hc hl hheap=>?_) (fun κ w' M' L' H' hg hl=>?_)
    · unfold BRel
      refine ⟨hk0,hall,?_⟩
      rw [hl]
      refine ⟨_,e,hheap,?_,by rw [List.length_append];exact hge,grownCap_le_maxLen w2 _ _ e hmax,?_⟩
      · simp only [Array.size_append,hn1,hn2,size_zeroCells,hzk,<- Nat.add_mul]
        congr 1;omega
      · refine (RowIn.append (es:=es) (cur:=olds) (k:=k) (w:=w2) (M:=Mut E L2 st2.H) hw1 hw2 hrow1 hrow2 (fun q hq=>?_) (fun q hq=>?_)).keep hkp
        · simp only [Array.getD_eq_getD_getElem?]
          rw [Array.append_assoc,Array.getElem?_append_left (by omega)]
        · simp only [Array.getD_eq_getD_getElem?]
          rw [Array.append_assoc,Array.getElem?_append_right (by omega),Array.getElem?_append_left (by omega)]
          congr 2;omega
    · have:=AVRel.rs (w:=w') (M:=M') (S:=OpqS G E) κ (es.length+es2.length) k (es++es2) w2.heap.size _ hg hl (by simp)
      exact this
  exact stepsG_wpP (G:=G) (E:=E) hP0 hF.tabs rfl (Q:=QR G E C.N _) (fun a w h=>h) post (pre.length+1+mid.length+1) hpostA _ _ b3
theorem AWp.capApp0 {C:Ctx} {id:Nat} {ops:Array Oper} {Q:AX->ASt->Prop} {st:ASt} (pre mid post:List Oper) (s x l m y d:Nat) (es es2:List PV) {t e k by':Nat} {z:Value} {ty1 ty2:TypeId} {p1 p2:String} {f1 f2:Array Edge}
    (hops:ops.toList=pre++⟨some s,.slice t (.tmp x) none (some (.tmp l)) (some (.tmp m)),ty1,p1,f1,none⟩::(mid++⟨some d,.call { callee:=.builtin .append,args:=#[.tmp s,.tmp y],argTypes:=#[t,t] },ty2,p2,f2,none⟩::post))
    (hmid:mid.all (fun o=>o.dst != some s)=true) (hpre:pre.all (fun o=>o.dst != some 999999)=true)
    (ht:C.P.underlying t=some (.slice e)) (hk:szOf C.P e=some k) (hby:bytesT C.P e=some by') (hz:zeroT C.P e=some z) (hk0:0<k) (hzk:z.cells.size=k) (hs:s<C.N) (hw1:allW k es) (hw2:allW k es2) (hne:es2≠[]) (hml:es.length<=maxLen)
    (h:stepsG C false st.H ops pre st (fun st1=>st1.ρ x=.pv (.sl es)/\st1.ρ l=.pv (.int .i64 es.length)/\st1.ρ m=.pv (.int .i64 es.length)/\
      stepsG C false st.H ops mid ⟨upd st1.ρ s (.pv (.sl es)),st1.H⟩ (fun st2=>st2.ρ s=.pv (.sl es)/\srcA st2.H (st2.ρ y)=some es2/\(es.length+es2.length) * by'<=140737488355328/\es.length+es2.length<=maxLen/\hget st2.H d=none/\d<C.N/\
        stepsG C false st.H ops post ⟨upd st2.ρ d (.rs d (es.length+es2.length)),hset st2.H d (.row k (es++es2))⟩ fun st3=>Q .normal st3))):AWp C (.region id ops false) Q st:=by
  intro G E r n hr hF hP0 a w L hR hd
  refine wpIn_mono (capApp_in (id:=id) hF hP0 hR hd pre mid post s x l m y d es es2 hops hmid hpre ht hk hby hz hk0 hzk hs hw1 hw2 hne hml h) (fun e a w he=>?_)
  cases e with
  | normal=>
    obtain ⟨st2,L2,h1,h2,h3⟩:=he
    exact .of ⟨st2,L2,h1,h2,h3⟩
  | _=>exact he.elim
theorem AWp.capAppN {C:Ctx} {id:Nat} {ops:Array Oper} {Q:AX->ASt->Prop} {st:ASt} (p q:Nat) (s x l m y d:Nat) (es es2:List PV) {t e k by':Nat} {z:Value} {ty1 ty2:TypeId} {p1 p2:String} {f1 f2:Array Edge}
    (hp:ops[p]?=some ⟨some s,.slice t (.tmp x) none (some (.tmp l)) (some (.tmp m)),ty1,p1,f1,none⟩) (hq:ops[q]?=some ⟨some d,.call { callee:=.builtin .append,args:=#[.tmp s,.tmp y],argTypes:=#[t,t] },ty2,p2,f2,none⟩) (hpq:p<q)
    (hmid:((ops.toList.drop (p+1)).take (q-p-1)).all (fun o=>o.dst != some s)=true) (hpre:(ops.toList.take p).all (fun o=>o.dst != some 999999)=true)
    (ht:C.P.underlying t=some (.slice e)) (hk:szOf C.P e=some k) (hby:bytesT C.P e=some by') (hz:zeroT C.P e=some z) (hk0:0<k) (hzk:z.cells.size=k) (hs:s<C.N) (hw1:allW k es) (hw2:allW k es2) (hne:es2≠[]) (hml:es.length<=maxLen)
    (h:stepsG C false st.H ops (ops.toList.take p) st (fun st1=>st1.ρ x=.pv (.sl es)/\st1.ρ l=.pv (.int .i64 es.length)/\st1.ρ m=.pv (.int .i64 es.length)/\
      stepsG C false st.H ops ((ops.toList.drop (p+1)).take (q-p-1)) ⟨upd st1.ρ s (.pv (.sl es)),st1.H⟩ (fun st2=>st2.ρ s=.pv (.sl es)/\srcA st2.H (st2.ρ y)=some es2/\(es.length+es2.length) * by'<=140737488355328/\es.length+es2.length<=maxLen/\hget st2.H d=none/\d<C.N/\
        stepsG C false st.H ops (ops.toList.drop (q+1)) ⟨upd st2.ρ d (.rs d (es.length+es2.length)),hset st2.H d (.row k (es++es2))⟩ (fun st3=>Q .normal st3)))):AWp C (.region id ops false) Q st:=by
  refine AWp.capApp0 (ops.toList.take p) ((ops.toList.drop (p+1)).take (q-p-1)) (ops.toList.drop (q+1)) s x l m y d es es2 (ty1:=ty1) (ty2:=ty2) (p1:=p1) (p2:=p2) (f1:=f1) (f2:=f2) ?_ hmid hpre ht hk hby hz hk0 hzk hs hw1 hw2 hne hml h
  have h1:ops.toList[p]?=_:=(Array.getElem?_toList ..).trans hp
  have h2:ops.toList[q]?=_:=(Array.getElem?_toList ..).trans hq
  generalize ops.toList=L at h1 h2
  obtain ⟨hl1,e1⟩:=List.getElem?_eq_some_iff.1 h1
  obtain ⟨hl2,e2⟩:=List.getElem?_eq_some_iff.1 h2
  have a1:L=L.take p++L.drop p:=(List.take_append_drop ..).symm
  have a2:L.drop p=L[p]::L.drop (p+1):=List.drop_eq_getElem_cons hl1
  have a3:L.drop (p+1)=(L.drop (p+1)).take (q-p-1)++(L.drop (p+1)).drop (q-p-1):=(List.take_append_drop ..).symm
  have a4:(L.drop (p+1)).drop (q-p-1)=L.drop q:=by rw [List.drop_drop];congr 1;omega
  have a5:L.drop q=L[q]::L.drop (q+1):=List.drop_eq_getElem_cons hl2
  rw [a4,a5,e2] at a3
  rw [e1] at a2
  rw [a2] at a1
  conv=>lhs;rw [a1,a3]
theorem AWp.blockA {C:Ctx} {id:Nat} {c:Code} {Q:AX->ASt->Prop} {st:ASt} (h:AWp C c (AX.blk id Q) st):AWp C (.block id c) Q st:=by
  intro G E r n hr hF hP0 a w L hR hd
  refine wpIn_block (wpIn_mono (h G E r n hr hF hP0 a w L hR hd) (fun e a w he=>?_))
  cases e with
  | exit i=>
    obtain ⟨E',hE,s,L,h1,h2⟩:=he
    change if i=id then Q .normal s else Q (.exit i) s at h1
    show if i=id then LiftQ C.outer G E C.N Q .normal a w else LiftQ C.outer G E C.N Q (.exit i) a w
    by_cases e:i=id
    · rw [if_pos e] at h1
      rw [if_pos e]
      exact ⟨E',hE,s,L,h1,h2⟩
    · rw [if_neg e] at h1
      rw [if_neg e]
      exact ⟨E',hE,s,L,h1,h2⟩
  | normal=>exact he
  | ret=>exact he
  | goto l=>exact he
  | panic c=>exact he
  | outgrown=>exact he
theorem AWp.loopA {C:Ctx} {c:Code} {Q:AX->ASt->Prop} {st:ASt} {α:Type} (I:α->List (Nat × AV) × AHeap) (P:α->Prop) (μ:α->Nat) (h0:∃ x,P x/\Fits C.pins (I x).1 (I x).2 st)
    (h:∀ x,P x->AWp C c (AX.thn (fun st'=>∃ y,P y/\μ y<μ x/\Fits C.pins (I y).1 (I y).2 st') Q) ⟨look (I x).1,(I x).2⟩):AWp C (.loop c) Q st:=by
  intro G E r n hr hF hP0
  have key:∀ m x,μ x<m->P x->∀ E',Rebs C.outer E E'->∀ a w L,Rel G E' (OpqS G E') C.N ⟨look (I x).1,(I x).2⟩ a.tmps w L->a.defers=E'.ds->Code.roundsIn (FF r) n G.P c (LiftQ C.outer G E C.N Q) m a w:=by
    intro m
    induction m with
    | zero=>intro x hx;omega
    | succ m ih=>
      intro x hx hP E' hE a w L hR hd
      have hP0':∀ κ,(E'.L0 κ).isSome=true->κ∈C.pins:=by rw [hE.L0];exact hP0
      unfold Code.roundsIn
      refine wpIn_mono (h x hP G E' r n hr hF hP0' a w L hR hd) (fun e a w he=>?_)
      have he:=he.up hE
      cases e with
      | normal=>
        obtain ⟨E2,hE2,s,L,⟨y,hy,hlt,hf⟩,h2,h3⟩:=he
        exact ih y (by omega) hy E2 hE2 a w L (h2.fit (by rw [hE2.L0];exact hP0) hf) h3
      | exit i=>exact he
      | ret=>exact he
      | goto l=>exact he
      | panic c=>exact he
      | outgrown=>exact he
  intro a w L hR hd
  obtain ⟨x,hP,hf⟩:=h0
  exact wpIn_loop_rounds (μ x+1) (key (μ x+1) x (Nat.lt_succ_self _) hP E .refl a w L (hR.fit hP0 hf) hd)
theorem AWp.condA {C:Ctx} {c:Operand} {x y:Code} {Q:AX->ASt->Prop} {st:ASt} {t:Bool} (hc:opndV st.ρ c=.pv (.bool t)) (h1:t=true->AWp C x Q st) (h2:t=false->AWp C y Q st):AWp C (.cond c x y) Q st:=by
  intro G E r n hr hF hP0 a w L hR hd
  have hb:=opnd_rel hR.env c
  rw [hc] at hb
  exact wpIn_cond_split (bool_inv hb) (fun ht=>h1 ht G E r n hr hF hP0 a w L hR hd) (fun ht=>h2 ht G E r n hr hF hP0 a w L hR hd)
end Go.AM
