/-
  A part of a proof.
-/
import Derived.Test.YtkajgkbhkkgdbaaGreatDoorAR
set_option linter.unusedSimpArgs false
set_option linter.unusedVariables false
namespace Go.AM
open Go
def qop (C:Ctx) (ρ:Nat->AV) (H:AHeap) (o:Oper):Prop × (AV->Prop):=
 match o.op with
 | .call { callee:=.value f,args, .. }=>match calleeA (ox ρ f) with
   | some (g,caps)=>match C.Θ g with
     | some θ=>(oc ρ f/\allC ρ args.toList/\(θ (args.toList.map (ox ρ)++caps) H).1,(θ (args.toList.map (ox ρ)++caps) H).2)
     | none=>((aopP C ρ H o.op).1,fun r=>r=(aopP C ρ H o.op).2)
   | none=>((aopP C ρ H o.op).1,fun r=>r=(aopP C ρ H o.op).2)
 | _=>((aopP C ρ H o.op).1,fun r=>r=(aopP C ρ H o.op).2)
def cls (C:Ctx) (dr:Bool) (o:Oper):Nat:=
 match o.op with
 | .alloc _ | .box _ _=>match o.guard with | none=>1 | some _=>2
 | .makeSlice _ _ _ | .store _ _ _ | .makeMap _ _ | .mapUpdate _ _ _ _ | .range _ _ | .next _ _=>2
 | .buildSlice _ _ _=>match o.dst with | some d=>if C.rows.contains d then 2 else 0 | none=>0
 | .call { callee:=.builtin .append, .. } | .call { callee:=.builtin .delete, .. } | .call { callee:=.builtin .clear, .. }=>2
 | .call { callee:=.value (.func f), .. }=>if (C.Ψ f).isSome then 2 else 0
 | .call { callee:=.value _, .. }=>if dr then 0 else 2
 | _=>0
def rowLit (C:Ctx) (o:Oper) (st:ASt) (K:ASt->Prop):Prop:=
 match o.op with
 | .buildSlice t len parts=>match C.P.underlying t with
   | some (.slice e)=>match szOf C.P e,zeroT C.P e with
     | some k,some z=>allC st.ρ (parts.toList.map (·.2))/\idxOk 0 ((parts.toList.map fun x=>(x.1,ox st.ρ x.2)).map (·.1))=true/\parts.toList.length=len/\len * k<=16777216/\0<k/\elemOk st.H k ((parts.toList.map (·.2)).map (ox st.ρ))/\
         newB C.N st o.dst (.row k (((parts.toList.map (·.2)).map (ox st.ρ)).map (frz st.H 4))) (fun d=>.rs d len) K
     | _,_=>False
   | _=>False
 | _=>False
def effA (C:Ctx) (o:Oper) (st:ASt) (K:ASt->Prop):Prop:=
 match o.op with
 | .buildSlice _ _ _=>rowLit C o st K
 | .call { callee:=.value (.tmp t),args, .. }=>match calleeA (ox st.ρ (.tmp t)) with
   | some (g,_)=>match C.Ψ g with
     | some _=>aopE C o st K
     | none=>(qop C st.ρ st.H o).1/\∀ r,(qop C st.ρ st.H o).2 r->putD C.N st o.dst r K
   | none=>(qop C st.ρ st.H o).1/\∀ r,(qop C st.ρ st.H o).2 r->putD C.N st o.dst r K
 | _=>aopE C o st K
def guardC (ops:Array Oper) (o:Oper) (ρ:Nat->AV):Option Bool:=
 match o.guard with
 | none=>some true
 | some (j,b)=>match (ops[j]?).bind (·.dst) with
   | some g=>match ρ g with
     | .pv (.bool t)=>some (t == b)
     | .whn c (.pv (.bool t))=>some (c&&(t == b))
     | _=>none
   | none=>none
def mkW (c:Bool):AV->AV
 | .whn c' v=>.whn (c&&c') v
 | v=>.whn c v
def stepQ (C:Ctx) (h0:AHeap) (o:Oper) (c:Bool) (st:ASt) (K:ASt->Prop):Prop:=
 match o.guard with
 | none=>(qop C st.ρ st.H o).1/\∀ r,(qop C st.ρ st.H o).2 r->putD C.N st o.dst r K
 | some _=>(c=true->(qop C st.ρ st.H o).1)/\∀ r,(c=true->(qop C st.ρ st.H o).2 r)->(c=false->r=(aopP C st.ρ h0 o.op).2)->putD C.N st o.dst (mkW c r) K
def stepG (C:Ctx) (dr:Bool) (H0:AHeap) (ops:Array Oper) (o:Oper) (st:ASt) (K:ASt->Prop):Prop:=
 match guardC ops o st.ρ with
 | none=>False
 | some c=>if cls C dr o=0 then stepQ C (bif dr then H0 else st.H) o c st K else
     match o.guard with
     | none=>effA C o st K
     | some _=>(c=true->effA C o st K)/\(c=false->putD C.N st o.dst (.pv (.tup [])) K)
def stepsG (C:Ctx) (dr:Bool) (H0:AHeap) (ops:Array Oper):List Oper->ASt->(ASt->Prop)->Prop
 | [],st,K=>K st
 | o::r,st,K=>stepG C dr H0 ops o st (fun st'=>stepsG C dr H0 ops r st' K)
structure QSound (G:Glob) (f:FuncId) (θ:QSpec):Prop where
 enter:∀ args H,(θ args H).1->Enterable G.P f
 inhab:∀ args H,(θ args H).1->∃ r,(θ args H).2 r
 mono:∀ args H H',(∀ key B,hget H key=some B->hget H' key=some B)->(θ args H).1->(θ args H').1/\(θ args H').2=(θ args H).2
 call:∀ args st,(θ args st.H).1->∀ (E:Base) (N:Nat) (a:Array Value) (w:World) (L:Locs) (xs:List Value),Rel G E (OpqS G E) N st a w L->LRel w (Mut E L st.H) L st.H (OpqS G E) args xs->
  Calls G.P f xs.toArray w (fun e w'=>∃ v r L',e=.returned v/\(θ args st.H).2 r/\Rel G E (OpqS G E) N st a w' L'/\AVRel w' (Mut E L' st.H) L' st.H (OpqS G E) r v)
structure TabsAll (G:Glob) (C:Ctx):Prop where
 base:TabsSound G C
 quiet:∀ f θ,C.Θ f=some θ->QSound G f θ
section
variable {G:Glob} {E:Base} {N:Nat} {st:ASt} {a:Act} {w:World} {L:Locs} {C:Ctx}
theorem qop_wp (hC:TabsAll G C) (hR:Rel G E (OpqS G E) N st a.tmps w L) {o:Oper} (h:(qop C st.ρ st.H o).1):
 OpYields G.P o a w (fun v w'=>∃ r L',(qop C st.ρ st.H o).2 r/\Rel G E (OpqS G E) N st a.tmps w' L'/\AVRel w' (Mut E L' st.H) L' st.H (OpqS G E) r v):=by
 have pure:(aopP C st.ρ st.H o.op).1->OpYields G.P o a w (fun v w'=>∃ r L',r=(aopP C st.ρ st.H o.op).2/\Rel G E (OpqS G E) N st a.tmps w' L'/\AVRel w' (Mut E L' st.H) L' st.H (OpqS G E) r v):=by
  intro h1
  exact (aopP_yields hC.base.prog hC.base.pure hR h1).mono (fun v w' ⟨he,hv⟩=>⟨_,L,rfl,hR.grow he,hv⟩)
 unfold qop at h ⊢
 split at h
 · rename_i f args ts ho
   split at h
   · rename_i g caps hcal
     split at h
     · rename_i θ hθ
       obtain ⟨h1,h2,h3⟩:=h
       obtain ⟨vs,hx,hcaps⟩:=calleeA_inv hcal (ox_rel hR.env f h1)
       have hall:=(LRel.of_ops hR.env args.toList h2).append hcaps
       have hq:=hC.quiet g θ hθ
       unfold OpYields
       have e1:(args.map a.eval)++vs=(args.toList.map a.eval++vs.toList).toArray:=by rw [map_toArr];simp
       rw [exec_call ho hx (hq.enter _ _ h3) w,e1]
       refine (hq.call _ st h3 E N a.tmps w L _ hR hall).mono ?_
       rintro e w' ⟨v,r,L',rfl,hr,hR',hv⟩
       exact ⟨v,rfl,r,L',hr,hR',hv⟩
     · exact pure h
   · exact pure h
 · exact pure h
theorem rowLit_wp (hC:TabsAll G C) (hN:C.N=N) (hR:Rel G E (OpqS G E) N st a.tmps w L) (hd:a.defers=E.ds) {o:Oper} {K:ASt->Prop} (h:rowLit C o st K):
 OpYields G.P o a w (fun y w'=>Beh G E N K (a.put o.dst y) w'):=by
 unfold rowLit at h
 rw [hC.base.prog] at h
 split at h
 · rename_i t len parts ho
   split at h
   · rename_i e ht
     split at h
     · rename_i k z hk hz
       obtain ⟨ha,h1,h2,h3,h4,h5,h6⟩:=h
       have hl:=LRel.of_ops hR.env _ ha
       obtain ⟨hfree,hmem⟩:=elemOk_mem h5
       have hrel:=hl.frzFree hfree (fun v hv=>(hmem v hv).1)
       have ei:(parts.toList.map fun x=>(x.1,a.eval x.2)).map (·.1)=(parts.toList.map fun x=>(x.1,ox st.ρ x.2)).map (·.1):=by simp [Function.comp_def]
       have hat:∀ (i:Nat) (p:PV),(((parts.toList.map (·.2)).map (ox st.ρ)).map (frz st.H 4))[i]?=some p->∃ x,(parts.toList.map fun x=>(x.1,a.eval x.2))[i]?=some x/\PVRel w (Mut E L st.H) p x.2/\p.width=k/\p.cells.all PV.one=true:=by
        intro i p hp
        have hpr:=hrel.2 i p hp
        have hi:i<parts.toList.length:=by have:=(List.getElem?_eq_some_iff.1 hp).1;simpa using this
        refine ⟨(parts.toList[i].1,a.eval parts.toList[i].2),by rw [List.getElem?_map,List.getElem?_eq_getElem hi];rfl,?_,?_⟩
        · rw [getD_toArray,List.getD_eq_getElem?_getD,List.getElem?_map,List.getElem?_map,List.getElem?_eq_getElem hi] at hpr;exact hpr
        · rw [List.getElem?_map] at hp
          obtain ⟨v,hv,rfl⟩:=Option.map_eq_some_iff.1 hp
          exact (hmem v (List.mem_of_getElem? hv)).2
       have hll:(((parts.toList.map (·.2)).map (ox st.ρ)).map (frz st.H 4)).length=len:=by simpa using h2
       have hsz:∀ p,p∈(parts.toList.map fun x=>(x.1,a.eval x.2))->p.2.cells.size=k:=by
        intro p hp
        obtain ⟨i,hi⟩:=List.mem_iff_getElem?.1 hp
        have hil:i<parts.toList.length:=by have:=(List.getElem?_eq_some_iff.1 hi).1;simpa using this
        have hpp:(((parts.toList.map (·.2)).map (ox st.ρ)).map (frz st.H 4))[i]?=some ((((parts.toList.map (·.2)).map (ox st.ρ)).map (frz st.H 4))[i]'(by simpa using hil)):=List.getElem?_eq_getElem _
        obtain ⟨x,hx,hr,hw,ho⟩:=hat i _ hpp
        rw [hi] at hx
        simp only [Option.some.injEq] at hx
        subst hx
        exact (cells_of_rel hr hw ho).1
       obtain ⟨arr,f1,f2,f3,f4⟩:=fill_dense (k:=k) (parts.toList.map fun x=>(x.1,a.eval x.2)) 0 ((Array.range (len * k)).map ((if len * k=0 then #[] else z.cells)[· % (if len * k=0 then #[] else z.cells).size]!)) (by rw [ei];exact h1) hsz (by simp [h2])
       have hrun:(Instr.buildSlice t len (parts.map fun (i,x)=>(i,a.eval x))).run G.P w=.ok (.slice (some ⟨w.heap.size,0,none⟩) len len) (w.alloc (.cells arr e)):=by
        have e1:(parts.map fun (i,x)=>(i,a.eval x)).toList=parts.toList.map fun x=>(x.1,a.eval x.2):=by simp
        unfold Instr.buildSlice
        have hn:¬ (len * k>2 ^ 24):=by omega
        by_cases h0:len * k=0
        · simp only [h0,if_true] at f1
          have hn0:¬ (0>2 ^ 24):=by omega
          simp only [Sem.run_bind,run_underlying ht,Result.andThen_ok,run_szOf hk,h0,if_true,Sem.run_pure,e1,f1,newRow,run_newObj,if_neg hn0]
          rfl
        · simp only [h0,if_false] at f1
          simp only [Sem.run_bind,run_underlying ht,Result.andThen_ok,run_szOf hk,hn,if_false,h0,run_zeroT hz,Sem.run_pure,e1,f1,newRow,run_newObj]
          rfl
       have hexec:(execOp a.eval o).run G.P w=.ok (.value (.slice (some ⟨w.heap.size,0,none⟩) len len)) (w.alloc (.cells arr e)):=by
        simp only [execOp,ho,Sem.run_bind,hrun,Result.andThen_ok,Sem.run_pure]
       refine .of_run hexec ?_
       rw [hN] at h6
       refine newB_beh (w1:=w) (cap:=len) h6 hR hd (Ext.refl _ _) rfl (fun κ M' L' H' hkp hc hl' hheap=>?_) (fun κ w' M' L' H' hg hl'=>?_)
       · unfold BRel
         refine ⟨h4,fun p hp=>by obtain ⟨i,hi⟩:=List.mem_iff_getElem?.1 hp;obtain ⟨x,_,_,hw,_⟩:=hat i p hi;exact hw,?_⟩
         rw [hl']
         have hlm:len<=maxLen:=by
          simp only [maxLen]
          have:len<=len * k:=Nat.le_mul_of_pos_right _ h4
          omega
         refine ⟨arr,e,hheap,by rw [f2];simp,by rw [hll];exact Nat.le_refl _,hlm,fun i p j c hp hc=>?_⟩
         obtain ⟨x,hx,hr,hw,ho'⟩:=hat i p hp
         have hj:j<k:=by
          have h6:=(List.getElem?_eq_some_iff.1 hc).1
          have h7:p.cells.length=k:=hw
          omega
         have hv:=f4 i x j hx hj
         rw [Nat.zero_add] at hv
         refine ⟨List.all_eq_true.1 ho' c (List.mem_of_getElem? hc),?_⟩
         rw [hv]
         exact ((cells_of_rel hr hw ho').2 j c hc).keep hkp
       · exact .rs κ _ k _ w.heap.size len hg hl' (by rw [hll];exact Nat.le_refl _)
     · exact h.elim
   · exact h.elim
 · exact h.elim
theorem effA_wp (hP0:∀ κ,(E.L0 κ).isSome=true->κ∈C.pins) (hC:TabsAll G C) (hN:C.N=N) (hR:Rel G E (OpqS G E) N st a.tmps w L) (hd:a.defers=E.ds) {o:Oper} {K:ASt->Prop} (h:effA C o st K):
 OpYields G.P o a w (fun y w'=>Beh G E N K (a.put o.dst y) w'):=by
 have q:((qop C st.ρ st.H o).1/\∀ r,(qop C st.ρ st.H o).2 r->putD C.N st o.dst r K)->OpYields G.P o a w (fun y w'=>Beh G E N K (a.put o.dst y) w'):=by
  rintro ⟨h1,h2⟩
  refine (qop_wp hC hR h1).mono (fun v w' ⟨r,L',hr,hR',hv⟩=>?_)
  have h3:=h2 r hr
  rw [hN] at h3
  exact putD_beh h3 hR' hv hd
 unfold effA at h
 split at h
 · exact rowLit_wp hC hN hR hd h
 · split at h
   · split at h
     · exact aopE_wp hP0 hC.base hN hR hd h
     · exact q h
   · exact q h
 · exact aopE_wp hP0 hC.base hN hR hd h
theorem whn_inv {w:World} {M:Nat->Prop} {L:Locs} {H:AHeap} {S:(List PV->Prop × PV)->Value->Prop} {c:Bool} {v:AV} {x:Value} (h:AVRel w M L H S (.whn c v) x):(c=true/\AVRel w M L H S v x)\/(c=false/\x=undef):=by
 cases h
 · exact .inl ⟨rfl,‹_›⟩
 · exact .inr ⟨rfl,rfl⟩
theorem mkW_rel {w:World} {M:Nat->Prop} {L:Locs} {H:AHeap} {S:(List PV->Prop × PV)->Value->Prop} {c:Bool} {v:AV} {x:Value} (h:AVRel w M L H S (.whn c v) x):AVRel w M L H S (mkW c v) x:=by
 unfold mkW
 split
 · rename_i c' v'
   rcases whn_inv h with ⟨rfl,h1⟩ | ⟨rfl,rfl⟩
   · exact h1
   · exact .whnF _
 · exact h
theorem guard_yield {ops:Array Oper} {o:Oper} {c:Bool} (hR:Rel G E (OpqS G E) N st a.tmps w L) (h:guardC ops o st.ρ=some c):Region.wanted o (yielded ops a.tmps)=c:=by
 unfold guardC at h
 unfold Region.wanted
 split at h
 · rename_i hg
   simp only [Option.some.injEq] at h
   rw [hg];exact h
 · rename_i j b hg
   rw [hg]
   split at h
   · rename_i g hdst
     have hv:=hR.env g
     have look:∀ t:Bool,a.tmps.getD g undef=.bool t->yielded ops a.tmps j=some t:=by
      intro t ht
      unfold yielded
      rw [hdst]
      simp only [Option.bind_some]
      rw [Array.getD_eq_getD_getElem?] at ht
      cases hgt:a.tmps[g]? with
      | none=>rw [hgt] at ht;cases ht
      | some v=>rw [hgt] at ht;simp only [Option.getD_some] at ht;rw [ht]
     have nolook:a.tmps.getD g undef=undef->yielded ops a.tmps j=none:=by
      intro ht
      unfold yielded
      rw [hdst]
      simp only [Option.bind_some]
      rw [Array.getD_eq_getD_getElem?] at ht
      cases hgt:a.tmps[g]? with
      | none=>rfl
      | some v=>rw [hgt] at ht;simp only [Option.getD_some] at ht;rw [ht];rfl
     split at h
     · rename_i t hρ
       simp only [Option.some.injEq] at h
       rw [hρ] at hv
       simp only [look t (bool_inv hv)]
       rw [<- h];cases t <;> cases b <;> rfl
     · rename_i c' t hρ
       simp only [Option.some.injEq] at h
       rw [hρ] at hv
       rcases whn_inv hv with ⟨rfl,hx⟩ | ⟨rfl,hx⟩
       · simp only [look t (bool_inv hx)]
         rw [<- h];cases t <;> cases b <;> rfl
       · simp only [nolook hx]
         rw [<- h];rfl
     · cases h
   · cases h
theorem stepG_wp (hP0:∀ κ,(E.L0 κ).isSome=true->κ∈C.pins) (hC:TabsAll G C) (hN:C.N=N) (hR:Rel G E (OpqS G E) N st a.tmps w L) (hd:a.defers=E.ds) {dr:Bool} {H0:AHeap} {ops:Array Oper} {o:Oper} {K:ASt->Prop} (h:stepG C dr H0 ops o st K)
 {next:Act->World->Prop} {Q:Exit->Act->World->Prop} (hn:∀ a' w',Beh G E N K a' w'->next a' w'):
 if Region.wanted o (yielded ops a.tmps) then o.wp G.P a w next Q\/(o.asks G.P a w/\LetsOut Q) else next (a.put o.dst undef) w:=by
 unfold stepG at h
 split at h
 · exact h.elim
 · rename_i c hc
   have hw:=guard_yield hR hc
   have hq:cls C dr o=0->stepQ C (bif dr then H0 else st.H) o c st K->if Region.wanted o (yielded ops a.tmps) then o.wp G.P a w next Q\/(o.asks G.P a w/\LetsOut Q) else next (a.put o.dst undef) w:=by
    intro _ hs
    unfold stepQ at hs
    split at hs
    · rename_i hg
      obtain ⟨h1,h2⟩:=hs
      have:Region.wanted o (yielded ops a.tmps)=true:=by unfold Region.wanted;rw [hg]
      rw [if_pos this]
      refine .inl ((qop_wp hC hR h1).wp (fun v w' ⟨r,L',hr,hR',hv⟩=>hn _ _ ?_))
      have h3:=h2 r hr
      rw [hN] at h3
      exact putD_beh h3 hR' hv hd
    · obtain ⟨h1,h2⟩:=hs
      cases c with
      | true=>
        rw [if_pos hw]
        refine .inl ((qop_wp hC hR (h1 rfl)).wp (fun v w' ⟨r,L',hr,hR',hv⟩=>hn _ _ ?_))
        have h3:=h2 r (fun _=>hr) (fun h=>by cases h)
        rw [hN] at h3
        exact putD_beh h3 hR' (mkW_rel (.whnT _ _ hv)) hd
      | false=>
        rw [if_neg (by rw [hw];simp)]
        have h3:=h2 _ (fun h=>by cases h) (fun _=>rfl)
        rw [hN] at h3
        exact hn _ _ (putD_beh h3 hR (mkW_rel (.whnF _)) hd)
   split at h
   · rename_i hcl;exact hq hcl h
   · split at h
     · rename_i hg
       have:Region.wanted o (yielded ops a.tmps)=true:=by unfold Region.wanted;rw [hg]
       rw [if_pos this]
       exact .inl ((effA_wp hP0 hC hN hR hd h).wp (fun v w' hb=>hn _ _ hb))
     · obtain ⟨h1,h2⟩:=h
       cases c with
       | true=>
         rw [if_pos hw]
         exact .inl ((effA_wp hP0 hC hN hR hd (h1 rfl)).wp (fun v w' hb=>hn _ _ hb))
       | false=>
         rw [if_neg (by rw [hw];simp)]
         have h3:=h2 rfl
         rw [hN] at h3
         exact hn _ _ (putD_beh h3 hR (.pv _ _ (.tup [] #[] rfl (by simp))) hd)
theorem stepsG_wp (hP0:∀ κ,(E.L0 κ).isSome=true->κ∈C.pins) (hC:TabsAll G C) (hN:C.N=N) {H0:AHeap} {ops:Array Oper} {K:ASt->Prop} {Q:Exit->Act->World->Prop} (hQ:∀ a w,Beh G E N K a w->Q .normal a w):∀ (l:List Oper) (k:Nat),(∀ j,l[j]?=ops[k+j]?)->
 ∀ (a:Act) (w:World),Beh G E N (fun st=>stepsG C false H0 ops l st K) a w->wpOps G.P ops Q (List.range' k l.length) a w:=by
 intro l
 induction l with
 | nil=>intro k _ a w h;exact hQ a w h
 | cons o r ih=>
   intro k hl a w ⟨st,L,hs,hR,hd⟩
   have h0:ops[k]?=some o:=by simpa using (hl 0).symm
   simp only [List.length_cons,List.range'_succ]
   unfold wpOps
   rw [h0]
   exact stepG_wp hP0 hC hN hR hd hs (fun a' w' hb=>ih (k+1) (fun j=>by have:=hl (j+1);simpa [Nat.add_assoc,Nat.add_comm 1 j] using this) a' w' hb)
end
end Go.AM
