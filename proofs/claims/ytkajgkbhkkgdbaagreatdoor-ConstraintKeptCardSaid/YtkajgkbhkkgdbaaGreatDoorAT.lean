/-
  A part of a proof.
-/
import Derived.Test.YtkajgkbhkkgdbaaGreatDoorAR
import Derived.Still
set_option linter.unusedSimpArgs false
set_option linter.unusedVariables false
namespace Go.AM
open Go
def qop (C:Ctx) (ρ:Nat->AV) (H:AHeap) (o:Oper):Prop × (AV->Prop):=
 match o.op with
 | .call { callee:=.value f,args, .. }=>match calleeA (ox ρ f) with
   | some (g,caps)=>match C.Θ g with
     | some θ=>(oc ρ f/\allC ρ args.toList/\(θ (args.toList.map (ox ρ)++caps) H).1,(θ (args.toList.map (ox ρ)++caps) H).2)
     | none=>((aopP C ρ H o.op).1,fun r=>r=(aopP C ρ H o.op).2)
   | none=>((aopP C ρ H o.op).1,fun r=>r=(aopP C ρ H o.op).2)
 | _=>((aopP C ρ H o.op).1,fun r=>r=(aopP C ρ H o.op).2)
def cls (C:Ctx) (dr:Bool) (o:Oper):Nat:=
 match o.op with
 | .alloc _ | .box _ _=>match o.guard with | none=>1 | some _=>2
 | .makeSlice _ _ _ | .store _ _ _ | .makeMap _ _ | .mapUpdate _ _ _ _ | .range _ _ | .next _ _=>2
 | .buildSlice _ _ _=>match o.dst with | some d=>if C.rows.contains d then 2 else 0 | none=>0
 | .call { callee:=.builtin .append, .. } | .call { callee:=.builtin .delete, .. } | .call { callee:=.builtin .clear, .. }=>2
 | .call { callee:=.value (.func f), .. }=>if (C.Ψ f).isSome then 2 else 0
 | .call { callee:=.value _, .. }=>if dr then 0 else 2
 | _=>0
def rowLit (C:Ctx) (o:Oper) (st:ASt) (K:ASt->Prop):Prop:=
 match o.op with
 | .buildSlice t len parts=>match C.P.underlying t with
   | some (.slice e)=>match szOf C.P e,zeroT C.P e with
     | some k,some z=>allC st.ρ (parts.toList.map (·.2))/\idxOk 0 ((parts.toList.map fun x=>(x.1,ox st.ρ x.2)).map (·.1))=true/\parts.toList.length=len/\len * k<=16777216/\0<k/\elemOk st.H k ((parts.toList.map (·.2)).map (ox st.ρ))/\
         newB C.N st o.dst (.row k (((parts.toList.map (·.2)).map (ox st.ρ)).map (frz st.H 4))) (fun d=>.rs d len) K
     | _,_=>False
   | _=>False
 | _=>False
def effA (C:Ctx) (o:Oper) (st:ASt) (K:ASt->Prop):Prop:=
 match o.op with
 | .buildSlice _ _ _=>rowLit C o st K
 | .call { callee:=.value (.tmp t),args, .. }=>match calleeA (ox st.ρ (.tmp t)) with
   | some (g,_)=>match C.Ψ g with
     | some _=>aopE C o st K
     | none=>(qop C st.ρ st.H o).1/\∀ r,(qop C st.ρ st.H o).2 r->putD C.N st o.dst r K
   | none=>(qop C st.ρ st.H o).1/\∀ r,(qop C st.ρ st.H o).2 r->putD C.N st o.dst r K
 | _=>aopE C o st K
def guardC (ops:Array Oper) (o:Oper) (ρ:Nat->AV):Option Bool:=
 match o.guard with
 | none=>some true
 | some (j,b)=>match (ops[j]?).bind (·.dst) with
   | some g=>match ρ g with
     | .pv (.bool t)=>some (t == b)
     | .whn c (.pv (.bool t))=>some (c&&(t == b))
     | _=>none
   | none=>none
def mkW (c:Bool):AV->AV
 | .whn c' v=>.whn (c&&c') v
 | v=>.whn c v
def stepQ (C:Ctx) (h0:AHeap) (o:Oper) (c:Bool) (st:ASt) (K:ASt->Prop):Prop:=
 match o.guard with
 | none=>(qop C st.ρ st.H o).1/\∀ r,(qop C st.ρ st.H o).2 r->putD C.N st o.dst r K
 | some _=>(c=true->(qop C st.ρ st.H o).1)/\∀ r,(c=true->(qop C st.ρ st.H o).2 r)->(c=false->r=(aopP C st.ρ h0 o.op).2)->putD C.N st o.dst (mkW c r) K
def stepG (C:Ctx) (dr:Bool) (H0:AHeap) (ops:Array Oper) (o:Oper) (st:ASt) (K:ASt->Prop):Prop:=
 match guardC ops o st.ρ with
 | none=>False
 | some c=>if cls C dr o=0 then stepQ C (bif dr then H0 else st.H) o c st K else
     match o.guard with
     | none=>effA C o st K
     | some _=>(c=true->effA C o st K)/\(c=false->putD C.N st o.dst (.pv (.tup [])) K)
def stepsG (C:Ctx) (dr:Bool) (H0:AHeap) (ops:Array Oper):List Oper->ASt->(ASt->Prop)->Prop
 | [],st,K=>K st
 | o::r,st,K=>stepG C dr H0 ops o st (fun st'=>stepsG C dr H0 ops r st' K)
structure QSound (G:Glob) (f:FuncId) (θ:QSpec):Prop where
 enter:∀ args H,(θ args H).1->Enterable G.P f
 inhab:∀ args H,(θ args H).1->∃ r,(θ args H).2 r
 mono:∀ args H H',(∀ key B,hget H key=some B->hget H' key=some B)->(θ args H).1->(θ args H').1/\(θ args H').2=(θ args H).2
 call:∀ args st,(θ args st.H).1->∀ (E:Base) (N:Nat) (a:Array Value) (w:World) (L:Locs) (xs:List Value),Rel G E (OpqS G E) N st a w L->LRel w (Mut E L st.H) L st.H (OpqS G E) args xs->
  Calls G.P f xs.toArray w (fun e w'=>∃ v r L',e=.returned v/\(θ args st.H).2 r/\Rel G E (OpqS G E) N st a w' L'/\AVRel w' (Mut E L' st.H) L' st.H (OpqS G E) r v)
structure TabsAll (G:Glob) (C:Ctx):Prop where
 base:TabsSound G C
 quiet:∀ f θ,C.Θ f=some θ->QSound G f θ
section
variable {G:Glob} {E:Base} {N:Nat} {st:ASt} {a:Act} {w:World} {L:Locs} {C:Ctx}
theorem qop_wp (hC:TabsAll G C) (hR:Rel G E (OpqS G E) N st a.tmps w L) {o:Oper} (h:(qop C st.ρ st.H o).1):
 OpYields G.P o a w (fun v w'=>∃ r L',(qop C st.ρ st.H o).2 r/\Rel G E (OpqS G E) N st a.tmps w' L'/\AVRel w' (Mut E L' st.H) L' st.H (OpqS G E) r v):=by
 have pure:(aopP C st.ρ st.H o.op).1->OpYields G.P o a w (fun v w'=>∃ r L',r=(aopP C st.ρ st.H o.op).2/\Rel G E (OpqS G E) N st a.tmps w' L'/\AVRel w' (Mut E L' st.H) L' st.H (OpqS G E) r v):=by
  intro h1
  exact (aopP_yields hC.base.prog hC.base.pure hR h1).mono (fun v w' ⟨he,hv⟩=>⟨_,L,rfl,hR.grow he,hv⟩)
 unfold qop at h ⊢
 split at h
 · rename_i f args ts ho
   split at h
   · rename_i g caps hcal
     split at h
     · rename_i θ hθ
       obtain ⟨h1,h2,h3⟩:=h
       obtain ⟨vs,hx,hcaps⟩:=calleeA_inv hcal (ox_rel hR.env f h1)
       have hall:=(LRel.of_ops hR.env args.toList h2).append hcaps
       have hq:=hC.quiet g θ hθ
       unfold OpYields
       have e1:(args.map a.eval)++vs=(args.toList.map a.eval++vs.toList).toArray:=by rw [map_toArr];simp
       rw [exec_call ho hx (hq.enter _ _ h3) w,e1]
       refine (hq.call _ st h3 E N a.tmps w L _ hR hall).mono ?_
       rintro e w' ⟨v,r,L',rfl,hr,hR',hv⟩
       exact ⟨v,rfl,r,L',hr,hR',hv⟩
     · exact pure h
   · exact pure h
 · exact pure h
theorem rowLit_wp (hC:TabsAll G C) (hN:C.N=N) (hR:Rel G E (OpqS G E) N st a.tmps w L) (hd:a.defers=E.ds) {o:Oper} {K:ASt->Prop} (h:rowLit C o st K):
 OpYields G.P o a w (fun y w'=>Beh G E N K (a.put o.dst y) w'):=by
 unfold rowLit at h
 rw [hC.base.prog] at h
 split at h
 · rename_i t len parts ho
   split at h
   · rename_i e ht
     split at h
     · rename_i k z hk hz
       obtain ⟨ha,h1,h2,h3,h4,h5,h6⟩:=h
       have hl:=LRel.of_ops hR.env _ ha
       obtain ⟨hfree,hmem⟩:=elemOk_mem h5
       have hrel:=hl.frzFree hfree (fun v hv=>(hmem v hv).1)
       have ei:(parts.toList.map fun x=>(x.1,a.eval x.2)).map (·.1)=(parts.toList.map fun x=>(x.1,ox st.ρ x.2)).map (·.1):=by simp [Function.comp_def]
       have hat:∀ (i:Nat) (p:PV),(((parts.toList.map (·.2)).map (ox st.ρ)).map (frz st.H 4))[i]?=some p->∃ x,(parts.toList.map fun x=>(x.1,a.eval x.2))[i]?=some x/\PVRel w (Mut E L st.H) p x.2/\p.width=k/\p.cells.all PV.one=true:=by
        intro i p hp
        have hpr:=hrel.2 i p hp
        have hi:i<parts.toList.length:=by have:=(List.getElem?_eq_some_iff.1 hp).1;simpa using this
        refine ⟨(parts.toList[i].1,a.eval parts.toList[i].2),by rw [List.getElem?_map,List.getElem?_eq_getElem hi];rfl,?_,?_⟩
        · rw [getD_toArray,List.getD_eq_getElem?_getD,List.getElem?_map,List.getElem?_map,List.getElem?_eq_getElem hi] at hpr;exact hpr
        · rw [List.getElem?_map] at hp
          obtain ⟨v,hv,rfl⟩:=Option.map_eq_some_iff.1 hp
          exact (hmem v (List.mem_of_getElem? hv)).2
       have hll:(((parts.toList.map (·.2)).map (ox st.ρ)).map (frz st.H 4)).length=len:=by simpa using h2
       have hsz:∀ p,p∈(parts.toList.map fun x=>(x.1,a.eval x.2))->p.2.cells.size=k:=by
        intro p hp
        obtain ⟨i,hi⟩:=List.mem_iff_getElem?.1 hp
        have hil:i<parts.toList.length:=by have:=(List.getElem?_eq_some_iff.1 hi).1;simpa using this
        have hpp:(((parts.toList.map (·.2)).map (ox st.ρ)).map (frz st.H 4))[i]?=some ((((parts.toList.map (·.2)).map (ox st.ρ)).map (frz st.H 4))[i]'(by simpa using hil)):=List.getElem?_eq_getElem _
        obtain ⟨x,hx,hr,hw,ho⟩:=hat i _ hpp
        rw [hi] at hx
        simp only [Option.some.injEq] at hx
        subst hx
        exact (cells_of_rel hr hw ho).1
       obtain ⟨arr,f1,f2,f3,f4⟩:=fill_dense (k:=k) (parts.toList.map fun x=>(x.1,a.eval x.2)) 0 ((Array.range (len * k)).map ((if len * k=0 then #[] else z.cells)[· % (if len * k=0 then #[] else z.cells).size]!)) (by rw [ei];exact h1) hsz (by simp [h2])
       have hrun:(Instr.buildSlice t len (parts.map fun (i,x)=>(i,a.eval x))).run G.P w=.ok (.slice (some ⟨w.heap.size,0,none⟩) len len) (w.alloc (.cells arr e)):=by
        have e1:(parts.map fun (i,x)=>(i,a.eval x)).toList=parts.toList.map fun x=>(x.1,a.eval x.2):=by simp
        unfold Instr.buildSlice
        have hn:¬ (len * k>2 ^ 24):=by omega
        by_cases h0:len * k=0
        · simp only [h0,if_true] at f1
          have hn0:¬ (0>2 ^ 24):=by omega
          simp only [Sem.run_bind,run_underlying ht,Result.andThen_ok,run_szOf hk,h0,if_true,Sem.run_pure,e1,f1,newRow,run_newObj,if_neg hn0]
          rfl
        · simp only [h0,if_false] at f1
          simp only [Sem.run_bind,run_underlying ht,Result.andThen_ok,run_szOf hk,hn,if_false,h0,run_zeroT hz,Sem.run_pure,e1,f1,newRow,run_newObj]
          rfl
       have hexec:(execOp a.eval o).run G.P w=.ok (.value (.slice (some ⟨w.heap.size,0,none⟩) len len)) (w.alloc (.cells arr e)):=by
        simp only [execOp,ho,Sem.run_bind,hrun,Result.andThen_ok,Sem.run_pure]
       refine .of_run hexec ?_
       rw [hN] at h6
       refine newB_beh (w1:=w) (cap:=len) h6 hR hd (Ext.refl _ _) rfl (fun κ M' L' H' hkp hc hl' hheap=>?_) (fun κ w' M' L' H' hg hl'=>?_)
       · unfold BRel
         refine ⟨h4,fun p hp=>by obtain ⟨i,hi⟩:=List.mem_iff_getElem?.1 hp;obtain ⟨x,_,_,hw,_⟩:=hat i p hi;exact hw,?_⟩
         rw [hl']
         have hlm:len<=maxLen:=by
          simp only [maxLen]
          have:len<=len * k:=Nat.le_mul_of_pos_right _ h4
          omega
         refine ⟨arr,e,hheap,by rw [f2];simp,by rw [hll];exact Nat.le_refl _,hlm,fun i p j c hp hc=>?_⟩
         obtain ⟨x,hx,hr,hw,ho'⟩:=hat i p hp
         have hj:j<k:=by
          have h6:=(List.getElem?_eq_some_iff.1 hc).1
          have h7:p.cells.length=k:=hw
          omega
         have hv:=f4 i x j hx hj
         rw [Nat.zero_add] at hv
         refine ⟨List.all_eq_true.1 ho' c (List.mem_of_getElem? hc),?_⟩
         rw [hv]
         exact ((cells_of_rel hr hw ho').2 j c hc).keep hkp
       · exact .rs κ _ k _ w.heap.size len hg hl' (by rw [hll];exact Nat.le_refl _)
     · exact h.elim
   · exact h.elim
 · exact h.elim
theorem effA_wp (hP0:∀ κ,(E.L0 κ).isSome=true->κ∈C.pins) (hC:TabsAll G C) (hN:C.N=N) (hR:Rel G E (OpqS G E) N st a.tmps w L) (hd:a.defers=E.ds) {o:Oper} {K:ASt->Prop} (h:effA C o st K):
 OpYields G.P o a w (fun y w'=>Beh G E N K (a.put o.dst y) w'):=by
 have q:((qop C st.ρ st.H o).1/\∀ r,(qop C st.ρ st.H o).2 r->putD C.N st o.dst r K)->OpYields G.P o a w (fun y w'=>Beh G E N K (a.put o.dst y) w'):=by
  rintro ⟨h1,h2⟩
  refine (qop_wp hC hR h1).mono (fun v w' ⟨r,L',hr,hR',hv⟩=>?_)
  have h3:=h2 r hr
  rw [hN] at h3
  exact putD_beh h3 hR' hv hd
 unfold effA at h
 split at h
 · exact rowLit_wp hC hN hR hd h
 · split at h
   · split at h
     · exact aopE_wp hP0 hC.base hN hR hd h
     · exact q h
   · exact q h
 · exact aopE_wp hP0 hC.base hN hR hd h
theorem whn_inv {w:World} {M:Nat->Prop} {L:Locs} {H:AHeap} {S:(List PV->Prop × PV)->Value->Prop} {c:Bool} {v:AV} {x:Value} (h:AVRel w M L H S (.whn c v) x):(c=true/\AVRel w M L H S v x)\/(c=false/\x=undef):=by
 cases h
 · exact .inl ⟨rfl,‹_›⟩
 · exact .inr ⟨rfl,rfl⟩
theorem mkW_rel {w:World} {M:Nat->Prop} {L:Locs} {H:AHeap} {S:(List PV->Prop × PV)->Value->Prop} {c:Bool} {v:AV} {x:Value} (h:AVRel w M L H S (.whn c v) x):AVRel w M L H S (mkW c v) x:=by
 unfold mkW
 split
 · rename_i c' v'
   rcases whn_inv h with ⟨rfl,h1⟩ | ⟨rfl,rfl⟩
   · exact h1
   · exact .whnF _
 · exact h
theorem guard_yield {ops:Array Oper} {o:Oper} {c:Bool} (hR:Rel G E (OpqS G E) N st a.tmps w L) (h:guardC ops o st.ρ=some c):Region.wanted o (yielded ops a.tmps)=c:=by
 unfold guardC at h
 unfold Region.wanted
 split at h
 · rename_i hg
   simp only [Option.some.injEq] at h
   rw [hg];exact h
 · rename_i j b hg
   rw [hg]
   split at h
   · rename_i g hdst
     have hv:=hR.env g
     have look:∀ t:Bool,a.tmps.getD g undef=.bool t->yielded ops a.tmps j=some t:=by
      intro t ht
      unfold yielded
      rw [hdst]
      simp only [Option.bind_some]
      rw [Array.getD_eq_getD_getElem?] at ht
      cases hgt:a.tmps[g]? with
      | none=>rw [hgt] at ht;cases ht
      | some v=>rw [hgt] at ht;simp only [Option.getD_some] at ht;rw [ht]
     have nolook:a.tmps.getD g undef=undef->yielded ops a.tmps j=none:=by
      intro ht
      unfold yielded
      rw [hdst]
      simp only [Option.bind_some]
      rw [Array.getD_eq_getD_getElem?] at ht
      cases hgt:a.tmps[g]? with
      | none=>rfl
      | some v=>rw [hgt] at ht;simp only [Option.getD_some] at ht;rw [ht];rfl
     split at h
     · rename_i t hρ
       simp only [Option.some.injEq] at h
       rw [hρ] at hv
       simp only [look t (bool_inv hv)]
       rw [<- h];cases t <;> cases b <;> rfl
     · rename_i c' t hρ
       simp only [Option.some.injEq] at h
       rw [hρ] at hv
       rcases whn_inv hv with ⟨rfl,hx⟩ | ⟨rfl,hx⟩
       · simp only [look t (bool_inv hx)]
         rw [<- h];cases t <;> cases b <;> rfl
       · simp only [nolook hx]
         rw [<- h];rfl
     · cases h
   · cases h
theorem stepG_wp (hP0:∀ κ,(E.L0 κ).isSome=true->κ∈C.pins) (hC:TabsAll G C) (hN:C.N=N) (hR:Rel G E (OpqS G E) N st a.tmps w L) (hd:a.defers=E.ds) {dr:Bool} {H0:AHeap} {ops:Array Oper} {o:Oper} {K:ASt->Prop} (h:stepG C dr H0 ops o st K)
 {next:Act->World->Prop} {Q:Exit->Act->World->Prop} (hn:∀ a' w',Beh G E N K a' w'->next a' w'):
 if Region.wanted o (yielded ops a.tmps) then o.wp G.P a w next Q\/(o.asks G.P a w/\LetsOut Q) else next (a.put o.dst undef) w:=by
 unfold stepG at h
 split at h
 · exact h.elim
 · rename_i c hc
   have hw:=guard_yield hR hc
   have hq:cls C dr o=0->stepQ C (bif dr then H0 else st.H) o c st K->if Region.wanted o (yielded ops a.tmps) then o.wp G.P a w next Q\/(o.asks G.P a w/\LetsOut Q) else next (a.put o.dst undef) w:=by
    intro _ hs
    unfold stepQ at hs
    split at hs
    · rename_i hg
      obtain ⟨h1,h2⟩:=hs
      have:Region.wanted o (yielded ops a.tmps)=true:=by unfold Region.wanted;rw [hg]
      rw [if_pos this]
      refine .inl ((qop_wp hC hR h1).wp (fun v w' ⟨r,L',hr,hR',hv⟩=>hn _ _ ?_))
      have h3:=h2 r hr
      rw [hN] at h3
      exact putD_beh h3 hR' hv hd
    · obtain ⟨h1,h2⟩:=hs
      cases c with
      | true=>
        rw [if_pos hw]
        refine .inl ((qop_wp hC hR (h1 rfl)).wp (fun v w' ⟨r,L',hr,hR',hv⟩=>hn _ _ ?_))
        have h3:=h2 r (fun _=>hr) (fun h=>by cases h)
        rw [hN] at h3
        exact putD_beh h3 hR' (mkW_rel (.whnT _ _ hv)) hd
      | false=>
        rw [if_neg (by rw [hw];simp)]
        have h3:=h2 _ (fun h=>by cases h) (fun _=>rfl)
        rw [hN] at h3
        exact hn _ _ (putD_beh h3 hR (mkW_rel (.whnF _)) hd)
   split at h
   · rename_i hcl;exact hq hcl h
   · split at h
     · rename_i hg
       have:Region.wanted o (yielded ops a.tmps)=true:=by unfold Region.wanted;rw [hg]
       rw [if_pos this]
       exact .inl ((effA_wp hP0 hC hN hR hd h).wp (fun v w' hb=>hn _ _ hb))
     · obtain ⟨h1,h2⟩:=h
       cases c with
       | true=>
         rw [if_pos hw]
         exact .inl ((effA_wp hP0 hC hN hR hd (h1 rfl)).wp (fun v w' hb=>hn _ _ hb))
       | false=>
         rw [if_neg (by rw [hw];simp)]
         have h3:=h2 rfl
         rw [hN] at h3
         exact hn _ _ (putD_beh h3 hR (.pv _ _ (.tup [] #[] rfl (by simp))) hd)
theorem stepsG_wp (hP0:∀ κ,(E.L0 κ).isSome=true->κ∈C.pins) (hC:TabsAll G C) (hN:C.N=N) {H0:AHeap} {ops:Array Oper} {K:ASt->Prop} {Q:Exit->Act->World->Prop} (hQ:∀ a w,Beh G E N K a w->Q .normal a w):∀ (l:List Oper) (k:Nat),(∀ j,l[j]?=ops[k+j]?)->
 ∀ (a:Act) (w:World),Beh G E N (fun st=>stepsG C false H0 ops l st K) a w->wpOps G.P ops Q (List.range' k l.length) a w:=by
 intro l
 induction l with
 | nil=>intro k _ a w h;exact hQ a w h
 | cons o r ih=>
   intro k hl a w ⟨st,L,hs,hR,hd⟩
   have h0:ops[k]?=some o:=by simpa using (hl 0).symm
   simp only [List.length_cons,List.range'_succ]
   unfold wpOps
   rw [h0]
   exact stepG_wp hP0 hC hN hR hd hs (fun a' w' hb=>ih (k+1) (fun j=>by have:=hl (j+1);simpa [Nat.add_assoc,Nat.add_comm 1 j] using this) a' w' hb)
end
section mono
variable {H H':AHeap}
def Sub (H H':AHeap):Prop:=∀ key B,hget H key=some B->hget H' key=some B
theorem frz_mono (hs:Sub H H'):∀ (n:Nat) (v:AV),frzOk H n v->frzOk H' n v/\frz H' n v=frz H n v:=by
 intro n
 induction n with
 | zero=>
   intro v hk
   cases v <;> simp only [frzOk,frz] at hk ⊢ <;> try exact hk.elim
   case pv=>first | exact ⟨trivial,rfl⟩ | exact ⟨trivial,trivial⟩
   case nils=>first | exact ⟨trivial,rfl⟩ | exact ⟨trivial,trivial⟩
   case rs key hi=>
    split at hk
    · rename_i hH
      rw [hs _ _ hH];first | exact ⟨hk,rfl⟩ | exact ⟨hk,trivial⟩
    · exact hk.elim
   case rv key lo hi sz=>
    split at hk
    · rename_i hH
      rw [hs _ _ hH];first | exact ⟨hk,rfl⟩ | exact ⟨hk,trivial⟩
    · exact hk.elim
 | succ n ih=>
   intro v hk
   cases v <;> simp only [frzOk,frz] at hk ⊢ <;> try exact hk.elim
   case pv=>first | exact ⟨trivial,rfl⟩ | exact ⟨trivial,trivial⟩
   case nils=>first | exact ⟨trivial,rfl⟩ | exact ⟨trivial,trivial⟩
   case rs key hi=>
    split at hk
    · rename_i hH
      rw [hs _ _ hH];first | exact ⟨hk,rfl⟩ | exact ⟨hk,trivial⟩
    · exact hk.elim
   case rv key lo hi sz=>
    split at hk
    · rename_i hH
      rw [hs _ _ hH];first | exact ⟨hk,rfl⟩ | exact ⟨hk,trivial⟩
    · exact hk.elim
   case agg cs=>
    refine ⟨fun c hc=>⟨(hk c hc).1,(ih c (hk c hc).2).1⟩,?_⟩
    congr 1
    exact List.map_congr_left fun c hc=>(ih c (hk c hc).2).2
   case clo f caps=>
    refine ⟨fun c hc=>(ih c (hk c hc)).1,?_⟩
    congr 1
    exact List.map_congr_left fun c hc=>(ih c (hk c hc)).2
   case ptr key off=>
    split at hk
    · rename_i cs hH
      rw [hs _ _ hH]
      refine ⟨fun c hc=>⟨(hk c hc).1,(ih c (hk c hc).2).1⟩,?_⟩
      simp only
      congr 2
      exact List.map_congr_left fun c hc=>(ih c (hk c hc).2).2
    · exact hk.elim
theorem frzL_mono (hs:Sub H H') {l:List AV} (h:∀ v,v∈l->frzOk H 4 v):(∀ v,v∈l->frzOk H' 4 v)/\l.map (frz H' 4)=l.map (frz H 4):=
 ⟨fun v hv=>(frz_mono hs 4 v (h v hv)).1,List.map_congr_left fun v hv=>(frz_mono hs 4 v (h v hv)).2⟩
theorem elemOk_mono (hs:Sub H H') {k:Nat}:∀ {l:List AV},elemOk H k l->elemOk H' k l/\l.map (frz H' 4)=l.map (frz H 4)
 | [],_=>⟨trivial,rfl⟩
 | v::r,h=>by
   obtain ⟨h1,h2⟩:=elemOk_mono hs h.2
   obtain ⟨h3,h4⟩:=frz_mono hs 4 v h.1.2.1
   exact ⟨⟨⟨h.1.1,h3,by rw [h4];exact h.1.2.2.1,by rw [h4];exact h.1.2.2.2⟩,h1⟩,by simp only [List.map_cons,h2,h4]⟩
theorem srcA_mono (hs:Sub H H') {v:AV} {es:List PV} (h:srcA H v=some es):srcA H' v=some es:=by
 unfold srcA at h ⊢
 split at h
 · exact h
 · exact h
 · exact h
 · split at h
   · rename_i hH;rw [hs _ _ hH];exact h
   · cases h
 · split at h
   · rename_i hH;rw [hs _ _ hH];exact h
   · cases h
 · cases h
theorem makeFuncA_mono (hs:Sub H H') {fn:Fn} {f0 caps:List AV} (h:(makeFuncA H fn f0 caps).1):(makeFuncA H' fn f0 caps).1/\(makeFuncA H' fn f0 caps).2=(makeFuncA H fn f0 caps).2:=by
 cases f0 with
 | nil=>exact ⟨by cases fn <;> exact h,by cases fn <;> rfl⟩
 | cons x r=>
   cases fn <;> first | exact h.elim | skip
   cases caps with
   | cons=>exact h.elim
   | nil=>
     obtain ⟨h1,h2⟩:=h
     obtain ⟨m1,m2⟩:=frzL_mono hs h2
     exact ⟨⟨h1,m1⟩,congrArg (fun l=>AV.pv (.mv _ l)) m2⟩
theorem aopP_mono (C:Ctx) (ρ:Nat->AV) (hs:Sub H H') (op:Op) (h:(aopP C ρ H op).1):(aopP C ρ H' op).1/\(aopP C ρ H' op).2=(aopP C ρ H op).2:=by
 have hcall:∀ (c:AV) (args:List AV),(callP C H c args).1->(callP C H' c args).1/\(callP C H' c args).2=(callP C H c args).2:=by
  intro c args h
  unfold callP at h ⊢
  split at h
  · obtain ⟨h1,h2,h3⟩:=h
    obtain ⟨m1,m2⟩:=frzL_mono hs h1
    simp only [m2];exact ⟨⟨m1,h2,h3⟩,trivial⟩
  · obtain ⟨h1,h2,h3⟩:=h
    obtain ⟨m1,m2⟩:=frzL_mono hs h1
    simp only [m2];exact ⟨⟨m1,h2,h3⟩,trivial⟩
  · split at h
    · obtain ⟨h1,h2,h3⟩:=h
      obtain ⟨m1,m2⟩:=frzL_mono hs h1
      simp only [m2];exact ⟨⟨m1,h2,h3⟩,trivial⟩
    · exact h.elim
 cases op <;> simp only [aopP] at h ⊢ <;> try exact h.elim
 case move | assign | pick | binOp | unOp | extract | field | fieldAddr | index | nilCheck | slice | makeInterface | build=>first | exact ⟨h,rfl⟩ | exact ⟨h,trivial⟩
 case makeFunc fn first caps=>
  obtain ⟨h1,h2⟩:=h
  obtain ⟨m1,m2⟩:=makeFuncA_mono hs h2
  exact ⟨⟨h1,m1⟩,m2⟩
 case convert s d x=>
  obtain ⟨h1,h2⟩:=h
  unfold convA at h2 ⊢
  split at h2
  · split at h2
    · rename_i hsrc
      rw [srcA_mono hs hsrc];first | exact ⟨⟨h1,h2⟩,rfl⟩ | exact ⟨⟨h1,h2⟩,trivial⟩
    · exact h2.elim
  · first | exact ⟨⟨h1,h2⟩,rfl⟩ | exact ⟨⟨h1,h2⟩,trivial⟩
 case indexAddr t x i=>
  obtain ⟨h1,h2,h3⟩:=h
  unfold indexAddrA at h3 ⊢
  split at h3
  · first | exact ⟨⟨h1,h2,h3⟩,rfl⟩ | exact ⟨⟨h1,h2,h3⟩,trivial⟩
  · split at h3
    · rename_i hH;rw [hs _ _ hH];first | exact ⟨⟨h1,h2,h3⟩,rfl⟩ | exact ⟨⟨h1,h2,h3⟩,trivial⟩
    · exact h3.elim
  · split at h3
    · rename_i hH;rw [hs _ _ hH];first | exact ⟨⟨h1,h2,h3⟩,rfl⟩ | exact ⟨⟨h1,h2,h3⟩,trivial⟩
    · exact h3.elim
  · first | exact ⟨⟨h1,h2,h3⟩,rfl⟩ | exact ⟨⟨h1,h2,h3⟩,trivial⟩
  · exact h3.elim
 case load t x=>
  obtain ⟨h1,h2⟩:=h
  unfold loadA at h2 ⊢
  split at h2
  · split at h2
    · rename_i hH;rw [hs _ _ hH];first | exact ⟨⟨h1,h2⟩,rfl⟩ | exact ⟨⟨h1,h2⟩,trivial⟩
    · exact h2.elim
  · split at h2
    · rename_i hH;rw [hs _ _ hH];first | exact ⟨⟨h1,h2⟩,rfl⟩ | exact ⟨⟨h1,h2⟩,trivial⟩
    · exact h2.elim
  · first | exact ⟨⟨h1,h2⟩,rfl⟩ | exact ⟨⟨h1,h2⟩,trivial⟩
  · exact h2.elim
 case lookup t m k ok=>
  obtain ⟨h1,h2,h3⟩:=h
  unfold lookupA at h3 ⊢
  split at h3
  · split at h3
    · rename_i hH hz;rw [hs _ _ hH,hz];first | exact ⟨⟨h1,h2,h3⟩,rfl⟩ | exact ⟨⟨h1,h2,h3⟩,trivial⟩
    · exact h3.elim
  · exact h3.elim
 case buildSlice t len parts=>
  obtain ⟨h1,h2⟩:=h
  unfold buildSliceA at h2 ⊢
  split at h2
  · split at h2
    · obtain ⟨g1,g2,g3,g4,g5⟩:=h2
      obtain ⟨m1,m2⟩:=elemOk_mono hs g5
      simp only [m2]
      exact ⟨⟨h1,g1,g2,g3,g4,m1⟩,trivial⟩
    · exact h2.elim
  · exact h2.elim
 case call c=>
  obtain ⟨callee,args,ts⟩:=c
  cases callee with
  | value f=>
    obtain ⟨h1,h2,h3⟩:=h
    obtain ⟨m1,m2⟩:=hcall _ _ h3
    exact ⟨⟨h1,h2,m1⟩,m2⟩
  | invoke r m=>exact h.elim
  | builtin b=>
    cases b <;> simp only [] at h ⊢ <;> try exact h.elim
    case len=>
     split at h
     · obtain ⟨h1,h2⟩:=h
       unfold lenA at h2 ⊢
       split at h2
       · first | exact ⟨⟨h1,h2⟩,rfl⟩ | exact ⟨⟨h1,h2⟩,trivial⟩
       · first | exact ⟨⟨h1,h2⟩,rfl⟩ | exact ⟨⟨h1,h2⟩,trivial⟩
       · first | exact ⟨⟨h1,h2⟩,rfl⟩ | exact ⟨⟨h1,h2⟩,trivial⟩
       · split at h2
         · rename_i hH;rw [hs _ _ hH];first | exact ⟨⟨h1,h2⟩,rfl⟩ | exact ⟨⟨h1,h2⟩,trivial⟩
         · exact h2.elim
       · split at h2
         · rename_i hH;rw [hs _ _ hH];first | exact ⟨⟨h1,h2⟩,rfl⟩ | exact ⟨⟨h1,h2⟩,trivial⟩
         · exact h2.elim
       · exact h2.elim
     · exact h.elim
    case min=>first | exact ⟨h,rfl⟩ | exact ⟨h,trivial⟩
    case max=>first | exact ⟨h,rfl⟩ | exact ⟨h,trivial⟩
theorem allC_congr {ρ ρ':Nat->AV} {l:List Operand} (h:∀ x,x∈l->opndV ρ x=opndV ρ' x):allC ρ l=allC ρ' l:=by
 induction l with
 | nil=>rfl
 | cons y r ih=>simp only [allC,oc,h y List.mem_cons_self,ih (fun x hx=>h x (List.mem_cons_of_mem _ hx))]
theorem mapox_congr {ρ ρ':Nat->AV} {l:List Operand} (h:∀ x,x∈l->opndV ρ x=opndV ρ' x):l.map (ox ρ)=l.map (ox ρ'):=
 List.map_congr_left fun x hx=>by simp only [ox,h x hx]
theorem aopP_congr (C:Ctx) {ρ ρ':Nat->AV} (H:AHeap) (op:Op) (h:∀ x,x∈op.operands.toList->opndV ρ x=opndV ρ' x):aopP C ρ H op=aopP C ρ' H op:=by
 have one:∀ {x:Operand},opndV ρ x=opndV ρ' x->oc ρ x=oc ρ' x/\ox ρ x=ox ρ' x:=fun e=>⟨by simp only [oc,e],by simp only [ox,e]⟩
 cases op <;> simp only [Op.operands] at h <;> simp only [aopP]
 case move x=>rw [h x (by simp)]
 case assign x=>rw [h x (by simp)]
 case pick c a b=>
  unfold pickA
  rw [(one (h c (by simp))).1,(one (h c (by simp))).2,(one (h a (by simp))).1,(one (h a (by simp))).2,(one (h b (by simp))).1,(one (h b (by simp))).2]
 case binOp op t x y ty=>rw [(one (h x (by simp))).1,(one (h x (by simp))).2,(one (h y (by simp))).1,(one (h y (by simp))).2]
 case unOp op t x=>rw [(one (h x (by simp))).1,(one (h x (by simp))).2]
 case convert s d x=>rw [(one (h x (by simp))).1,(one (h x (by simp))).2]
 case extract x i=>rw [(one (h x (by simp))).1,(one (h x (by simp))).2]
 case field t x f=>rw [(one (h x (by simp))).1,(one (h x (by simp))).2]
 case fieldAddr t x f=>rw [(one (h x (by simp))).1,(one (h x (by simp))).2]
 case indexAddr t x i=>rw [(one (h x (by simp))).1,(one (h x (by simp))).2,(one (h i (by simp))).1,(one (h i (by simp))).2]
 case index t x i=>rw [(one (h x (by simp))).1,(one (h x (by simp))).2,(one (h i (by simp))).1,(one (h i (by simp))).2]
 case lookup t x i ok=>rw [(one (h x (by simp))).1,(one (h x (by simp))).2,(one (h i (by simp))).1,(one (h i (by simp))).2]
 case load t x=>rw [(one (h x (by simp))).1,(one (h x (by simp))).2]
 case nilCheck x=>rw [(one (h x (by simp))).1,(one (h x (by simp))).2]
 case makeInterface t x=>rw [(one (h x (by simp))).1,(one (h x (by simp))).2]
 case slice t x lo hi mx=>
  have hlo:lo.map (ox ρ)=lo.map (ox ρ'):=by cases lo with | none=>rfl | some y=>simp only [Option.map_some,(one (h y (by simp))).2]
  have hhi:hi.map (ox ρ)=hi.map (ox ρ'):=by cases hi with | none=>rfl | some y=>simp only [Option.map_some,(one (h y (by simp))).2]
  have hmx:mx.map (ox ρ)=mx.map (ox ρ'):=by cases mx with | none=>rfl | some y=>simp only [Option.map_some,(one (h y (by simp))).2]
  rw [(one (h x (by simp))).1,(one (h x (by simp))).2,hlo,hhi,hmx,allC_congr (ρ:=ρ) (ρ':=ρ') (fun y hy=>h y (by simp at hy ⊢;exact .inr hy))]
 case makeFunc fn first caps=>
  rw [allC_congr (ρ:=ρ) (ρ':=ρ') (fun y hy=>h y (by simpa using hy)),mapox_congr (ρ:=ρ) (ρ':=ρ') (l:=first.toList) (fun y hy=>h y (by simp at hy ⊢;exact .inl hy)),mapox_congr (ρ:=ρ) (ρ':=ρ') (l:=caps.toList) (fun y hy=>h y (by simp at hy ⊢;exact .inr hy))]
 case build t parts=>
  have hp:(parts.toList.map fun x=>(x.1,ox ρ x.2))=parts.toList.map fun x=>(x.1,ox ρ' x.2):=List.map_congr_left fun x hx=>by rw [(one (h x.2 (List.mem_map.2 ⟨x,hx,rfl⟩))).2]
  rw [hp,allC_congr (ρ:=ρ) (ρ':=ρ') (fun y hy=>h y (by simpa using hy))]
 case buildSlice t len parts=>
  have hp:(parts.toList.map fun x=>(x.1,ox ρ x.2))=parts.toList.map fun x=>(x.1,ox ρ' x.2):=List.map_congr_left fun x hx=>by rw [(one (h x.2 (List.mem_map.2 ⟨x,hx,rfl⟩))).2]
  rw [hp,allC_congr (ρ:=ρ) (ρ':=ρ') (fun y hy=>h y (by simpa using hy))]
 case call c=>
  obtain ⟨callee,args,ts⟩:=c
  cases callee with
  | value f=>
    simp only [Call.operands] at h
    change (oc ρ f/\allC ρ args.toList/\(callP C H (ox ρ f) (args.toList.map (ox ρ))).1,(callP C H (ox ρ f) (args.toList.map (ox ρ))).2)=(oc ρ' f/\allC ρ' args.toList/\(callP C H (ox ρ' f) (args.toList.map (ox ρ'))).1,(callP C H (ox ρ' f) (args.toList.map (ox ρ'))).2)
    rw [(one (h f (by simp))).1,(one (h f (by simp))).2,allC_congr (ρ:=ρ) (ρ':=ρ') (l:=args.toList) (fun y hy=>h y (by simp;right;simpa using hy)),mapox_congr (ρ:=ρ) (ρ':=ρ') (l:=args.toList) (fun y hy=>h y (by simp;right;simpa using hy))]
  | invoke r m=>rfl
  | builtin b=>
    simp only [Call.operands] at h
    have ha:∀ y,y∈args.toList->opndV ρ y=opndV ρ' y:=fun y hy=>h y (by simpa using hy)
    cases b <;> simp only []
    case len=>
     split
     · rename_i x t hx ht
       have:=one (ha x (by rw [hx];simp))
       rw [this.1,this.2]
     · rfl
    case min=>rw [allC_congr ha,mapox_congr ha]
    case max=>rw [allC_congr ha,mapox_congr ha]
end mono
def putS (st:ASt) (d:Option Tmp) (v:AV):ASt:=
 match d with
 | none=>st
 | some d=>{ st with ρ:=upd st.ρ d v }
theorem upd_comm {ρ:Nat->AV} {x y:Nat} (v u:AV) (h:x≠y):upd (upd ρ x v) y u=upd (upd ρ y u) x v:=by
 funext t
 unfold upd
 by_cases h1:t=y
 · subst h1;simp [Ne.symm h]
 · simp [h1]
theorem putD_iff {N:Nat} {st:ASt} {d:Option Tmp} {v:AV} {K:ASt->Prop}:putD N st d v K↔(∀ t,d=some t->t<N)/\K (putS st d v):=by
 cases d with
 | none=>simp [putD,putS]
 | some t=>simp [putD,putS]
theorem putS_comm (st:ASt) {x y:Option Tmp} (v u:AV) (h:∀ t,x=some t->y≠some t):putS (putS st x v) y u=putS (putS st y u) x v:=by
 cases x with
 | none=>rfl
 | some s=>cases y with
   | none=>rfl
   | some t=>simp only [putS];rw [upd_comm v u (fun e=>h s rfl (by rw [e]))]
theorem opnd_upd {ρ:Nat->AV} {d:Nat} {v:AV} {x:Operand} (h:x≠.tmp d):opndV (upd ρ d v) x=opndV ρ x:=by
 cases x with
 | tmp t=>simp only [opndV,upd];rw [if_neg (fun e=>h (by rw [e]))]
 | _=>rfl
theorem looks_tmp {ops:Array Oper} {o:Oper} {d:Nat} (h:d∉o.looksAt ops):∀ x,x∈o.op.operands.toList->x≠.tmp d:=by
 intro x hx he
 subst he
 exact h (List.mem_append_left _ (List.mem_filterMap.2 ⟨.tmp d,hx,rfl⟩))
section
variable {C:Ctx} {ops:Array Oper}
theorem guardC_upd {o:Oper} {ρ:Nat->AV} {d:Nat} {v:AV} (h:d∉o.looksAt ops):guardC ops o (upd ρ d v)=guardC ops o ρ:=by
 unfold guardC
 cases hg:o.guard with
 | none=>rfl
 | some gb=>
   obtain ⟨j,b⟩:=gb
   simp only
   cases hd:(ops[j]?).bind (·.dst) with
   | none=>rfl
   | some g=>
     simp only
     have:g≠d:=fun e=>h (by
      subst e
      refine List.mem_append_right _ ?_
      rw [hg]
      simp [hd])
     have e:upd ρ d v g=ρ g:=by unfold upd;rw [if_neg this]
     rw [e]
theorem qop_upd {o:Oper} {ρ:Nat->AV} {H:AHeap} {d:Nat} {v:AV} (h:d∉o.looksAt ops):qop C (upd ρ d v) H o=qop C ρ H o:=by
 have hx:=looks_tmp h
 have hp:aopP C (upd ρ d v) H o.op=aopP C ρ H o.op:=aopP_congr C H o.op (fun x hm=>opnd_upd (hx x hm))
 unfold qop
 split
 · rename_i f args ts ho
   have hf:opndV (upd ρ d v) f=opndV ρ f:=opnd_upd (hx f (by rw [ho];simp [Op.operands,Call.operands]))
   have ha:∀ y,y∈args.toList->opndV (upd ρ d v) y=opndV ρ y:=fun y hy=>opnd_upd (hx y (by rw [ho];simp [Op.operands,Call.operands];right;simpa using hy))
   have e1:oc (upd ρ d v) f=oc ρ f:=by simp only [oc,hf]
   have e2:ox (upd ρ d v) f=ox ρ f:=by simp only [ox,hf]
   rw [e1,e2,allC_congr ha,mapox_congr ha,hp]
 · rw [hp]
theorem qop_mono {G:Glob} (hC:TabsAll G C) {o:Oper} {ρ:Nat->AV} {H H':AHeap} (hs:Sub H H') (h:(qop C ρ H o).1):(qop C ρ H' o).1/\(qop C ρ H' o).2=(qop C ρ H o).2:=by
 have pure:(aopP C ρ H o.op).1->(aopP C ρ H' o.op).1/\(fun r=>r=(aopP C ρ H' o.op).2)=(fun r=>r=(aopP C ρ H o.op).2):=fun h=>by
  obtain ⟨h1,h2⟩:=aopP_mono C ρ hs o.op h
  exact ⟨h1,by rw [h2]⟩
 unfold qop at h ⊢
 split at h
 · split at h
   · split at h
     · rename_i hθ
       obtain ⟨h1,h2,h3⟩:=h
       obtain ⟨m1,m2⟩:=(hC.quiet _ _ hθ).mono _ H H' hs h3
       exact ⟨⟨h1,h2,m1⟩,m2⟩
     · exact pure h
   · exact pure h
 · exact pure h
theorem qop_inhab {G:Glob} (hC:TabsAll G C) {o:Oper} {ρ:Nat->AV} {H:AHeap} (h:(qop C ρ H o).1):∃ r,(qop C ρ H o).2 r:=by
 unfold qop at h ⊢
 split at h
 · split at h
   · split at h
     · rename_i hθ
       exact (hC.quiet _ _ hθ).inhab _ _ h.2.2
     · exact ⟨_,rfl⟩
   · exact ⟨_,rfl⟩
 · exact ⟨_,rfl⟩
def wrapG (o:Oper) (c:Bool) (r:AV):AV:=
 match o.guard with
 | none=>r
 | some _=>mkW c r
theorem stepG_q {dr:Bool} {H0:AHeap} {o:Oper} {st:ASt} {K:ASt->Prop} (h0:cls C dr o=0):stepG C dr H0 ops o st K↔
 ∃ c,guardC ops o st.ρ=some c/\(c=true->(qop C st.ρ st.H o).1)/\∀ r,(c=true->(qop C st.ρ st.H o).2 r)->(c=false->r=(aopP C st.ρ (bif dr then H0 else st.H) o.op).2)->(∀ t,o.dst=some t->t<C.N)/\K (putS st o.dst (wrapG o c r)):=by
 unfold stepG
 cases hg:guardC ops o st.ρ with
 | none=>simp
 | some c=>
   simp only [h0,if_true,Option.some.injEq,exists_eq_left']
   unfold stepQ wrapG
   cases hgd:o.guard with
   | none=>
     have:c=true:=by unfold guardC at hg;rw [hgd] at hg;simpa using hg.symm
     subst this
     simp only [true_implies,putD_iff,Bool.true_eq_false,false_implies]
   | some gb=>simp only [putD_iff]
def allocV (C:Ctx) (ρ:Nat->AV) (o:Oper):Prop × List AV:=
 match o.op with
 | .alloc t=>match zeroT C.P t with
   | some z=>((cellsA (ofV z)).all AV.one=true,cellsA (ofV z))
   | none=>(False,[])
 | .box _ x=>(oc ρ x/\(cellsA (ox ρ x)).all AV.one=true,cellsA (ox ρ x))
 | _=>(False,[])
theorem allocV_upd {o:Oper} {ρ:Nat->AV} {d:Nat} {v:AV} (h:d∉o.looksAt ops):allocV C (upd ρ d v) o=allocV C ρ o:=by
 have hx:=looks_tmp h
 unfold allocV
 split
 · rfl
 · rename_i t x ho
   have hf:opndV (upd ρ d v) x=opndV ρ x:=opnd_upd (hx x (by rw [ho];simp [Op.operands]))
   simp only [oc,ox,hf]
 · rfl
def allocS (st:ASt) (d:Nat) (cs:List AV):ASt:={ ρ:=upd st.ρ d (.ptr d 0),H:=hset st.H d (.cells cs) }
theorem stepG_a {dr:Bool} {H0:AHeap} {o:Oper} {st:ASt} {K:ASt->Prop} (h1:cls C dr o=1):stepG C dr H0 ops o st K↔
 ∃ d,o.dst=some d/\(allocV C st.ρ o).1/\hget st.H d=none/\d<C.N/\K (allocS st d (allocV C st.ρ o).2):=by
 have hg:o.guard=none:=by
  unfold cls at h1
  split at h1 <;> first
   | (cases h1;done)
   | (split at h1 <;> first | assumption | (cases h1;done) | (split at h1 <;> cases h1))
 have hgc:guardC ops o st.ρ=some true:=by unfold guardC;rw [hg]
 have hne:¬ cls C dr o=0:=by rw [h1];decide
 unfold stepG
 rw [hgc]
 simp only [hne,if_false,hg]
 have nb:∀ cs:List AV,newB C.N st o.dst (.cells cs) (fun d=>.ptr d 0) K↔∃ d,o.dst=some d/\hget st.H d=none/\d<C.N/\K (allocS st d cs):=by
  intro cs
  cases hd:o.dst with
  | none=>simp [newB]
  | some d=>simp [newB,allocS]
 cases hop:o.op
 case alloc t=>
  simp only [effA,aopE,allocV,hop]
  cases hz:zeroT C.P t with
  | none=>simp
  | some z=>
    simp only [nb]
    constructor
    · rintro ⟨ha,d,hb,hc⟩;exact ⟨d,hb,ha,hc⟩
    · rintro ⟨d,hb,ha,hc⟩;exact ⟨ha,d,hb,hc⟩
 case box t x=>
  simp only [effA,aopE,allocV,hop,nb]
  constructor
  · rintro ⟨ha,hb,d,hc,hd⟩;exact ⟨d,hc,⟨ha,hb⟩,hd⟩
  · rintro ⟨d,hc,⟨ha,hb⟩,hd⟩;exact ⟨ha,hb,d,hc,hd⟩
 all_goals
  exfalso
  unfold cls at h1
  rw [hop] at h1
  simp only at h1
  first
   | omega
   | (split at h1 <;> first | omega | contradiction | (split at h1 <;> first | omega | contradiction | (split at h1 <;> first | omega | contradiction)))
def noHop:Op->Bool
 | .move _ | .assign _ | .pick _ _ _ | .binOp _ _ _ _ _ | .unOp _ _ _ | .extract _ _ | .field _ _ _ | .fieldAddr _ _ _ | .index _ _ _ | .nilCheck _ | .slice _ _ _ _ _ | .makeInterface _ _ | .build _ _=>true
 | .makeFunc _ first _=>first.toList.isEmpty
 | _=>false
theorem qop_noH {o:Oper} {ρ:Nat->AV} {H H':AHeap} (h:noHop o.op=true):qop C ρ H o=qop C ρ H' o:=by
 unfold qop
 cases ho:o.op <;> rw [ho] at h <;> simp only [noHop] at h <;> first | (cases h;done) | rfl | skip
 rename_i fn first caps
 have e:first.toList=[]:=List.isEmpty_iff.1 h
 simp only [aopP,e,List.map_nil]
 cases fn <;> rfl
def storeF (C:Ctx) (H:AHeap) (t:TypeId) (x v:AV):Prop × AHeap:=
 match x,szOf C.P t with
 | .ptr key off,some n=>match hget H key with
   | some (.cells cs)=>((cellsA v).length=n/\off+n<=cs.length/\(cellsA v).all AV.one=true,hset H key (.cells (putL off (cellsA v) cs)))
   | _=>(False,H)
 | .rp key i off,some n=>match hget H key with
   | some (.row k es)=>(v.free=true/\frzOk H 4 v/\(frz H 4 v).cells.length=n/\off+n<=k/\i<es.length/\(frz H 4 v).cells.all PV.one=true,hset H key (.row k (es.set i (boxP (putP off (frz H 4 v).cells (PV.nth es i).cells)))))
   | _=>(False,H)
 | _,_=>(False,H)
theorem storeA_iff {st:ASt} {t:TypeId} {x v:AV} {K:ASt->Prop}:storeA C st t x v K↔(storeF C st.H t x v).1/\K { st with H:=(storeF C st.H t x v).2 }:=by
 unfold storeA storeF
 cases szOf C.P t with
 | none=>cases x <;> simp
 | some n=>
   cases x with
   | ptr key off=>
     simp only
     cases hget st.H key with
     | none=>simp
     | some B=>cases B <;> simp [and_assoc]
   | rp key i off=>
     simp only
     cases hget st.H key with
     | none=>simp
     | some B=>cases B <;> simp [and_assoc]
   | _=>simp
def isStore (o:Oper):Bool:=
 match o.op,o.guard with
 | .store _ _ _,none=>true
 | _,_=>false
def stF (C:Ctx) (ρ:Nat->AV) (H:AHeap) (o:Oper):Prop × AHeap:=
 match o.op with
 | .store t x v=>(oc ρ x/\oc ρ v/\(storeF C H t (ox ρ x) (ox ρ v)).1,(storeF C H t (ox ρ x) (ox ρ v)).2)
 | _=>(False,H)
theorem stepG_s {dr:Bool} {H0:AHeap} {o:Oper} {st:ASt} {K:ASt->Prop} (h:isStore o=true):stepG C dr H0 ops o st K↔o.dst=none/\(stF C st.ρ st.H o).1/\K { st with H:=(stF C st.ρ st.H o).2 }:=by
 unfold isStore at h
 split at h
 · rename_i t x v ho hg
   have hgc:guardC ops o st.ρ=some true:=by unfold guardC;rw [hg]
   have hc:cls C dr o=2:=by unfold cls;rw [ho]
   unfold stepG
   rw [hgc]
   simp only [hc,hg,effA,aopE,ho,storeA_iff,stF]
   constructor
   · rintro h;simp at h;obtain ⟨h1,h2,h3,h4,h5⟩:=h;exact ⟨h3,⟨h1,h2,h4⟩,h5⟩
   · rintro ⟨h3,⟨h1,h2,h4⟩,h5⟩;simp;exact ⟨h1,h2,h3,h4,h5⟩
 · cases h
theorem stF_upd {o:Oper} {ρ:Nat->AV} {H:AHeap} {d:Nat} {v:AV} (h:d∉o.looksAt ops):stF C (upd ρ d v) H o=stF C ρ H o:=by
 have hx:=looks_tmp h
 unfold stF
 split
 · rename_i t x u ho
   have hf:opndV (upd ρ d v) x=opndV ρ x:=opnd_upd (hx x (by rw [ho];simp [Op.operands]))
   have hu:opndV (upd ρ d v) u=opndV ρ u:=opnd_upd (hx u (by rw [ho];simp [Op.operands]))
   simp only [oc,ox,hf,hu]
 · rfl
def pairOk (C:Ctx) (ops:Array Oper) (x y:Oper):Bool:=
 x.apart ops y&&((cls C true x == 0&&cls C true y == 0)||(cls C true x == 0&&cls C true y == 1)||(cls C true x == 1&&cls C true y == 0&&noHop y.op)||(cls C true x == 0&&noHop x.op&&isStore y))
theorem sub_hset {H:AHeap} {d:Nat} {B:ABlk} (h:hget H d=none):Sub H (hset H d B):=by
 intro key B' hk
 rw [hget_hset_ne]
 · exact hk
 · intro e;subst e;rw [h] at hk;cases hk
def Swap (C:Ctx) (H0:AHeap) (ops:Array Oper) (x y:Oper):Prop:=
 ∀ st K,stepG C true H0 ops x st (fun st'=>stepG C true H0 ops y st' K)->stepG C true H0 ops y st (fun st'=>stepG C true H0 ops x st' K)
theorem putS_same (st:ASt) (d:Option Tmp) (v:AV):(putS st d v).H=st.H:=by cases d <;> rfl
theorem guardC_put {o:Oper} {st:ASt} {d:Option Tmp} {v:AV} (h:∀ t,d=some t->t∉o.looksAt ops):guardC ops o (putS st d v).ρ=guardC ops o st.ρ:=by
 cases d with
 | none=>rfl
 | some t=>exact guardC_upd (h t rfl)
theorem qop_put {o:Oper} {st:ASt} {H:AHeap} {d:Option Tmp} {v:AV} (h:∀ t,d=some t->t∉o.looksAt ops):qop C (putS st d v).ρ H o=qop C st.ρ H o:=by
 cases d with
 | none=>rfl
 | some t=>exact qop_upd (h t rfl)
theorem aopP_put {o:Oper} {st:ASt} {H:AHeap} {d:Option Tmp} {v:AV} (h:∀ t,d=some t->t∉o.looksAt ops):aopP C (putS st d v).ρ H o.op=aopP C st.ρ H o.op:=by
 cases d with
 | none=>rfl
 | some t=>exact aopP_congr C H o.op (fun x hm=>opnd_upd (looks_tmp (h t rfl) x hm))
theorem allocV_put {o:Oper} {st:ASt} {d:Option Tmp} {v:AV} (h:∀ t,d=some t->t∉o.looksAt ops):allocV C (putS st d v).ρ o=allocV C st.ρ o:=by
 cases d with
 | none=>rfl
 | some t=>exact allocV_upd (h t rfl)
theorem stF_put {o:Oper} {st:ASt} {H:AHeap} {d:Option Tmp} {v:AV} (h:∀ t,d=some t->t∉o.looksAt ops):stF C (putS st d v).ρ H o=stF C st.ρ H o:=by
 cases d with
 | none=>rfl
 | some t=>exact stF_upd (h t rfl)
theorem putS_H (st:ASt) (d:Option Tmp) (v:AV) (H:AHeap):putS { st with H:=H } d v={ putS st d v with H:=H }:=by cases d <;> rfl
theorem swap_of_pairOk {G:Glob} (hC:TabsAll G C) {H0:AHeap} {x y:Oper} (h:pairOk C ops x y=true):Swap C H0 ops x y:=by
 unfold pairOk at h
 rw [Bool.and_eq_true] at h
 obtain ⟨hap,hcl⟩:=h
 obtain ⟨a1,a2,a3⟩:=Oper.apart_spec hap
 intro st K H
 have some_r:∀ (o:Oper) (ρ:Nat->AV) (H:AHeap) (c:Bool) (z:AV),(c=true->(qop C ρ H o).1)->∃ r,(c=true->(qop C ρ H o).2 r)/\(c=false->r=z):=by
  intro o ρ H c z h
  cases c with
  | true=>obtain ⟨r,hr⟩:=qop_inhab hC (h rfl);exact ⟨r,(fun _=>hr),(fun h=>by cases h)⟩
  | false=>exact ⟨z,(fun h=>by cases h),fun _=>rfl⟩
 simp only [Bool.or_eq_true,Bool.and_eq_true,beq_iff_eq] at hcl
 rcases hcl with ((⟨h1,h2⟩ | ⟨h1,h2⟩) | ⟨⟨h1,h2⟩,h3⟩) | ⟨⟨h1,h2⟩,h3⟩
 · rw [stepG_q h1] at H
   rw [stepG_q h2]
   obtain ⟨ci,g1,g2,g3⟩:=H
   obtain ⟨r0,hr0,hz0⟩:=some_r x st.ρ st.H ci (aopP C st.ρ H0 x.op).2 g2
   obtain ⟨b1,b2⟩:=g3 r0 hr0 hz0
   rw [stepG_q h2,guardC_put a1,qop_put a1,aopP_put a1,putS_same] at b2
   obtain ⟨cj,e1,e2,e3⟩:=b2
   refine ⟨cj,e1,e2,fun rj hrj hzj=>?_⟩
   refine ⟨(e3 rj hrj hzj).1,?_⟩
   rw [stepG_q h1,guardC_put a3,qop_put a3,aopP_put a3,putS_same]
   refine ⟨ci,g1,g2,fun ri hri hzi=>⟨b1,?_⟩⟩
   have:=(g3 ri hri hzi).2
   rw [stepG_q h2,guardC_put a1,qop_put a1,aopP_put a1,putS_same] at this
   obtain ⟨cj',f1,f2,f3⟩:=this
   rw [e1] at f1
   simp only [Option.some.injEq] at f1
   subst f1
   rw [<- putS_comm st _ _ a2]
   exact (f3 rj hrj hzj).2
 · rw [stepG_q h1] at H
   rw [stepG_a h2]
   obtain ⟨ci,g1,g2,g3⟩:=H
   obtain ⟨r0,hr0,hz0⟩:=some_r x st.ρ st.H ci (aopP C st.ρ H0 x.op).2 g2
   obtain ⟨b1,b2⟩:=g3 r0 hr0 hz0
   rw [stepG_a h2,allocV_put a1,putS_same] at b2
   obtain ⟨d,e1,e2,e3,e4,e5⟩:=b2
   refine ⟨d,e1,e2,e3,e4,?_⟩
   have hd:d∉x.looksAt ops:=a3 d e1
   rw [stepG_q h1]
   have hsub:Sub st.H (allocS st d (allocV C st.ρ y).2).H:=sub_hset e3
   have hq:qop C (allocS st d (allocV C st.ρ y).2).ρ (allocS st d (allocV C st.ρ y).2).H x=qop C st.ρ (allocS st d (allocV C st.ρ y).2).H x:=qop_upd hd
   have hp:aopP C (allocS st d (allocV C st.ρ y).2).ρ H0 x.op=aopP C st.ρ H0 x.op:=aopP_congr C H0 x.op (fun z hm=>opnd_upd (looks_tmp hd z hm))
   refine ⟨ci,by rw [<- g1];exact guardC_upd hd,fun hc=>by rw [hq];exact (qop_mono hC hsub (g2 hc)).1,fun ri hri hzi=>⟨b1,?_⟩⟩
   have hri':ci=true->(qop C st.ρ st.H x).2 ri:=fun hc=>by
    have:=hri hc
    rw [hq,(qop_mono hC hsub (g2 hc)).2] at this
    exact this
   have:=(g3 ri hri' (fun hc=>by rw [hzi hc];simp only [cond_true,hp])).2
   rw [stepG_a h2,allocV_put a1,putS_same] at this
   obtain ⟨d',f1,f2,f3,f4,f5⟩:=this
   rw [e1] at f1
   simp only [Option.some.injEq] at f1
   subst f1
   have:putS (allocS st d (allocV C st.ρ y).2) x.dst (wrapG x ci ri)=allocS (putS st x.dst (wrapG x ci ri)) d (allocV C st.ρ y).2:=by
    cases hxd:x.dst with
    | none=>rfl
    | some t=>
      have:t≠d:=fun e=>a2 t hxd (by rw [e1,e])
      simp only [putS,allocS]
      rw [upd_comm _ _ this]
   rw [this]
   exact f5
 · rw [stepG_a h1] at H
   rw [stepG_q h2]
   obtain ⟨d,e1,e2,e3,e4,e5⟩:=H
   have hd:d∉y.looksAt ops:=a1 d e1
   rw [stepG_q h2] at e5
   obtain ⟨c,g1,g2,g3⟩:=e5
   have hq:qop C (allocS st d (allocV C st.ρ x).2).ρ (allocS st d (allocV C st.ρ x).2).H y=qop C st.ρ st.H y:=by
    rw [qop_noH h3 (H':=st.H)];exact qop_upd hd
   have hp:aopP C (allocS st d (allocV C st.ρ x).2).ρ H0 y.op=aopP C st.ρ H0 y.op:=aopP_congr C H0 y.op (fun z hm=>opnd_upd (looks_tmp hd z hm))
   rw [hq] at g2
   refine ⟨c,by rw [<- g1];exact (guardC_upd hd).symm,g2,fun r hr hz=>?_⟩
   obtain ⟨k1,k2⟩:=g3 r (by rw [hq];exact hr) (fun hc=>by rw [hz hc];simp only [cond_true,hp])
   refine ⟨k1,?_⟩
   rw [stepG_a h1,allocV_put a3,putS_same]
   refine ⟨d,e1,e2,e3,e4,?_⟩
   have:putS (allocS st d (allocV C st.ρ x).2) y.dst (wrapG y c r)=allocS (putS st y.dst (wrapG y c r)) d (allocV C st.ρ x).2:=by
    cases hyd:y.dst with
    | none=>rfl
    | some t=>
      have:t≠d:=fun e=>a2 d e1 (by rw [hyd,e])
      simp only [putS,allocS]
      rw [upd_comm _ _ this]
   rw [<- this]
   exact k2
 · rw [stepG_q h1] at H
   rw [stepG_s h3]
   obtain ⟨ci,g1,g2,g3⟩:=H
   obtain ⟨r0,hr0,hz0⟩:=some_r x st.ρ st.H ci (aopP C st.ρ H0 x.op).2 g2
   obtain ⟨b1,b2⟩:=g3 r0 hr0 hz0
   rw [stepG_s h3,stF_put a1,putS_same] at b2
   obtain ⟨e1,e2,e3⟩:=b2
   refine ⟨e1,e2,?_⟩
   rw [stepG_q h1]
   have hq:qop C st.ρ (stF C st.ρ st.H y).2 x=qop C st.ρ st.H x:=qop_noH h2
   refine ⟨ci,g1,fun hc=>by rw [hq];exact g2 hc,fun ri hri hzi=>⟨b1,?_⟩⟩
   have:=(g3 ri (fun hc=>by have h9:=hri hc;rw [hq] at h9;exact h9) hzi).2
   rw [stepG_s h3,stF_put a1,putS_same] at this
   rw [putS_H]
   exact this.2.2
end
end Go.AM
