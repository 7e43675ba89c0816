/-
  A part of a proof.
-/
import Derived.Test.YtkajgkbhkkgdbaaGreatDoorAK
set_option linter.unusedSimpArgs false
set_option linter.unusedVariables false
namespace Go.AM
open Go Go.MapKept
theorem Ext.keeps {w w':World} (h:Ext NoB w w') (M:Nat->Prop):Keeps w M w' M:=fun b hb hm=>⟨h.block b hb id,hm⟩
theorem Ext.weaken {M M':Nat->Prop} {w w':World} (h:Ext M w w') (hm:∀ b,M b->M' b):Ext M' w w':=
 .of h.os h.tape h.output h.size (fun b hb hn=>h.block b hb (fun x=>hn (hm b x)))
theorem Ext.of_nob {M:Nat->Prop} {w w':World} (h:Ext NoB w w'):Ext M w w':=h.weaken (fun _ h=>h.elim)
section
variable {G:Glob} {E:Base} {S:(List PV->Prop × PV)->Value->Prop} {N:Nat} {st:ASt} {a:Array Value} {w w':World} {L:Locs}
theorem Rel.mut_lt (h:Rel G E S N st a w L) {b:Nat} (hb:Mut E L st.H b):b<w.heap.size:=by
 rcases hb with hb | ⟨key,B,cap,h1,h2⟩
 · exact Nat.lt_of_lt_of_le (h.old b hb).1 h.ext.size
 · have:=h.blk key B h1
   cases B with
   | cells cs=>
     obtain ⟨b2,cap2,arr,et,e1,e2,_⟩:=this
     rw [h2] at e1
     simp only [Option.some.injEq,Prod.mk.injEq] at e1
     obtain ⟨rfl,rfl⟩:=e1
     exact (Array.getElem?_eq_some_iff.1 e2).1
   | typed ty cs=>
     obtain ⟨b2,cap2,arr,e1,e2,_⟩:=this
     rw [h2] at e1
     simp only [Option.some.injEq,Prod.mk.injEq] at e1
     obtain ⟨rfl,rfl⟩:=e1
     exact (Array.getElem?_eq_some_iff.1 e2).1
   | row k es=>
     simp only [BRel,h2] at this
     obtain ⟨_,_,arr,et,e1,_⟩:=this
     exact (Array.getElem?_eq_some_iff.1 e1).1
   | obj J=>
     obtain ⟨cs,b2,cap2,arr,et,_,_,e1,e2,_⟩:=this
     rw [h2] at e1
     simp only [Option.some.injEq,Prod.mk.injEq] at e1
     obtain ⟨rfl,rfl⟩:=e1
     exact (Array.getElem?_eq_some_iff.1 e2).1
   | buf e bs=>
     simp only [BRel,h2] at this
     obtain ⟨arr,e1,_⟩:=this
     exact (Array.getElem?_eq_some_iff.1 e1).1
   | iter s pos=>
     obtain ⟨b2,cap2,e1,e2⟩:=this
     rw [h2] at e1
     simp only [Option.some.injEq,Prod.mk.injEq] at e1
     obtain ⟨rfl,rfl⟩:=e1
     exact (Array.getElem?_eq_some_iff.1 e2).1
   | map es=>
     obtain ⟨b2,cap2,ents,clock,e1,e2,_⟩:=this
     rw [h2] at e1
     simp only [Option.some.injEq,Prod.mk.injEq] at e1
     obtain ⟨rfl,rfl⟩:=e1
     exact (Array.getElem?_eq_some_iff.1 e2).1
theorem BRel.keepExt {M:Nat->Prop} {H:AHeap} (he:Ext NoB w w') {key:Nat} {B:ABlk} (h:BRel w M L H S key B):BRel w' M L H S key B:=by
 have hk:=he.keeps M
 have hc:∀ key B,hget H key=some B->∃ B',hget H key=some B'/\B.le B'/\L key=L key/\(L key=none->B=B'):=
  fun key B hb=>⟨B,hb,by cases B <;> simp [ABlk.le],rfl,fun _=>rfl⟩
 cases B with
 | cells cs=>
   obtain ⟨b,cap,arr,et,h1,h2,h3,h4⟩:=h
   exact ⟨b,cap,arr,et,h1,by rw [he.block b (Array.getElem?_eq_some_iff.1 h2).1 id];exact h2,h3,fun j c hj=>(h4 j c hj).keep hk (fun _ _ h=>h) hc⟩
 | typed ty cs=>
   obtain ⟨b,cap,arr,h1,h2,h3,h4⟩:=h
   exact ⟨b,cap,arr,h1,by rw [he.block b (Array.getElem?_eq_some_iff.1 h2).1 id];exact h2,h3,fun j c hj=>(h4 j c hj).keep hk (fun _ _ h=>h) hc⟩
 | row k es=>
   unfold BRel at h ⊢
   obtain ⟨h1,h2,h3⟩:=h
   refine ⟨h1,h2,?_⟩
   split at h3
   · exact h3
   · obtain ⟨arr,et,e1,e2,e3,e4,e5⟩:=h3
     exact ⟨arr,et,by rw [he.block _ (Array.getElem?_eq_some_iff.1 e1).1 id];exact e1,e2,e3,e4,fun i e j c hi hj=>⟨(e5 i e j c hi hj).1,(e5 i e j c hi hj).2.keep hk⟩⟩
 | obj J=>
   obtain ⟨cs,b,cap,arr,et,h0,h0',h1,h2,h3,h4⟩:=h
   exact ⟨cs,b,cap,arr,et,h0,h0',h1,by rw [he.block b (Array.getElem?_eq_some_iff.1 h2).1 id];exact h2,h3,fun j c hj=>(h4 j c hj).keep hk⟩
 | buf e bs=>
   cases hl:L key with
   | none=>simp only [BRel,hl] at h ⊢;exact h
   | some bc=>
     obtain ⟨b,cap⟩:=bc
     simp only [BRel,hl] at h ⊢
     obtain ⟨arr,e1,e2⟩:=h
     exact ⟨arr,by rw [he.block _ (Array.getElem?_eq_some_iff.1 e1).1 id];exact e1,e2⟩
 | iter s pos=>
   obtain ⟨b,cap,h1,h2⟩:=h
   exact ⟨b,cap,h1,by rw [he.block b (Array.getElem?_eq_some_iff.1 h2).1 id];exact h2⟩
 | map es=>
   obtain ⟨b,cap,ents,clock,h1,h2,h3,h4⟩:=h
   exact ⟨b,cap,ents,clock,h1,by rw [he.block b (Array.getElem?_eq_some_iff.1 h2).1 id];exact h2,h3,fun i p hp=>by
    obtain ⟨e,g1,g2,g3,g4,g5⟩:=h4 i p hp
    exact ⟨e,g1,g2,g3,g4.keep hk,g5.keep hk⟩⟩
theorem AVRel.keepExt {M:Nat->Prop} {H:AHeap} (he:Ext NoB w w') {v:AV} {x:Value} (h:AVRel w M L H S v x):AVRel w' M L H S v x:=
 h.keep (he.keeps M) (fun _ _ h=>h) (fun key B hb=>⟨B,hb,by cases B <;> simp [ABlk.le],rfl,fun _=>rfl⟩)
theorem Rel.grow (h:Rel G E S N st a w L) (he:Ext NoB w w'):Rel G E S N st a w' L where
 size:=h.size
 ext:=h.ext.trans he.of_nob
 inv:=G.stable w w' h.inv (fun b hb=>he.block b (Nat.lt_of_lt_of_le hb (Nat.le_trans h.glob h.ext.size)) id) he.size
 glob:=h.glob
 old:=h.old
 m0:=h.m0
 own:=h.own
 inj:=h.inj
 blk:=fun key B hb=>(h.blk key B hb).keepExt he
 env:=fun s=>(h.env s).keepExt he
 fix:=h.fix
theorem getD_set (a:Array Value) (d s:Nat) (x:Value) (hd:d<a.size):(a.setIfInBounds d x).getD s undef=if s=d then x else a.getD s undef:=by
 simp only [Array.getD_eq_getD_getElem?,Array.getElem?_setIfInBounds]
 split
 · rename_i e;subst e;simp []
 · rename_i e;rw [if_neg (Ne.symm e)]
theorem Rel.put (h:Rel G E S N st a w L) {d:Nat} {v:AV} {x:Value} (hd:d<N) (hv:AVRel w (Mut E L st.H) L st.H S v x):
 Rel G E S N { st with ρ:=upd st.ρ d v } (a.setIfInBounds d x) w L where
 size:=by simp [h.size]
 ext:=h.ext
 inv:=h.inv
 glob:=h.glob
 old:=h.old
 m0:=h.m0
 own:=h.own
 inj:=h.inj
 blk:=h.blk
 env:=fun s=>by
  rw [getD_set a d s x (by rw [h.size];exact hd)]
  simp only [upd]
  split
  · exact hv
  · exact h.env s
 fix:=h.fix
end
theorem map_toArr {α β:Type} (f:α->β) (xs:Array α):xs.map f=(xs.toList.map f).toArray:=by
 apply Array.ext';simp
def TabSound (G:Glob) (Φ:FuncId->PSpec):Prop:=∀ f,PSound G f (Φ f)
section
variable {G:Glob} {E:Base} {N:Nat} {st:ASt} {a:Act} {w:World} {L:Locs} {C:Ctx}
theorem run_callFunc {P:Program} {f:FuncId} {args:Array Value} {w:World} (h:Enterable P f):(callFunc f args).run P w=.ok (.enter f args) w:=by
 obtain ⟨fn,h1,h2,h3⟩:=h
 unfold callFunc
 simp only [Sem.run_bind,run_program,Result.andThen_ok,h1,h2,h3,Bool.false_eq_true,if_false,Sem.run_pure]
theorem calleeA_inv {w:World} {M:Nat->Prop} {L:Locs} {H:AHeap} {S:(List PV->Prop × PV)->Value->Prop} {c:AV} {x:Value} {f:FuncId} {caps:List AV} (h:calleeA c=some (f,caps)) (hx:AVRel w M L H S c x):
 ∃ vs,x=.func (.func f) #[] vs/\LRel w M L H S caps vs.toList:=by
 unfold calleeA at h
 split at h
 · simp only [Option.some.injEq,Prod.mk.injEq] at h
   obtain ⟨rfl,rfl⟩:=h
   have hp:=pv_inv hx
   cases hp with
   | fn f cs vs hs hr=>
     refine ⟨vs,rfl,LRel.of_idx (by simp [hs]) (fun i v hv=>?_)⟩
     rw [List.getElem?_map] at hv
     obtain ⟨p,hp,rfl⟩:=Option.map_eq_some_iff.1 hv
     have e:vs.toList.getD i undef=vs.getD i undef:=by simp [List.getD_eq_getElem?_getD,Array.getD_eq_getD_getElem?]
     rw [e];exact .pv _ _ (hr i p hp)
 · simp only [Option.some.injEq,Prod.mk.injEq] at h
   obtain ⟨rfl,rfl⟩:=h
   cases hx with
   | clo _ _ vs hs hr=>
     refine ⟨vs,rfl,LRel.of_idx (by simp [hs]) (fun i v hv=>?_)⟩
     have e:vs.toList.getD i undef=vs.getD i undef:=by simp [List.getD_eq_getElem?_getD,Array.getD_eq_getD_getElem?]
     rw [e];exact hr i v hv
 · cases h
theorem LRel.frz {w:World} {M:Nat->Prop} {L:Locs} {H:AHeap} {S:(List PV->Prop × PV)->Value->Prop} (hB:∀ key B,hget H key=some B->BRel w M L H S key B) {l:List AV} {xs:List Value} (h:LRel w M L H S l xs)
 (hk:∀ v,v∈l->frzOk H 4 v):ARel w NoB (l.map (Go.AM.frz H 4)) xs.toArray:=by
 refine ⟨by simp [h.length],fun i p hp=>?_⟩
 rw [List.getElem?_map] at hp
 obtain ⟨v,hv,rfl⟩:=Option.map_eq_some_iff.1 hp
 obtain ⟨x,hx,hr⟩:=h.get i v hv
 rw [getD_toArray,List.getD_eq_getElem?_getD,hx]
 exact frz_rel hB 4 v x (hk v (List.mem_of_getElem? hv)) hr
theorem LRel.frzFree {w:World} {M:Nat->Prop} {L:Locs} {H:AHeap} {S:(List PV->Prop × PV)->Value->Prop} {l:List AV} {xs:List Value} (h:LRel w M L H S l xs)
 (hf:AV.freeL l=true) (hk:∀ v,v∈l->frzOk H 4 v):ARel w M (l.map (Go.AM.frz H 4)) xs.toArray:=by
 refine ⟨by simp [h.length],fun i p hp=>?_⟩
 rw [List.getElem?_map] at hp
 obtain ⟨v,hv,rfl⟩:=Option.map_eq_some_iff.1 hp
 obtain ⟨x,hx,hr⟩:=h.get i v hv
 rw [getD_toArray,List.getD_eq_getElem?_getD,hx]
 exact frz_free 4 v x (freeL_mem hf v (List.mem_of_getElem? hv)) (hk v (List.mem_of_getElem? hv)) hr
theorem makeFuncA_rel {w:World} {M:Nat->Prop} {L:Locs} {H:AHeap} {S:(List PV->Prop × PV)->Value->Prop} {fn:Fn} {f0 caps:List AV} {xs0 xs:List Value} (h:(makeFuncA H fn f0 caps).1) (hr0:LRel w M L H S f0 xs0) (hr:LRel w M L H S caps xs):
 AVRel w M L H S (makeFuncA H fn f0 caps).2 (.func fn xs0.toArray xs.toArray):=by
 unfold makeFuncA at h ⊢
 split at h
 · rename_i f
   cases hr0
   split at h
   · rename_i ps hps
     obtain ⟨h1,h2⟩:=pvL_rel hps hr
     exact .pv _ _ (.fn f ps xs.toArray (by simpa using h1) (fun i c hc=>by rw [getD_toArray];exact h2 i c hc))
   · refine .clo f caps xs.toArray (by simp [hr.length]) (fun i c hc=>?_)
     obtain ⟨x,hx,hr'⟩:=hr.get i c hc
     rw [getD_toArray,List.getD_eq_getElem?_getD,hx]
     exact hr'
 · rename_i f x r
   split at h
   · cases hr
     obtain ⟨h1,h2⟩:=h
     have ha:=hr0.frzFree h1 h2
     exact .pv _ _ (.mv f _ xs0.toArray (by simpa using ha.1) ha.2)
   · exact h.elim
 · exact h.elim
theorem mv_inv {w:World} {M:Nat->Prop} {g:FuncId} {fs:List PV} {x:Value} (h:PVRel w M (.mv g fs) x):∃ vs:Array Value,x=.func (.func g) vs #[]/\vs.size=fs.length/\∀ i c,fs[i]?=some c->PVRel w M c (vs.getD i undef):=by
 cases h with
 | mv _ _ vs hs hr=>exact ⟨vs,rfl,hs,hr⟩
theorem exec_callM {o:Oper} {f:Operand} {args:Array Operand} {ts:Array TypeId} {P:Program} {g:FuncId} {fs:Array Value} (ho:o.op=.call { callee:=.value f,args,argTypes:=ts })
 (hf:a.eval f=.func (.func g) fs #[]) (he:Enterable P g) (w:World):(execOp a.eval o).run P w=.ok (.enter g (fs++args.map a.eval)) w:=by
 unfold execOp
 simp only [ho,resolve,hf,Deferred.ofValue,Sem.run_bind,Sem.run_pure,Result.andThen_ok,invoke,Array.append_empty]
 exact run_callFunc he
theorem exec_call {o:Oper} {f:Operand} {args:Array Operand} {ts:Array TypeId} {P:Program} {g:FuncId} {caps:Array Value} (ho:o.op=.call { callee:=.value f,args,argTypes:=ts })
 (hf:a.eval f=.func (.func g) #[] caps) (he:Enterable P g) (w:World):(execOp a.eval o).run P w=.ok (.enter g (args.map a.eval++caps)) w:=by
 unfold execOp
 simp only [ho,resolve,hf,Deferred.ofValue,Sem.run_bind,Sem.run_pure,Result.andThen_ok,invoke,Array.empty_append]
 exact run_callFunc he
theorem callP_yields (hP:C.P=G.P) (hT:TabSound G C.Φ) (hR:Rel G E (OpqS G E) N st a.tmps w L) {o:Oper} {f:Operand} {args:Array Operand} {ts:Array TypeId}
 (ho:o.op=.call { callee:=.value f,args,argTypes:=ts }) (hc:oc st.ρ f) (ha:allC st.ρ args.toList)
 (h:(callP C st.H (ox st.ρ f) (args.toList.map (ox st.ρ))).1):
 OpYields G.P o a w (fun v w'=>Ext NoB w w'/\AVRel w' (Mut E L st.H) L st.H (OpqS G E) (callP C st.H (ox st.ρ f) (args.toList.map (ox st.ρ))).2 v):=by
 have hfx:=ox_rel hR.env f hc
 have hargs:=LRel.of_ops hR.env args.toList ha
 have hsz:(args.map a.eval)=(args.toList.map a.eval).toArray:=map_toArr _ _
 have hnG:G.nG<=w.heap.size:=Nat.le_trans hR.glob hR.ext.size
 unfold callP at h ⊢
 split at h
 · rename_i φ hφ
   rw [hφ] at hfx
   cases hfx with
   | opq _ x hS=>
     obtain ⟨g,caps,hx,hent,hcall⟩:=hS
     obtain ⟨hk,hpre,hmode⟩:=h
     unfold OpYields
     rw [exec_call ho hx hent w,hsz]
     rcases hmode with hfl | hfr
     · refine (hcall _ w _ NoB hpre hR.ext hR.inv (fun b hb=>hb.elim) (hargs.frz hR.blk hk)).mono ?_
       rintro e w' ⟨v,rfl,hv,hext⟩
       exact ⟨v,rfl,hext,.pv _ _ (hv.of_flat hfl)⟩
     · refine (hcall _ w _ (Mut E L st.H) hpre hR.ext hR.inv (fun b hb=>⟨?_,hR.mut_lt hb⟩) (hargs.frzFree hfr hk)).mono ?_
       · rcases hb with hb | ⟨key,B,cap,h1,h2⟩
         · exact .inl hb
         · exact .inr (hR.own key B b cap h1 h2).2.2
       · rintro e w' ⟨v,rfl,hv,hext⟩
         exact ⟨v,rfl,hext,.pv _ _ hv⟩
 · rename_i g fs hφ
   rw [hφ] at hfx
   obtain ⟨vs,hx,hs,hr⟩:=mv_inv (pv_inv hfx)
   have hcaps:LRel w (Mut E L st.H) L st.H (OpqS G E) (fs.map AV.pv) vs.toList:=LRel.of_idx (by simp [hs]) (fun i v hv=>by
    rw [List.getElem?_map] at hv
    obtain ⟨p,hp,rfl⟩:=Option.map_eq_some_iff.1 hv
    have e:vs.toList.getD i undef=vs.getD i undef:=by simp [List.getD_eq_getElem?_getD,Array.getD_eq_getD_getElem?]
    rw [e];exact .pv _ _ (hr i p hp))
   obtain ⟨hk,hpre,hmode⟩:=h
   have hall:=hcaps.append hargs
   obtain ⟨hent,hcall⟩:=hT g _ hpre
   unfold OpYields
   have e1:vs++(args.toList.map a.eval).toArray=(vs.toList++args.toList.map a.eval).toArray:=by simp
   rw [exec_callM ho hx hent w,hsz,e1]
   rcases hmode with hfl | hfr
   · refine (hcall NoB w _ hR.inv hnG (fun b hb=>hb.elim) (hall.frz hR.blk hk)).mono ?_
     rintro e w' ⟨v,rfl,hv,hext⟩
     exact ⟨v,rfl,hext,.pv _ _ (hv.of_flat hfl)⟩
   · refine (hcall (Mut E L st.H) w _ hR.inv hnG (fun b hb=>hR.mut_lt hb) (hall.frzFree hfr hk)).mono ?_
     rintro e w' ⟨v,rfl,hv,hext⟩
     exact ⟨v,rfl,hext,.pv _ _ hv⟩
 · split at h
   · rename_i g caps hcal
     obtain ⟨vs,hx,hcaps⟩:=calleeA_inv hcal hfx
     obtain ⟨hk,hpre,hmode⟩:=h
     have hall:=hargs.append hcaps
     obtain ⟨hent,hcall⟩:=hT g _ hpre
     unfold OpYields
     have e1:(args.toList.map a.eval).toArray++vs=(args.toList.map a.eval++vs.toList).toArray:=by simp
     rw [exec_call ho hx hent w,hsz,e1]
     rcases hmode with hfl | hfr
     · refine (hcall NoB w _ hR.inv hnG (fun b hb=>hb.elim) (hall.frz hR.blk hk)).mono ?_
       rintro e w' ⟨v,rfl,hv,hext⟩
       exact ⟨v,rfl,hext,.pv _ _ (hv.of_flat hfl)⟩
     · refine (hcall (Mut E L st.H) w _ hR.inv hnG (fun b hb=>hR.mut_lt hb) (hall.frzFree hfr hk)).mono ?_
       rintro e w' ⟨v,rfl,hv,hext⟩
       exact ⟨v,rfl,hext,.pv _ _ hv⟩
   · exact h.elim
theorem ORel.of_op {w:World} {M:Nat->Prop} {L:Locs} {H:AHeap} {S:(List PV->Prop × PV)->Value->Prop} {ρ:Nat->AV} {a:Act} (he:∀ s,AVRel w M L H S (ρ s) (a.tmps.getD s undef)) (o:Option Operand)
 (h:∀ x,x∈o.toList->oc ρ x):ORel w M L H S (o.map (ox ρ)) (o.map a.eval):=by
 cases o with
 | none=>exact .none
 | some x=>exact .some _ _ (ox_rel he x (h x (by simp)))
theorem allC_mem {ρ:Nat->AV}:∀ {l:List Operand},allC ρ l->∀ x,x∈l->oc ρ x
 | [],_,x,hx=>by simp at hx
 | y::r,h,x,hx=>by
   rcases List.mem_cons.1 hx with rfl | hx
   · exact h.1
   · exact allC_mem h.2 x hx
theorem elemOk_mem {H:AHeap} {k:Nat}:∀ {l:List AV},elemOk H k l->AV.freeL l=true/\∀ v,v∈l->frzOk H 4 v/\(frz H 4 v).width=k/\(frz H 4 v).cells.all PV.one=true
 | [],_=>⟨rfl,fun v hv=>by simp at hv⟩
 | u::r,h=>by
   obtain ⟨h1,h2⟩:=elemOk_mem h.2
   refine ⟨by simp [AV.freeL,h.1.1,h1],fun v hv=>?_⟩
   rcases List.mem_cons.1 hv with rfl | hv
   · exact h.1.2
   · exact h2 v hv
theorem cells_of_rel {w:World} {M:Nat->Prop} {p:PV} {x:Value} {k:Nat} (h:PVRel w M p x) (hw:p.width=k) (ho:p.cells.all PV.one=true):x.cells.size=k/\∀ (j:Nat) c,p.cells[j]?=some c->PVRel w M c (x.cells.getD j undef):=by
 cases h <;> first
  | (rename_i cs vs h1 h2 h3;exact ⟨by simpa [Value.cells,PV.width,PV.cells,h1] using hw,fun j c hc=>by simpa [Value.cells] using h3 j c (by simpa [PV.cells] using hc)⟩)
  | (simp only [PV.width,PV.cells,List.length_singleton] at hw;subst hw
     refine ⟨rfl,fun j c hc=>?_⟩
     simp only [PV.cells] at hc
     cases j with
     | zero=>simp at hc;subst hc;simp only [Value.cells];first | exact PVRel.bool _ | exact PVRel.int _ _ | exact PVRel.str _ | exact PVRel.nilI | exact PVRel.nilP | (constructor <;> assumption)
     | succ j=>simp at hc)
theorem buildSlice_yields (hR:Rel G E (OpqS G E) N st a.tmps w L) {o:Oper} {t:TypeId} {len:Nat} {parts:Array (Nat × Operand)} (ho:o.op=.buildSlice t len parts)
 (ha:allC st.ρ (parts.toList.map (·.2))) (h:(buildSliceA G.P st.H t len (parts.toList.map fun x=>(x.1,ox st.ρ x.2))).1):
 OpYields G.P o a w (fun v w'=>Ext NoB w w'/\AVRel w' (Mut E L st.H) L st.H (OpqS G E) (buildSliceA G.P st.H t len (parts.toList.map fun x=>(x.1,ox st.ρ x.2))).2 v):=by
 unfold buildSliceA at h ⊢
 split at h
 · rename_i e ht
   split at h
   · rename_i k z hk hz
     obtain ⟨h1,h2,h3,h4,h5⟩:=h
     have hl:=LRel.of_ops hR.env _ ha
     have em:((parts.toList.map fun x=>(x.1,ox st.ρ x.2)).map (·.2))=(parts.toList.map (·.2)).map (ox st.ρ):=by simp [Function.comp_def]
     rw [em] at h5 ⊢
     obtain ⟨hfree,hmem⟩:=elemOk_mem h5
     have hrel:=hl.frzFree hfree (fun v hv=>(hmem v hv).1)
     have ei:(parts.toList.map fun x=>(x.1,a.eval x.2)).map (·.1)=(parts.toList.map fun x=>(x.1,ox st.ρ x.2)).map (·.1):=by simp [Function.comp_def]
     have hlenp:parts.toList.length=len:=by simpa using h2
     have hat:∀ (i:Nat) (p:PV),(((parts.toList.map (·.2)).map (ox st.ρ)).map (frz st.H 4))[i]?=some p->∃ x,(parts.toList.map fun x=>(x.1,a.eval x.2))[i]?=some x/\PVRel w (Mut E L st.H) p x.2/\p.width=k/\p.cells.all PV.one=true:=by
      intro i p hp
      have hpr:=hrel.2 i p hp
      have hi:i<parts.toList.length:=by have:=(List.getElem?_eq_some_iff.1 hp).1;simpa using this
      refine ⟨(parts.toList[i].1,a.eval parts.toList[i].2),by rw [List.getElem?_map,List.getElem?_eq_getElem hi];rfl,?_,?_⟩
      · rw [getD_toArray,List.getD_eq_getElem?_getD,List.getElem?_map,List.getElem?_map,List.getElem?_eq_getElem hi] at hpr;exact hpr
      · rw [List.getElem?_map] at hp
        obtain ⟨v,hv,rfl⟩:=Option.map_eq_some_iff.1 hp
        exact (hmem v (List.mem_of_getElem? hv)).2
     have hsz:∀ p,p∈(parts.toList.map fun x=>(x.1,a.eval x.2))->p.2.cells.size=k:=by
      intro p hp
      obtain ⟨i,hi⟩:=List.mem_iff_getElem?.1 hp
      have hil:i<parts.toList.length:=by have:=(List.getElem?_eq_some_iff.1 hi).1;simpa using this
      have hpp:(((parts.toList.map (·.2)).map (ox st.ρ)).map (frz st.H 4))[i]?=some ((((parts.toList.map (·.2)).map (ox st.ρ)).map (frz st.H 4))[i]'(by simpa using hil)):=List.getElem?_eq_getElem _
      obtain ⟨x,hx,hr,hw,ho⟩:=hat i _ hpp
      rw [hi] at hx
      simp only [Option.some.injEq] at hx
      subst hx
      exact (cells_of_rel hr hw ho).1
     obtain ⟨arr,f1,f2,f3,f4⟩:=fill_dense (k:=k) (parts.toList.map fun x=>(x.1,a.eval x.2)) 0 ((Array.range (len * k)).map ((if len * k=0 then #[] else z.cells)[· % (if len * k=0 then #[] else z.cells).size]!)) (by rw [ei];exact h1) hsz (by simp [hlenp])
     have hrun:(Instr.buildSlice t len (parts.map fun (i,x)=>(i,a.eval x))).run G.P w=.ok (.slice (some ⟨w.heap.size,0,none⟩) len len) (w.alloc (.cells arr e)):=by
      have e1:(parts.map fun (i,x)=>(i,a.eval x)).toList=parts.toList.map fun x=>(x.1,a.eval x.2):=by simp
      unfold Instr.buildSlice
      have hn:¬ (len * k>2 ^ 24):=by omega
      by_cases h0:len * k=0
      · simp only [h0,if_true] at f1
        have hn0:¬ (0>2 ^ 24):=by omega
        simp only [Sem.run_bind,run_underlying ht,Result.andThen_ok,run_szOf hk,h0,if_true,Sem.run_pure,e1,f1,newRow,run_newObj,if_neg hn0]
        rfl
      · simp only [h0,if_false] at f1
        simp only [Sem.run_bind,run_underlying ht,Result.andThen_ok,run_szOf hk,hn,if_false,h0,run_zeroT hz,Sem.run_pure,e1,f1,newRow,run_newObj]
        rfl
     have hexec:(execOp a.eval o).run G.P w=.ok (.value (.slice (some ⟨w.heap.size,0,none⟩) len len)) (w.alloc (.cells arr e)):=by
      simp only [execOp,ho,Sem.run_bind,hrun,Result.andThen_ok,Sem.run_pure]
     have hext:Ext NoB w (w.alloc (.cells arr e)):=⟨rfl,rfl,rfl,by simp,fun b hb _=>heap_alloc_old w _ hb,fun a _ _=>frozen_alloc _ _ _ _⟩
     refine .of_run hexec ⟨hext,.pv _ _ ?_⟩
     have hll:(((parts.toList.map (·.2)).map (ox st.ρ)).map (frz st.H 4)).length=len:=by simpa using hlenp
     have hlm:len<=maxLen:=by
      simp only [maxLen]
      have:len<=len * k:=Nat.le_mul_of_pos_right _ h4
      omega
     have hcell:∀ (i:Nat) p (j:Nat) c,(((parts.toList.map (·.2)).map (ox st.ρ)).map (frz st.H 4))[i]?=some p->p.cells[j]?=some c->c.one=true/\(w.alloc (.cells arr e)).cell? ⟨w.heap.size,0+i * k+j,none⟩=some (arr.getD (i * k+j) undef)/\PVRel (w.alloc (.cells arr e)) (Mut E L st.H) c (arr.getD (i * k+j) undef):=by
      intro i p j c hp hc
      obtain ⟨x,hx,hr,hw,ho⟩:=hat i p hp
      have hj:j<k:=by
       have h6:=(List.getElem?_eq_some_iff.1 hc).1
       have h7:p.cells.length=k:=hw
       omega
      have hi:i<len:=by have:=(List.getElem?_eq_some_iff.1 hp).1;rw [hll] at this;exact this
      have hlt:i * k+j<arr.size:=by
       rw [f2]
       simp only [Array.size_map,Array.size_range]
       have h8:(i+1) * k<=len * k:=Nat.mul_le_mul_right _ hi
       rw [Nat.add_mul,Nat.one_mul] at h8
       omega
      have hv:=f4 i x j hx hj
      rw [Nat.zero_add] at hv
      refine ⟨List.all_eq_true.1 ho c (List.mem_of_getElem? hc),?_,?_⟩
      · rw [cell_of_row _ w.heap.size _ arr e _ (heap_alloc_new w _),Nat.zero_add]
        simp [Array.getD_eq_getD_getElem?,Array.getElem?_eq_getElem hlt]
      · rw [hv]
        exact ((cells_of_rel hr hw ho).2 j c hc).keep (hext.keeps _)
     have:=PVRel.sl (w:=w.alloc (.cells arr e)) (M:=Mut E L st.H) (((parts.toList.map (·.2)).map (ox st.ρ)).map (frz st.H 4)) (some ⟨w.heap.size,0,none⟩) len k w.heap.size 0 (fun i j=>arr.getD (i * k+j) undef) (by omega) hlm
      (fun p hp=>by obtain ⟨i,hi⟩:=List.mem_iff_getElem?.1 hp;obtain ⟨x,_,_,hw,_⟩:=hat i p hi;exact hw) (fun _=>rfl)
      (fun i p j c hp hc=>⟨fun hm=>by have:=hR.mut_lt hm;omega,(hcell i p j c hp hc).1,(hcell i p j c hp hc).2.1⟩)
      (fun i p j c hp hc=>(hcell i p j c hp hc).2.2)
     rw [hll] at this
     exact this
   · exact h.elim
 · exact h.elim
theorem keyKind_isKey {w:World} {M:Nat->Prop} {d:TypeDesc} {p:PV} {v:Value} (h:keyKind (some d) p=true) (hv:PVRel w M p v):IsKey d v:=by
 cases hv <;> cases d <;> simp_all [keyKind,IsKey]
theorem keyEq_iff {w:World} {M:Nat->Prop} {d:TypeDesc} {p q:PV} {x y:Value} (hp:keyKind (some d) p=true) (hq:keyKind (some d) q=true) (hx:PVRel w M p x) (hy:PVRel w M q y):keyEqB p q=true↔y=x:=by
 cases d <;> cases p <;> try (simp [keyKind] at hp;done)
 all_goals cases q <;> try (simp [keyKind] at hq;done)
 case bool.bool.bool a b=>
  cases hx;cases hy
  simp only [keyEqB,beq_iff_eq,Value.bool.injEq]
  exact ⟨fun h=>h.symm,fun h=>h.symm⟩
 case int.int.int k k1 a k2 b=>
  cases hx;cases hy
  simp only [keyKind,beq_iff_eq] at hp hq
  subst hp;subst hq
  simp only [keyEqB,beq_iff_eq,Value.int.injEq,true_and]
  exact ⟨fun h=>h.symm,fun h=>h.symm⟩
 case string.str.str a b=>
  cases hx;cases hy
  simp only [keyEqB,beq_iff_eq,Value.string.injEq]
  exact ⟨fun h=>by rw [h],fun h=>(bytes_inj h).symm⟩
theorem zvP_rel {w:World} {M:Nat->Prop} {z:Value} {p:PV} (h:zvP z=some p):PVRel w M p z:=by
 unfold zvP at h
 split at h
 · simp only [Option.some.injEq] at h;subst h;exact .int _ _
 · simp only [Option.some.injEq] at h;subst h;exact .bool _
 · rename_i s
   simp only [Option.some.injEq] at h;subst h
   have:=PVRel.str (w:=w) (M:=M) s.data.toList
   simpa using this
 · simp only [Option.some.injEq] at h;subst h
   exact .sl [] none 0 0 0 0 (fun _ _=>undef) (by simp) (by simp [maxLen]) (by simp) (by simp) (by simp) (by simp)
 · cases h
theorem find_rel {w:World} {M:Nat->Prop} {d:TypeDesc} {k:PV} {kv:Value} (hk:keyKind (some d) k=true) (hkv:PVRel w M k kv):∀ (es:List (PV × PV)) (l:List MapEntry) (i:Nat),es.length=l.length->
 (∀ p,p∈es->keyKind (some d) p.1=true)->(∀ (i:Nat) (p:PV × PV),es[i]?=some p->∃ e:MapEntry,l[i]?=some e/\PVRel w M p.1 e.key/\PVRel w M p.2 e.val)->
 (mget k es=none/\Instr.findNow d kv l i=some none)\/(∃ v j e,mget k es=some v/\Instr.findNow d kv l i=some (some (i+j,e.val))/\l[j]?=some e/\e.key=kv/\PVRel w M v e.val/\(∀ v',mput k v' es=es.set j (k,v'))/\j<es.length/\mdel k es=es.eraseIdx j)
 | [],l,i,hl,_,_=>by
   cases l with
   | nil=>exact .inl ⟨rfl,rfl⟩
   | cons x r=>simp at hl
 | (k',v)::r,[],i,hl,_,_=>by simp at hl
 | (k',v)::r,e::l,i,hl,hks,hr=>by
   obtain ⟨e0,g1,g2,g3⟩:=hr 0 (k',v) rfl
   simp only [List.getElem?_cons_zero,Option.some.injEq] at g1
   subst g1
   have hk':=hks (k',v) List.mem_cons_self
   obtain ⟨b,hb,hiff⟩:=sameNow_of_keys (keyKind_isKey hk hkv) (keyKind_isKey hk' g2)
   have hiff2:=keyEq_iff hk hk' hkv g2
   cases hq:keyEqB k k' with
   | true=>
     have hbt:b=true:=hiff.2 (hiff2.1 hq).symm
     subst hbt
     refine .inr ⟨v,0,e,by simp [mget,hq],by simp [Instr.findNow,hb],rfl,hiff2.1 hq,g3,fun v'=>by simp [mput,hq],by simp,by simp [mdel,hq]⟩
   | false=>
     have hbf:b=false:=by
      cases b with
      | false=>rfl
      | true=>have:=hiff2.2 (hiff.1 rfl).symm;rw [hq] at this;cases this
     subst hbf
     have ih:=find_rel hk hkv r l (i+1) (by simpa using hl) (fun p hp=>hks p (List.mem_cons_of_mem _ hp)) (fun j p hp=>by simpa using hr (j+1) p (by simpa using hp))
     rcases ih with ⟨h1,h2⟩ | ⟨v0,j,e1,h1,h2,h3,h4,h5,h6,h7,h8⟩
     · exact .inl ⟨by simp [mget,hq,h1],by simp [Instr.findNow,hb,h2]⟩
     · refine .inr ⟨v0,j+1,e1,by simp [mget,hq,h1],by simp [Instr.findNow,hb,h2];omega,by simpa using h3,h4,h5,fun v'=>by simp [mput,hq,h6],by simp;omega,by simp [mdel,hq,h8]⟩
theorem ask_rel {P:Program} {w:World} {M:Nat->Prop} {kt:TypeId} {cs:List PV} {kv:Value} (hk:flatB P kt cs=true) (hkv:PVRel w M (.agg cs) kv):∀ (es:List (PV × PV)) (l:List MapEntry) (i:Nat),es.length=l.length->
 (∀ p,p∈es->keyOkB P kt p.1=true)->(∀ (i:Nat) (p:PV × PV),es[i]?=some p->∃ e:MapEntry,l[i]?=some e/\PVRel w M p.1 e.key/\PVRel w M p.2 e.val)->
 (mget (.agg cs) es=none/\(Instr.findAsking kt kv l i).run P w=.ok none w)\/(∃ v j e,mget (.agg cs) es=some v/\(Instr.findAsking kt kv l i).run P w=.ok (some (i+j,e.val)) w/\l[j]?=some e/\e.key=kv/\PVRel w M v e.val/\(∀ v',mput (.agg cs) v' es=es.set j (.agg cs,v'))/\j<es.length/\mdel (.agg cs) es=es.eraseIdx j)
 | [],l,i,hl,_,_=>by
   cases l with
   | nil=>exact .inl ⟨rfl,by simp [Instr.findAsking]⟩
   | cons x r=>simp at hl
 | (k',v)::r,[],i,hl,_,_=>by simp at hl
 | (k',v)::r,e::l,i,hl,hks,hr=>by
   obtain ⟨e0,g1,g2,g3⟩:=hr 0 (k',v) rfl
   simp only [List.getElem?_cons_zero,Option.some.injEq] at g1
   subst g1
   have hk':=hks (k',v) List.mem_cons_self
   have hne:∀ p:PV,(∀ ds,p≠.agg ds)->keyOkB P kt p=true->False:=by
    intro p hp h9
    unfold keyOkB at h9
    split at h9
    · exact hp _ rfl
    · unfold flatB at hk
      split at hk
      · rename_i hd;rw [hd] at h9;simp [keyKind] at h9
      · rename_i hd;rw [hd] at h9;simp [keyKind] at h9
      · cases hk
   obtain ⟨ds,rfl⟩:∃ ds,k'=.agg ds:=by
    cases k' with
    | agg ds=>exact ⟨ds,rfl⟩
    | _=>exact (hne _ (fun _ h=>by cases h) hk').elim
   have hk2:flatB P kt ds=true:=hk'
   have hrun:=flat_run hk hk2 hkv g2
   have hiff:=flat_iff hk hk2 hkv g2
   have hkb:keyEqB (.agg cs) (.agg ds)=keyEqL cs ds:=rfl
   cases hq:keyEqL cs ds with
   | true=>
     rw [hq] at hrun
     refine .inr ⟨v,0,e,by simp [mget,hkb,hq],by simp [Instr.findAsking,hrun],rfl,hiff.1 hq,g3,fun v'=>by simp [mput,hkb,hq],by simp,by simp [mdel,hkb,hq]⟩
   | false=>
     rw [hq] at hrun
     have ih:=ask_rel hk hkv r l (i+1) (by simpa using hl) (fun p hp=>hks p (List.mem_cons_of_mem _ hp)) (fun j p hp=>by simpa using hr (j+1) p (by simpa using hp))
     rcases ih with ⟨h1,h2⟩ | ⟨v0,j,e1,h1,h2,h3,h4,h5,h6,h7,h8⟩
     · exact .inl ⟨by simp [mget,hkb,hq,h1],by simp [Instr.findAsking,hrun,h2]⟩
     · refine .inr ⟨v0,j+1,e1,by simp [mget,hkb,hq,h1],by simp [Instr.findAsking,hrun,h2];omega,by simpa using h3,h4,h5,fun v'=>by simp [mput,hkb,hq,h6],by simp;omega,by simp [mdel,hkb,hq,h8]⟩
theorem findKey_rel {P:Program} {w:World} {M:Nat->Prop} {kt:TypeId} {k:PV} {kv:Value} (hk:keyOkB P kt k=true) (hkv:PVRel w M k kv) (es:List (PV × PV)) (l:List MapEntry) (hl:es.length=l.length)
 (hks:∀ p,p∈es->keyOkB P kt p.1=true) (hr:∀ (i:Nat) (p:PV × PV),es[i]?=some p->∃ e:MapEntry,l[i]?=some e/\PVRel w M p.1 e.key/\PVRel w M p.2 e.val):
 (mget k es=none/\(Instr.findKey kt kv l).run P w=.ok none w)\/(∃ v j e,mget k es=some v/\(Instr.findKey kt kv l).run P w=.ok (some (j,e.val)) w/\l[j]?=some e/\e.key=kv/\PVRel w M v e.val/\(∀ v',mput k v' es=es.set j (k,v'))/\j<es.length/\mdel k es=es.eraseIdx j):=by
 cases hd:P.underlying kt with
 | none=>
   unfold keyOkB at hk
   split at hk
   · unfold flatB at hk;rw [hd] at hk;cases hk
   · rw [hd] at hk;simp [keyKind] at hk
 | some d=>
   by_cases hagg:∃ cs,k=.agg cs
   · obtain ⟨cs,rfl⟩:=hagg
     have hk1:flatB P kt cs=true:=hk
     cases l with
     | nil=>
       cases es with
       | nil=>exact .inl ⟨rfl,by simp [Instr.findKey,run_underlying hd,Instr.findNow]⟩
       | cons x r=>simp at hl
     | cons e l=>
       have hfk:(Instr.findKey kt kv (e::l)).run P w=(Instr.findAsking kt kv (e::l) 0).run P w:=by
        have:Instr.sameNow d kv e.key=none:=by
         obtain ⟨vs,rfl,_⟩:=aggrel_inv hkv
         cases d <;> rfl
        simp [Instr.findKey,run_underlying hd,Instr.findNow,this]
       rw [hfk]
       rcases ask_rel hk1 hkv es (e::l) 0 hl hks hr with h | ⟨v,j,e1,h1,h2,h3⟩
       · exact .inl h
       · exact .inr ⟨v,j,e1,h1,by simpa using h2,h3⟩
   · have hkk:keyKind (some d) k=true:=by
       unfold keyOkB at hk
       split at hk
       · rename_i cs;exact (hagg ⟨cs,rfl⟩).elim
       · rw [hd] at hk;exact hk
     have hks2:∀ p,p∈es->keyKind (some d) p.1=true:=by
      intro p hp
      have h9:=hks p hp
      unfold keyOkB at h9
      split at h9
      · rename_i cs hc
        unfold flatB at h9
        rw [hd] at h9
        cases d <;> cases k <;> simp [keyKind] at hkk <;> simp at h9
      · rw [hd] at h9;exact h9
     rcases find_rel hkk hkv es l 0 hl hks2 hr with ⟨h1,h2⟩ | ⟨v,j,e,h1,h2,h3⟩
     · exact .inl ⟨h1,run_findKey hd h2⟩
     · exact .inr ⟨v,j,e,h1,by have:=run_findKey (w:=w) hd h2;simpa using this,h3⟩
theorem lookupA_run {P:Program} {w:World} {M:Nat->Prop} {L:Locs} {H:AHeap} {S:(List PV->Prop × PV)->Value->Prop} (hB:∀ key B,hget H key=some B->BRel w M L H S key B) {t:TypeId} {m k:AV} {x y:Value} {ok:Bool}
 (h:(lookupA P H t m k ok).1) (hx:AVRel w M L H S m x) (hy:AVRel w M L H S k y):∃ v,(Instr.lookup t x y ok).run P w=.ok v w/\AVRel w M L H S (lookupA P H t m k ok).2 v:=by
 unfold lookupA at h ⊢
 split at h
 · rename_i kt e key kp ht hkp
   have hy:=packK_rel hy
   rw [hkp] at hy
   split at h
   · rename_i es zp hH hz
     obtain ⟨h1,h2⟩:=h
     obtain ⟨es',b,cap,g1,g2,rfl⟩:=mp_inv hx
     rw [hH] at g1
     simp only [Option.some.injEq,ABlk.map.injEq] at g1
     subst g1
     obtain ⟨b2,cap2,ents,clock,e1,e2,e3,e4⟩:=hB key _ hH
     rw [g2] at e1
     simp only [Option.some.injEq,Prod.mk.injEq] at e1
     obtain ⟨rfl,rfl⟩:=e1
     · have hkv:=pv_inv hy
       obtain ⟨z,hz1,hz2⟩:=Option.bind_eq_some_iff.1 hz
       have hzv:=run_zeroT (w:=w) hz1
       have hck:=keyOk_check (em:=ents.isEmpty) h1 hkv
       have hfind:=findKey_rel h1 hkv es ents.toList (by simp [e3.1]) h2 (fun i p hp=>by
        obtain ⟨e,q1,_,_,q4,q5⟩:=e4 i p hp
        exact ⟨e,by simpa using q1,q4,q5⟩)
       rcases hfind with ⟨f1,f2⟩ | ⟨v0,j,e0,f1,f2,f3,f4,f5,_⟩
       · have hf:=f2
         cases ok with
         | true=>
           refine ⟨.tuple #[z,.bool false],?_,.pv _ _ ?_⟩
           · simp [Instr.lookup,run_underlying ht,Go.MapKept.run_getObj_map e2,hck,hf,hzv,Result.andThen]
           · simp only [cond_true,mval,f1,Option.getD_none,Option.isSome_none]
             refine .tup _ _ (by simp) (fun i c hc=>?_)
             match i,hc with
             | 0,hc=>simp at hc;subst hc;simpa using zvP_rel hz2
             | 1,hc=>simp at hc;subst hc;simpa using PVRel.bool false
             | i+2,hc=>simp at hc
         | false=>
           refine ⟨z,?_,.pv _ _ ?_⟩
           · simp [Instr.lookup,run_underlying ht,Go.MapKept.run_getObj_map e2,hck,hf,hzv,Result.andThen]
           · simp only [cond_false,mval,f1,Option.getD_none]
             exact zvP_rel hz2
       · have hf:=f2
         cases ok with
         | true=>
           refine ⟨.tuple #[e0.val,.bool true],?_,.pv _ _ ?_⟩
           · simp [Instr.lookup,run_underlying ht,Go.MapKept.run_getObj_map e2,hck,hf,Result.andThen]
           · simp only [cond_true,mval,f1,Option.getD_some,Option.isSome_some]
             refine .tup _ _ (by simp) (fun i c hc=>?_)
             match i,hc with
             | 0,hc=>simp at hc;subst hc;simpa using f5
             | 1,hc=>simp at hc;subst hc;simpa using PVRel.bool true
             | i+2,hc=>simp at hc
         | false=>
           refine ⟨e0.val,?_,.pv _ _ ?_⟩
           · simp [Instr.lookup,run_underlying ht,Go.MapKept.run_getObj_map e2,hck,hf,Result.andThen]
           · simp only [cond_false,mval,f1,Option.getD_some]
             exact f5
   · exact h.elim
 · exact h.elim
theorem aopP_yields (hP:C.P=G.P) (hT:TabSound G C.Φ) (hR:Rel G E (OpqS G E) N st a.tmps w L) {o:Oper} (h:(aopP C st.ρ st.H o.op).1):
 OpYields G.P o a w (fun v w'=>Ext NoB w w'/\AVRel w' (Mut E L st.H) L st.H (OpqS G E) (aopP C st.ρ st.H o.op).2 v):=by
 have he:=hR.env
 have ret:∀ {v:Value} {R:AV},(execOp a.eval o).run G.P w=.ok (.value v) w->AVRel w (Mut E L st.H) L st.H (OpqS G E) R v->
  OpYields G.P o a w (fun v w'=>Ext NoB w w'/\AVRel w' (Mut E L st.H) L st.H (OpqS G E) R v):=
  fun h1 h2=>.of_run h1 ⟨Ext.refl _ _,h2⟩
 cases hop:o.op <;> rw [hop] at h <;> simp only [aopP] at h ⊢ <;> try exact h.elim
 case move x=>exact ret (by simp only [execOp,hop];rfl) (opnd_rel he x)
 case assign x=>exact ret (by simp only [execOp,hop];rfl) (opnd_rel he x)
 case pick c x y=>
  unfold pickA at h ⊢
  split at h
  · rename_i t p q hc hx hy
    obtain ⟨h1,h2,h3⟩:=h
    have hcr:=ox_rel he c h1
    rw [hc] at hcr
    have hcv:=bool_inv hcr
    cases t with
    | true=>
      have hxr:=ox_rel he x (h2 rfl)
      rw [hx] at hxr
      refine ret (v:=.bool p) ?_ (.pv _ _ (.bool _))
      simp only [execOp,hop,Sem.run_bind,hcv,asBool,Sem.run_pure,Result.andThen_ok,if_true,bool_inv hxr]
    | false=>
      have hyr:=ox_rel he y (h3 rfl)
      rw [hy] at hyr
      refine ret (v:=.bool q) ?_ (.pv _ _ (.bool _))
      simp only [execOp,hop,Sem.run_bind,hcv,asBool,Sem.run_pure,Result.andThen_ok,Bool.false_eq_true,if_false,bool_inv hyr]
  · rename_i p hc hx _
    obtain ⟨h1,h2⟩:=h
    have hcr:=ox_rel he c h1
    rw [hc] at hcr
    have hcv:=bool_inv hcr
    have hxr:=ox_rel he x h2
    rw [hx] at hxr
    refine ret (v:=.bool p) ?_ (.pv _ _ (.bool _))
    simp only [execOp,hop,Sem.run_bind,hcv,asBool,Sem.run_pure,Result.andThen_ok,if_true,bool_inv hxr]
  · rename_i q hc hy _
    obtain ⟨h1,h2⟩:=h
    have hcr:=ox_rel he c h1
    rw [hc] at hcr
    have hcv:=bool_inv hcr
    have hyr:=ox_rel he y h2
    rw [hy] at hyr
    refine ret (v:=.bool q) ?_ (.pv _ _ (.bool _))
    simp only [execOp,hop,Sem.run_bind,hcv,asBool,Sem.run_pure,Result.andThen_ok,Bool.false_eq_true,if_false,bool_inv hyr]
  · exact h.elim
 case binOp op t x y ty=>
  rw [hP] at h ⊢
  obtain ⟨h1,h2,h3⟩:=h
  have hx:=ox_rel he x h1
  have hy:=ox_rel he y h2
  by_cases hagg:∃ as bs,ox st.ρ x=.pv (.agg as)/\ox st.ρ y=.pv (.agg bs)
  · obtain ⟨as,bs,ha,hb⟩:=hagg
    rw [ha,hb] at h3 ⊢
    rw [ha] at hx;rw [hb] at hy
    obtain ⟨f1,f2,f3⟩:=h3
    have hr:=flatD_run (w:=w) f1 f2 (pv_inv hx) (pv_inv hy)
    obtain ⟨vs,hxe,_⟩:=aggrel_inv (pv_inv hx)
    obtain ⟨us,hye,_⟩:=aggrel_inv (pv_inv hy)
    have hg:G.P.eqGuardType G.P.depth t=false:=by
     exact flatD_guard f1
    have hr':(Op.equalIn 10000 t (.agg vs) (.agg us)).run G.P w=.ok (keyEqL as bs) w:=by rw [hxe,hye] at hr;exact hr
    rcases f3 with rfl | rfl
    · refine ret (v:=.bool (keyEqL as bs)) ?_ (.pv _ _ (.bool _))
      simp only [execOp,hop,hxe,hye,Sem.run_bind,run_eqGuard_agg w .eql t x y vs us hg,run_eql_struct,hr',Result.andThen_ok,Sem.run_pure]
    · refine ret (v:=.bool (!keyEqL as bs)) ?_ (.pv _ _ (.bool _))
      simp only [execOp,hop,hxe,hye,Sem.run_bind,run_eqGuard_agg w .neq t x y vs us hg,run_neq_struct,hr',Result.andThen_ok,Sem.run_pure]
  have hb0:binT G.P op t (isC x||isC y) (ox st.ρ x) (ox st.ρ y)=binA op (G.P.underlying t) (isC x||isC y) (ox st.ρ x) (ox st.ρ y):=by
   unfold binT
   split
   · rename_i a b h9 h8;exact (hagg ⟨a,b,h9,h8⟩).elim
   · rfl
  rw [hb0] at h3 ⊢
  unfold binA at h3 ⊢
  split at h3
  · rename_i p q hp hq
    rw [hp] at hx;rw [hq] at hy
    obtain ⟨v,hv,hr⟩:=binP_run (P:=G.P) (w:=w) (M:=Mut E L st.H) (t:=t) (ty:=ty) (ox:=x) (oy:=y) h3 (pv_inv hx) (pv_inv hy)
    refine ret (v:=v) ?_ (.pv _ _ hr)
    simp only [execOp,hop,Sem.run_bind (x:=do eqGuard op t x y (a.eval x) (a.eval y);Go.binOp op t (a.eval x) (a.eval y)),hv,Result.andThen_ok,Sem.run_pure]
  · exact h3.elim
 case lookup t m k ok=>
  rw [hP] at h ⊢
  obtain ⟨h1,h2,h3⟩:=h
  obtain ⟨v,hv,hr⟩:=lookupA_run (P:=G.P) hR.blk h3 (ox_rel he m h1) (ox_rel he k h2)
  exact ret (v:=v) (by simp only [execOp,hop,Sem.run_bind,hv,Result.andThen_ok,Sem.run_pure]) hr
 case unOp op t x=>
  obtain ⟨h1,h2⟩:=h
  have hx:=ox_rel he x h1
  unfold unA at h2 ⊢
  split at h2
  · rename_i p hp
    rw [hp] at hx
    obtain ⟨v,hv,hr⟩:=unP_run (P:=G.P) (w:=w) (M:=Mut E L st.H) h2 (pv_inv hx)
    exact ret (v:=v) (by simp only [execOp,hop,Sem.run_bind,hv,Result.andThen_ok,Sem.run_pure]) (.pv _ _ hr)
  · exact h2.elim
 case convert s d x=>
  rw [hP] at h ⊢
  obtain ⟨h1,h2⟩:=h
  have hx:=ox_rel he x h1
  obtain ⟨v,hv,hr⟩:=convA_run (P:=G.P) hR.blk h2 hx
  exact ret (v:=v) (by simp only [execOp,hop,Sem.run_bind,hv,Result.andThen_ok,Sem.run_pure]) hr
 case extract x i=>
  obtain ⟨h1,h2⟩:=h
  obtain ⟨v,hv,hr⟩:=extractA_run (P:=G.P) h2 (ox_rel he x h1)
  exact ret (v:=v) (by simp only [execOp,hop,Sem.run_bind,hv,Result.andThen_ok,Sem.run_pure]) hr
 case field t x f=>
  rw [hP] at h ⊢
  obtain ⟨h1,h2⟩:=h
  obtain ⟨v,hv,hr⟩:=fieldV_run (P:=G.P) h2 (ox_rel he x h1)
  exact ret (v:=v) (by simp only [execOp,hop,Sem.run_bind,hv,Result.andThen_ok,Sem.run_pure]) hr
 case fieldAddr t x f=>
  rw [hP] at h ⊢
  obtain ⟨h1,h2⟩:=h
  obtain ⟨v,hv,hr⟩:=fieldAddrA_run (P:=G.P) h2 (ox_rel he x h1)
  exact ret (v:=v) (by simp only [execOp,hop,Sem.run_bind,hv,Result.andThen_ok,Sem.run_pure]) hr
 case indexAddr t x i=>
  rw [hP] at h ⊢
  obtain ⟨h1,h2,h3⟩:=h
  obtain ⟨v,hv,hr⟩:=indexAddrA_run (P:=G.P) h3 (ox_rel he x h1) (ox_rel he i h2)
  exact ret (v:=v) (by simp only [execOp,hop,Sem.run_bind,hv,Result.andThen_ok,Sem.run_pure]) hr
 case index t x i=>
  rw [hP] at h ⊢
  obtain ⟨h1,h2,h3⟩:=h
  obtain ⟨v,hv,hr⟩:=indexA_run (P:=G.P) h3 (ox_rel he x h1) (ox_rel he i h2)
  exact ret (v:=v) (by simp only [execOp,hop,Sem.run_bind,hv,Result.andThen_ok,Sem.run_pure]) hr
 case load t x=>
  rw [hP] at h ⊢
  obtain ⟨h1,h2⟩:=h
  obtain ⟨v,hv,hr⟩:=loadA_run (P:=G.P) hR.blk h2 (ox_rel he x h1)
  exact ret (v:=v) (by simp only [execOp,hop,Sem.run_bind,hv,Result.andThen_ok,Sem.run_pure]) hr
 case nilCheck x=>
  obtain ⟨h1,h2⟩:=h
  obtain ⟨v,hv,hr⟩:=nilCheckA_run (P:=G.P) hop h2 (ox_rel he x h1)
  exact ret hv hr
 case slice t x lo hi mx=>
  rw [hP] at h ⊢
  obtain ⟨h1,h2,h3⟩:=h
  have hm:=allC_mem h2
  obtain ⟨v,hv,hr⟩:=sliceA_run (P:=G.P) hR.blk h3 (ox_rel he x h1) (ORel.of_op he lo (fun y hy=>hm y (by simp [hy]))) (ORel.of_op he hi (fun y hy=>hm y (by simp [hy]))) (ORel.of_op he mx (fun y hy=>hm y (by simp [hy])))
  exact ret (v:=v) (by simp only [execOp,hop,Sem.run_bind,hv,Result.andThen_ok,Sem.run_pure]) hr
 case makeInterface t x=>
  rw [hP] at h ⊢
  obtain ⟨h1,h2⟩:=h
  obtain ⟨v,hv,hr⟩:=ifaceA_run (P:=G.P) h2 (ox_rel he x h1)
  exact ret (v:=v) (by simp only [execOp,hop,Sem.run_bind,hv,Result.andThen_ok,Sem.run_pure]) hr
 case makeFunc fn first caps=>
  obtain ⟨h1,h2⟩:=h
  have hm:=allC_mem h1
  have sub:∀ {l:List Operand},(∀ x,x∈l->oc st.ρ x)->allC st.ρ l:=by
   intro l
   induction l with
   | nil=>intro _;trivial
   | cons y r ih=>intro hh;exact ⟨hh y (by simp),ih (fun x hx=>hh x (by simp [hx]))⟩
  have hr:=makeFuncA_rel h2 (LRel.of_ops he first.toList (sub fun x hx=>hm x (by simp at hx ⊢;exact .inl hx))) (LRel.of_ops he caps.toList (sub fun x hx=>hm x (by simp at hx ⊢;exact .inr hx)))
  refine ret (v:=.func fn (first.toList.map a.eval).toArray (caps.toList.map a.eval).toArray) ?_ hr
  rw [<- map_toArr,<- map_toArr]
  simp [execOp,hop,Instr.makeFunc]
 case build t parts=>
  rw [hP] at h ⊢
  obtain ⟨h1,h2⟩:=h
  have hl:=LRel.of_ops he _ h1
  obtain ⟨v,hv,hr⟩:=buildA_run (P:=G.P) (w:=w) (M:=Mut E L st.H) (L:=L) (H:=st.H) (S:=OpqS G E) (xs:=parts.toList.map fun x=>(x.1,a.eval x.2)) h2
   (by simp [Function.comp_def]) (by simpa [Function.comp_def] using hl)
  refine ret (v:=v) ?_ hr
  have e1:(parts.map fun (i,x)=>(i,a.eval x))=(parts.toList.map fun x=>(x.1,a.eval x.2)).toArray:=by
   exact map_toArr _ _
  simp only [execOp,hop,e1,Sem.run_bind,hv,Result.andThen_ok,Sem.run_pure]
 case buildSlice t len parts=>
  rw [hP] at h ⊢
  obtain ⟨h1,h2⟩:=h
  exact buildSlice_yields hR hop h1 h2
 case call c=>
  obtain ⟨callee,args,ts⟩:=c
  cases callee with
  | value f=>
    obtain ⟨h1,h2,h3⟩:=h
    exact callP_yields hP hT hR hop h1 h2 h3
  | invoke r m=>exact h.elim
  | builtin b=>
    cases b <;> simp only [] at h ⊢ <;> try exact h.elim
    case len=>
     rw [hP] at h ⊢
     split at h
     · rename_i x t hx ht
       obtain ⟨h1,h2⟩:=h
       obtain ⟨v,hv,hr⟩:=lenA_run (P:=G.P) (ty:=o.type) h2 (ox_rel he x h1)
       refine ret (v:=v) ?_ hr
       have e1:args=#[x]:=by rw [<- Array.toArray_toList (xs:=args),hx]
       have e2:ts=#[t]:=by rw [<- Array.toArray_toList (xs:=ts),ht]
       subst e1;subst e2
       simp only [execOp,hop,resolve,invoke,builtin,Sem.run_bind,Sem.run_pure,Result.andThen_ok,List.map_toArray,List.map_cons,List.map_nil,hv]
     · exact h.elim
    case min=>
     obtain ⟨h1,h2⟩:=h
     obtain ⟨v,hv,hr⟩:=min_run (P:=G.P) (ts:=ts) (ty:=o.type) h2 (LRel.of_ops he args.toList h1)
     refine ret (v:=v) ?_ hr
     have e1:args.map a.eval=(args.toList.map a.eval).toArray:=map_toArr _ _
     simp only [execOp,hop,resolve,invoke,builtin,Sem.run_bind,Sem.run_pure,Result.andThen_ok,e1,hv]
    case max=>
     obtain ⟨h1,h2⟩:=h
     obtain ⟨v,hv,hr⟩:=max_run (P:=G.P) (ts:=ts) (ty:=o.type) h2 (LRel.of_ops he args.toList h1)
     refine ret (v:=v) ?_ hr
     have e1:args.map a.eval=(args.toList.map a.eval).toArray:=map_toArr _ _
     simp only [execOp,hop,resolve,invoke,builtin,Sem.run_bind,Sem.run_pure,Result.andThen_ok,e1,hv]
end
end Go.AM
