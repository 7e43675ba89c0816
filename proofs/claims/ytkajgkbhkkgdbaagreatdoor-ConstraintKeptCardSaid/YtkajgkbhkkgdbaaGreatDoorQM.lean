/-
  A part of a proof.
-/
import Derived.Test.YtkajgkbhkkgdbaaGreatDoorZZ
import Derived.Test.YtkajgkbhkkgdbaaGreatDoorNE
import Derived.Test.YtkajgkbhkkgdbaaGreatDoorPN
import Derived.Maps.RangeRun
set_option linter.unusedSimpArgs false
set_option linter.unusedVariables false
namespace Go.AM
open Go Go.Proofs
open Go.ChangeMaps (setBlock)
theorem wpOps_run {P:Program} {ops:Array Oper} {Q:Exit->Act->World->Prop} {i:Nat} {rest:List Nat} {a:Act} {w w':World} {o:Oper} {v:Value} (ho:ops[i]?=some o) (hg:o.guard=none)
 (hrun:(execOp a.eval o).run P w=.ok (.value v) w') (h:wpOps P ops Q rest (a.put o.dst v) w'):wpOps P ops Q (i::rest) a w:=by
 unfold wpOps
 simp only [ho]
 rw [if_pos (show Region.wanted _ _=true by unfold Region.wanted;rw [hg])]
 exact .inl ((OpYields.of_run (R:=fun v' w''=>v'=v/\w''=w') hrun ⟨rfl,rfl⟩).wp (fun v' w'' ⟨h1,h2⟩=>by subst h1;subst h2;exact h))
def Only (a0:Act) (w0:World):Exit->Act->World->Prop
 | .normal,a,w=>a=a0/\w=w0
 | _,_,_=>False
theorem region_only {P:Program} {id:Nat} {ops:Array Oper} {a a0:Act} {w w0:World} (r:Option Nat) (n:Nat) (hd:a0.defers=a.defers) (h:wpOps P ops (Only a0 w0) (List.range ops.size) a w):(Code.region id ops false).wpIn (FF r) n P (Only a0 w0) a w:=by
 refine wpIn_region (wpOps_in (k:=a.defers.length) r n ?_ ?_ ?_ _ a w (Nat.le_refl _) h)
 · rintro a' w' ⟨rfl,rfl⟩;rw [hd];exact Nat.le_refl _
 · exact fun ch a w h=>h
 · rintro ⟨a,w,h⟩;exact h
structure RC (E:Base) (X1:Nat->Prop) (E':Base):Prop where
 X:E'.X=X1
 L0:E'.L0=fun _=>none
 ds:E'.ds=E.ds
 ext:Ext E.M0 E.w0 E'.w0
 m0:∀ b,E'.M0 b->E.M0 b\/E.w0.heap.size<=b
section
variable {G:Glob} {E E':Base} {X1:Nat->Prop} {S:(List PV->Prop × PV)->Value->Prop} {N:Nat} {st:ASt} {a:Array Value} {w w':World} {L:Locs} {Z:Nat->Prop}
theorem RC.step (hb:RC E X1 E') (h:Rel G E' S N st a w L) (hw:Ext Z w w') (hZ:∀ b,Z b->X1 b/\G.nG<=b/\(E.M0 b\/E.w0.heap.size<=b)):
 RC E X1 ⟨w',X1,Own L st.H,fun _=>none,E.ds⟩/\Rel G ⟨w',X1,Own L st.H,fun _=>none,E.ds⟩ S N st a w' L/\Keeps w (Mut E' L st.H) w' (Mut ⟨w',X1,Own L st.H,fun _=>none,E.ds⟩ L st.H):=by
 have:=h.step (Z:=Z) (X':=X1) (L0':=fun _=>none) E.ds hw (fun b hz=>⟨by rw [hb.X];exact (hZ b hz).1,(hZ b hz).2.1⟩) (fun b hx=>by rw [<- hb.X];exact hx) (fun b hx=>.inl (by rw [hb.X];exact hx)) (fun κ b c hl=>by cases hl)
 refine ⟨⟨rfl,rfl,rfl,?_,?_⟩,this⟩
 · exact (hb.ext.trans' h.ext hb.m0).trans' hw (fun b hz=>(hZ b hz).2.2)
 · rintro b ⟨key,B,cap,h1,h2⟩
   rcases (h.own key B b cap h1 h2).2.2 with hm | hm
   · exact hb.m0 b hm
   · exact .inr (Nat.le_trans hb.ext.size hm)
theorem RC.back {S0:(List PV->Prop × PV)->Value->Prop} {st0:ASt} {a0:Array Value} {w00:World} {L00:Locs} {key bm cap:Nat} {es:List (PV × PV)} {ents:Array MapEntry} {clock:Nat}
 (hb:RC E X1 E') (hE:Rel G E S0 N st0 a0 w00 L00) (hH:hget st0.H key=some (.map es)) (hl:L00 key=some (bm,cap)) (hL0:∀ κ,(E.L0 κ).isSome=true->κ=key)
 (hX:∀ b,E.X b->X1 b) (hXb:X1 bm) (h:Rel G E' S N st a w L) (hno:hget st.H key=none) (hm:w.heap[bm]?=some (.map ents clock)) (hsz:MSz ents clock es.length)
 (he:∀ (i:Nat) (p:PV × PV),es[i]?=some p->∃ e:MapEntry,ents[i]?=some e/\p.2.one=true/\PVRel w (Mut E' L st.H) p.1 e.key/\PVRel w (Mut E' L st.H) p.2 e.val):
 Rel G E S N { st with H:=hset st.H key (.map es) } a w (locSet L key (some (bm,cap))):=by
 have hkey:∀ k B,hget st.H k=some B->k≠key:=fun k B hk e=>by rw [e,hno] at hk;cases hk
 have hget2:∀ k B,hget (hset st.H key (.map es)) k=some B->(k=key/\B=.map es)\/(k≠key/\hget st.H k=some B):=fun k B hk=>by
  by_cases e:k=key
  · subst e;rw [hget_hset_same] at hk;cases hk;exact .inl ⟨rfl,rfl⟩
  · rw [hget_hset_ne _ _ (Ne.symm e)] at hk;exact .inr ⟨e,hk⟩
 have hMut:∀ x,Mut E (locSet L key (some (bm,cap))) (hset st.H key (.map es)) x->Mut E' L st.H x:=by
  rintro x (hx | ⟨k,B,c,h1,h2⟩)
  · exact .inl (by rw [hb.X];exact hX x hx)
  · rcases hget2 k B h1 with ⟨rfl,_⟩ | ⟨e,h3⟩
    · simp only [locSet,if_true,Option.some.injEq,Prod.mk.injEq] at h2
      exact .inl (by rw [hb.X,<- h2.1];exact hXb)
    · simp only [locSet,e,if_false] at h2
      exact .inr ⟨k,B,c,h3,h2⟩
 have hk:Keeps w (Mut E' L st.H) w (Mut E (locSet L key (some (bm,cap))) (hset st.H key (.map es))):=fun b _ hn=>⟨rfl,fun hm=>hn (hMut b hm)⟩
 have hc:∀ k B,hget st.H k=some B->∃ B',hget (hset st.H key (.map es)) k=some B'/\B.le B'/\(locSet L key (some (bm,cap))) k=L k/\(L k=none->B=B'):=fun k B hk=>
  ⟨B,by rw [hget_hset_ne _ _ (Ne.symm (hkey k B hk))];exact hk,ABlk.le_refl _,by simp [locSet,hkey k B hk],fun _=>rfl⟩
 have hown:=hE.own key _ bm cap hH hl
 have hnb:∀ k B c,hget st.H k=some B->L k=some (bm,c)->False:=fun k B c h1 h2=>(h.own k B bm c h1 h2).1 (by rw [hb.X];exact hXb)
 refine ⟨h.size,hb.ext.trans' h.ext hb.m0,h.inv,hE.glob,hE.old,hE.m0,fun k B b c h1 h2=>?_,fun k1 k2 B1 B2 b c1 c2 h1 h2 h3 h4=>?_,fun k B h1=>?_,fun s=>(h.env s).keep hk (fun _ _ h=>h) hc,fun κ b c hlκ=>?_⟩
 · rcases hget2 k B h1 with ⟨rfl,_⟩ | ⟨e,g⟩
   · simp only [locSet,if_true,Option.some.injEq,Prod.mk.injEq] at h2
     obtain ⟨rfl,rfl⟩:=h2
     exact hown
   · simp only [locSet,e,if_false] at h2
     obtain ⟨g1,g2,g3⟩:=h.own k B b c g h2
     refine ⟨fun hx=>g1 (by rw [hb.X];exact hX b hx),g2,?_⟩
     rcases g3 with hm | hm
     · exact hb.m0 b hm
     · exact .inr (Nat.le_trans hb.ext.size hm)
 · rcases hget2 k1 B1 h1 with ⟨rfl,_⟩ | ⟨e1,g1⟩
   · rcases hget2 k2 B2 h2 with ⟨rfl,_⟩ | ⟨e2,g2⟩
     · rfl
     · simp only [locSet,if_true,Option.some.injEq,Prod.mk.injEq] at h3
       simp only [locSet,e2,if_false] at h4
       rw [<- h3.1] at h4
       exact (hnb k2 B2 c2 g2 h4).elim
   · rcases hget2 k2 B2 h2 with ⟨rfl,_⟩ | ⟨e2,g2⟩
     · simp only [locSet,if_true,Option.some.injEq,Prod.mk.injEq] at h4
       simp only [locSet,e1,if_false] at h3
       rw [<- h4.1] at h3
       exact (hnb k1 B1 c1 g1 h3).elim
     · simp only [locSet,e1,if_false] at h3
       simp only [locSet,e2,if_false] at h4
       exact h.inj k1 k2 B1 B2 b c1 c2 g1 g2 h3 h4
 · rcases hget2 k B h1 with ⟨rfl,rfl⟩ | ⟨e,g⟩
   · exact ⟨bm,cap,ents,clock,by simp [locSet],hm,hsz,fun i p hp=>by
       obtain ⟨e,r1,r2,r3,r4⟩:=he i p hp
       exact ⟨e,r1,r2,r2,r3.keep hk,r4.keep hk⟩⟩
   · exact (h.blk k B g).keepAll hk hc (fun _ _ _=>rfl) (by simp [locSet,e])
 · have e:=hL0 κ (by rw [hlκ];rfl)
   subst e
   have:=(hE.fix κ b c hlκ).1
   rw [hl] at this
   exact ⟨by simp [locSet];simpa using this,.map es,hget_hset_same _ _ _⟩
theorem Rel.slots {l l':List (Nat × AV)} {H:AHeap} {a':Array Value} (h:Rel G E S N ⟨look l,H⟩ a w L) (hs:a'.size=a.size) (he:∀ s,AVRel w (Mut E L H) L H S (look l' s) (a'.getD s undef)):Rel G E S N ⟨look l',H⟩ a' w L:=
 ⟨by rw [hs];exact h.size,h.ext,h.inv,h.glob,h.old,h.m0,h.own,h.inj,h.blk,he,h.fix⟩
end
theorem getD_setI {a:Array Value} {d s:Nat} {v:Value}:(a.setIfInBounds d v).getD s undef=if s=d/\d<a.size then v else a.getD s undef:=by
 simp only [Array.getD_eq_getD_getElem?,Array.getElem?_setIfInBounds]
 by_cases h:d=s
 · subst h
   by_cases h2:d<a.size
   · simp [h2]
   · simp [h2]
 · have:¬ s=d:=fun e=>h e.symm
   simp [h,this]
structure MROps (o1 o2 o3 o4 o5 o6 o7 o8 o9:Oper) (m6 m0 it nx ok en ek ev kk vv:Nat) (mt:TypeId):Prop where
 p1:o1.op=.move (.tmp m0)/\o1.dst=some m6/\o1.guard=none
 p2:o2.op=.range mt (.tmp m6)/\o2.dst=some it/\o2.guard=none
 p3:o3.op=.next (.tmp it) false/\o3.dst=some nx/\o3.guard=none
 p4:o4.op=.extract (.tmp nx) 0/\o4.dst=some ok/\o4.guard=none
 p5:o5.op=.entry (.tmp it)/\o5.dst=some en/\o5.guard=none
 p6:o6.op=.extract (.tmp en) 0/\o6.dst=some ek/\o6.guard=none
 p7:o7.op=.extract (.tmp en) 1/\o7.dst=some ev/\o7.guard=none
 p8:o8.op=.assign (.tmp ek)/\o8.dst=some kk/\o8.guard=none
 p9:o9.op=.assign (.tmp ev)/\o9.dst=some vv/\o9.guard=none
theorem exec_move {P:Program} {e:Operand->Value} {o:Oper} {x:Operand} {w:World} (h:o.op=.move x):(execOp e o).run P w=.ok (.value (e x)) w:=by simp only [execOp,h];rfl
theorem exec_assign {P:Program} {e:Operand->Value} {o:Oper} {x:Operand} {w:World} (h:o.op=.assign x):(execOp e o).run P w=.ok (.value (e x)) w:=by simp only [execOp,h];rfl
theorem exec_extract {P:Program} {e:Operand->Value} {o:Oper} {x:Operand} {i:Nat} {vs:Array Value} {v:Value} {w:World} (h:o.op=.extract x i) (hv:e x=.tuple vs) (hi:vs[i]?=some v):(execOp e o).run P w=.ok (.value v) w:=by
 simp only [execOp,h,hv,Instr.extract,hi,Sem.run_bind,Sem.run_pure,Result.andThen_ok]
theorem exec_range {P:Program} {e:Operand->Value} {o:Oper} {x:Operand} {t:TypeId} {v:Value} {w w':World} (h:o.op=.range t x) (hr:(Instr.range t (e x)).run P w=.ok v w'):(execOp e o).run P w=.ok (.value v) w':=by
 simp only [execOp,h,Sem.run_bind,hr,Result.andThen_ok,Sem.run_pure]
theorem exec_next {P:Program} {e:Operand->Value} {o:Oper} {x:Operand} {v:Value} {w w':World} (h:o.op=.next x false) (hr:(Instr.next (e x) false o.type).run P w=.ok v w'):(execOp e o).run P w=.ok (.value v) w':=by
 simp only [execOp,h,Sem.run_bind,hr,Result.andThen_ok,Sem.run_pure]
theorem exec_entry {P:Program} {e:Operand->Value} {o:Oper} {x:Operand} {v:Value} {w w':World} (h:o.op=.entry x) (hr:(Instr.entry (e x)).run P w=.ok v w'):(execOp e o).run P w=.ok (.value v) w':=by
 simp only [execOp,h,Sem.run_bind,hr,Result.andThen_ok,Sem.run_pure]
theorem eval_put {a:Act} {d s:Nat} {v:Value} (h:s≠d):(a.put (some d) v).eval (.tmp s)=a.eval (.tmp s):=by
 show (a.tmps.setIfInBounds d v).getD s undef=a.tmps.getD s undef
 rw [getD_setI,if_neg (fun e=>h e.1)]
theorem eval_same {a:Act} {d:Nat} {v:Value} (h:d<a.tmps.size):(a.put (some d) v).eval (.tmp d)=v:=by
 show (a.tmps.setIfInBounds d v).getD d undef=v
 rw [getD_setI,if_pos ⟨rfl,h⟩]
def setχ (χ:Nat->Bool) (i:Nat):Nat->Bool:=fun j=>χ j||j == i
def SeenR (ents:Array MapEntry) (sn:Array Nat) (χ:Nat->Bool):Prop:=∀ (i:Nat) e,ents[i]?=some e->sn.contains e.born=χ i
theorem nodup_born {ents:Array MapEntry} (h:(ents.toList.map (·.born)).Nodup) {i j:Nat} {x y:MapEntry} (hi:ents[i]?=some x) (hj:ents[j]?=some y) (hb:x.born=y.born):i=j:=by
 have hi':(ents.toList.map (·.born))[i]?=some x.born:=by simp [List.getElem?_map,hi]
 have hj':(ents.toList.map (·.born))[j]?=some x.born:=by simp [List.getElem?_map,hj,hb]
 obtain ⟨h1,e1⟩:=List.getElem?_eq_some_iff.1 hi'
 obtain ⟨h2,e2⟩:=List.getElem?_eq_some_iff.1 hj'
 rcases Nat.lt_trichotomy i j with hlt | heq | hgt
 · exact absurd (e1.trans e2.symm) (List.pairwise_iff_getElem.1 h i j h1 h2 hlt)
 · exact heq
 · exact absurd (e2.trans e1.symm) (List.pairwise_iff_getElem.1 h j i h2 h1 hgt)
theorem SeenR.push {ents:Array MapEntry} {sn:Array Nat} {χ:Nat->Bool} (h:SeenR ents sn χ) (hn:(ents.toList.map (·.born)).Nodup) {i:Nat} {e:MapEntry} (hi:ents[i]?=some e):SeenR ents (sn.push e.born) (setχ χ i):=by
 intro j x hj
 rw [contains_push,h j x hj]
 have key:(x.born == e.born)=(j == i):=by
  by_cases hb:x.born=e.born
  · have e1:j=i:=nodup_born hn hj hi hb
    rw [hb,e1,beq_self_eq_true,beq_self_eq_true]
  · have e1:¬ j=i:=fun e'=>hb (by subst e';rw [hj] at hi;cases hi;rfl)
    rw [beq_eq_false_iff_ne.2 hb,beq_eq_false_iff_ne.2 e1]
 unfold setχ
 rw [key]
theorem ext_iter {W:World} {r:Nat} {m m':Option Nat} {a a':Nat} {s s':Array Nat} {c c':Nat} (h:W.heap[r]?=some (.mapIter m a s c)):Ext (fun b=>b=r) W (setBlock W r (.mapIter m' a' s' c')):=by
 refine ⟨rfl,rfl,rfl,by simp [setBlock],fun b _ hb=>?_,fun x hx _=>?_⟩
 · simp only [setBlock]
   rw [Array.getElem?_setIfInBounds,if_neg (fun e=>hb e.symm)]
 · unfold World.frozen?
   simp only [setBlock]
   by_cases e:x.block=r
   · rw [e,h,Array.getElem?_setIfInBounds,if_pos rfl]
     have:=(Array.getElem?_eq_some_iff.1 h).1
     simp [this]
   · rw [Array.getElem?_setIfInBounds,if_neg (fun e'=>e e'.symm)]
theorem iter_same {W:World} {r:Nat} {o o':Obj} (h:W.heap[r]?=some o):(setBlock W r o').heap[r]?=some o':=by
 simp only [setBlock]
 rw [Array.getElem?_setIfInBounds,if_pos rfl,if_pos (Array.getElem?_eq_some_iff.1 h).1]
theorem iter_other {W:World} {r b:Nat} {o':Obj} (h:b≠r):(setBlock W r o').heap[b]?=W.heap[b]?:=by
 simp only [setBlock]
 rw [Array.getElem?_setIfInBounds,if_neg (fun e=>h e.symm)]
structure MRI (G:Glob) (E:Base) (N:Nat) (X1:Nat->Prop) (it r bm clock:Nat) (ents:Array MapEntry) (es:List (PV × PV)) (I:(Nat->Bool)->List (Nat × AV) × AHeap) (χ:Nat->Bool) (sn:Array Nat) (a:Act) (w:World) (E':Base) (L:Locs):Prop where
 rc:RC E X1 E'
 rel:Rel G E' (OpqS G E') N ⟨look ((it,.fix (.pointer (some ⟨r,0,none⟩)))::(I χ).1),(I χ).2⟩ a.tmps w L
 ds:a.defers=E.ds
 iter:w.heap[r]?=some (.mapIter (some bm) clock sn clock)
 map:w.heap[bm]?=some (.map ents clock)
 ent:∀ (i:Nat) (p:PV × PV),es[i]?=some p->∃ e:MapEntry,ents[i]?=some e/\p.2.one=true/\PVRel w (Mut E' L (I χ).2) p.1 e.key/\PVRel w (Mut E' L (I χ).2) p.2 e.val
 seen:SeenR ents sn χ
section
variable {C:Ctx} {T:Plan} {Q:AX->ASt->Prop} {st:ASt} {i2 i3 i4 b b1 m6 m0 it nx ok en ek ev kk vv:Nat} {mt kt vt:TypeId} {o1 o2 o3 o4 o5 o6 o7 o8 o9:Oper} {body:Code}
end
structure MRVOps (o1 o2 o3 o4 o5 o7 o9:Oper) (m6 m0 it nx ok en ev vv:Nat) (mt:TypeId):Prop where
 p1:o1.op=.move (.tmp m0)/\o1.dst=some m6/\o1.guard=none
 p2:o2.op=.range mt (.tmp m6)/\o2.dst=some it/\o2.guard=none
 p3:o3.op=.next (.tmp it) false/\o3.dst=some nx/\o3.guard=none
 p4:o4.op=.extract (.tmp nx) 0/\o4.dst=some ok/\o4.guard=none
 p5:o5.op=.entry (.tmp it)/\o5.dst=some en/\o5.guard=none
 p7:o7.op=.extract (.tmp en) 1/\o7.dst=some ev/\o7.guard=none
 p9:o9.op=.assign (.tmp ev)/\o9.dst=some vv/\o9.guard=none
def mrQJ (pins:List Nat) (l:List (Nat × AV)) (H:AHeap) (pN hJ:Prop) (J:List (Nat × AV) × AHeap):AX->ASt->Prop
 | .normal,st=>pN/\Fits pins l H st
 | .ret,st=>hJ/\Fits pins J.1 J.2 st
 | _,_=>False
section
variable {C:Ctx} {T:Plan} {Q:AX->ASt->Prop} {st:ASt} {i2 i3 i4 b b1 m6 m0 it nx ok en ev vv:Nat} {mt kt vt:TypeId} {o1 o2 o3 o4 o5 o7 o9:Oper} {body:Code}
set_option maxHeartbeats 2000000 in
theorem AWp.mapRangeV (key:Nat) (es:List (PV × PV)) (I:(Nat->Bool)->List (Nat × AV) × AHeap) (hJ:Prop) (J:List (Nat × AV) × AHeap) (Pχ:(Nat->Bool)->Prop) (hp0:Pχ (fun _=>false)) (hout:C.outer=false) (hpin:∀ κ,κ∈C.pins->κ=key)
 (hops:MRVOps o1 o2 o3 o4 o5 o7 o9 m6 m0 it nx ok en ev vv mt) (hne:[m6,it,nx,ok,en,ev,vv].Nodup) (hlt:∀ x,x∈[m6,it,nx,ok,en,ev,vv]->x<C.N)
 (hm:st.ρ m0=.mp key) (hH:hget st.H key=some (.map es)) (ht:C.P.underlying mt=some (.map kt vt))
 (h0:fitR (I (fun _=>false)).1 st.ρ) (h0H:fitH (I (fun _=>false)).2 st.H)
 (hok:∀ χ,refsR (I χ).2 (I χ).1=true/\refsH (I χ).2 (I χ).2=true/\nqH (I χ).2=true/\(∀ s,(look (I χ).1 s).nq=true)/\hget (I χ).2 key=none/\∀ x,x∈[m6,it,nx,ok,en,ev,vv]->look (I χ).1 x=.top)
 (hbody:∀ (x:Value) χ (i:Nat) p,es[i]?=some p->χ i=false->Pχ χ->AWp { C with pins:=[] } body (AX.blk b1 (mrQJ [] ((it,.fix x)::(I (setχ χ i)).1) (I (setχ χ i)).2 (Pχ (setχ χ i)) hJ J)) ⟨look ((vv,.pv p.2)::(it,.fix x)::(I χ).1),(I χ).2⟩)
 (hokJ:hJ->nqH J.2=true/\(∀ s,(look J.1 s).nq=true)/\hget J.2 key=none/\Q .ret ⟨look J.1,hset J.2 key (.map es)⟩)
 (hend:∀ χ,Pχ χ->(∀ i,i<es.length->χ i=true)->Q .normal ⟨look (I χ).1,hset (I χ).2 key (.map es)⟩):
 AWp C (.seq (.region i2 #[o1,o2] false) (.block b (.loop (.seq (.region i3 #[o3,o4] false) (.seq (.cond (.tmp ok) .skip (.exit b)) (.block b1 (.seq (.region i4 #[o5,o7,o9] false) body))))))) Q st:=by
 intro G E r0 n hr hF hP0 a w L hR hd
 have hP:C.P=G.P:=hF.tabs.base.prog
 have hF':Fit G { C with pins:=[] }:=⟨⟨⟨hF.tabs.base.prog,hF.tabs.base.pure,hF.tabs.base.eff,fun κ hκ=>by cases hκ⟩,hF.tabs.quiet⟩,hF.mono,hF.mixed⟩
 rw [hP] at ht
 simp only [List.nodup_cons,List.mem_cons,List.not_mem_nil,or_false,not_or,List.nodup_nil,and_true,not_false_eq_true] at hne
 obtain ⟨⟨zm1,zm2,zm3,zm4,zm5,zm6⟩,⟨zi1,zi2,zi3,zi4,zi5⟩,⟨zn1,zn2,zn3,zn4⟩,⟨zo1,zo2,zo3⟩,⟨ze1,ze2⟩,zv1⟩:=hne
 have lt:=fun x hx=>hlt x hx
 have hsz:=hR.size
 have hmv:=hR.env m0
 rw [hm] at hmv
 generalize hmx:a.tmps.getD m0 undef=mv at hmv
 cases hmv with
 | mp _ es' bm cap g1 g2=>
 rw [hH] at g1
 simp only [Option.some.injEq,ABlk.map.injEq] at g1
 subst g1
 obtain ⟨bm',cap',ents,clock,k1,k2,k3,k4⟩:=hR.blk key _ hH
 rw [g2] at k1
 simp only [Option.some.injEq,Prod.mk.injEq] at k1
 obtain ⟨rfl,rfl⟩:=k1
 obtain ⟨q1,q2,q3,q4,q5,q7⟩:=hok (fun _=>false)
 have hD:=hR.drop (L0':=fun _=>none) E.ds h0 h0H q1 q2 (fun κ b c hl=>by cases hl)
 obtain ⟨X0,hX0⟩:∃ X0:Nat->Prop,X0=fun b=>E.X b\/∃ k2 B2 c2,hget st.H k2=some B2/\L k2=some (b,c2)/\hget (I (fun _=>false)).2 k2=none:=⟨_,rfl⟩
 rw [<- hX0] at hD
 have hXE:∀ b,E.X b->X0 b:=fun b hb=>by rw [hX0];exact .inl hb
 have hXm:X0 bm:=by rw [hX0];exact .inr ⟨key,_,_,hH,g2,q5⟩
 have hmlt:bm<w.heap.size:=hR.mut_lt (.inr ⟨key,_,_,hH,g2⟩)
 have hsub:∀ x,Own L (I (fun _=>false)).2 x->Own L st.H x:=fun x ⟨k,B,c,e1,e2⟩=>⟨k,B,c,fitH_get h0H k B e1,e2⟩
 have hMut:∀ x,Mut ⟨w,X0,Own L (I (fun _=>false)).2,fun _=>none,E.ds⟩ L (I (fun _=>false)).2 x->Mut E L st.H x:=by
  rintro x (hx | hx)
  · simp only [hX0] at hx
    rcases hx with hx | ⟨k2,B2,c2,e1,e2,_⟩
    · exact .inl hx
    · exact .inr ⟨k2,B2,c2,e1,e2⟩
  · exact .inr (hsub x hx)
 obtain ⟨w1,hw1⟩:∃ w1,w1=w.alloc (.mapIter (some bm) clock #[] clock):=⟨_,rfl⟩
 have hrng:=run_range_map (P:=G.P) w mt kt vt bm ents clock ht k2
 rw [<- hw1] at hrng
 have hext:Ext (fun _=>False) w w1:=by
  rw [hw1]
  refine ⟨rfl,rfl,rfl,by simp,fun b hb _=>heap_alloc_old w _ hb,fun x hx _=>?_⟩
  unfold World.frozen?
  rw [heap_alloc_old w _ hx]
 have hr1:w1.heap[w.heap.size]?=some (.mapIter (some bm) clock #[] clock):=by rw [hw1];exact heap_alloc_new w _
 have hsz1:w1.heap.size=w.heap.size+1:=by rw [hw1];simp
 obtain ⟨r,hrr⟩:∃ r,r=w.heap.size:=⟨_,rfl⟩
 rw [<- hrr] at hrng hr1
 have hrX:¬ X0 r:=fun hx=>by
  have:=hD.old r hx
  have:r<w.heap.size:=this.1
  omega
 have hS:=hD.step (Z:=fun _=>False) (X':=fun b=>X0 b\/b=r) (L0':=fun _=>none) E.ds hext (fun _ h=>h.elim) (fun b hb=>.inl hb) (fun b hb=>hb.imp id (fun e=>by subst e;rw [hrr];omega)) (fun κ b c hl=>by cases hl)
 obtain ⟨hS1,hSk⟩:=hS
 have hnG:G.nG<=r:=by have:=hR.glob;have:=hR.ext.size;omega
 have hE0:E.w0.heap.size<=r:=by have:=hR.ext.size;omega
 have claim:∀ m χ sn a' w' E' L',(leftOf ents sn).size<m->MRI G E C.N (fun b=>X0 b\/b=r) it r bm clock ents es I χ sn a' w' E' L'->Pχ χ->
  Code.roundsIn (FF r0) n G.P (.seq (.region i3 #[o3,o4] false) (.seq (.cond (.tmp ok) .skip (.exit b)) (.block b1 (.seq (.region i4 #[o5,o7,o9] false) body)))) (Exit.inBlock b (LiftQ C.outer G E C.N Q)) m a' w':=by
  intro m
  induction m with
  | zero=>intro χ sn a' w' E' L' hlm;omega
  | succ m ih=>
    intro χ sn a' w' E' L' hlm hI hPχ
    unfold Code.roundsIn
    obtain ⟨p1,p2,p3,p4,p5,p7⟩:=hok χ
    have hsa:=hI.rel.size
    have hit:a'.eval (.tmp it)=.pointer (some ⟨r,0,none⟩):=by
     have:=hI.rel.env it
     have e1:look ((it,AV.fix (.pointer (some ⟨r,0,none⟩)))::(I χ).1) it=.fix (.pointer (some ⟨r,0,none⟩)):=by simp [look]
     rw [show (ASt.mk (look ((it,AV.fix (.pointer (some ⟨r,0,none⟩)))::(I χ).1)) (I χ).2).ρ it=.fix (.pointer (some ⟨r,0,none⟩)) from e1] at this
     show a'.tmps.getD it undef=_
     generalize a'.tmps.getD it undef=y at this
     cases this;rfl
    rcases run_next_at (P:=G.P) w' o3.type r bm clock clock sn ents clock hI.iter hI.map k3.2.1 (Nat.le_refl _) with ⟨hz,hrun⟩ | ⟨e,he,wa,hwa,hrun⟩
    · refine wpIn_seq (wpIn_mono (region_only (a0:=(a'.put (some nx) (.tuple #[.bool false])).put (some ok) (.bool false)) (w0:=w') r0 n rfl ?_) (fun e a w he=>?_))
      · show wpOps G.P #[o3,o4] _ [0,1] a' w'
        refine wpOps_run (o:=o3) (i:=0) rfl hops.p3.2.2 (exec_next hops.p3.1 (by rw [hit];exact hrun)) ?_
        rw [hops.p3.2.1]
        refine wpOps_run (o:=o4) (i:=1) rfl hops.p4.2.2 (exec_extract hops.p4.1 (eval_same (by rw [hsa];exact lt nx (by simp))) rfl) ?_
        rw [hops.p4.2.1]
        exact ⟨rfl,rfl⟩
      · cases e with
        | normal=>
          obtain ⟨rfl,rfl⟩:=he
          refine wpIn_seq (wpIn_cond_split (t:=false) (eval_same (by show ok<(a'.tmps.setIfInBounds nx _).size;rw [Array.size_setIfInBounds,hsa];exact lt ok (by simp))) (fun h=>by cases h) (fun _=>wpIn_exit ?_))
          have hall:∀ i,i<es.length->χ i=true:=by
           intro i hi
           have hie:i<ents.size:=by rw [k3.1];exact hi
           rw [<- hI.seen i ents[i] (Array.getElem?_eq_getElem hie)]
           exact all_seen ents sn hz ents[i] (by simp)
          have hrel2:=hI.rel.slots (l':=(I χ).1) (a':=((a'.put (some nx) (.tuple #[.bool false])).put (some ok) (.bool false)).tmps) (by show ((a'.tmps.setIfInBounds nx _).setIfInBounds ok _).size=_;simp) (fun s=>by
           by_cases c1:s=it
           · rw [c1,p7 it (by simp)];exact .top _
           by_cases c2:s=nx
           · rw [c2,p7 nx (by simp)];exact .top _
           by_cases c3:s=ok
           · rw [c3,p7 ok (by simp)];exact .top _
           show AVRel _ _ _ _ _ _ (((a'.tmps.setIfInBounds nx _).setIfInBounds ok _).getD s undef)
           rw [getD_setI,if_neg (fun e=>c3 e.1),getD_setI,if_neg (fun e=>c2 e.1)]
           have:=hI.rel.env s
           rwa [show (ASt.mk (look ((it,AV.fix (.pointer (some ⟨r,0,none⟩)))::(I χ).1)) (I χ).2).ρ s=look (I χ).1 s by simp [look,c1]] at this)
          show (if b=b then LiftQ C.outer G E C.N Q .normal _ _ else _)
          rw [if_pos rfl]
          exact BehX.of ⟨_,_,hend χ hPχ hall,hI.rc.back hR hH g2 (fun κ hκ=>hpin κ (hP0 κ hκ)) (fun b hb=>.inl (hXE b hb)) (.inl hXm) (hrel2.nq p4 p3) p5 hI.map k3 hI.ent,hI.ds⟩
        | _=>exact he.elim
    · obtain ⟨hel,hesn⟩:=mem_left he
      obtain ⟨w2,hw2⟩:∃ w2,w2=setBlock wa r (.mapIter (some bm) clock (sn.push e.born) clock):=⟨_,rfl⟩
      rw [<- hw2] at hrun
      have hra:wa.heap[r]?=some (.mapIter (some bm) clock sn clock):=by rcases hwa with rfl | rfl <;> exact hI.iter
      have hma:wa.heap[bm]?=some (.map ents clock):=by rcases hwa with rfl | rfl <;> exact hI.map
      have hx2:Ext (fun b=>b=r) w' w2:=by
       rw [hw2]
       rcases hwa with rfl | rfl
       · exact ext_iter hra
       · have:=ext_iter (m':=some bm) (a':=clock) (s':=sn.push e.born) (c':=clock) hra
         exact ⟨this.os,this.tape,this.output,this.size,this.block,this.frozen⟩
      have hr2:w2.heap[r]?=some (.mapIter (some bm) clock (sn.push e.born) clock):=by rw [hw2];exact iter_same hra
      have hbr:bm≠r:=by rw [hrr];omega
      have hb2:w2.heap[bm]?=some (.map ents clock):=by rw [hw2,iter_other hbr];exact hma
      obtain ⟨rc2,rel2,kp2⟩:=hI.rc.step hI.rel hx2 (fun b hb=>by subst hb;exact ⟨.inr rfl,hnG,.inr hE0⟩)
      obtain ⟨ix,hix⟩:=List.mem_iff_getElem?.1 hel
      have hix:ents[ix]?=some e:=by simpa using hix
      have hχ:χ ix=false:=by rw [<- hI.seen ix e hix];exact hesn
      have hixl:ix<es.length:=by rw [<- k3.1];exact (Array.getElem?_eq_some_iff.1 hix).1
      obtain ⟨p,hp⟩:∃ p,es[ix]?=some p:=⟨_,List.getElem?_eq_getElem hixl⟩
      obtain ⟨e',he',_,hp1,hp2⟩:=hI.ent ix p hp
      rw [hix] at he'
      cases he'
      have hp1:=hp1.keep kp2
      have hp2:=hp2.keep kp2
      have hen:=run_entry_at (P:=G.P) w2 r bm clock sn ents clock e hr2 hb2 hel k3.2.2
      obtain ⟨a2,ha2⟩:∃ a2,a2=(a'.put (some nx) (.tuple #[.bool true,e.key,e.val])).put (some ok) (.bool true):=⟨_,rfl⟩
      have hs2:a2.tmps.size=C.N:=by rw [ha2,<- hsa];show ((a'.tmps.setIfInBounds nx _).setIfInBounds ok _).size=_;simp
      have hit2:a2.eval (.tmp it)=.pointer (some ⟨r,0,none⟩):=by rw [ha2,eval_put zi2,eval_put zi1];exact hit
      refine wpIn_seq (wpIn_mono (region_only (a0:=a2) (w0:=w2) r0 n (by rw [ha2];rfl) ?_) (fun e2 a w he2=>?_))
      · show wpOps G.P #[o3,o4] _ [0,1] a' w'
        refine wpOps_run (o:=o3) (i:=0) rfl hops.p3.2.2 (exec_next hops.p3.1 (by rw [hit];exact hrun)) ?_
        rw [hops.p3.2.1]
        refine wpOps_run (o:=o4) (i:=1) rfl hops.p4.2.2 (exec_extract hops.p4.1 (eval_same (by rw [hsa];exact lt nx (by simp))) rfl) ?_
        rw [hops.p4.2.1]
        exact ⟨ha2.symm,rfl⟩
      · cases e2 with
        | normal=>
          obtain ⟨rfl,rfl⟩:=he2
          refine wpIn_seq (wpIn_cond_split (t:=true) (by rw [ha2];exact eval_same (by show ok<(a'.tmps.setIfInBounds nx _).size;rw [Array.size_setIfInBounds,hsa];exact lt ok (by simp))) (fun _=>wpIn_skip ?_) (fun h=>by cases h))
          refine wpIn_block ?_
          obtain ⟨a3,ha3⟩:∃ a3,a3=((a.put (some en) (.tuple #[e.key,e.val])).put (some ev) e.val).put (some vv) e.val:=⟨_,rfl⟩
          have sz1:(a.put (some en) (.tuple #[e.key,e.val])).tmps.size=C.N:=by rw [<- hs2];show (a.tmps.setIfInBounds _ _).size=_;simp
          have sz3:((a.put (some en) (.tuple #[e.key,e.val])).put (some ev) e.val).tmps.size=C.N:=by rw [<- sz1];show (Array.setIfInBounds _ _ _).size=_;simp
          refine wpIn_seq (wpIn_mono (region_only (a0:=a3) (w0:=w) r0 n (by rw [ha3];rfl) ?_) (fun e3 a4 w4 he3=>?_))
          · show wpOps G.P #[o5,o7,o9] _ [0,1,2] a w
            refine wpOps_run (o:=o5) (i:=0) rfl hops.p5.2.2 (exec_entry hops.p5.1 (by rw [hit2];exact hen)) ?_
            rw [hops.p5.2.1]
            refine wpOps_run (o:=o7) (i:=1) (v:=e.val) rfl hops.p7.2.2 (exec_extract (v:=e.val) hops.p7.1 (eval_same (by rw [hs2];exact lt en (by simp))) rfl) ?_
            rw [hops.p7.2.1]
            refine wpOps_run (o:=o9) (i:=2) (v:=e.val) rfl hops.p9.2.2 (by rw [exec_assign hops.p9.1,eval_same (by rw [sz1];exact lt ev (by simp))];try rfl) ?_
            rw [hops.p9.2.1]
            exact ⟨ha3.symm,rfl⟩
          · cases e3 with
            | normal=>
              obtain ⟨rfl,rfl⟩:=he3
              have hs3:a4.tmps.size=C.N:=by rw [ha3,<- sz3];show (Array.setIfInBounds _ _ _).size=_;simp
              have hd3:a4.defers=E.ds:=by
               have e1:a4.defers=a.defers:=by rw [ha3];rfl
               have e2:a.defers=a'.defers:=by rw [ha2];rfl
               rw [e1,e2];exact hI.ds
              have hx1o:∀ b,Own L' (I χ).2 b->¬ (X0 b\/b=r):=fun b ⟨k,B,c,e1,e2⟩=>(rel2.own k B b c e1 e2).1
              have rel2n:Rel G ⟨w4,fun b=>X0 b\/b=r,Own L' (I χ).2,fun _=>none,E.ds⟩ (OpqS G ⟨w4,fun b=>X0 b\/b=r,Own L' (I χ).2,fun _=>none,E.ds⟩) C.N ⟨look ((it,.fix (.pointer (some ⟨r,0,none⟩)))::(I χ).1),(I χ).2⟩ a'.tmps w4 L':=rel2.nq (fun s=>by
               show (look _ s).nq=true
               by_cases c:s=it
               · simp [look,c,AV.nq]
               · rw [show look ((it,AV.fix (.pointer (some ⟨r,0,none⟩)))::(I χ).1) s=look (I χ).1 s by simp [look,c]];exact p4 s) p3
              have rel3:=rel2n.slots (l':=(vv,.pv p.2)::(it,.fix (.pointer (some ⟨r,0,none⟩)))::(I χ).1) (a':=a4.tmps) (by rw [hs3,hsa]) (fun s=>by
               by_cases c2:s=vv
               · subst c2
                 rw [show look ((s,AV.pv p.2)::(it,.fix (.pointer (some ⟨r,0,none⟩)))::(I χ).1) s=.pv p.2 by simp [look]]
                 have ev1:a4.tmps.getD s undef=e.val:=by
                  show a4.eval (.tmp s)=e.val
                  rw [ha3];exact eval_same (by rw [sz3];exact lt s (by simp))
                 rw [ev1];exact .pv _ _ hp2
               by_cases c3:s=it
               · subst c3
                 rw [show look ((vv,AV.pv p.2)::(s,.fix (.pointer (some ⟨r,0,none⟩)))::(I χ).1) s=.fix (.pointer (some ⟨r,0,none⟩)) by simp [look,c2]]
                 have ev1:a4.tmps.getD s undef=.pointer (some ⟨r,0,none⟩):=by
                  show a4.eval (.tmp s)=_
                  rw [ha3,eval_put zi5,eval_put zi4,eval_put zi3];exact hit2
                 rw [ev1];exact .fix _ rfl
               rw [show look ((vv,AV.pv p.2)::(it,.fix (.pointer (some ⟨r,0,none⟩)))::(I χ).1) s=look (I χ).1 s by simp [look,c2,c3]]
               by_cases c4:s=nx
               · rw [c4,p7 nx (by simp)];exact .top _
               by_cases c5:s=ok
               · rw [c5,p7 ok (by simp)];exact .top _
               by_cases c6:s=en
               · rw [c6,p7 en (by simp)];exact .top _
               by_cases c8:s=ev
               · rw [c8,p7 ev (by simp)];exact .top _
               have ev1:a4.tmps.getD s undef=a'.tmps.getD s undef:=by
                show a4.eval (.tmp s)=a'.eval (.tmp s)
                rw [ha3,eval_put c2,eval_put c8,eval_put c6,ha2,eval_put c5,eval_put c4]
               rw [ev1]
               have:=rel2n.env s
               rwa [show (ASt.mk (look ((it,AV.fix (.pointer (some ⟨r,0,none⟩)))::(I χ).1)) (I χ).2).ρ s=look (I χ).1 s by simp [look,c3]] at this)
              refine wpIn_mono (hbody (.pointer (some ⟨r,0,none⟩)) χ ix p hp hχ hPχ G ⟨w4,fun b=>X0 b\/b=r,Own L' (I χ).2,fun _=>none,E.ds⟩ r0 n hr hF' (fun κ hκ=>by cases hκ) a4 w4 L' rel3 hd3) (fun e5 a5 w5 he5=>?_)
              have fin:Beh G ⟨w4,fun b=>X0 b\/b=r,Own L' (I χ).2,fun _=>none,E.ds⟩ C.N (fun s=>Pχ (setχ χ ix)/\Fits [] ((it,.fix (.pointer (some ⟨r,0,none⟩)))::(I (setχ χ ix)).1) (I (setχ χ ix)).2 s) a5 w5->Code.roundsIn (FF r0) n G.P (.seq (.region i3 #[o3,o4] false) (.seq (.cond (.tmp ok) .skip (.exit b)) (.block b1 (.seq (.region i4 #[o5,o7,o9] false) body)))) (Exit.inBlock b (LiftQ C.outer G E C.N Q)) m a5 w5:=by
               rintro ⟨s,L5,⟨hpn,hf⟩,hR5,hd5⟩
               have rl:=left_shrinks ents sn e he
               have hR6:=hR5.fit (pins:=[]) (fun κ hκ=>by cases hκ) hf
               have kk5:=hR5.keeps
               have hrlt:r<w4.heap.size:=(Array.getElem?_eq_some_iff.1 hr2).1
               have hblt:bm<w4.heap.size:=(Array.getElem?_eq_some_iff.1 hb2).1
               refine ih (setχ χ ix) (sn.push e.born) a5 w5 _ L5 (by omega) ⟨rc2,hR6,hd5,?_,?_,fun j q hq=>?_,hI.seen.push k3.2.2 hix⟩ hpn
               · rw [hR5.ext.block r hrlt (fun ho=>hx1o r ho (.inr rfl))];exact hr2
               · rw [hR5.ext.block bm hblt (fun ho=>hx1o bm ho (.inl hXm))];exact hb2
               · obtain ⟨e6,f1,f1',f2,f3⟩:=hI.ent j q hq
                 have kf:Keeps w5 (Mut ⟨w4,fun b=>X0 b\/b=r,Own L' (I χ).2,fun _=>none,E.ds⟩ L5 s.H) w5 (Mut ⟨w4,fun b=>X0 b\/b=r,Own L' (I χ).2,fun _=>none,E.ds⟩ L5 (I (setχ χ ix)).2):=fun x _ hn=>⟨rfl,fun hm=>hn (hm.imp id (fun ⟨key,B,cap,h1,h2⟩=>⟨key,B,cap,fitH_get hf.blocks key B h1,h2⟩))⟩
                 exact ⟨e6,f1,f1',((f2.keep kp2).keep kk5).keep kf,((f3.keep kp2).keep kk5).keep kf⟩
              rw [hout] at he5
              cases e5 with
              | normal=>exact fin (BehX.beh he5)
              | exit j=>
                have he6:=BehX.beh he5
                by_cases hj:j=b1
                · subst hj
                  show (if j=j then _ else _)
                  rw [if_pos rfl]
                  exact fin (he6.mono (fun s hs=>by
                   have hs':(if j=j then mrQJ [] ((it,.fix (.pointer (some ⟨r,0,none⟩)))::(I (setχ χ ix)).1) (I (setχ χ ix)).2 (Pχ (setχ χ ix)) hJ J .normal s else mrQJ [] ((it,.fix (.pointer (some ⟨r,0,none⟩)))::(I (setχ χ ix)).1) (I (setχ χ ix)).2 (Pχ (setχ χ ix)) hJ J (.exit j) s):=hs
                   rw [if_pos rfl] at hs';exact hs'))
                · obtain ⟨s,_,hs,_⟩:=he6
                  have hs':(if j=b1 then mrQJ [] ((it,.fix (.pointer (some ⟨r,0,none⟩)))::(I (setχ χ ix)).1) (I (setχ χ ix)).2 (Pχ (setχ χ ix)) hJ J .normal s else mrQJ [] ((it,.fix (.pointer (some ⟨r,0,none⟩)))::(I (setχ χ ix)).1) (I (setχ χ ix)).2 (Pχ (setχ χ ix)) hJ J (.exit j) s):=hs
                  rw [if_neg hj] at hs';exact hs'.elim
              | ret=>
                obtain ⟨s,L5,⟨hj,hf⟩,hR5,hd5⟩:=BehX.beh he5
                obtain ⟨q4,q3,q5,hq⟩:=hokJ hj
                have hR6:=hR5.fit (pins:=[]) (fun κ hκ=>by cases hκ) hf
                have kk5:=hR5.keeps
                have hrlt:r<w4.heap.size:=(Array.getElem?_eq_some_iff.1 hr2).1
                have hblt:bm<w4.heap.size:=(Array.getElem?_eq_some_iff.1 hb2).1
                have hmb:w5.heap[bm]?=some (.map ents clock):=by rw [hR5.ext.block bm hblt (fun ho=>hx1o bm ho (.inl hXm))];exact hb2
                refine BehX.of ⟨_,_,hq,rc2.back hR hH g2 (fun κ hκ=>hpin κ (hP0 κ hκ)) (fun b hb=>.inl (hXE b hb)) (.inl hXm) (hR6.nq q3 q4) q5 hmb k3 (fun j q hq=>?_),hd5⟩
                obtain ⟨e6,f1,f1',f2,f3⟩:=hI.ent j q hq
                have kf:Keeps w5 (Mut ⟨w4,fun b=>X0 b\/b=r,Own L' (I χ).2,fun _=>none,E.ds⟩ L5 s.H) w5 (Mut ⟨w4,fun b=>X0 b\/b=r,Own L' (I χ).2,fun _=>none,E.ds⟩ L5 J.2):=fun x _ hn=>⟨rfl,fun hm=>hn (hm.imp id (fun ⟨key,B,cap,h1,h2⟩=>⟨key,B,cap,fitH_get hf.blocks key B h1,h2⟩))⟩
                exact ⟨e6,f1,f1',((f2.keep kp2).keep kk5).keep kf,((f3.keep kp2).keep kk5).keep kf⟩
              | goto l=>exact he5.elim
              | panic c=>exact he5.elim
              | outgrown=>exact he5.elim
            | _=>exact he3.elim
        | _=>exact he2.elim
 obtain ⟨a1,ha1⟩:∃ a1,a1=(a.put (some m6) (.map (some bm))).put (some it) (.pointer (some ⟨r,0,none⟩)):=⟨_,rfl⟩
 have sz1:(a.put (some m6) (.map (some bm))).tmps.size=C.N:=by rw [<- hsz];show (Array.setIfInBounds _ _ _).size=_;simp
 refine wpIn_seq (wpIn_mono (region_only (a0:=a1) (w0:=w1) r0 n (by rw [ha1];rfl) ?_) (fun e a' w' he=>?_))
 · show wpOps G.P #[o1,o2] _ [0,1] a w
   refine wpOps_run (o:=o1) (i:=0) (v:=.map (some bm)) rfl hops.p1.2.2 (by rw [exec_move hops.p1.1];show Result.ok (Next.value (a.tmps.getD m0 undef)) w=_;rw [hmx]) ?_
   rw [hops.p1.2.1]
   refine wpOps_run (o:=o2) (i:=1) (v:=.pointer (some ⟨r,0,none⟩)) rfl hops.p2.2.2 (exec_range hops.p2.1 (by rw [eval_same (by rw [hsz];exact lt m6 (by simp))];exact hrng)) ?_
   rw [hops.p2.2.1]
   exact ⟨ha1.symm,rfl⟩
 · cases e with
   | normal=>
     obtain ⟨rfl,rfl⟩:=he
     have relA:=(hS1.nq (S':=OpqS G ⟨w',fun b=>X0 b\/b=r,Own L (I (fun _=>false)).2,fun _=>none,E.ds⟩) q4 q3).slots (l':=(it,.fix (.pointer (some ⟨r,0,none⟩)))::(I (fun _=>false)).1) (a':=a'.tmps) (by rw [ha1,hsz,<- sz1];show (Array.setIfInBounds _ _ _).size=_;simp) (fun s=>by
      by_cases c1:s=it
      · subst c1
        rw [show look ((s,AV.fix (.pointer (some ⟨r,0,none⟩)))::(I (fun _=>false)).1) s=.fix (.pointer (some ⟨r,0,none⟩)) by simp [look]]
        have ev1:a'.tmps.getD s undef=.pointer (some ⟨r,0,none⟩):=by
         show a'.eval (.tmp s)=_
         rw [ha1];exact eval_same (by rw [sz1];exact lt s (by simp))
        rw [ev1];exact .fix _ rfl
      rw [show look ((it,AV.fix (.pointer (some ⟨r,0,none⟩)))::(I (fun _=>false)).1) s=look (I (fun _=>false)).1 s by simp [look,c1]]
      by_cases c2:s=m6
      · rw [c2,q7 m6 (by simp)];exact .top _
      have ev1:a'.tmps.getD s undef=a.tmps.getD s undef:=by
       show a'.eval (.tmp s)=a.eval (.tmp s)
       rw [ha1,eval_put c1,eval_put c2]
      rw [ev1]
      exact (hS1.nq (S':=OpqS G ⟨w',fun b=>X0 b\/b=r,Own L (I (fun _=>false)).2,fun _=>none,E.ds⟩) q4 q3).env s)
     have kA:Keeps w (Mut E L st.H) w (Mut ⟨w,X0,Own L (I (fun _=>false)).2,fun _=>none,E.ds⟩ L (I (fun _=>false)).2):=fun x _ hn=>⟨rfl,fun hm=>hn (hMut x hm)⟩
     refine wpIn_block (wpIn_loop_rounds ((leftOf ents #[]).size+1) (claim _ (fun _=>false) #[] a' w' ⟨w',fun b=>X0 b\/b=r,Own L (I (fun _=>false)).2,fun _=>none,E.ds⟩ L (Nat.lt_succ_self _) ⟨⟨rfl,rfl,rfl,hR.ext.trans' hext (fun b h=>h.elim),fun b hb=>?_⟩,relA,?_,hr1,?_,fun i p hp=>?_,fun i e hi=>by simp⟩ hp0))
     · obtain ⟨k,B,c,e1,e2⟩:=hsub b hb
       exact (hR.own k B b c e1 e2).2.2
     · have e1:a'.defers=a.defers:=by rw [ha1];rfl
       rw [e1];exact hd
     · rw [hext.block bm hmlt (fun h=>h)];exact k2
     · obtain ⟨e,r1,_,r3,r4,r5⟩:=k4 i p hp
       exact ⟨e,r1,r3,(r4.keep kA).keep hSk,(r5.keep kA).keep hSk⟩
   | _=>exact he.elim
end
end Go.AM
