/-
  A part of a proof.
-/
import Derived.Test.YtkajgkbhkkgdbaaGreatDoorAMl
import Derived.Laws.AppendOwn
set_option linter.unusedSimpArgs false
set_option linter.unusedVariables false
namespace Go.AM
open Go
section
variable {w:World} {P:Program}
theorem run_drew_loads {w:World} (x:Value) (k n:Nat) (cells:Array Value) (h:(Builtin.firstCells k n x).run P w=.ok cells w):(Builtin.firstCells k n x).run P w.drew=.ok cells w.drew:=by
 have gen:∀ (a:Addr) (n i:Nat) (acc:Array Value) (r:Array Value),(loadCellsFrom a i n acc).run P w=.ok r w->(loadCellsFrom a i n acc).run P w.drew=.ok r w.drew:=by
  intro a n
  induction n with
  | zero=>
    intro i acc r h
    simp only [loadCellsFrom,Sem.run_pure,Result.ok.injEq] at h ⊢
    exact ⟨h.1,trivial⟩
  | succ n ih=>
    intro i acc r h
    simp only [loadCellsFrom,Sem.run_bind,run_load] at h ⊢
    have hc:w.drew.cell? (a.add i)=w.cell? (a.add i):=rfl
    have hfl:w.drew.farLoad P (a.add i) (Mode.plain == Mode.atomic)=w.farLoad P (a.add i) (Mode.plain == Mode.atomic):=rfl
    rw [hc,hfl]
    split at h
    · simp only [Result.andThen_ok] at h ⊢
      exact ih _ _ _ h
    · split at h
      · simp only [Result.andThen_ok] at h ⊢
        exact ih _ _ _ h
      · simp at h
 unfold Builtin.firstCells at h ⊢
 split at h
 · exact gen _ _ _ _ _ h
 · simp only [Sem.run_pure,Result.ok.injEq] at h ⊢;exact ⟨h.1,trivial⟩
 · simp only [Sem.run_pure,Result.ok.injEq] at h ⊢;exact ⟨h.1,trivial⟩
 · simp at h
theorem run_append_any {t tx ty e:TypeId} {i:TypeInfo} {z:Value} (ht:P.underlying t=some (.slice e)) (hx:(∃ u,P.underlying tx=some (.slice u))\/P.underlying tx=some .string) (hi:P.info? e=some i) (hz:i.zero=some z)
 {k:Nat} (hk:i.size=k) (hzk:z.cells.size=k) (hk0:0<k) {v x:Value} {hi' cap n:Nat} {cur news:Array Value} {b:Option Nat} {et:TypeId}
 (hv:(v=.slice none 0 0/\hi'=0/\cap=0/\b=none)\/(∃ g,b=some g/\v=.slice (some ⟨g,0,none⟩) hi' cap/\w.heap[g]?=some (.cells cur et (0,0))/\cur.size=cap * k/\hi'<=cap/\cap<=maxLen))
 (hn:(Builtin.lenOf x).run P w=.ok n w) (hf:(Builtin.firstCells k n x).run P w=.ok news w) (hns:news.size=n * k) (h1:∀ u,u∈news.toList->u.oneCell'=true)
 (h63:hi'+n<=maxLen) (hb:(hi'+n) * i.bytes<=140737488355328):
 ∃ v' w',(Builtin.append_ #[t,tx] ty #[v,x]).run P w=.ok v' w'/\
  ((v'=.slice none 0 0/\w'=w/\n=0/\b=none)\/
   (∃ g,b=some g/\hi'+n<=cap/\v'=.slice (some ⟨g,0,none⟩) (hi'+n) cap/\w'=w.setRow g (cur.toList.take (hi' * k)++news.toList++cur.toList.drop (hi' * k+news.toList.length)).toArray)\/
   (∃ cap' arr,v'=.slice (some ⟨w.heap.size,0,none⟩) (hi'+n) cap'/\w'=w.drew.alloc (.cells arr e)/\arr.size=cap' * k/\hi'+n<=cap'/\cap'<=maxLen/\
      (∀ j,j<hi' * k->arr.getD j undef=cur.getD j undef)/\(∀ j,j<n * k->arr.getD (hi' * k+j) undef=news.getD j undef))):=by
 have hnum:hi'+n<=9223372036854775807:=by simp only [maxLen] at h63;omega
 have h63':¬ (9223372036854775807<((hi':Int)+(n:Int))):=by omega
 have hgrow:∀ old,old<hi'+n->¬ (281474976710656<Builtin.nextslicecap (hi'+n) old * i.bytes):=fun old ho=>by
  have:=growslice_fits ho hb;omega
 have hfd:=run_drew_loads (P:=P) x k n news hf
 have hsz:=run_szOf (P:=P) (t:=e) (n:=k) (by simp [szOf,hi,hk])
 have freshFacts:∀ (old:Nat) (olds:Array Value),olds.size=hi' * k->old<hi'+n->(∀ j,j<hi' * k->olds.getD j undef=cur.getD j undef)->
  ((olds++news++Builtin.zeroCells z.cells (grownCap w (hi'+n) old e-(hi'+n))).size=grownCap w (hi'+n) old e * k)/\hi'+n<=grownCap w (hi'+n) old e/\grownCap w (hi'+n) old e<=maxLen/\
  (∀ j,j<hi' * k->(olds++news++Builtin.zeroCells z.cells (grownCap w (hi'+n) old e-(hi'+n))).getD j undef=cur.getD j undef)/\
  (∀ j,j<n * k->(olds++news++Builtin.zeroCells z.cells (grownCap w (hi'+n) old e-(hi'+n))).getD (hi' * k+j) undef=news.getD j undef):=by
  intro old olds hos ho hcur
  have hge:=grownCap_ge w (hi'+n) old e
  refine ⟨?_,hge,grownCap_le_maxLen w (hi'+n) old e h63,fun j hj=>?_,fun j hj=>?_⟩
  · simp only [Array.size_append,hos,hns,size_zeroCells,hzk,<- Nat.add_mul]
    congr 1;omega
  · rw [<- hcur j hj]
    simp only [Array.getD_eq_getD_getElem?]
    rw [Array.append_assoc,Array.getElem?_append_left (by omega)]
  · simp only [Array.getD_eq_getD_getElem?]
    rw [Array.append_assoc,Array.getElem?_append_right (by omega),Array.getElem?_append_left (by omega)]
    congr 2;omega
 rcases hv with ⟨rfl,rfl,rfl,rfl⟩ | ⟨g,rfl,rfl,hg,hcs,hle,hcm⟩
 · by_cases hn0:n=0
   · subst hn0
     refine ⟨.slice none 0 0,w,?_,.inl ⟨rfl,rfl,rfl,rfl⟩⟩
     rcases hx with ⟨u,hdx⟩ | hdx <;> simp [Builtin.append_,run_underlying ht,run_underlying hdx,hsz,hn,hf]
   · refine ⟨_,_,?_,.inr (.inr ⟨grownCap w (0+n) 0 e,#[]++news++Builtin.zeroCells z.cells (grownCap w (0+n) 0 e-(0+n)),rfl,rfl,?_⟩)⟩
     · have hh:=hgrow 0 (by omega)
       simp only [Nat.zero_add,Int.natCast_zero,Int.zero_add] at hh h63'
       rcases hx with ⟨u,hdx⟩ | hdx <;> simp [Builtin.append_,run_underlying ht,run_underlying hdx,hsz,hn,hn0,typeInfo,zeroValue,hi,hz,h63',hh,Question.forced,run_firstCells_none,hfd,newRow,grownCap]
     · exact freshFacts 0 #[] (by simp) (by omega) (fun j hj=>by simp at hj)
 · by_cases hroom:hi'+n<=cap
   · refine ⟨_,_,?_,.inr (.inl ⟨g,rfl,hroom,rfl,rfl⟩)⟩
     have hfit:hi' * k+0+news.toList.length<=cur.size:=by
      rw [Array.length_toList,hns,hcs,Nat.add_zero,<- Nat.add_mul];exact Nat.mul_le_mul_right _ hroom
     have hst:=run_storeCells_at P g (hi' * k) et news.toList 0 cur w hg hfit h1
     simp only [Nat.add_zero] at hst
     rcases hx with ⟨u,hdx⟩ | hdx <;> simp [Builtin.append_,run_underlying ht,run_underlying hdx,hsz,hn,hroom,hf,Addr.add_lit,hst]
   · have hlt:cap<hi'+n:=by omega
     have holds:(Builtin.firstCells k hi' (.slice (some ⟨g,0,none⟩) hi' cap)).run P w.drew=.ok (cur.toList.take (hi' * k)).toArray w.drew:=by
      refine run_firstCells_some (P:=P) w.drew k hi' ⟨g,0,none⟩ hi' cap (cur.toList.take (hi' * k)) ?_ (fun j u hu=>?_)
      · rw [List.length_take,Array.length_toList,hcs];exact Nat.min_eq_left (Nat.mul_le_mul_right _ hle)
      · rw [Addr.add_lit,Nat.zero_add]
        show w.cell? _=_
        rw [cell_of_row w g j cur et _ hg]
        rw [List.getElem?_take] at hu
        split at hu
        · simpa using hu
        · cases hu
     refine ⟨_,_,?_,.inr (.inr ⟨grownCap w (hi'+n) cap e,(cur.toList.take (hi' * k)).toArray++news++Builtin.zeroCells z.cells (grownCap w (hi'+n) cap e-(hi'+n)),rfl,rfl,?_⟩)⟩
     · rcases hx with ⟨u,hdx⟩ | hdx <;> simp [Builtin.append_,run_underlying ht,run_underlying hdx,hsz,hn,hroom,typeInfo,zeroValue,hi,hz,h63',hgrow cap hlt,Question.forced,hfd,holds,newRow,grownCap]
     · refine freshFacts cap _ ?_ hlt (fun j hj=>?_)
       · rw [List.size_toArray,List.length_take,Array.length_toList,hcs];exact Nat.min_eq_left (Nat.mul_le_mul_right _ hle)
       · rw [getD_toArray,List.getD_eq_getElem?_getD,List.getElem?_take,if_pos hj]
         simp [Array.getD_eq_getD_getElem?]
end
def killR (κ:Nat) (ρ:Nat->AV):Nat->AV:=fun t=>(ρ t).kill κ
def ABlk.kill (κ:Nat):ABlk->ABlk
 | .cells cs=>.cells (AV.killL κ cs)
 | .typed t cs=>.typed t (AV.killL κ cs)
 | .row k es=>.row k es
 | .obj J=>.obj J
 | .map es=>.map es
 | .iter s pos=>.iter s pos
 | .buf e bs=>.buf e bs
def killH (κ:Nat):AHeap->AHeap
 | []=>[]
 | (i,b)::r=>(i,b.kill κ)::killH κ r
theorem hget_killH (κ:Nat) (H:AHeap) (j:Nat):hget (killH κ H) j=(hget H j).map (ABlk.kill κ):=by
 induction H with
 | nil=>rfl
 | cons x r ih=>
   obtain ⟨i,b⟩:=x
   by_cases h:i=j <;> simp [killH,hget,h,ih]
section
variable {w w':World} {M M':Nat->Prop} {L L':Locs} {H H':AHeap} {S:(List PV->Prop × PV)->Value->Prop}
theorem BRel.keepAll (hk:Keeps w M w' M') (hc:∀ key B,hget H key=some B->∃ B',hget H' key=some B'/\B.le B'/\L' key=L key/\(L key=none->B=B'))
 {key:Nat} {B:ABlk} (hb:∀ b cap,L key=some (b,cap)->w'.heap[b]?=w.heap[b]?) (hl:L' key=L key) (h:BRel w M L H S key B):BRel w' M' L' H' S key B:=by
 cases B with
 | cells cs=>
   obtain ⟨b,cap,arr,et,h1,h2,h3,h4⟩:=h
   exact ⟨b,cap,arr,et,hl.trans h1,by rw [hb b cap h1];exact h2,h3,fun j c hj=>(h4 j c hj).keep hk (fun _ _ h=>h) hc⟩
 | typed ty cs=>
   obtain ⟨b,cap,arr,h1,h2,h3,h4⟩:=h
   exact ⟨b,cap,arr,hl.trans h1,by rw [hb b cap h1];exact h2,h3,fun j c hj=>(h4 j c hj).keep hk (fun _ _ h=>h) hc⟩
 | row k es=>
   unfold BRel at h ⊢
   obtain ⟨h1,h2,h3⟩:=h
   refine ⟨h1,h2,?_⟩
   rw [hl]
   split at h3
   · exact h3
   · rename_i b cap hn
     obtain ⟨arr,et,e1,e2,e3,e4,e5⟩:=h3
     exact ⟨arr,et,by rw [hb b cap hn];exact e1,e2,e3,e4,fun i e j c hi hj=>⟨(e5 i e j c hi hj).1,(e5 i e j c hi hj).2.keep hk⟩⟩
 | obj J=>
   obtain ⟨cs,b,cap,arr,et,h0,h0',h1,h2,h3,h4⟩:=h
   exact ⟨cs,b,cap,arr,et,h0,h0',hl.trans h1,by rw [hb b cap h1];exact h2,h3,fun j c hj=>(h4 j c hj).keep hk⟩
 | buf e bs=>
   cases hn:L key with
   | none=>simp only [BRel,hn] at h;simp only [BRel,hl,hn];exact h
   | some bc=>
     obtain ⟨b,cap⟩:=bc
     simp only [BRel,hn] at h
     simp only [BRel,hl,hn]
     obtain ⟨arr,e1,e2⟩:=h
     exact ⟨arr,by rw [hb b cap hn];exact e1,e2⟩
 | iter s pos=>
   obtain ⟨b,cap,h1,h2⟩:=h
   exact ⟨b,cap,hl.trans h1,by rw [hb b cap h1];exact h2⟩
 | map es=>
   obtain ⟨b,cap,ents,clock,h1,h2,h3,h4⟩:=h
   exact ⟨b,cap,ents,clock,hl.trans h1,by rw [hb b cap h1];exact h2,h3,fun i p hp=>by
    obtain ⟨e,g1,g2,g3,g4,g5⟩:=h4 i p hp
    exact ⟨e,g1,g2,g3,g4.keep hk,g5.keep hk⟩⟩
theorem BRel.keepKill (κ:Nat) (hk:Keeps w M w' M') (hc:∀ key B,key≠κ->hget H key=some B->∃ B',hget H' key=some B'/\B.le B'/\L' key=L key/\(L key=none->B=B'))
 {key:Nat} {B:ABlk} (hb:∀ b cap,L key=some (b,cap)->w'.heap[b]?=w.heap[b]?) (hl:L' key=L key) (h:BRel w M L H S key B):BRel w' M' L' H' S key (B.kill κ):=by
 cases B with
 | cells cs=>
   obtain ⟨b,cap,arr,et,h1,h2,h3,h4⟩:=h
   refine ⟨b,cap,arr,et,hl.trans h1,by rw [hb b cap h1];exact h2,by simp [AV.killL_eq,h3],fun j c hj=>?_⟩
   rw [AV.killL_eq,List.getElem?_map] at hj
   obtain ⟨d,hd,rfl⟩:=Option.map_eq_some_iff.1 hj
   exact (h4 j d hd).keepKill κ hk (fun _ _ h=>h) hc
 | typed ty cs=>
   obtain ⟨b,cap,arr,h1,h2,h3,h4⟩:=h
   refine ⟨b,cap,arr,hl.trans h1,by rw [hb b cap h1];exact h2,by simp [AV.killL_eq,h3],fun j c hj=>?_⟩
   rw [AV.killL_eq,List.getElem?_map] at hj
   obtain ⟨d,hd,rfl⟩:=Option.map_eq_some_iff.1 hj
   exact (h4 j d hd).keepKill κ hk (fun _ _ h=>h) hc
 | row k es=>
   unfold BRel at h
   unfold ABlk.kill BRel
   obtain ⟨h1,h2,h3⟩:=h
   refine ⟨h1,h2,?_⟩
   rw [hl]
   split at h3
   · exact h3
   · rename_i b cap hn
     obtain ⟨arr,et,e1,e2,e3,e4,e5⟩:=h3
     exact ⟨arr,et,by rw [hb b cap hn];exact e1,e2,e3,e4,fun i e j c hi hj=>⟨(e5 i e j c hi hj).1,(e5 i e j c hi hj).2.keep hk⟩⟩
 | obj J=>
   obtain ⟨cs,b,cap,arr,et,h0,h0',h1,h2,h3,h4⟩:=h
   exact ⟨cs,b,cap,arr,et,h0,h0',hl.trans h1,by rw [hb b cap h1];exact h2,h3,fun j c hj=>(h4 j c hj).keep hk⟩
 | buf e bs=>
   cases hn:L key with
   | none=>simp only [BRel,hn] at h;simp only [ABlk.kill,BRel,hl,hn];exact h
   | some bc=>
     obtain ⟨b,cap⟩:=bc
     simp only [BRel,hn] at h
     simp only [ABlk.kill,BRel,hl,hn]
     obtain ⟨arr,e1,e2⟩:=h
     exact ⟨arr,by rw [hb b cap hn];exact e1,e2⟩
 | iter s pos=>
   obtain ⟨b,cap,h1,h2⟩:=h
   exact ⟨b,cap,hl.trans h1,by rw [hb b cap h1];exact h2⟩
 | map es=>
   obtain ⟨b,cap,ents,clock,h1,h2,h3,h4⟩:=h
   exact ⟨b,cap,ents,clock,hl.trans h1,by rw [hb b cap h1];exact h2,h3,fun i p hp=>by
    obtain ⟨e,g1,g2,g3,g4,g5⟩:=h4 i p hp
    exact ⟨e,g1,g2,g3,g4.keep hk,g5.keep hk⟩⟩
theorem ABlk.le_refl (B:ABlk):B.le B:=by cases B <;> simp [ABlk.le]
theorem ABlk.le_kill (κ:Nat) (B:ABlk):B.le (B.kill κ):=by cases B <;> simp [ABlk.le,ABlk.kill]
end
section
variable {G:Glob} {E:Base} {S:(List PV->Prop × PV)->Value->Prop} {N:Nat} {st:ASt} {a:Array Value} {w w':World} {L:Locs}
def locSet (L:Locs) (κ:Nat) (x:Option (Nat × Nat)):Locs:=fun k=>if k=κ then x else L k
theorem Rel.newBlock (h:Rel G E S N st a w L) {κ:Nat} (hκ:hget st.H κ=none) {B:ABlk} {arr:Array Value} {et:TypeId} {cap:Nat} {w1:World} (hw1:Ext NoB w w1) (hs:w1.heap.size=w.heap.size)
 (hB:∀ M' L' H',Keeps w (Mut E L st.H) (w1.alloc (.cells arr et)) M'->(∀ key B,hget st.H key=some B->∃ B',hget H' key=some B'/\B.le B'/\L' key=L key/\(L key=none->B=B'))->
   L' κ=some (w.heap.size,cap)->(w1.alloc (.cells arr et)).heap[w.heap.size]?=some (.cells arr et (0,0))->BRel (w1.alloc (.cells arr et)) M' L' H' S κ B):
 Rel G E S N { st with H:=hset st.H κ B } a (w1.alloc (.cells arr et)) (locSet L κ (some (w.heap.size,cap)))/\
  Keeps w (Mut E L st.H) (w1.alloc (.cells arr et)) (Mut E (locSet L κ (some (w.heap.size,cap))) (hset st.H κ B)):=by
 have hne:∀ key B,hget st.H key=some B->key≠κ:=fun key B hb e=>by rw [e,hκ] at hb;cases hb
 have hc:∀ key B0,hget st.H key=some B0->∃ B',hget (hset st.H κ B) key=some B'/\B0.le B'/\(locSet L κ (some (w.heap.size,cap))) key=L key/\(L key=none->B0=B'):=
  fun key B0 hb=>⟨B0,by rw [hget_hset_ne _ _ (Ne.symm (hne key B0 hb))];exact hb,ABlk.le_refl _,by simp [locSet,hne key B0 hb],fun _=>rfl⟩
 have hnew:(w1.alloc (.cells arr et)).heap[w.heap.size]?=some (.cells arr et (0,0)):=by rw [<- hs];exact heap_alloc_new w1 _
 have hold:∀ b,b<w.heap.size->(w1.alloc (.cells arr et)).heap[b]?=w.heap[b]?:=fun b hb=>by
  rw [heap_alloc_old w1 _ (by omega:b<w1.heap.size)];exact hw1.block b hb id
 have hMut:∀ b,Mut E (locSet L κ (some (w.heap.size,cap))) (hset st.H κ B) b->Mut E L st.H b\/b=w.heap.size:=by
  intro b hb
  rcases hb with hb | ⟨key,B0,c0,h1,h2⟩
  · exact .inl (.inl hb)
  · by_cases e:key=κ
    · subst e
      simp only [locSet,if_true,Option.some.injEq,Prod.mk.injEq] at h2
      exact .inr h2.1.symm
    · rw [hget_hset_ne _ _ (Ne.symm e)] at h1
      simp only [locSet,e,if_false] at h2
      exact .inl (.inr ⟨key,B0,c0,h1,h2⟩)
 have hk:Keeps w (Mut E L st.H) (w1.alloc (.cells arr et)) (Mut E (locSet L κ (some (w.heap.size,cap))) (hset st.H κ B)):=fun b hb hm=>
  ⟨hold b hb,fun hm'=>(hMut b hm').elim hm (fun e=>by omega)⟩
 have hext:Ext NoB w (w1.alloc (.cells arr et)):=hw1.trans ⟨rfl,rfl,rfl,by simp,fun b hb _=>heap_alloc_old w1 _ hb,fun a _ _=>frozen_alloc _ _ _ _⟩
 refine ⟨{ size:=h.size,ext:=h.ext.trans hext.of_nob,glob:=h.glob,old:=h.old,m0:=h.m0,inv:=?_,own:=?_,inj:=?_,blk:=?_,env:=?_,fix:=?_ },hk⟩
 · exact G.stable w _ h.inv (fun b hb=>hold b (Nat.lt_of_lt_of_le hb (Nat.le_trans h.glob h.ext.size))) hext.size
 · intro key B0 b c0 h1 h2
   by_cases e:key=κ
   · subst e
     simp only [locSet,if_true,Option.some.injEq,Prod.mk.injEq] at h2
     have hsz:=h.ext.size
     refine ⟨fun hx=>?_,?_,.inr ?_⟩
     · have:=(h.old b hx).1;omega
     · have:=h.glob;omega
     · omega
   · simp only [hget_hset_ne _ _ (Ne.symm e)] at h1
     simp only [locSet,e,if_false] at h2
     exact h.own key B0 b c0 h1 h2
 · intro k1 k2 B1 B2 b c1 c2 h1 h2 h3 h4
   have old_lt:∀ k B0 c0,hget st.H k=some B0->L k=some (b,c0)->b<w.heap.size:=fun k B0 c0 g1 g2=>h.mut_lt (.inr ⟨k,B0,c0,g1,g2⟩)
   by_cases e1:k1=κ <;> by_cases e2:k2=κ
   · rw [e1,e2]
   · simp only [hget_hset_ne _ _ (Ne.symm e2)] at h2
     simp only [locSet,e1,e2,if_false,if_true,Option.some.injEq,Prod.mk.injEq] at h3 h4
     have:=old_lt k2 B2 c2 h2 h4;omega
   · simp only [hget_hset_ne _ _ (Ne.symm e1)] at h1
     simp only [locSet,e1,e2,if_false,if_true,Option.some.injEq,Prod.mk.injEq] at h3 h4
     have:=old_lt k1 B1 c1 h1 h3;omega
   · simp only [hget_hset_ne _ _ (Ne.symm e1)] at h1
     simp only [hget_hset_ne _ _ (Ne.symm e2)] at h2
     simp only [locSet,e1,e2,if_false] at h3 h4
     exact h.inj k1 k2 B1 B2 b c1 c2 h1 h2 h3 h4
 · intro key B0 hb
   by_cases e:key=κ
   · subst e
     simp only [hget_hset_same,Option.some.injEq] at hb
     subst hb
     exact hB _ _ _ hk hc (by simp [locSet]) hnew
   · simp only [hget_hset_ne _ _ (Ne.symm e)] at hb
     exact (h.blk key B0 hb).keepAll hk hc (fun b cap' hl=>hold b (h.mut_lt (.inr ⟨key,B0,cap',hb,hl⟩))) (by simp [locSet,e])
 · intro s
   exact (h.env s).keep hk (fun _ _ h=>h) hc
 · intro k b c hl
   obtain ⟨h1,B0,h2⟩:=h.fix k b c hl
   have e:=hne k B0 h2
   exact ⟨by simp [locSet,e,h1],B0,by rw [hget_hset_ne _ _ (Ne.symm e)];exact h2⟩
theorem Rel.writeBlock' (h:Rel G E S N st a w L) {κ b cap:Nat} {B B':ABlk} (hκ:hget st.H κ=some B) (hl:L κ=some (b,cap)) (hle:B.le B')
 (hw:∀ k,k≠b->w'.heap[k]?=w.heap[k]?) (hsz:w'.heap.size=w.heap.size) (hos:w'.os=w.os) (htp:w'.tape=w.tape) (hout:w'.output=w.output)
 (hB:∀ M' H',Keeps w (Mut E L st.H) w' M'->(∀ key B,hget st.H key=some B->∃ B',hget H' key=some B'/\B.le B'/\L key=L key/\(L key=none->B=B'))->BRel w' M' L H' S κ B'):
 Rel G E S N { st with H:=hset st.H κ B' } a w' L:=by
 have hc:∀ key B0,hget st.H key=some B0->∃ B1,hget (hset st.H κ B') key=some B1/\B0.le B1/\L key=L key/\(L key=none->B0=B1):=by
  intro key B0 hb
  by_cases e:key=κ
  · subst e
    rw [hκ] at hb
    simp only [Option.some.injEq] at hb
    subst hb
    exact ⟨B',hget_hset_same _ _ _,hle,rfl,fun hn=>by rw [hl] at hn;cases hn⟩
  · exact ⟨B0,by rw [hget_hset_ne _ _ (Ne.symm e)];exact hb,ABlk.le_refl _,rfl,fun _=>rfl⟩
 have hb0:Own L st.H b:=⟨κ,B,cap,hκ,hl⟩
 have hMut:∀ x,Mut E L (hset st.H κ B') x->Mut E L st.H x:=by
  intro x hx
  rcases hx with hx | ⟨key,B0,c0,h1,h2⟩
  · exact .inl hx
  · by_cases e:key=κ
    · subst e;exact .inr ⟨key,B,c0,hκ,h2⟩
    · rw [hget_hset_ne _ _ (Ne.symm e)] at h1;exact .inr ⟨key,B0,c0,h1,h2⟩
 have hk:Keeps w (Mut E L st.H) w' (Mut E L (hset st.H κ B')):=fun x hx hm=>⟨hw x (fun e=>hm (by rw [e];exact .inr hb0)),fun hm'=>hm (hMut x hm')⟩
 have hown:=h.own κ B b cap hκ hl
 refine { size:=h.size,ext:=?_,glob:=h.glob,old:=h.old,m0:=h.m0,inv:=?_,own:=?_,inj:=?_,blk:=?_,env:=?_,fix:=?_ }
 · refine h.ext.trans' (M':=fun x=>x=b) (.of hos htp hout (by omega) (fun x hx hn=>hw x hn)) (fun x hx=>?_)
   have hx:x=b:=hx
   subst hx
   exact hown.2.2
 · exact G.stable w w' h.inv (fun x hx=>hw x (by have:=hown.2.1;omega)) (by omega)
 · intro key B0 x c0 h1 h2
   by_cases e:key=κ
   · subst e;exact h.own key B x c0 hκ h2
   · simp only [hget_hset_ne _ _ (Ne.symm e)] at h1;exact h.own key B0 x c0 h1 h2
 · intro k1 k2 B1 B2 x c1 c2 h1 h2 h3 h4
   have get:∀ k B0,hget (hset st.H κ B') k=some B0->∃ B1,hget st.H k=some B1:=fun k B0 hg=>by
    by_cases e:k=κ
    · subst e;exact ⟨B,hκ⟩
    · rw [hget_hset_ne _ _ (Ne.symm e)] at hg;exact ⟨B0,hg⟩
   obtain ⟨B1',h1'⟩:=get k1 B1 h1
   obtain ⟨B2',h2'⟩:=get k2 B2 h2
   exact h.inj k1 k2 B1' B2' x c1 c2 h1' h2' h3 h4
 · intro key B0 hb
   by_cases e:key=κ
   · subst e
     simp only [hget_hset_same,Option.some.injEq] at hb
     subst hb
     exact hB _ _ hk hc
   · simp only [hget_hset_ne _ _ (Ne.symm e)] at hb
     exact (h.blk key B0 hb).keepAll hk hc (fun x cap' hl'=>hw x (fun ex=>e (by subst ex;exact h.inj key κ B0 B x cap' cap hb hκ hl' hl))) rfl
 · intro s
   exact (h.env s).keep hk (fun _ _ h=>h) hc
 · intro k b0 c0 hl0
   obtain ⟨h1,B0,h2⟩:=h.fix k b0 c0 hl0
   obtain ⟨B1,h4,h5,_⟩:=hc k B0 h2
   exact ⟨h1,B1,h4⟩
theorem Rel.writeBlock (h:Rel G E S N st a w L) {κ b cap:Nat} {B B':ABlk} (hκ:hget st.H κ=some B) (hl:L κ=some (b,cap)) (hle:B.le B')
 (hw:∀ k,k≠b->w'.heap[k]?=w.heap[k]?) (hsz:w'.heap.size=w.heap.size) (hos:w'.os=w.os) (htp:w'.tape=w.tape) (hout:w'.output=w.output) (hfz:∀ a:Addr,w'.frozen? a=w.frozen? a)
 (hB:∀ M' H',Keeps w (Mut E L st.H) w' M'->(∀ key B,hget st.H key=some B->∃ B',hget H' key=some B'/\B.le B'/\L key=L key/\(L key=none->B=B'))->BRel w' M' L H' S κ B'):
 Rel G E S N { st with H:=hset st.H κ B' } a w' L:=
 h.writeBlock' hκ hl hle hw hsz hos htp hout hB
theorem Rel.turnBlock' (h:Rel G E S N st a w L) {κ:Nat} {B B':ABlk} (hκ:hget st.H κ=some B) (hL0:E.L0 κ=none) {x:Option (Nat × Nat)}
 (hw:∀ k,k<w.heap.size->(∀ b cap,L κ=some (b,cap)->k≠b)->w'.heap[k]?=w.heap[k]?) (hsz:w.heap.size<=w'.heap.size) (hos:w'.os=w.os) (htp:w'.tape=w.tape) (hout:w'.output=w.output)
 (hx:∀ b cap,x=some (b,cap)->(∃ cap',L κ=some (b,cap'))\/w.heap.size<=b)
 (hB:∀ M' L' H',Keeps w (Mut E L st.H) w' M'->(∀ key B,key≠κ->hget st.H key=some B->∃ B',hget H' key=some B'/\B.le B'/\L' key=L key/\(L key=none->B=B'))->L' κ=x->BRel w' M' L' H' S κ B'):
 Rel G E S N { ρ:=killR κ st.ρ,H:=hset (killH κ st.H) κ B' } a w' (locSet L κ x)/\
  Keeps w (Mut E L st.H) w' (Mut E (locSet L κ x) (hset (killH κ st.H) κ B')):=by
 have hgetK:∀ key B0,key≠κ->hget (hset (killH κ st.H) κ B') key=some B0->∃ B1,hget st.H key=some B1/\B0=B1.kill κ:=by
  intro key B0 e hb
  rw [hget_hset_ne _ _ (Ne.symm e),hget_killH] at hb
  obtain ⟨B1,h1,h2⟩:=Option.map_eq_some_iff.1 hb
  exact ⟨B1,h1,h2.symm⟩
 have hnoneRow:∀ key B0,hget st.H key=some B0->L key=none->B0=B0.kill κ:=by
  intro key B0 hb hn
  cases B0 with
  | cells cs=>obtain ⟨b,cap,arr,et,h1,_⟩:=h.blk key _ hb;rw [hn] at h1;cases h1
  | typed ty cs=>obtain ⟨b,cap,arr,h1,_⟩:=h.blk key _ hb;rw [hn] at h1;cases h1
  | row=>rfl
  | obj J=>rfl
  | map es=>rfl
  | iter s pos=>rfl
  | buf e bs=>rfl
 have hc:∀ key B0,key≠κ->hget st.H key=some B0->∃ B1,hget (hset (killH κ st.H) κ B') key=some B1/\B0.le B1/\(locSet L κ x) key=L key/\(L key=none->B0=B1):=by
  intro key B0 e hb
  exact ⟨B0.kill κ,by rw [hget_hset_ne _ _ (Ne.symm e),hget_killH,hb];rfl,ABlk.le_kill _ _,by simp [locSet,e],fun hn=>hnoneRow key B0 hb hn⟩
 have hMut:∀ y,Mut E (locSet L κ x) (hset (killH κ st.H) κ B') y->Mut E L st.H y\/w.heap.size<=y:=by
  intro y hy
  rcases hy with hy | ⟨key,B0,c0,h1,h2⟩
  · exact .inl (.inl hy)
  · by_cases e:key=κ
    · subst e
      simp only [locSet,if_true] at h2
      rcases hx y c0 h2 with ⟨cap',h3⟩ | h3
      · exact .inl (.inr ⟨key,B,cap',hκ,h3⟩)
      · exact .inr h3
    · obtain ⟨B1,h3,_⟩:=hgetK key B0 e h1
      simp only [locSet,e,if_false] at h2
      exact .inl (.inr ⟨key,B1,c0,h3,h2⟩)
 have hk:Keeps w (Mut E L st.H) w' (Mut E (locSet L κ x) (hset (killH κ st.H) κ B')):=fun y hy hm=>
  ⟨hw y hy (fun b cap hl e=>hm (by rw [e];exact .inr ⟨κ,B,cap,hκ,hl⟩)),fun hm'=>(hMut y hm').elim hm (fun e=>by omega)⟩
 refine ⟨{ size:=h.size,ext:=?_,glob:=h.glob,old:=h.old,m0:=h.m0,inv:=?_,own:=?_,inj:=?_,blk:=?_,env:=?_,fix:=?_ },hk⟩
 · refine h.ext.trans' (M':=fun y=>∃ cap,L κ=some (y,cap)) (.of hos htp hout (hsz) (fun y hy hn=>hw y hy (fun b cap hl e=>hn ⟨cap,by rw [e];exact hl⟩))) (fun y hy=>?_)
   obtain ⟨cap,hy⟩:=hy
   exact (h.own κ B y cap hκ hy).2.2
 · refine G.stable w w' h.inv (fun y hy=>hw y (Nat.lt_of_lt_of_le hy (Nat.le_trans h.glob h.ext.size)) (fun b cap hl e=>?_)) hsz
   have:=(h.own κ B b cap hκ hl).2.1
   omega
 · intro key B0 y c0 h1 h2
   by_cases e:key=κ
   · subst e
     simp only [locSet,if_true] at h2
     rcases hx y c0 h2 with ⟨cap',h3⟩ | h3
     · exact h.own key B y cap' hκ h3
     · have:=h.ext.size;have:=h.glob
       exact ⟨fun hX=>by have:=(h.old y hX).1;omega,by omega,.inr (by omega)⟩
   · obtain ⟨B1,h3,_⟩:=hgetK key B0 e h1
     simp only [locSet,e,if_false] at h2
     exact h.own key B1 y c0 h3 h2
 · intro k1 k2 B1 B2 y c1 c2 h1 h2 h3 h4
   have old_lt:∀ k B0 c0,hget st.H k=some B0->L k=some (y,c0)->y<w.heap.size:=fun k B0 c0 g1 g2=>h.mut_lt (.inr ⟨k,B0,c0,g1,g2⟩)
   by_cases e1:k1=κ <;> by_cases e2:k2=κ
   · rw [e1,e2]
   · obtain ⟨B2',h2',_⟩:=hgetK k2 B2 e2 h2
     simp only [locSet,e1,e2,if_false,if_true] at h3 h4
     rcases hx y c1 h3 with ⟨cap',h5⟩ | h5
     · rw [e1];exact h.inj κ k2 B B2' y cap' c2 hκ h2' h5 h4
     · have:=old_lt k2 B2' c2 h2' h4;omega
   · obtain ⟨B1',h1',_⟩:=hgetK k1 B1 e1 h1
     simp only [locSet,e1,e2,if_false,if_true] at h3 h4
     rcases hx y c2 h4 with ⟨cap',h5⟩ | h5
     · rw [e2];exact h.inj k1 κ B1' B y c1 cap' h1' hκ h3 h5
     · have:=old_lt k1 B1' c1 h1' h3;omega
   · obtain ⟨B1',h1',_⟩:=hgetK k1 B1 e1 h1
     obtain ⟨B2',h2',_⟩:=hgetK k2 B2 e2 h2
     simp only [locSet,e1,e2,if_false] at h3 h4
     exact h.inj k1 k2 B1' B2' y c1 c2 h1' h2' h3 h4
 · intro key B0 hb
   by_cases e:key=κ
   · subst e
     simp only [hget_hset_same,Option.some.injEq] at hb
     subst hb
     exact hB _ _ _ hk hc (by simp [locSet])
   · obtain ⟨B1,h3,rfl⟩:=hgetK key B0 e hb
     refine (h.blk key B1 h3).keepKill κ hk hc (fun y cap' hl'=>?_) (by simp [locSet,e])
     refine hw y (h.mut_lt (.inr ⟨key,B1,cap',h3,hl'⟩)) (fun b cap hl ey=>e ?_)
     subst ey
     exact h.inj key κ B1 B y cap' cap h3 hκ hl' hl
 · intro s
   exact (h.env s).keepKill κ hk (fun _ _ h=>h) hc
 · intro k b0 c0 hl0
   obtain ⟨h1,B0,h2⟩:=h.fix k b0 c0 hl0
   have e:k≠κ:=fun e=>by subst e;rw [hL0] at hl0;cases hl0
   obtain ⟨B1,h4,h5,_⟩:=hc k B0 e h2
   exact ⟨by simp [locSet,e,h1],B1,h4⟩
theorem Rel.turnBlock (h:Rel G E S N st a w L) {κ:Nat} {B B':ABlk} (hκ:hget st.H κ=some B) (hL0:E.L0 κ=none) {x:Option (Nat × Nat)}
 (hw:∀ k,k<w.heap.size->(∀ b cap,L κ=some (b,cap)->k≠b)->w'.heap[k]?=w.heap[k]?) (hsz:w.heap.size<=w'.heap.size) (hos:w'.os=w.os) (htp:w'.tape=w.tape) (hout:w'.output=w.output) (hfz:∀ a:Addr,w'.frozen? a=w.frozen? a)
 (hx:∀ b cap,x=some (b,cap)->(∃ cap',L κ=some (b,cap'))\/w.heap.size<=b)
 (hB:∀ M' L' H',Keeps w (Mut E L st.H) w' M'->(∀ key B,key≠κ->hget st.H key=some B->∃ B',hget H' key=some B'/\B.le B'/\L' key=L key/\(L key=none->B=B'))->L' κ=x->BRel w' M' L' H' S κ B'):
 Rel G E S N { ρ:=killR κ st.ρ,H:=hset (killH κ st.H) κ B' } a w' (locSet L κ x)/\
  Keeps w (Mut E L st.H) w' (Mut E (locSet L κ x) (hset (killH κ st.H) κ B')):=
 h.turnBlock' hκ hL0 hw hsz hos htp hout hx hB
end
section
variable {G:Glob} {E:Base} {S:(List PV->Prop × PV)->Value->Prop} {N:Nat} {st:ASt} {a:Array Value} {w w':World} {L:Locs}
theorem Rel.newBlockAt (h:Rel G E S N st a w L) {κ:Nat} (hκ:hget st.H κ=none) {B:ABlk} {b cap:Nat} (he:Ext NoB w w') (hb:w.heap.size<=b)
 (hB:∀ M' L' H',(∀ x,M' x->Mut E L st.H x\/x=b)->L' κ=some (b,cap)->BRel w' M' L' H' S κ B):
 Rel G E S N { st with H:=hset st.H κ B } a w' (locSet L κ (some (b,cap))):=by
 have hne:∀ key B,hget st.H key=some B->key≠κ:=fun key B hb e=>by rw [e,hκ] at hb;cases hb
 have hc:∀ key B0,hget st.H key=some B0->∃ B',hget (hset st.H κ B) key=some B'/\B0.le B'/\(locSet L κ (some (b,cap))) key=L key/\(L key=none->B0=B'):=
  fun key B0 hb=>⟨B0,by rw [hget_hset_ne _ _ (Ne.symm (hne key B0 hb))];exact hb,ABlk.le_refl _,by simp [locSet,hne key B0 hb],fun _=>rfl⟩
 have hMut:∀ x,Mut E (locSet L κ (some (b,cap))) (hset st.H κ B) x->Mut E L st.H x\/x=b:=by
  intro x hx
  rcases hx with hx | ⟨key,B0,c0,h1,h2⟩
  · exact .inl (.inl hx)
  · by_cases e:key=κ
    · subst e
      simp only [locSet,if_true,Option.some.injEq,Prod.mk.injEq] at h2
      exact .inr h2.1.symm
    · rw [hget_hset_ne _ _ (Ne.symm e)] at h1
      simp only [locSet,e,if_false] at h2
      exact .inl (.inr ⟨key,B0,c0,h1,h2⟩)
 have hk:Keeps w (Mut E L st.H) w' (Mut E (locSet L κ (some (b,cap))) (hset st.H κ B)):=fun x hx hm=>
  ⟨he.block x hx id,fun hm'=>(hMut x hm').elim hm (fun e=>by omega)⟩
 have hsz:=h.ext.size
 refine ⟨h.size,h.ext.trans he.of_nob,G.stable w _ h.inv (fun x hx=>he.block x (Nat.lt_of_lt_of_le hx (Nat.le_trans h.glob h.ext.size)) id) he.size,h.glob,h.old,h.m0,?_,?_,?_,?_,?_⟩
 · intro key B0 x c0 h1 h2
   by_cases e:key=κ
   · subst e
     simp only [locSet,if_true,Option.some.injEq,Prod.mk.injEq] at h2
     refine ⟨fun hx=>?_,?_,.inr ?_⟩
     · have:=(h.old x hx).1;omega
     · have:=h.glob;omega
     · omega
   · simp only [hget_hset_ne _ _ (Ne.symm e)] at h1
     simp only [locSet,e,if_false] at h2
     exact h.own key B0 x c0 h1 h2
 · intro k1 k2 B1 B2 x c1 c2 h1 h2 h3 h4
   have old_lt:∀ k B0 c0,hget st.H k=some B0->L k=some (x,c0)->x<w.heap.size:=fun k B0 c0 g1 g2=>h.mut_lt (.inr ⟨k,B0,c0,g1,g2⟩)
   by_cases e1:k1=κ <;> by_cases e2:k2=κ
   · rw [e1,e2]
   · simp only [hget_hset_ne _ _ (Ne.symm e2)] at h2
     simp only [locSet,e1,e2,if_false,if_true,Option.some.injEq,Prod.mk.injEq] at h3 h4
     have:=old_lt k2 B2 c2 h2 h4;omega
   · simp only [hget_hset_ne _ _ (Ne.symm e1)] at h1
     simp only [locSet,e1,e2,if_false,if_true,Option.some.injEq,Prod.mk.injEq] at h3 h4
     have:=old_lt k1 B1 c1 h1 h3;omega
   · simp only [hget_hset_ne _ _ (Ne.symm e1)] at h1
     simp only [hget_hset_ne _ _ (Ne.symm e2)] at h2
     simp only [locSet,e1,e2,if_false] at h3 h4
     exact h.inj k1 k2 B1 B2 x c1 c2 h1 h2 h3 h4
 · intro key B0 hb0
   by_cases e:key=κ
   · subst e
     simp only [hget_hset_same,Option.some.injEq] at hb0
     subst hb0
     exact hB _ _ _ hMut (by simp [locSet])
   · simp only [hget_hset_ne _ _ (Ne.symm e)] at hb0
     exact (h.blk key B0 hb0).keepAll hk hc (fun x cap' hl=>he.block x (h.mut_lt (.inr ⟨key,B0,cap',hb0,hl⟩)) id) (by simp [locSet,e])
 · intro s
   exact (h.env s).keep hk (fun _ _ h=>h) hc
 · intro k x c hl
   obtain ⟨h1,B0,h2⟩:=h.fix k x c hl
   have e:=hne k B0 h2
   exact ⟨by simp [locSet,e,h1],B0,by rw [hget_hset_ne _ _ (Ne.symm e)];exact h2⟩
end
def putD (N:Nat) (st:ASt) (d:Option Tmp) (v:AV) (K:ASt->Prop):Prop:=
 match d with
 | none=>K st
 | some d=>d<N/\K { st with ρ:=upd st.ρ d v }
def newB (N:Nat) (st:ASt) (d:Option Tmp) (B:ABlk) (v:Nat->AV) (K:ASt->Prop):Prop:=
 match d with
 | none=>False
 | some d=>hget st.H d=none/\d<N/\K { ρ:=upd st.ρ d (v d),H:=hset st.H d B }
def zeroP (z:Value):PV:=frz [] 2 (ofV z)
def putP:Nat->List PV->List PV->List PV
 | _,[],cs=>cs
 | off,v::vs,cs=>putP (off+1) vs (cs.set off v)
def isSliceOrStr (d:Option TypeDesc):Bool:=isSliceD d||isStrD d
def storeA (C:Ctx) (st:ASt) (t:TypeId) (x v:AV) (K:ASt->Prop):Prop:=
 match x,szOf C.P t with
 | .ptr key off,some n=>match hget st.H key with
   | some (.cells cs)=>(cellsA v).length=n/\off+n<=cs.length/\(cellsA v).all AV.one=true/\K { st with H:=hset st.H key (.cells (putL off (cellsA v) cs)) }
   | _=>False
 | .rp key i off,some n=>match hget st.H key with
   | some (.row k es)=>v.free=true/\frzOk st.H 4 v/\(frz st.H 4 v).cells.length=n/\off+n<=k/\i<es.length/\(frz st.H 4 v).cells.all PV.one=true/\
       K { st with H:=hset st.H key (.row k (es.set i (boxP (putP off (frz st.H 4 v).cells (PV.nth es i).cells)))) }
   | _=>False
 | _,_=>False
def notIn (κ:Nat):List Nat->Prop
 | []=>True
 | x::r=>κ≠x/\notIn κ r
theorem notIn_mem {κ:Nat}:∀ {l:List Nat},notIn κ l->¬ κ∈l
 | [],_,h=>by cases h
 | x::r,h,hm=>by
   rcases List.mem_cons.1 hm with e | hm
   · exact h.1 e
   · exact notIn_mem h.2 hm
def appendA (C:Ctx) (st:ASt) (d:Option Tmp) (t tx:TypeId) (s x:AV) (K:ASt->Prop):Prop:=
 match C.P.underlying t,srcA st.H x with
 | some (.slice e),some es2=>match szOf C.P e,bytesT C.P e,zeroT C.P e with
   | some k,some by',some z=>0<k/\z.cells.size=k/\isSliceOrStr (C.P.underlying tx)=true/\allW k es2/\(match s with
     | .nils=>es2.length * by'<=140737488355328/\es2.length<=maxLen/\newB C.N st d (.row k es2) (fun d=>.rs d es2.length) K
     | .rs key hi=>match hget st.H key,d with
       | some (.row k' es),some d=>notIn key C.pins/\k'=k/\hi<=es.length/\(hi+es2.length) * by'<=140737488355328/\hi+es2.length<=maxLen/\d<C.N/\
           K { ρ:=upd (killR key st.ρ) d (.rs key (hi+es2.length)),H:=hset (killH key st.H) key (.row k (es.take hi++es2)) }
       | _,_=>False
     | _=>False)
   | _,_,_=>False
 | _,_=>False
def makeA (C:Ctx) (st:ASt) (d:Option Tmp) (t:TypeId) (l c:AV) (K:ASt->Prop):Prop:=
 match C.P.underlying t,l,c with
 | some (.slice e),.pv (.int _ n),.pv (.int _ m)=>match szOf C.P e,bytesT C.P e,zeroT C.P e with
   | some k,some by',some z=>0<k/\z.cells.size=k/\0<=n/\n<=m/\m * by'<=281474976710656/\m<=9223372036854775807/\frzOk [] 2 (ofV z)/\(cellsA (ofV z)).all AV.one=true/\(zeroP z).width=k/\(zeroP z).cells.all PV.one=true/\
       newB C.N st d (.row k (List.replicate n.toNat (zeroP z))) (fun d=>.rs d n.toNat) K
   | _,_,_=>False
 | _,_,_=>False
def nextA (C:Ctx) (st:ASt) (d:Option Tmp) (x:AV) (K:ASt->Prop):Prop:=
 match x with
 | .it key=>match hget st.H key with
   | some (.iter s pos)=>(decide (pos<s.length)=true->putD C.N { st with H:=hset st.H key (.iter s (pos+(Utf8.decode ⟨s.toArray⟩ pos).2)) } d (.pv (.tup [.bool true,.int .i64 pos,.int .i32 (Utf8.decode ⟨s.toArray⟩ pos).1])) K)/\
       (decide (pos<s.length)=false->putD C.N st d (.pv (.tup [.bool false])) K)
   | _=>False
 | _=>False
def rangeA (C:Ctx) (st:ASt) (d:Option Tmp) (t:TypeId) (x:AV) (K:ASt->Prop):Prop:=
 match C.P.underlying t,x with
 | some .string,.pv (.str s)=>newB C.N st d (.iter s 0) (fun d=>.it d) K
 | _,_=>False
def mapA (C:Ctx) (st:ASt) (t:TypeId) (m k v:AV) (K:ASt->Prop):Prop:=
 match C.P.underlying t,m,packK k with
 | some (.map kt _),.mp key,.pv kp=>match hget st.H key with
   | some (.map es)=>keyOkB C.P kt kp=true/\(∀ p,p∈es->keyOkB C.P kt p.1=true)/\v.free=true/\frzOk st.H 4 v/\(frz st.H 4 v).one=true/\
       K { st with H:=hset st.H key (.map (mput kp (frz st.H 4 v) es)) }
   | _=>False
 | _,_,_=>False
def delA (C:Ctx) (st:ASt) (d:Option Tmp) (t:TypeId) (m k:AV) (K:ASt->Prop):Prop:=
 match C.P.underlying t,m,packK k with
 | some (.map kt _),.mp key,.pv kp=>match hget st.H key with
   | some (.map es)=>keyOkB C.P kt kp=true/\(∀ p,p∈es->keyOkB C.P kt p.1=true)/\
       putD C.N { st with H:=hset st.H key (.map (mdel kp es)) } d (.pv (.tup [])) K
   | _=>False
 | _,_,_=>False
def clrA (C:Ctx) (st:ASt) (d:Option Tmp) (t:TypeId) (x:AV) (K:ASt->Prop):Prop:=
 match C.P.underlying t,x with
 | some (.slice e),.rv key lo hi sz=>match hget st.H key,szOf C.P e,zeroT C.P e with
   | some (.row k es),some k',some z=>k'=k/\sz=k/\z.cells.size=k/\hi<=es.length/\frzOk [] 2 (ofV z)/\(zeroP z).width=k/\(zeroP z).cells.all PV.one=true/\
       putD C.N { st with H:=hset st.H key (.row k (es.take lo++List.replicate (hi-lo) (zeroP z)++es.drop hi)) } d (.pv (.tup [])) K
   | _,_,_=>False
 | _,_=>False
def aopE (C:Ctx) (o:Oper) (st:ASt) (K:ASt->Prop):Prop:=
 match o.op with
 | .alloc t=>match zeroT C.P t with
   | some z=>(cellsA (ofV z)).all AV.one=true/\newB C.N st o.dst (.cells (cellsA (ofV z))) (fun d=>.ptr d 0) K
   | none=>False
 | .box _ x=>oc st.ρ x/\(cellsA (ox st.ρ x)).all AV.one=true/\newB C.N st o.dst (.cells (cellsA (ox st.ρ x))) (fun d=>.ptr d 0) K
 | .makeSlice t l c=>oc st.ρ l/\oc st.ρ c/\makeA C st o.dst t (ox st.ρ l) (ox st.ρ c) K
 | .store t x v=>oc st.ρ x/\oc st.ρ v/\o.dst=none/\storeA C st t (ox st.ρ x) (ox st.ρ v) K
 | .range t x=>oc st.ρ x/\rangeA C st o.dst t (ox st.ρ x) K
 | .next x true=>oc st.ρ x/\nextA C st o.dst (ox st.ρ x) K
 | .makeMap _ none=>newB C.N st o.dst (.map []) (fun d=>.mp d) K
 | .mapUpdate t m k v=>oc st.ρ m/\oc st.ρ k/\oc st.ρ v/\o.dst=none/\mapA C st t (ox st.ρ m) (ox st.ρ k) (ox st.ρ v) K
 | .call { callee:=.builtin .delete,args,argTypes }=>match args.toList,argTypes.toList with
   | [m,k],t::_=>oc st.ρ m/\oc st.ρ k/\delA C st o.dst t (ox st.ρ m) (ox st.ρ k) K
   | _,_=>False
 | .call { callee:=.builtin .clear,args,argTypes }=>match args.toList,argTypes.toList with
   | [x],[t]=>oc st.ρ x/\clrA C st o.dst t (ox st.ρ x) K
   | _,_=>False
 | .call { callee:=.builtin .append,args,argTypes }=>match args.toList,argTypes.toList with
   | [s,x],[t,tx]=>oc st.ρ s/\oc st.ρ x/\appendA C st o.dst t tx (ox st.ρ s) (ox st.ρ x) K
   | _,_=>False
 | .call { callee:=.value f,args, .. }=>match calleeA (ox st.ρ f) with
   | some (g,caps)=>match C.Ψ g with
     | some ψ=>oc st.ρ f/\allC st.ρ args.toList/\ψ (o.dst.getD 0) (args.toList.map (ox st.ρ)++caps) st (fun r st'=>putD C.N st' o.dst r K)
     | none=>(aopP C st.ρ st.H o.op).1/\putD C.N st o.dst (aopP C st.ρ st.H o.op).2 K
   | none=>(aopP C st.ρ st.H o.op).1/\putD C.N st o.dst (aopP C st.ρ st.H o.op).2 K
 | _=>(aopP C st.ρ st.H o.op).1/\putD C.N st o.dst (aopP C st.ρ st.H o.op).2 K
def ESound (G:Glob) (f:FuncId) (ψ:ESpec):Prop:=
 ∀ (d:Nat) (args:List AV) (st:ASt) (K:AV->ASt->Prop),ψ d args st K->Enterable G.P f/\
  ∀ (E:Base) (N:Nat) (a:Array Value) (w:World) (L:Locs) (xs:List Value),Rel G E (OpqS G E) N st a w L->LRel w (Mut E L st.H) L st.H (OpqS G E) args xs->(∀ κ,(E.L0 κ).isSome=true->κ<1000000)->
   Calls G.P f xs.toArray w (fun e w'=>∃ v r st' L',e=.returned v/\K r st'/\Rel G E (OpqS G E) N st' a w' L'/\AVRel w' (Mut E L' st'.H) L' st'.H (OpqS G E) r v)
structure TabsSound (G:Glob) (C:Ctx):Prop where
 prog:C.P=G.P
 pure:TabSound G C.Φ
 eff:∀ f ψ,C.Ψ f=some ψ->ESound G f ψ
 pinsLt:∀ κ,κ∈C.pins->κ<1000000
section
variable {w:World} {M:Nat->Prop} {L:Locs} {H:AHeap} {S:(List PV->Prop × PV)->Value->Prop} {P:Program}
theorem oneA_of_rel {c:AV} {v:Value} (h1:c.one=true) (h:AVRel w M L H S c v):v.oneCell'=true:=by
 cases c <;> simp only [AV.one] at h1 <;> try (cases h1;done)
 case pv p=>exact one_of_rel h1 (pv_inv h)
 all_goals (cases h <;> first | rfl | assumption)
theorem LRel.ones {vs:List AV} {xs:List Value} (h:LRel w M L H S vs xs) (ho:vs.all AV.one=true):∀ x,x∈xs->x.oneCell'=true:=by
 induction h with
 | nil=>intro x hx;simp at hx
 | cons v x vs xs h1 _ ih=>
   simp only [List.all_cons,Bool.and_eq_true] at ho
   intro y hy
   rcases List.mem_cons.1 hy with rfl | hy
   · exact oneA_of_rel ho.1 h1
   · exact ih ho.2 y hy
theorem putA_get:∀ (xs:List Value) (off:Nat) (arr:Array Value) (j:Nat),off+xs.length<=arr.size->(putA off xs arr)[j]?=if off<=j/\j<off+xs.length then xs[j-off]? else arr[j]?
 | [],off,arr,j,_=>by simp [putA];omega
 | x::xs,off,arr,j,h=>by
   simp only [List.length_cons] at h
   rw [putA,putA_get xs (off+1) _ j (by simp;omega)]
   by_cases h1:off+1<=j/\j<off+1+xs.length
   · rw [if_pos h1,if_pos (by simp;omega)]
     obtain ⟨m,rfl⟩:∃ m,j=off+1+m:=⟨j-(off+1),by omega⟩
     rw [show off+1+m-(off+1)=m by omega,show off+1+m-off=m+1 by omega,List.getElem?_cons_succ]
   · rw [if_neg h1]
     by_cases h2:j=off
     · subst h2
       rw [if_pos (by simp),Array.getElem?_setIfInBounds]
       simp;omega
     · rw [if_neg (by simp;omega),Array.getElem?_setIfInBounds_ne (Ne.symm h2)]
theorem splice_get (xs:List Value) (off:Nat) (arr:Array Value) (j:Nat) (h:off+xs.length<=arr.size):
 (arr.toList.take off++xs++arr.toList.drop (off+xs.length)).toArray[j]?=if off<=j/\j<off+xs.length then xs[j-off]? else arr[j]?:=by
 simp only [List.getElem?_toArray]
 by_cases h1:j<off
 · rw [List.append_assoc,List.getElem?_append_left (by simp;omega),List.getElem?_take,if_pos h1,if_neg (by omega)];simp
 · by_cases h2:j<off+xs.length
   · rw [List.getElem?_append_left (by simp;omega),List.getElem?_append_right (by simp;omega),if_pos ⟨by omega,h2⟩]
     congr 1;simp;omega
   · rw [List.getElem?_append_right (by simp;omega),List.getElem?_drop,if_neg (by omega)]
     rw [show off+xs.length+(j-(arr.toList.take off++xs).length)=j by simp;omega]
     simp
theorem splice_eq (xs:List Value) (off:Nat) (arr:Array Value) (h:off+xs.length<=arr.size):(arr.toList.take off++xs++arr.toList.drop (off+xs.length)).toArray=putA off xs arr:=by
 apply Array.ext_getElem?
 intro j
 rw [splice_get xs off arr j h,putA_get xs off arr j h]
theorem run_storeVar {t:TypeId} {n b off:Nat} {v:Value} {arr:Array Value} {et:TypeId} (hn:szOf P t=some n) (hc:v.cells.size=n) (hb:w.heap[b]?=some (.cells arr et (0,0))) (hl:off+n<=arr.size)
 (h1:∀ x,x∈v.cells.toList->x.oneCell'=true):(storeVar t ⟨b,off,none⟩ v).run P w=.ok () (w.setRow b (putA off v.cells.toList arr)):=by
 unfold storeVar
 have hlen:v.cells.toList.length=n:=by simp [hc]
 simp only [Sem.run_bind,run_szOf hn,Result.andThen_ok,hc,ne_eq,not_true_eq_false,if_false]
 have:=run_storeCells_at P b off et v.cells.toList 0 arr w hb (by omega) h1
 simp only [Nat.add_zero] at this
 rw [splice_eq v.cells.toList off arr (by omega)] at this
 simp [this]
theorem setRow_facts {w:World} {b:Nat} {arr:Array Value}:(∀ k,k≠b->(w.setRow b arr).heap[k]?=w.heap[k]?)/\(w.setRow b arr).heap.size=w.heap.size/\(w.setRow b arr).os=w.os/\(w.setRow b arr).tape=w.tape/\(w.setRow b arr).output=w.output:=
 ⟨fun k hk=>setRow_other w b k arr hk,size_setRow w b arr,rfl,rfl,rfl⟩
theorem setRow_frozen {w:World} {b:Nat} {arr:Array Value} (a:Addr):(w.setRow b arr).frozen? a=w.frozen? a:=by
 unfold World.frozen? World.setRow
 simp only [Array.getElem?_modify]
 by_cases h:b=a.block
 · rw [if_pos h]
   subst h
   cases w.heap[a.block]? with
   | none=>rfl
   | some o=>cases o <;> rfl
 · rw [if_neg h]
theorem CRel.keepAll {w':World} {M':Nat->Prop} {L':Locs} {H':AHeap} (hk:Keeps w M w' M') (hc:∀ key B,hget H key=some B->∃ B',hget H' key=some B'/\B.le B'/\L' key=L key/\(L key=none->B=B'))
 {cs:List AV} {arr:Array Value} (h:CRel w M L H S cs arr):CRel w' M' L' H' S cs arr:=⟨h.1,fun j c hj=>(h.2 j c hj).keep hk (fun _ _ h=>h) hc⟩
theorem size_putA:∀ (xs:List Value) (off:Nat) (arr:Array Value),(putA off xs arr).size=arr.size
 | [],_,_=>rfl
 | x::xs,off,arr=>by rw [putA,size_putA xs];simp
theorem CRel.of_cellsA {v:AV} {x:Value} (h:(cellsA v).all AV.one=true) (hx:AVRel w M L H S v x):CRel w M L H S (cellsA v) x.cells:=by
 have hr:=cellsA_rel h hx
 refine ⟨by rw [hr.length];simp,fun j c hc=>?_⟩
 obtain ⟨y,hy,hr'⟩:=hr.get j c hc
 have e:x.cells.getD j undef=y:=by
  rw [Array.getElem?_toList] at hy
  simp [Array.getD_eq_getD_getElem?,hy]
 rw [e];exact hr'
end
end Go.AM
