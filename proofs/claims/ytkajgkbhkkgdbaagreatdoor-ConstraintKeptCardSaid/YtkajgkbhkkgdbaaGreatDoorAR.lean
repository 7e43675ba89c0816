/-
  A part of a proof.
-/
import Derived.Test.YtkajgkbhkkgdbaaGreatDoorAMp
import Derived.Laws.MakeOwn
set_option linter.unusedSimpArgs false
set_option linter.unusedVariables false
namespace Go.AM
open Go
section
variable {G:Glob} {E:Base} {N:Nat} {st:ASt} {a:Act} {w:World} {L:Locs} {C:Ctx}
theorem nils_inv {w:World} {M:Nat->Prop} {L:Locs} {H:AHeap} {S:(List PV->Prop × PV)->Value->Prop} {x:Value} (h:AVRel w M L H S .nils x):x=.slice none 0 0:=by cases h;rfl
theorem drew_ext (w:World):Ext NoB w w.drew:=⟨rfl,rfl,rfl,Nat.le_refl _,fun _ _ _=>rfl,fun _ _ _=>rfl⟩
theorem appendA_wp (hP0:∀ κ,(E.L0 κ).isSome=true->κ∈C.pins) (hC:TabsSound G C) (hN:C.N=N) (hR:Rel G E (OpqS G E) N st a.tmps w L) (hd:a.defers=E.ds) {o:Oper} {args:Array Operand} {ts:Array TypeId} {s x:Operand} {t tx:TypeId} {K:ASt->Prop}
 (ho:o.op=.call { callee:=.builtin .append,args,argTypes:=ts }) (ha:args.toList=[s,x]) (hts:ts.toList=[t,tx]) (h1:oc st.ρ s) (h2:oc st.ρ x)
 (h:appendA C st o.dst t tx (ox st.ρ s) (ox st.ρ x) K):OpYields G.P o a w (fun y w'=>Beh G E N K (a.put o.dst y) w'):=by
 have hs:=ox_rel hR.env s h1
 have hx:=ox_rel hR.env x h2
 have e1:args=#[s,x]:=by rw [<- Array.toArray_toList (xs:=args),ha]
 have e2:ts=#[t,tx]:=by rw [<- Array.toArray_toList (xs:=ts),hts]
 subst e1;subst e2
 have run:∀ {v':Value} {w':World},(Builtin.append_ #[t,tx] o.type #[a.eval s,a.eval x]).run G.P w=.ok v' w'->Beh G E N K (a.put o.dst v') w'->OpYields G.P o a w (fun y w'=>Beh G E N K (a.put o.dst y) w'):=by
  intro v' w' hr hb
  refine .of_run (v:=v') (w':=w') ?_ hb
  simp only [execOp,ho,resolve,invoke,builtin,Sem.run_bind,Sem.run_pure,Result.andThen_ok,List.map_toArray,List.map_cons,List.map_nil,hr]
 unfold appendA at h
 rw [hC.prog] at h
 split at h
 · rename_i e es2 ht hsrc
   split at h
   · rename_i k by' z hk hby hz
     obtain ⟨hk0,hzk,hsx,hw2,h⟩:=h
     obtain ⟨hlen,news,hf,hns,hrow⟩:=srcA_run (P:=G.P) hR.blk hsrc hw2 hx
     have hones:=hrow.ones hw2 hns
     unfold szOf at hk
     obtain ⟨i,hi,hik⟩:=Option.map_eq_some_iff.1 hk
     have hib:i.bytes=by':=by
      unfold bytesT at hby;rw [hi] at hby;simpa using hby
     have hiz:i.zero=some z:=by
      unfold zeroT at hz;rw [hi] at hz;simpa using hz
     have htx:(∃ u,G.P.underlying tx=some (.slice u))\/G.P.underlying tx=some .string:=by
      unfold isSliceOrStr at hsx
      rcases Bool.or_eq_true _ _ ▸ hsx with hh | hh
      · exact .inl (isSliceD_eq hh)
      · exact .inr (isStrD_eq hh)
     split at h
     ·
       rename_i hnil
       rw [hnil] at hs
       obtain ⟨g1,g2,g3⟩:=h
       have hev:a.eval s=.slice none 0 0:=nils_inv hs
       obtain ⟨v',w',hr,hcase⟩:=run_append_any (P:=G.P) (w:=w) (ty:=o.type) (cur:=#[]) (et:=0) (b:=none) (hi':=0) (cap:=0) ht htx hi hiz hik hzk hk0 (.inl ⟨hev,rfl,rfl,rfl⟩) hlen hf hns hones (by omega) (by rw [hib,Nat.zero_add];exact g1)
       refine run hr ?_
       rcases hcase with ⟨rfl,hww,hn0,_⟩ | ⟨g,hg,_⟩ | ⟨cap',arr,rfl,rfl,q1,q2,q3,q4,q5⟩
       ·
         obtain rfl:=hww.symm
         have hes:es2=[]:=List.eq_nil_of_length_eq_zero hn0
         subst hes
         cases hdst:o.dst with
         | none=>rw [hdst] at g3;exact g3.elim
         | some d=>
           rw [hdst] at g3
           obtain ⟨p1,p2,p3⟩:=g3
           have hne:∀ key B,hget st.H key=some B->key≠d:=fun key B hb e=>by rw [e,p1] at hb;cases hb
           have hc:∀ key B0,hget st.H key=some B0->∃ B',hget (hset st.H d (.row k [])) key=some B'/\B0.le B'/\(locSet L d none) key=L key/\(L key=none->B0=B'):=
            fun key B0 hb=>⟨B0,by rw [hget_hset_ne _ _ (Ne.symm (hne key B0 hb))];exact hb,ABlk.le_refl _,by simp [locSet,hne key B0 hb],fun _=>rfl⟩
           have hget:∀ key B0,hget (hset st.H d (.row k [])) key=some B0->∀ b c,(locSet L d none) key=some (b,c)->hget st.H key=some B0/\L key=some (b,c)/\key≠d:=by
            intro key B0 hb b c hl
            by_cases e:key=d
            · subst e;simp [locSet] at hl
            · rw [hget_hset_ne _ _ (Ne.symm e)] at hb
              simp only [locSet,e,if_false] at hl
              exact ⟨hb,hl,e⟩
           have hk':Keeps w (Mut E L st.H) w (Mut E (locSet L d none) (hset st.H d (.row k []))):=fun b hb hm=>⟨rfl,fun hm'=>hm (by
            rcases hm' with hX | ⟨key,B0,c0,m1,m2⟩
            · exact .inl hX
            · obtain ⟨m3,m4,_⟩:=hget key B0 m1 b c0 m2
              exact .inr ⟨key,B0,c0,m3,m4⟩)⟩
           have hR':Rel G E (OpqS G E) N { ρ:=st.ρ,H:=hset st.H d (.row k []) } a.tmps w (locSet L d none):=
            { size:=hR.size,ext:=hR.ext,inv:=hR.inv,glob:=hR.glob,old:=hR.old,m0:=hR.m0
              own:=fun key B b c m1 m2=>by obtain ⟨m3,m4,_⟩:=hget key B m1 b c m2;exact hR.own key B b c m3 m4
              inj:=fun k1 k2 B1 B2 b c1 c2 m1 m2 m3 m4=>by
               obtain ⟨n1,n2,_⟩:=hget k1 B1 m1 b c1 m3
               obtain ⟨n3,n4,_⟩:=hget k2 B2 m2 b c2 m4
               exact hR.inj k1 k2 B1 B2 b c1 c2 n1 n3 n2 n4
              blk:=fun key B hb=>by
               by_cases e:key=d
               · subst e
                 simp only [hget_hset_same,Option.some.injEq] at hb
                 subst hb
                 simp [BRel,locSet,hk0]
               · have hb':=hb
                 simp only [hget_hset_ne _ _ (Ne.symm e)] at hb'
                 exact (hR.blk key B hb').keepAll hk' hc (fun _ _ _=>rfl) (by simp [locSet,e])
              env:=fun s=>(hR.env s).keep hk' (fun _ _ h=>h) hc
              fix:=fun k b c hl=>by
               obtain ⟨f1,B0,f2⟩:=hR.fix k b c hl
               have e:=hne k B0 f2
               exact ⟨by simp [locSet,e,f1],B0,by rw [hget_hset_ne _ _ (Ne.symm e)];exact f2⟩ }
           exact ⟨_,locSet L d none,p3,hR'.put (by rw [<- hN];exact p2) (.rsN d k (hget_hset_same _ _ _) (by simp [locSet])),hd⟩
       · cases hg
       · have hq:newB N st o.dst (.row k es2) (fun d=>.rs d es2.length) K:=by rw [<- hN];exact g3
         simp only [Nat.zero_add] at q2
         refine newB_beh (w1:=w.drew) (cap:=cap') hq hR hd (drew_ext w) rfl (fun κ M' L' H' hkp hc hl hheap=>?_) (fun κ w' M' L' H' hg hl=>?_)
         · unfold BRel
           refine ⟨hk0,hw2,?_⟩
           rw [hl]
           refine ⟨arr,e,hheap,q1,by omega,q3,?_⟩
           have:=RowIn.append (es:=[]) (cur:=#[]) (arr:=arr) (k:=k) (w:=w) (M:=Mut E L st.H) (fun _ hh=>by simp at hh) hw2 (fun i e j c he=>by simp at he) hrow (fun m hm=>by simp at hm) (fun m hm=>by simpa using q5 m hm)
           simp only [List.nil_append] at this
           exact this.keep hkp
         · have:=AVRel.rs (w:=w') (M:=M') (S:=OpqS G E) κ es2.length k es2 w.heap.size cap' hg hl (Nat.le_refl _)
           simpa using this
     ·
       rename_i key hi' hrs
       rw [hrs] at hs
       split at h
       · rename_i k' es d hH hdst
         obtain ⟨g0,rfl,g2,g3,g4,g5,g6⟩:=h
         have hL0:E.L0 key=none:=by
          cases hl0:E.L0 key with
          | none=>rfl
          | some x=>exact (notIn_mem g0 (hP0 key (by rw [hl0];rfl))).elim
         rw [hdst]
         rw [hdst] at run
         have hb:=hR.blk key _ hH
         have hw1:allW k' es:=hb.2.1
         have finish:∀ {v':Value} {w':World} {y:Option (Nat × Nat)},Rel G E (OpqS G E) N { ρ:=killR key st.ρ,H:=hset (killH key st.H) key (.row k' (es.take hi'++es2)) } a.tmps w' (locSet L key y)->
          AVRel w' (Mut E (locSet L key y) (hset (killH key st.H) key (.row k' (es.take hi'++es2)))) (locSet L key y) (hset (killH key st.H) key (.row k' (es.take hi'++es2))) (OpqS G E) (.rs key (hi'+es2.length)) v'->
          Beh G E N K (a.put (some d) v') w':=fun hr hv=>⟨_,_,g6,hr.put (by rw [<- hN];exact g5) hv,hd⟩
         have hlenT:(es.take hi'++es2).length=hi'+es2.length:=by simp;omega
         rcases rs_inv hs with ⟨k2,f1,f2,f3,f4⟩ | ⟨k2,es3,b,cap,f1,f2,f3,f4⟩
         ·
           subst f3
           rw [hH] at f1
           simp only [Option.some.injEq,ABlk.row.injEq] at f1
           obtain ⟨rfl,rfl⟩:=f1
           obtain ⟨v',w',hr,hcase⟩:=run_append_any (P:=G.P) (w:=w) (ty:=o.type) (cur:=#[]) (et:=0) (b:=none) (hi':=0) (cap:=0) ht htx hi hiz hik hzk hk0 (.inl ⟨f4,rfl,rfl,rfl⟩) hlen hf hns hones (by omega) (by rw [hib];exact g3)
           refine run hr ?_
           rcases hcase with ⟨rfl,hww,hn0,_⟩ | ⟨g,hg,_⟩ | ⟨cap',arr,rfl,rfl,q1,q2,q3,q4,q5⟩
           · obtain rfl:=hww.symm
             have hes:es2=[]:=List.eq_nil_of_length_eq_zero hn0
             subst hes
             obtain ⟨hR',_⟩:=hR.turnBlock (w':=w) hH hL0 (x:=none) (B':=.row k' ([].take 0++[])) (fun k hk _=>rfl) (Nat.le_refl _) rfl rfl rfl (fun _=>rfl) (fun b cap h=>by cases h)
              (fun M' L' H' hkp hc hl=>by simp [BRel,hl,hk0])
             exact finish hR' (by have:=AVRel.rsN (w:=w) (M:=Mut E (locSet L key none) (hset (killH key st.H) key (.row k' ([].take 0++[])))) (L:=locSet L key none) (H:=hset (killH key st.H) key (.row k' ([].take 0++[]))) (S:=OpqS G E) key k' (by simpa using hget_hset_same (killH key st.H) key (.row k' [])) (by simp [locSet]);simpa using this)
           · cases hg
           · simp only [Nat.zero_add] at q2
             obtain ⟨hR',_⟩:=hR.turnBlock (w':=w.drew.alloc (.cells arr e)) hH hL0 (x:=some (w.heap.size,cap')) (B':=.row k' ([].take 0++es2))
              (fun k hk _=>heap_alloc_old w.drew _ hk) (by simp) rfl rfl rfl (fun a=>frozen_alloc w.drew _ _ a) (fun b cap h=>by simp only [Option.some.injEq,Prod.mk.injEq] at h;exact .inr (by omega))
              (fun M' L' H' hkp hc hl=>by
                unfold BRel
                refine ⟨hk0,by simpa [allW] using hw2,?_⟩
                rw [hl]
                refine ⟨arr,e,heap_alloc_new w.drew _,q1,by simpa using q2,q3,?_⟩
                have:=RowIn.append (es:=[]) (cur:=#[]) (arr:=arr) (k:=k') (w:=w) (M:=Mut E L st.H) (fun _ hh=>by simp at hh) hw2 (fun i e j c he=>by simp at he) hrow (fun m hm=>by simp at hm) (fun m hm=>by simpa using q5 m hm)
                have h9:=this.keep hkp
                simpa [RowIn] using h9)
             refine finish hR' ?_
             exact .rs key _ k' _ w.heap.size cap' (hget_hset_same _ _ _) (by simp [locSet]) (by rw [hlenT];exact Nat.le_refl _)
         · rw [hH] at f1
           simp only [Option.some.injEq,ABlk.row.injEq] at f1
           obtain ⟨rfl,rfl⟩:=f1
           simp only [BRel,f2] at hb
           obtain ⟨_,_,arr0,et,p1,p2,p3,p4,p5⟩:=hb
           have hlenE:(es.take hi').length=hi':=by simp;omega
           have hrow0:RowIn w (Mut E L st.H) k' (es.take hi') arr0:=fun i e j c he hc=>by
            rw [List.getElem?_take] at he
            split at he
            · exact p5 i e j c he hc
            · cases he
           obtain ⟨v',w',hr,hcase⟩:=run_append_any (P:=G.P) (w:=w) (ty:=o.type) (cur:=arr0) (et:=et) (b:=some b) (hi':=hi') (cap:=cap) ht htx hi hiz hik hzk hk0 (.inr ⟨b,rfl,f4,p1,p2,by omega,p4⟩) hlen hf hns hones g4 (by rw [hib];exact g3)
           refine run hr ?_
           rcases hcase with ⟨_,_,_,hg⟩ | ⟨g,hg,hroom,rfl,rfl⟩ | ⟨cap',arr,rfl,rfl,q1,q2,q3,q4,q5⟩
           · cases hg
           ·
             cases hg
             have hfit:hi' * k'+news.toList.length<=arr0.size:=by
              rw [Array.length_toList,hns,p2,<- Nat.add_mul];exact Nat.mul_le_mul_right _ hroom
             obtain ⟨r1,r2,r3,r4,r5⟩:=setRow_facts (w:=w) (b:=b) (arr:=(arr0.toList.take (hi' * k')++news.toList++arr0.toList.drop (hi' * k'+news.toList.length)).toArray)
             have hgd:∀ m,((arr0.toList.take (hi' * k')++news.toList++arr0.toList.drop (hi' * k'+news.toList.length)).toArray).getD m undef=if hi' * k'<=m/\m<hi' * k'+es2.length * k' then news.getD (m-hi' * k') undef else arr0.getD m undef:=by
              intro m
              simp only [Array.getD_eq_getD_getElem?]
              rw [splice_get _ _ _ _ hfit]
              simp only [Array.length_toList,hns]
              split
              · simp
              · rfl
             obtain ⟨hR',_⟩:=hR.turnBlock (w':=w.setRow b (arr0.toList.take (hi' * k')++news.toList++arr0.toList.drop (hi' * k'+news.toList.length)).toArray) hH hL0 (x:=some (b,cap)) (B':=.row k' (es.take hi'++es2))
              (fun k _ hk=>r1 k (hk b cap f2)) (by omega) r3 r4 r5 setRow_frozen (fun b' cap'' h=>by simp only [Option.some.injEq,Prod.mk.injEq] at h;exact .inl ⟨cap,by rw [<- h.1];exact f2⟩)
              (fun M' L' H' hkp hc hl=>by
                unfold BRel
                refine ⟨hk0,allW_append (allW_take hw1) hw2,?_⟩
                rw [hl]
                refine ⟨_,et,setRow_heap w b arr0 _ et _ p1,?_,by rw [hlenT];exact hroom,p4,?_⟩
                · rw [splice_eq _ _ _ hfit,size_putA];exact p2
                · refine (RowIn.append (cur:=arr0) (allW_take hw1) hw2 hrow0 hrow (fun m hm=>?_) (fun m hm=>?_)).keep hkp
                  · rw [hlenE] at hm;rw [hgd,if_neg (by omega)]
                  · rw [hlenE,hgd,if_pos (by omega)];congr 1;omega)
             refine finish hR' ?_
             exact .rs key _ k' _ b cap (hget_hset_same _ _ _) (by simp [locSet]) (by rw [hlenT];exact Nat.le_refl _)
           ·
             obtain ⟨hR',_⟩:=hR.turnBlock (w':=w.drew.alloc (.cells arr e)) hH hL0 (x:=some (w.heap.size,cap')) (B':=.row k' (es.take hi'++es2))
              (fun k hk _=>heap_alloc_old w.drew _ hk) (by simp) rfl rfl rfl (fun a=>frozen_alloc w.drew _ _ a) (fun b cap h=>by simp only [Option.some.injEq,Prod.mk.injEq] at h;exact .inr (by omega))
              (fun M' L' H' hkp hc hl=>by
                unfold BRel
                refine ⟨hk0,allW_append (allW_take hw1) hw2,?_⟩
                rw [hl]
                refine ⟨arr,e,heap_alloc_new w.drew _,q1,by rw [hlenT];exact q2,q3,?_⟩
                exact (RowIn.append (cur:=arr0) (allW_take hw1) hw2 hrow0 hrow (fun m hm=>q4 m (by rw [hlenE] at hm;exact hm)) (fun m hm=>by rw [hlenE];exact q5 m hm)).keep hkp)
             refine finish hR' ?_
             exact .rs key _ k' _ w.heap.size cap' (hget_hset_same _ _ _) (by simp [locSet]) (by rw [hlenT];exact Nat.le_refl _)
       · exact h.elim
     · exact h.elim
   · exact h.elim
 · exact h.elim
end
end Go.AM
namespace Go.AM
open Go Go.MapKept
section
variable {G:Glob} {E:Base} {N:Nat} {st:ASt} {a:Act} {w:World} {L:Locs} {C:Ctx}
theorem cells_newB {v:AV} {x:Value} (hx:AVRel w (Mut E L st.H) L st.H (OpqS G E) v x) (ho:(cellsA v).all AV.one=true) {w':World} {et:TypeId} {cap:Nat} (κ:Nat) (M':Nat->Prop) (L':Locs) (H':AHeap)
 (hk:Keeps w (Mut E L st.H) w' M') (hc:∀ key B,hget st.H key=some B->∃ B',hget H' key=some B'/\B.le B'/\L' key=L key/\(L key=none->B=B'))
 (hl:L' κ=some (w.heap.size,cap)) (hh:w'.heap[w.heap.size]?=some (.cells x.cells et (0,0))):BRel w' M' L' H' (OpqS G E) κ (.cells (cellsA v)):=by
 have h1:=(CRel.of_cellsA ho hx).keepAll hk hc
 exact ⟨w.heap.size,cap,x.cells,et,hl,hh,h1.1,h1.2⟩
theorem ofV_free (v:Value):(ofV v).free=true:=by
 have h1:∀ v,(ofV1 v).free=true:=by intro v;unfold ofV1;split <;> rfl
 unfold ofV
 split
 · rename_i cs
   simp only [AV.free]
   generalize cs.toList=l
   induction l with
   | nil=>rfl
   | cons c r ih=>simp [AV.freeL,h1,ih]
 · exact h1 _
theorem zeroP_cells {z:Value} (hk:frzOk [] 2 (ofV z)) (w:World) (M:Nat->Prop):∀ (j:Nat) c,(zeroP z).cells[j]?=some c->PVRel w M c (z.cells.getD j undef):=by
 have hzr:=frz_free (w:=w) (M:=M) (L:=fun _=>none) (H:=[]) (S:=fun _ _=>False) 2 (ofV z) z (ofV_free z) hk (ofV_rel z)
 intro j c hc
 unfold zeroP at hc
 generalize hqq:frz [] 2 (ofV z)=q at * 
 cases hzr <;> first
  | (rename_i cs vs h1 h2 h3;simpa [Value.cells] using h3 j c (by simpa [PV.cells] using hc))
  | (simp only [PV.cells] at hc
     cases j with
     | zero=>simp at hc;subst hc;simp only [Value.cells];first | exact PVRel.bool _ | exact PVRel.int _ _ | exact PVRel.str _ | exact PVRel.nilI | exact PVRel.nilP | (constructor <;> assumption)
     | succ j=>simp at hc)
theorem makeA_wp (hC:TabsSound G C) (hN:C.N=N) (hR:Rel G E (OpqS G E) N st a.tmps w L) (hd:a.defers=E.ds) {o:Oper} {t:TypeId} {l c:Operand} {K:ASt->Prop} (ho:o.op=.makeSlice t l c)
 (h1:oc st.ρ l) (h2:oc st.ρ c) (h:makeA C st o.dst t (ox st.ρ l) (ox st.ρ c) K):OpYields G.P o a w (fun y w'=>Beh G E N K (a.put o.dst y) w'):=by
 have hl:=ox_rel hR.env l h1
 have hc:=ox_rel hR.env c h2
 unfold makeA at h
 rw [hC.prog] at h
 split at h
 · rename_i e kn n km m ht hln hcm
   rw [hln] at hl;rw [hcm] at hc
   have el:=int_inv hl
   have ec:=int_inv hc
   split at h
   · rename_i k by' z hk hby hz
     obtain ⟨hk0,hzk,g1,g2,g3,g4,g5,g6,g7,g8,g9⟩:=h
     unfold szOf at hk
     obtain ⟨i,hi,hik⟩:=Option.map_eq_some_iff.1 hk
     have hib:i.bytes=by':=by
      unfold bytesT at hby;rw [hi] at hby;simpa using hby
     have hiz:i.zero=some z:=by
      unfold zeroT at hz;rw [hi] at hz;simpa using hz
     have hbytes:(i.bytes:Int) * m<=281474976710656:=by rw [hib,Int.mul_comm];exact g3
     have hrun:=run_make (P:=G.P) w t e i z ht hi hiz kn km n m g1 g2 hbytes g4
     rw [hik] at hrun
     have hexec:(execOp a.eval o).run G.P w=.ok (.value (.slice (some ⟨w.heap.size,0,none⟩) n.toNat m.toNat)) (w.alloc (.cells (madeCells z.cells (m.toNat * k)) e)):=by
      simp only [execOp,ho,el,ec,Sem.run_bind,hrun,Result.andThen_ok,Sem.run_pure]
     refine .of_run hexec ?_
     have hq:newB N st o.dst (.row k (List.replicate n.toNat (zeroP z))) (fun d=>.rs d n.toNat) K:=by rw [<- hN];exact g9
     refine newB_beh (w1:=w) (cap:=m.toNat) hq hR hd (Ext.refl _ _) rfl (fun κ M' L' H' hkp hc hl' hheap=>?_) (fun κ w' M' L' H' hg hl'=>?_)
     · unfold BRel
       refine ⟨hk0,fun e' he'=>by rw [(List.mem_replicate.1 he').2];exact g7,?_⟩
       rw [hl']
       refine ⟨_,e,hheap,size_madeCells _ _,by simp;omega,by simp only [maxLen];omega,fun i' e' j c he' hcj=>?_⟩
       obtain ⟨rfl,hi'⟩:=getD_replicate_cells (c:=e') (j:=0) (k:=0) he'
       refine ⟨List.all_eq_true.1 g8 c (List.mem_of_getElem? hcj),?_⟩
       have hj:j<k:=by
        have h1:=(List.getElem?_eq_some_iff.1 hcj).1
        have h2:(zeroP z).cells.length=k:=g7
        omega
       have hlt:i' * k+j<m.toNat * k:=by
        have h3:(i'+1) * k<=m.toNat * k:=Nat.mul_le_mul_right _ (by omega)
        rw [Nat.add_mul,Nat.one_mul] at h3;omega
       have hget:(madeCells z.cells (m.toNat * k)).getD (i' * k+j) undef=z.cells.getD j undef:=by
        have hmod:(i' * k+j) % k=j:=by rw [Nat.mul_comm,Nat.mul_add_mod,Nat.mod_eq_of_lt hj]
        simp [madeCells,Array.getD_eq_getD_getElem?,hlt,hzk,hmod,hj]
       rw [hget]
       exact zeroP_cells g5 _ _ j c hcj
     · exact .rs κ _ k _ w.heap.size m.toNat hg hl' (by simp)
   · exact h.elim
 · exact h.elim
theorem mput_none {k v:PV}:∀ {es:List (PV × PV)},mget k es=none->mput k v es=es++[(k,v)]
 | [],_=>rfl
 | (k',v')::r,h=>by
   unfold mget at h
   split at h
   · cases h
   · rename_i hq
     simp [mput,hq,mput_none h]
theorem mdel_none {k:PV}:∀ {es:List (PV × PV)},mget k es=none->mdel k es=es
 | [],_=>rfl
 | (k',v')::r,h=>by
   unfold mget at h
   split at h
   · cases h
   · rename_i hq
     simp [mdel,hq,mdel_none h]
def setB (w:World) (b:Nat) (o:Obj):World:={ w with heap:=w.heap.setIfInBounds b o }
theorem modify_born (ents:Array MapEntry) (j:Nat) (f:MapEntry->MapEntry) (hf:∀ e,(f e).born=e.born):(ents.modify j f).toList.map (·.born)=ents.toList.map (·.born):=by
 apply List.ext_getElem?
 intro i
 simp only [List.getElem?_map,Array.getElem?_toList,Array.getElem?_modify]
 split
 · rename_i e;subst e
   cases ents[j]? with
   | none=>rfl
   | some x=>simp [hf]
 · rfl
theorem setB_facts {w:World} {b:Nat} {es:Array MapEntry} {clock:Nat} (hb:w.heap[b]?=some (.map es clock)) (es':Array MapEntry) (clock':Nat):
 (setB w b (.map es' clock')).heap[b]?=some (.map es' clock')/\(∀ k,k≠b->(setB w b (.map es' clock')).heap[k]?=w.heap[k]?)/\(setB w b (.map es' clock')).heap.size=w.heap.size/\
   ∀ a:Addr,(setB w b (.map es' clock')).frozen? a=w.frozen? a:=by
 obtain ⟨h1,h2⟩:=heap_set (o':=.map es' clock') hb
 refine ⟨h1,h2,by simp [setB],fun a=>?_⟩
 unfold World.frozen? setB
 by_cases e:a.block=b
 · simp only [e]
   rw [h1,hb]
 · simp only
   rw [h2 _ e]
theorem setB_iter {w:World} {b:Nat} {s:ByteArray} {pos:Nat} (hb:w.heap[b]?=some (.stringIter s pos)) (pos':Nat):
 (setB w b (.stringIter s pos')).heap[b]?=some (.stringIter s pos')/\(∀ k,k≠b->(setB w b (.stringIter s pos')).heap[k]?=w.heap[k]?)/\(setB w b (.stringIter s pos')).heap.size=w.heap.size/\
   ∀ a:Addr,(setB w b (.stringIter s pos')).frozen? a=w.frozen? a:=by
 obtain ⟨h1,h2⟩:=heap_set (o':=.stringIter s pos') hb
 refine ⟨h1,h2,by simp [setB],fun a=>?_⟩
 unfold World.frozen? setB
 by_cases e:a.block=b
 · simp only [e]
   rw [h1,hb]
 · simp only
   rw [h2 _ e]
theorem nextA_wp (hN:C.N=N) (hR:Rel G E (OpqS G E) N st a.tmps w L) (hd:a.defers=E.ds) {o:Oper} {x:Operand} {K:ASt->Prop} (ho:o.op=.next x true)
 (h1:oc st.ρ x) (h:nextA C st o.dst (ox st.ρ x) K):OpYields G.P o a w (fun y w'=>Beh G E N K (a.put o.dst y) w'):=by
 have hx:=ox_rel hR.env x h1
 unfold nextA at h
 rw [hN] at h
 split at h
 · rename_i key hm
   rw [hm] at hx
   split at h
   · rename_i s pos hH
     obtain ⟨s',pos',b,cap,q1,q2,hxe⟩:=it_inv hx
     rw [hH] at q1
     simp only [Option.some.injEq,ABlk.iter.injEq] at q1
     obtain ⟨rfl,rfl⟩:=q1
     obtain ⟨b2,cap2,e1,e2⟩:=hR.blk key _ hH
     rw [q2] at e1
     simp only [Option.some.injEq,Prod.mk.injEq] at e1
     obtain ⟨rfl,rfl⟩:=e1
     have hsz:(⟨s.toArray⟩:ByteArray).size=s.length:=by simp [ByteArray.size]
     by_cases hlt:pos<s.length
     · obtain ⟨s1,s2,s3,s4⟩:=setB_iter e2 (pos+(Utf8.decode ⟨s.toArray⟩ pos).2)
       have hexec:(execOp a.eval o).run G.P w=.ok (.value (.tuple #[.bool true,.int .i64 pos,.int .i32 (Utf8.decode ⟨s.toArray⟩ pos).1])) (setB w b (.stringIter ⟨s.toArray⟩ (pos+(Utf8.decode ⟨s.toArray⟩ pos).2))):=by
        simp only [execOp,ho,hxe]
        simp [Instr.next,getObj,setObj,Sem.run,e2,hsz,hlt,Result.andThen,goInt,setB]
       refine .of_run hexec ?_
       refine putD_beh (L:=L) (h.1 (by simpa using hlt)) ?_ ?_ hd
       · exact hR.writeBlock hH q2 (by simp [ABlk.le]) s2 s3 rfl rfl rfl s4 (fun M' H' hkp hc=>⟨b,cap,q2,s1⟩)
       · refine .pv _ _ (.tup _ _ (by simp) (fun i c hc=>?_))
         match i,hc with
         | 0,hc=>simp at hc;subst hc;simpa using PVRel.bool true
         | 1,hc=>simp at hc;subst hc;simpa using PVRel.int .i64 _
         | 2,hc=>simp at hc;subst hc;simpa using PVRel.int .i32 _
         | i+3,hc=>simp at hc
     · have hexec:(execOp a.eval o).run G.P w=.ok (.value (.tuple #[.bool false])) w:=by
         simp only [execOp,ho,hxe]
         simp [Instr.next,getObj,Sem.run,e2,hsz,hlt,Result.andThen]
       refine .of_run hexec ?_
       refine putD_beh (L:=L) (h.2 (by simpa using hlt)) hR ?_ hd
       refine .pv _ _ (.tup _ _ (by simp) (fun i c hc=>?_))
       match i,hc with
       | 0,hc=>simp at hc;subst hc;simpa using PVRel.bool false
       | i+1,hc=>simp at hc
   · exact h.elim
 · exact h.elim
theorem rangeA_wp (hC:TabsSound G C) (hN:C.N=N) (hR:Rel G E (OpqS G E) N st a.tmps w L) (hd:a.defers=E.ds) {o:Oper} {t:TypeId} {x:Operand} {K:ASt->Prop} (ho:o.op=.range t x)
 (h1:oc st.ρ x) (h:rangeA C st o.dst t (ox st.ρ x) K):OpYields G.P o a w (fun y w'=>Beh G E N K (a.put o.dst y) w'):=by
 have hx:=ox_rel hR.env x h1
 unfold rangeA at h
 rw [hN,hC.prog] at h
 split at h
 · rename_i s ht hm
   rw [hm] at hx
   have hxv:=pv_inv hx
   have hxe:a.eval x=.string ⟨s.toArray⟩:=by
    generalize a.eval x=v at hxv
    cases hxv;rfl
   have hexec:(execOp a.eval o).run G.P w=.ok (.value (.pointer (some ⟨w.heap.size,0,none⟩))) (w.alloc (.stringIter ⟨s.toArray⟩ 0)):=by
    simp only [execOp,ho,hxe,Instr.range,Sem.run_bind,run_underlying ht,run_newObj,Result.andThen_ok,Sem.run_pure]
    rfl
   refine .of_run hexec ?_
   cases hdst:o.dst with
   | none=>rw [hdst] at h;exact h.elim
   | some d=>
     rw [hdst] at h
     obtain ⟨h1,h2,h3⟩:=h
     have hext:Ext NoB w (w.alloc (.stringIter ⟨s.toArray⟩ 0)):=⟨rfl,rfl,rfl,by simp,fun b hb _=>heap_alloc_old w _ hb,fun a _ _=>by
      unfold World.frozen? World.alloc
      simp only [Array.getElem?_push]
      by_cases h:a.block=w.heap.size
      · rw [if_pos h,h]
        simp
      · rw [if_neg h]⟩
     have hR':=hR.newBlockAt (b:=w.heap.size) (cap:=0) h1 (B:=.iter s 0) hext (Nat.le_refl _) (fun M' L' H' _ hl=>⟨w.heap.size,0,hl,heap_alloc_new w _⟩)
     exact ⟨_,locSet L d (some (w.heap.size,0)),h3,hR'.put h2 (.it d s 0 w.heap.size 0 (hget_hset_same _ _ _) (by simp [locSet])),hd⟩
 · exact h.elim
theorem mapA_wp (hC:TabsSound G C) (hN:C.N=N) (hR:Rel G E (OpqS G E) N st a.tmps w L) (hd:a.defers=E.ds) {o:Oper} {t:TypeId} {m k v:Operand} {K:ASt->Prop} (ho:o.op=.mapUpdate t m k v)
 (h1:oc st.ρ m) (h2:oc st.ρ k) (h3:oc st.ρ v) (hdst:o.dst=none) (h:mapA C st t (ox st.ρ m) (ox st.ρ k) (ox st.ρ v) K):OpYields G.P o a w (fun y w'=>Beh G E N K (a.put o.dst y) w'):=by
 have hx:=ox_rel hR.env m h1
 have hy:=ox_rel hR.env k h2
 have hv:=ox_rel hR.env v h3
 unfold mapA at h
 rw [hC.prog] at h
 split at h
 · rename_i kt e key kp ht hm hk
   have hy:=packK_rel hy
   rw [hm] at hx
   rw [hk] at hy
   split at h
   · rename_i es hH
     obtain ⟨g1,g2,g3,g4,g5,g6⟩:=h
     obtain ⟨es',b,cap,q1,q2,hxe⟩:=mp_inv hx
     rw [hH] at q1
     simp only [Option.some.injEq,ABlk.map.injEq] at q1
     subst q1
     obtain ⟨b2,cap2,ents,clock,e1,e2,e3,e4⟩:=hR.blk key _ hH
     have e31:=e3.1
     rw [q2] at e1
     simp only [Option.some.injEq,Prod.mk.injEq] at e1
     obtain ⟨rfl,rfl⟩:=e1
     have hpv:=frz_free 4 _ _ g3 g4 hv
     generalize frz st.H 4 (ox st.ρ v)=q at g5 g6 hpv
     · have hkv:=pv_inv hy
       have hck:=keyOk_check (em:=false) g1 hkv
       have hfind:=findKey_rel g1 hkv es ents.toList (by simp [e3.1]) g2 (fun i p hp=>by
        obtain ⟨e,r1,_,_,r4,r5⟩:=e4 i p hp
        exact ⟨e,by simpa using r1,r4,r5⟩)
       have fin:∀ (ents':Array MapEntry) (clock':Nat) (es':List (PV × PV)),(Instr.mapUpdate t (.map (some b)) (a.eval k) (a.eval v)).run G.P w=.ok () (setB w b (.map ents' clock'))->MSz ents' clock' es'.length->mput kp q es=es'->
        (∀ (i:Nat) (p:PV × PV),es'[i]?=some p->∃ e:MapEntry,ents'[i]?=some e/\p.2.one=true/\p.2.one=true/\PVRel w (Mut E L st.H) p.1 e.key/\PVRel w (Mut E L st.H) p.2 e.val)->
        OpYields G.P o a w (fun y w'=>Beh G E N K (a.put o.dst y) w'):=by
        intro ents' clock' es' hrun hsz hput hent
        obtain ⟨s1,s2,s3,s4⟩:=setB_facts e2 ents' clock'
        unfold OpYields
        have hexec:(execOp a.eval o).run G.P w=.ok .skip (setB w b (.map ents' clock')):=by
         simp only [execOp,ho,hxe,Sem.run_bind,hrun,Result.andThen_ok,Sem.run_pure]
        rw [hexec,hdst]
        rw [hput] at g6
        refine ⟨_,L,g6,?_,hd⟩
        refine hR.writeBlock hH q2 (by simp [ABlk.le]) s2 s3 rfl rfl rfl s4 (fun M' H' hkp hc=>?_)
        exact ⟨b,cap,ents',clock',q2,s1,hsz,fun i p hp=>by
         obtain ⟨e,r1,r2,r3,r4,r5⟩:=hent i p hp
         exact ⟨e,r1,r2,r3,r4.keep hkp,r5.keep hkp⟩⟩
       rcases hfind with ⟨f1,f2⟩ | ⟨v0,j,e0,f1,f2,f3,f4,f5,f6,f7,_⟩
       · have hf:=f2
         refine fin (ents.push { key:=a.eval k,val:=a.eval v,born:=clock }) (clock+1) (es++[(kp,q)]) ?_ (by rw [List.length_append];exact e3.push) (mput_none f1) (fun i p hp=>?_)
         · simp [Instr.mapUpdate,run_underlying ht,Go.MapKept.run_getObj_map e2,hck,hf,Go.MapKept.run_setObj_map _ e2,Result.andThen,setB]
         · rw [List.getElem?_append] at hp
           split at hp
           · obtain ⟨e,r1,r2⟩:=e4 i p hp
             refine ⟨e,?_,r2⟩
             have hlt:=(Array.getElem?_eq_some_iff.1 r1).1
             rw [Array.getElem?_push,if_neg (by omega)];exact r1
           · rename_i hge
             have hi:i-es.length=0:=by
              have:=(List.getElem?_eq_some_iff.1 hp).1
              simp at this;omega
             rw [hi] at hp
             simp only [List.getElem?_cons_zero,Option.some.injEq] at hp
             subst hp
             refine ⟨{ key:=a.eval k,val:=a.eval v,born:=clock },?_,g5,g5,hkv,hpv⟩
             rw [Array.getElem?_push,if_pos (by omega)]
       · have hf:=f2
         have hj:ents[j]?=some e0:=by simpa using f3
         refine fin (ents.modify j fun e=>{ e with key:=a.eval k,val:=a.eval v }) clock (es.set j (kp,q)) ?_ (by rw [List.length_set];exact e3.same (modify_born _ _ _ (fun _=>rfl))) (f6 q) (fun i p hp=>?_)
         · simp [Instr.mapUpdate,run_underlying ht,Go.MapKept.run_getObj_map e2,hck,hf,hj,f4,keyOk_stays g1 hkv,Go.MapKept.run_setObj_map _ e2,Result.andThen,setB]
         · rw [List.getElem?_set] at hp
           rw [Array.getElem?_modify]
           split at hp
           · rename_i e
             subst e
             simp only [Option.some.injEq] at hp
             subst hp
             rw [if_pos rfl,hj]
             exact ⟨_,rfl,g5,g5,hkv,hpv⟩
           · rename_i e
             rw [if_neg e]
             exact e4 i p hp
   · exact h.elim
 · exact h.elim
theorem zeroCells_get {z:Array Value} {n k i j:Nat} (hz:z.size=k) (hi:i<n) (hj:j<k):(Builtin.zeroCells z n).getD (i * k+j) undef=z.getD j undef:=by
 have hlt:i * k+j<n * k:=by
  have h3:(i+1) * k<=n * k:=Nat.mul_le_mul_right _ (by omega)
  rw [Nat.add_mul,Nat.one_mul] at h3;omega
 have hmod:(i * k+j) % k=j:=by rw [Nat.mul_comm,Nat.mul_add_mod,Nat.mod_eq_of_lt hj]
 subst hz
 simp [Builtin.zeroCells,Array.getD_eq_getD_getElem?,hlt,hmod,hj]
theorem clrA_wp (hC:TabsSound G C) (hN:C.N=N) (hR:Rel G E (OpqS G E) N st a.tmps w L) (hd:a.defers=E.ds) {o:Oper} {args:Array Operand} {ts:Array TypeId} {t:TypeId} {x:Operand} {K:ASt->Prop}
 (ho:o.op=.call { callee:=.builtin .clear,args:=args,argTypes:=ts }) (ha:args.toList=[x]) (hts:ts.toList=[t])
 (h1:oc st.ρ x) (h:clrA C st o.dst t (ox st.ρ x) K):OpYields G.P o a w (fun y w'=>Beh G E N K (a.put o.dst y) w'):=by
 have hx:=ox_rel hR.env x h1
 have ea:args=#[x]:=by apply Array.ext';simpa using ha
 have et:ts=#[t]:=by apply Array.ext';simpa using hts
 unfold clrA at h
 rw [hC.prog,hN] at h
 split at h
 · rename_i e key lo hi sz ht hxv
   rw [hxv] at hx
   split at h
   · rename_i k es k' z hH hk hz
     obtain ⟨rfl,rfl,hzk,g2,g3,g4,g5,g6⟩:=h
     obtain ⟨k2,es2,b,cap,cap',ad,c1,c2,c3,c4,c5,c6,c7,hxe⟩:=rv_inv hx
     rw [hH] at c1
     simp only [Option.some.injEq,ABlk.row.injEq] at c1
     obtain ⟨rfl,rfl⟩:=c1
     have hb:=hR.blk key _ hH
     simp only [BRel,c2] at hb
     obtain ⟨hk0,hw0,arr,ety,f1,f2,f3,f4,f5⟩:=hb
     rcases Nat.eq_or_lt_of_le c3 with hlo | hlo
     · subst hlo
       have hes:es.take lo++List.replicate (lo-lo) (zeroP z)++es.drop lo=es:=by simp
       rw [hes] at g6
       have hexec:(execOp a.eval o).run G.P w=.ok (.value (.tuple #[])) w:=by
        subst ea;subst et
        simp only [execOp,ho,resolve,invoke,builtin,Sem.run_bind,Sem.run_pure,Result.andThen_ok,List.map_toArray,List.map_cons,List.map_nil,hxe,Nat.sub_self]
        cases ad <;> simp [Builtin.clear_,run_underlying ht,Result.andThen]
       refine .of_run hexec ?_
       have hself:hset st.H key (.row sz es)=hset st.H key (.row sz es):=rfl
       refine putD_beh (L:=L) g6 ?_ ?_ hd
       · refine hR.writeBlock hH c2 (by simp [ABlk.le]) (fun k hk=>rfl) rfl rfl rfl rfl (fun _=>rfl) (fun M' H' hkp hc=>?_)
         simp only [BRel,c2]
         exact ⟨hk0,hw0,arr,ety,f1,f2,f3,f4,fun i q j c hq hc'=>⟨(f5 i q j c hq hc').1,(f5 i q j c hq hc').2.keep hkp⟩⟩
       · exact .pv _ _ (.tup [] #[] rfl (fun i c hc=>by simp at hc))
     · have hae:=c7 hlo
       subst hae
       have hn0:hi-lo≠0:=by omega
       obtain ⟨zs,hzs⟩:∃ zs,Builtin.zeroCells z.cells (hi-lo)=zs:=⟨_,rfl⟩
       have hzl:zs.toList.length=(hi-lo) * sz:=by rw [<- hzs,Array.length_toList,size_zeroCells,hzk]
       have hzg:∀ i j,i<hi-lo->j<sz->zs.getD (i * sz+j) undef=z.cells.getD j undef:=fun i j hi' hj=>by rw [<- hzs];exact zeroCells_get hzk hi' hj
       have hzc:=fun w M=>zeroP_cells (z:=z) g3 w M
       have hlen0:(zeroP z).cells.length=sz:=g4
       have hone:∀ u,u∈zs.toList->u.oneCell'=true:=by
        intro u hu
        obtain ⟨q,hq⟩:=List.mem_iff_getElem?.1 hu
        have hql:q<(hi-lo) * sz:=by have:=(List.getElem?_eq_some_iff.1 hq).1;omega
        have hj:q % sz<sz:=Nat.mod_lt _ hk0
        have hi':q / sz<hi-lo:=(Nat.div_lt_iff_lt_mul hk0).2 hql
        have e1:=hzg (q / sz) (q % sz) hi' hj
        rw [show q / sz * sz+q % sz=q by rw [Nat.mul_comm];exact Nat.div_add_mod _ _] at e1
        have e2:zs.getD q undef=u:=by
         rw [Array.getElem?_toList] at hq
         simp [Array.getD_eq_getD_getElem?,hq]
        have hcc:(zeroP z).cells[q % sz]?=some ((zeroP z).cells[q % sz]'(by omega)):=List.getElem?_eq_getElem (by omega)
        have:=hzc w (Mut E L st.H) _ _ hcc
        rw [<- e1,e2] at this
        exact one_of_rel (List.all_eq_true.1 g5 _ (List.mem_of_getElem? hcc)) this
       have hfit:lo * sz+zs.toList.length<=arr.size:=by
        rw [hzl,f2,<- Nat.add_mul];exact Nat.mul_le_mul_right _ (by omega)
       have hst:=run_storeCells_at G.P b (lo * sz) ety zs.toList 0 arr w f1 (by omega) hone
       simp only [Nat.add_zero] at hst
       rw [splice_eq zs.toList (lo * sz) arr hfit] at hst
       have hexec:(execOp a.eval o).run G.P w=.ok (.value (.tuple #[])) (w.setRow b (putA (lo * sz) zs.toList arr)):=by
        subst ea;subst et
        obtain ⟨m,hm⟩:∃ m,hi-lo=m+1:=⟨hi-lo-1,by omega⟩
        rw [hm] at hzs
        simp only [execOp,ho,resolve,invoke,builtin,Sem.run_bind,Sem.run_pure,Result.andThen_ok,List.map_toArray,List.map_cons,List.map_nil,hxe,hm]
        simp [Builtin.clear_,run_underlying ht,run_zeroT hz,hzs,hst,Result.andThen]
       obtain ⟨q1,q2,q3,q4,q5⟩:=setRow_facts (w:=w) (b:=b) (arr:=putA (lo * sz) zs.toList arr)
       refine .of_run hexec (putD_beh (L:=L) g6 ?_ (.pv _ _ (.tup [] #[] rfl (fun i c hc=>by simp at hc))) hd)
       have hlen:(es.take lo++List.replicate (hi-lo) (zeroP z)++es.drop hi).length=es.length:=by simp;omega
       refine hR.writeBlock hH c2 ⟨rfl,Nat.le_of_eq hlen.symm⟩ q1 q2 q3 q4 q5 setRow_frozen (fun M' H' hkp hc=>?_)
       simp only [BRel,c2]
       refine ⟨hk0,fun q hq=>?_,_,ety,setRow_heap w b arr _ ety _ f1,by rw [size_putA];exact f2,by rw [hlen];exact f3,f4,fun i q j c hq hc'=>?_⟩
       · rcases List.mem_append.1 hq with hq | hq
         · rcases List.mem_append.1 hq with hq | hq
           · exact hw0 q (List.mem_of_mem_take hq)
           · rw [(List.mem_replicate.1 hq).2];exact g4
         · exact hw0 q (List.mem_of_mem_drop hq)
       · have hget:∀ p,(putA (lo * sz) zs.toList arr).getD p undef=if lo * sz<=p/\p<hi * sz then zs.getD (p-lo * sz) undef else arr.getD p undef:=by
           intro p
           have hhk:lo * sz+zs.toList.length=hi * sz:=by rw [hzl,<- Nat.add_mul];congr 1;omega
           rw [Array.getD_eq_getD_getElem?,putA_get zs.toList (lo * sz) arr p hfit,hhk]
           by_cases hp:lo * sz<=p/\p<hi * sz
           · rw [if_pos hp,if_pos hp,Array.getD_eq_getD_getElem?,Array.getElem?_toList]
           · rw [if_neg hp,if_neg hp,Array.getD_eq_getD_getElem?]
         have hjk:∀ q:PV,q.width=sz->q.cells[j]?=some c->j<sz:=fun q hq hc=>by
          have h1:=(List.getElem?_eq_some_iff.1 hc).1
          have h2:q.cells.length=sz:=hq
          omega
         have hil:i<es.length:=by rw [<- hlen];exact (List.getElem?_eq_some_iff.1 hq).1
         rw [hget]
         by_cases hi1:i<lo
         · have hq':es[i]?=some q:=by
             rw [List.append_assoc,List.getElem?_append_left (by simp;omega),List.getElem?_take,if_pos hi1] at hq;exact hq
           have hj:=hjk q (hw0 q (List.mem_of_getElem? hq')) hc'
           have hm:=Nat.mul_le_mul_right sz (show i+1<=lo by omega)
           rw [Nat.add_mul,Nat.one_mul] at hm
           rw [if_neg (by omega)]
           exact ⟨(f5 i q j c hq' hc').1,(f5 i q j c hq' hc').2.keep hkp⟩
         · by_cases hi2:i<hi
           · have hq':q=zeroP z:=by
               rw [List.getElem?_append_left (by simp;omega),List.getElem?_append_right (by simp;omega)] at hq
               exact (List.mem_replicate.1 (List.mem_of_getElem? hq)).2
             subst hq'
             have hj:=hjk _ g4 hc'
             have hm:=Nat.mul_le_mul_right sz (show lo<=i by omega)
             have hm2:=Nat.mul_le_mul_right sz (show i+1<=hi by omega)
             rw [Nat.add_mul,Nat.one_mul] at hm2
             rw [if_pos (by omega),show i * sz+j-lo * sz=(i-lo) * sz+j by rw [Nat.sub_mul];omega,hzg (i-lo) j (by omega) hj]
             exact ⟨List.all_eq_true.1 g5 c (List.mem_of_getElem? hc'),hzc _ _ j c hc'⟩
           · have hq':es[i]?=some q:=by
               rw [List.getElem?_append_right (by simp;omega),List.getElem?_drop] at hq
               rw [<- hq];congr 1;simp;omega
             have hj:=hjk q (hw0 q (List.mem_of_getElem? hq')) hc'
             have hm:=Nat.mul_le_mul_right sz (show hi<=i by omega)
             rw [if_neg (by omega)]
             exact ⟨(f5 i q j c hq' hc').1,(f5 i q j c hq' hc').2.keep hkp⟩
   · exact h.elim
 · exact h.elim
theorem delA_wp (hC:TabsSound G C) (hN:C.N=N) (hR:Rel G E (OpqS G E) N st a.tmps w L) (hd:a.defers=E.ds) {o:Oper} {args:Array Operand} {ts:Array TypeId} {t:TypeId} {trest:List TypeId} {m k:Operand} {K:ASt->Prop}
 (ho:o.op=.call { callee:=.builtin .delete,args:=args,argTypes:=ts }) (ha:args.toList=[m,k]) (hts:ts.toList=t::trest)
 (h1:oc st.ρ m) (h2:oc st.ρ k) (h:delA C st o.dst t (ox st.ρ m) (ox st.ρ k) K):OpYields G.P o a w (fun y w'=>Beh G E N K (a.put o.dst y) w'):=by
 have hx:=ox_rel hR.env m h1
 have hy:=ox_rel hR.env k h2
 unfold delA at h
 rw [hC.prog,hN] at h
 split at h
 · rename_i kt e key kp ht hm hk
   have hy:=packK_rel hy
   rw [hm] at hx
   rw [hk] at hy
   split at h
   · rename_i es hH
     obtain ⟨g1,g2,g6⟩:=h
     obtain ⟨es',b,cap,q1,q2,hxe⟩:=mp_inv hx
     rw [hH] at q1
     simp only [Option.some.injEq,ABlk.map.injEq] at q1
     subst q1
     obtain ⟨b2,cap2,ents,clock,e1,e2,e3,e4⟩:=hR.blk key _ hH
     have e31:=e3.1
     rw [q2] at e1
     simp only [Option.some.injEq,Prod.mk.injEq] at e1
     obtain ⟨rfl,rfl⟩:=e1
     · have hkv:=pv_inv hy
       have hck:=keyOk_check (em:=ents.isEmpty) g1 hkv
       have hfind:=findKey_rel g1 hkv es ents.toList (by simp [e3.1]) g2 (fun i p hp=>by
        obtain ⟨e,r1,_,_,r4,r5⟩:=e4 i p hp
        exact ⟨e,by simpa using r1,r4,r5⟩)
       have ea:args=#[m,k]:=by apply Array.ext';simpa using ha
       have et0:ts[0]?=some t:=by rw [<- Array.getElem?_toList,hts];rfl
       have fin:∀ (ents':Array MapEntry) (es':List (PV × PV)),(Builtin.delete_ ts o.type #[a.eval m,a.eval k]).run G.P w=.ok (.tuple #[]) (setB w b (.map ents' clock))->MSz ents' clock es'.length->mdel kp es=es'->
        (∀ (i:Nat) (p:PV × PV),es'[i]?=some p->∃ e:MapEntry,ents'[i]?=some e/\p.2.one=true/\p.2.one=true/\PVRel w (Mut E L st.H) p.1 e.key/\PVRel w (Mut E L st.H) p.2 e.val)->
        OpYields G.P o a w (fun y w'=>Beh G E N K (a.put o.dst y) w'):=by
        intro ents' es' hrun hsz hput hent
        obtain ⟨s1,s2,s3,s4⟩:=setB_facts e2 ents' clock
        have hexec:(execOp a.eval o).run G.P w=.ok (.value (.tuple #[])) (setB w b (.map ents' clock)):=by
         subst ea
         simp only [execOp,ho,resolve,invoke,builtin,Sem.run_bind,Sem.run_pure,Result.andThen_ok,List.map_toArray,List.map_cons,List.map_nil,hrun]
        refine .of_run hexec ?_
        rw [hput] at g6
        refine putD_beh (L:=L) g6 ?_ ?_ hd
        · refine hR.writeBlock hH q2 (by simp [ABlk.le]) s2 s3 rfl rfl rfl s4 (fun M' H' hkp hc=>?_)
          exact ⟨b,cap,ents',clock,q2,s1,hsz,fun i p hp=>by
           obtain ⟨e,r1,r2,r3,r4,r5⟩:=hent i p hp
           exact ⟨e,r1,r2,r3,r4.keep hkp,r5.keep hkp⟩⟩
        · exact .pv _ _ (.tup [] #[] rfl (fun i c hc=>by simp at hc))
       rcases hfind with ⟨f1,f2⟩ | ⟨v0,j,e0,f1,f2,f3,f4,f5,f6,f7,f8⟩
       · have hf:=f2
         refine fin ents es ?_ e3 (mdel_none f1) e4
         simp [Builtin.delete_,et0,hxe,run_underlying ht,Go.MapKept.run_getObj_map e2,hck,hf,Go.MapKept.run_setObj_map _ e2,Result.andThen,setB]
       · have hf:=f2
         have hj:ents[j]?=some e0:=by simpa using f3
         have hjl:j<ents.size:=(Array.getElem?_eq_some_iff.1 hj).1
         refine fin (ents.eraseIdxIfInBounds j) (es.eraseIdx j) ?_ ?_ f8 (fun i p hp=>?_)
         · simp [Builtin.delete_,et0,hxe,run_underlying ht,Go.MapKept.run_getObj_map e2,hck,hf,Go.MapKept.run_setObj_map _ e2,Result.andThen,setB]
         · refine e3.sub ?_ ?_
           · rw [Array.eraseIdxIfInBounds,dif_pos hjl,Array.size_eraseIdx,List.length_eraseIdx,if_pos f7,e3.1]
           · rw [Array.eraseIdxIfInBounds,dif_pos hjl,Array.toList_eraseIdx];exact List.eraseIdx_sublist _ _
         · rw [List.getElem?_eraseIdx] at hp
           have hg:(ents.eraseIdxIfInBounds j)[i]?=if i<j then ents[i]? else ents[i+1]?:=by
            rw [Array.eraseIdxIfInBounds,dif_pos hjl,<- Array.getElem?_toList,Array.toList_eraseIdx,List.getElem?_eraseIdx]
            simp
           rw [hg]
           split at hp
           · rename_i hlt;rw [if_pos hlt];exact e4 i p hp
           · rename_i hge;rw [if_neg hge];exact e4 (i+1) p hp
   · exact h.elim
 · exact h.elim
theorem aopE_wp (hP0:∀ κ,(E.L0 κ).isSome=true->κ∈C.pins) (hC:TabsSound G C) (hN:C.N=N) (hR:Rel G E (OpqS G E) N st a.tmps w L) (hd:a.defers=E.ds) {o:Oper} {K:ASt->Prop} (h:aopE C o st K):
 OpYields G.P o a w (fun y w'=>Beh G E N K (a.put o.dst y) w'):=by
 have pure:(aopP C st.ρ st.H o.op).1/\putD C.N st o.dst (aopP C st.ρ st.H o.op).2 K->OpYields G.P o a w (fun y w'=>Beh G E N K (a.put o.dst y) w'):=by
  rintro ⟨h1,h2⟩
  refine (aopP_yields hC.prog hC.pure hR h1).mono (fun v w' ⟨he,hv⟩=>?_)
  rw [hN] at h2
  exact putD_beh h2 (hR.grow he) hv hd
 unfold aopE at h
 split at h
 · rename_i t ho
   split at h
   · rename_i z hz
     obtain ⟨h1,h2⟩:=h
     rw [hC.prog] at hz
     rw [hN] at h2
     have hexec:(execOp a.eval o).run G.P w=.ok (.value (.pointer (some ⟨w.heap.size,0,none⟩))) (w.alloc (.cells z.cells t)):=by
      simp only [execOp,ho,Instr.alloc,Sem.run_bind,run_zeroT hz,Result.andThen_ok,newVar,newRow,run_newObj,Sem.run_pure]
      rfl
     refine .of_run hexec ?_
     refine newB_beh (w1:=w) (cap:=0) h2 hR hd (Ext.refl _ _) rfl (fun κ M' L' H' hkp hc hl hheap=>?_) (fun κ w' M' L' H' hg hl=>?_)
     · exact cells_newB (ofV_rel z) h1 κ M' L' H' hkp hc hl hheap
     · exact .ptr κ 0 _ w.heap.size 0 hg rfl hl
   · exact h.elim
 · rename_i t x ho
   obtain ⟨h0,h1,h2⟩:=h
   rw [hN] at h2
   have hx:=ox_rel hR.env x h0
   have hexec:(execOp a.eval o).run G.P w=.ok (.value (.pointer (some ⟨w.heap.size,0,none⟩))) (w.alloc (.cells (a.eval x).cells t)):=by
    simp only [execOp,ho,Instr.box,Sem.run_bind,newVar,newRow,run_newObj,Result.andThen_ok,Sem.run_pure]
    rfl
   refine .of_run hexec ?_
   refine newB_beh (w1:=w) (cap:=0) h2 hR hd (Ext.refl _ _) rfl (fun κ M' L' H' hkp hc hl hheap=>?_) (fun κ w' M' L' H' hg hl=>?_)
   · exact cells_newB hx h1 κ M' L' H' hkp hc hl hheap
   · exact .ptr κ 0 _ w.heap.size 0 hg rfl hl
 · rename_i t l c ho
   exact makeA_wp hC hN hR hd ho h.1 h.2.1 h.2.2
 · rename_i t x v ho
   exact storeA_wp hC hN hR hd ho h.1 h.2.1 h.2.2.1 h.2.2.2
 · rename_i t x ho
   exact rangeA_wp hC hN hR hd ho h.1 h.2
 · rename_i x ho
   exact nextA_wp hN hR hd ho h.1 h.2
 · rename_i t ho
   rw [hN] at h
   have hexec:(execOp a.eval o).run G.P w=.ok (.value (.map (some w.heap.size))) (w.alloc (.map #[] 0)):=by
    simp only [execOp,ho,Option.map_none,Instr.makeMap,Sem.run_bind,run_newObj,Result.andThen_ok,Sem.run_pure]
    rfl
   refine .of_run hexec ?_
   cases hdst:o.dst with
   | none=>rw [hdst] at h;exact h.elim
   | some d=>
     rw [hdst] at h
     obtain ⟨h1,h2,h3⟩:=h
     have hext:Ext NoB w (w.alloc (.map #[] 0)):=⟨rfl,rfl,rfl,by simp,fun b hb _=>heap_alloc_old w _ hb,fun a _ _=>by
      unfold World.frozen? World.alloc
      simp only [Array.getElem?_push]
      by_cases h:a.block=w.heap.size
      · rw [if_pos h,h]
        simp
      · rw [if_neg h]⟩
     have hR':=hR.newBlockAt (b:=w.heap.size) (cap:=0) h1 (B:=.map []) hext (Nat.le_refl _) (fun M' L' H' _ hl=>⟨w.heap.size,0,#[],0,hl,heap_alloc_new w _,MSz.nil,fun i p hp=>by simp at hp⟩)
     exact ⟨_,locSet L d (some (w.heap.size,0)),h3,hR'.put h2 (.mp d [] w.heap.size 0 (hget_hset_same _ _ _) (by simp [locSet])),hd⟩
 · rename_i t m k v ho
   exact mapA_wp hC hN hR hd ho h.1 h.2.1 h.2.2.1 h.2.2.2.1 h.2.2.2.2
 · rename_i args ts ho
   split at h
   · rename_i m k t tr ha hts
     exact delA_wp hC hN hR hd ho ha hts h.1 h.2.1 h.2.2
   · exact h.elim
 · rename_i args ts ho
   split at h
   · rename_i x t ha hts
     exact clrA_wp hC hN hR hd ho ha hts h.1 h.2
   · exact h.elim
 · rename_i args ts ho
   split at h
   · rename_i s x t tx ha hts
     exact appendA_wp hP0 hC hN hR hd ho ha hts h.1 h.2.1 h.2.2
   · exact h.elim
 · rename_i f args ts ho
   split at h
   · rename_i g caps hcal
     split at h
     · rename_i ψ hψ
       obtain ⟨h1,h2,h3⟩:=h
       obtain ⟨vs,hx,hcaps⟩:=calleeA_inv hcal (ox_rel hR.env f h1)
       have hall:=(LRel.of_ops hR.env args.toList h2).append hcaps
       obtain ⟨hent,hcall⟩:=hC.eff g ψ hψ _ _ _ _ h3
       unfold OpYields
       have e1:(args.map a.eval)++vs=(args.toList.map a.eval++vs.toList).toArray:=by rw [map_toArr];simp
       rw [exec_call ho hx hent w,e1]
       refine (hcall E N a.tmps w L _ hR hall (fun κ hκ=>hC.pinsLt κ (hP0 κ hκ))).mono ?_
       rintro e w' ⟨v,r,st',L',rfl,hk,hR',hv⟩
       rw [hN] at hk
       exact ⟨v,rfl,putD_beh hk hR' hv hd⟩
     · exact pure h
   · exact pure h
 · exact pure h
end
end Go.AM
