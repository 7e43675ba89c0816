/-
  A part of a proof.
-/
import Derived.Test.YtkajgkbhkkgdbaaGreatDoorMC
set_option linter.unusedSimpArgs false
set_option linter.unusedVariables false
namespace Go.AM
open Go
section
variable {G:Glob} {E:Base} {N:Nat} {st:ASt} {a:Act} {w:World} {L:Locs} {C:Ctx}
def Beh (G:Glob) (E:Base) (N:Nat) (K:ASt->Prop) (a:Act) (w:World):Prop:=∃ st L,K st/\Rel G E (OpqS G E) N st a.tmps w L/\a.defers=E.ds
theorem putD_beh {d:Option Tmp} {v:AV} {K:ASt->Prop} {x:Value} {w':World} (h:putD N st d v K) (hR:Rel G E (OpqS G E) N st a.tmps w' L) (hv:AVRel w' (Mut E L st.H) L st.H (OpqS G E) v x) (hd:a.defers=E.ds):
 Beh G E N K (a.put d x) w':=by
 cases d with
 | none=>exact ⟨st,L,h,hR,hd⟩
 | some d=>exact ⟨_,L,h.2,hR.put h.1 hv,hd⟩
theorem newB_beh {d:Option Tmp} {B:ABlk} {v:Nat->AV} {K:ASt->Prop} (h:newB N st d B v K) (hR:Rel G E (OpqS G E) N st a.tmps w L) (hd:a.defers=E.ds) {arr:Array Value} {et:TypeId} {cap:Nat} {w1:World} {x:Value}
 (hw1:Ext NoB w w1) (hs:w1.heap.size=w.heap.size)
 (hB:∀ κ M' L' H',Keeps w (Mut E L st.H) (w1.alloc (.cells arr et)) M'->(∀ key B,hget st.H key=some B->∃ B',hget H' key=some B'/\B.le B'/\L' key=L key/\(L key=none->B=B'))->
   L' κ=some (w.heap.size,cap)->(w1.alloc (.cells arr et)).heap[w.heap.size]?=some (.cells arr et (0,0))->BRel (w1.alloc (.cells arr et)) M' L' H' (OpqS G E) κ B)
 (hx:∀ κ (w':World) (M':Nat->Prop) (L':Locs) (H':AHeap),hget H' κ=some B->L' κ=some (w.heap.size,cap)->AVRel w' M' L' H' (OpqS G E) (v κ) x):
 Beh G E N K (a.put d x) (w1.alloc (.cells arr et)):=by
 cases d with
 | none=>exact h.elim
 | some d=>
   obtain ⟨h1,h2,h3⟩:=h
   obtain ⟨hR',_⟩:=hR.newBlock h1 hw1 hs (hB d)
   exact ⟨_,locSet L d (some (w.heap.size,cap)),h3,hR'.put h2 (hx d _ _ _ _ (hget_hset_same _ _ _) (by simp [locSet])),hd⟩
theorem getD_replicate_cells {z:PV} {n i j k:Nat} {c:PV} (h:(List.replicate n z)[i]?=some c):c=z/\i<n:=by
 have:=List.getElem?_eq_some_iff.1 h
 simp at this
 exact ⟨this.2.symm,this.1⟩
theorem storeA_wp (hC:TabsSound G C) (hN:C.N=N) (hR:Rel G E (OpqS G E) N st a.tmps w L) (hd:a.defers=E.ds) {o:Oper} {t:TypeId} {x v:Operand} {K:ASt->Prop} (ho:o.op=.store t x v)
 (h1:oc st.ρ x) (h2:oc st.ρ v) (hdst:o.dst=none) (h:storeA C st t (ox st.ρ x) (ox st.ρ v) K):OpYields G.P o a w (fun y w'=>Beh G E N K (a.put o.dst y) w'):=by
 have hx:=ox_rel hR.env x h1
 have hv:=ox_rel hR.env v h2
 have run:∀ {b off:Nat} {w':World},a.eval x=.pointer (some ⟨b,off,none⟩)->(storeVar t ⟨b,off,none⟩ (a.eval v)).run G.P w=.ok () w'->Beh G E N K a w'->OpYields G.P o a w (fun y w'=>Beh G E N K (a.put o.dst y) w'):=by
  intro b off w' e1 e2 e3
  unfold OpYields
  have:(execOp a.eval o).run G.P w=.ok .skip w':=by
   simp only [execOp,ho,Instr.storeAt,e1,Instr.sureAddr,Sem.run_bind,Sem.run_pure,Result.andThen_ok,e2]
  rw [this,hdst]
  exact e3
 unfold storeA at h
 rw [hC.prog] at h
 split at h
 · rename_i key off n hp hn
   rw [hp] at hx
   split at h
   · rename_i cs hH
     obtain ⟨g1,g2,g3,g4⟩:=h
     obtain ⟨B2,b,cap,e1,ev,e2,e3⟩:=ptr_inv hx
     obtain ⟨b2,cap2,arr,et,f1,f2,f3,f4⟩:=hR.blk key _ hH
     rw [e2] at f1
     simp only [Option.some.injEq,Prod.mk.injEq] at f1
     obtain ⟨rfl,rfl⟩:=f1
     have hcr:=cellsA_rel g3 hv
     have hsz:(a.eval v).cells.size=n:=by rw [<- Array.length_toList,<- hcr.length,g1]
     have hst:=run_storeVar (P:=G.P) (off:=off) hn hsz f2 (by omega) (hcr.ones g3)
     obtain ⟨q1,q2,q3,q4,q5⟩:=setRow_facts (w:=w) (b:=b) (arr:=putA off (a.eval v).cells.toList arr)
     refine run e3 hst ⟨_,L,g4,?_,hd⟩
     refine hR.writeBlock hH e2 (by simp [ABlk.le]) q1 q2 q3 q4 q5 setRow_frozen (fun M' H' hk hc=>?_)
     have hcells:CRel w (Mut E L st.H) L st.H (OpqS G E) (putL off (cellsA (ox st.ρ v)) cs) (putA off (a.eval v).cells.toList arr):=CRel.put hcr off ⟨f3,f4⟩
     have:=hcells.keepAll hk hc
     exact ⟨b,cap,_,et,e2,setRow_heap w b arr _ et _ f2,this.1,this.2⟩
   · exact h.elim
 · rename_i key i off n hp hn
   rw [hp] at hx
   split at h
   · rename_i k es hH
     obtain ⟨g1,g2,g3,g4,g5,g6,g7⟩:=h
     obtain ⟨k2,es2,b,cap,e1,e2,e3,e4⟩:=rp_inv hx
     rw [hH] at e1
     simp only [Option.some.injEq,ABlk.row.injEq] at e1
     obtain ⟨rfl,rfl⟩:=e1
     have hb:=hR.blk key _ hH
     simp only [BRel,e2] at hb
     obtain ⟨hk0,hw0,arr,et,f1,f2,f3,f4,f5⟩:=hb
     have hpv:=frz_free 4 _ _ g1 g2 hv
     have hm:=nth_mem g5
     have hwid:(PV.nth es i).cells.length=k:=hw0 _ (List.mem_of_getElem? hm)
     have hcells:(a.eval v).cells.size=n/\∀ (j:Nat) c,(frz st.H 4 (ox st.ρ v)).cells[j]?=some c->PVRel w (Mut E L st.H) c ((a.eval v).cells.getD j undef):=by
      generalize hq:frz st.H 4 (ox st.ρ v)=q at * 
      generalize hy:a.eval v=y at * 
      cases hpv <;> first
       | (rename_i cs vs h1 h2 h3;exact ⟨by simpa [Value.cells,PV.cells] using h1.trans g3,fun j c hc=>by simpa [Value.cells] using h3 j c (by simpa [PV.cells] using hc)⟩)
       | (simp only [PV.cells,List.length_singleton] at g3;subst g3
          refine ⟨rfl,fun j c hc=>?_⟩
          simp only [PV.cells] at hc
          cases j with
          | zero=>simp at hc;subst hc;simp only [Value.cells];first | exact PVRel.bool _ | exact PVRel.int _ _ | exact PVRel.str _ | exact PVRel.nilI | exact PVRel.nilP | (constructor <;> assumption)
          | succ j=>simp at hc)
     obtain ⟨hsz,hcr⟩:=hcells
     have hcap:i * k+k<=arr.size:=by
      rw [f2]
      have h1:(i+1) * k<=cap * k:=Nat.mul_le_mul_right _ (by omega)
      rw [Nat.add_mul,Nat.one_mul] at h1;exact h1
     have hone:∀ u,u∈(a.eval v).cells.toList->u.oneCell'=true:=by
      intro u hu
      obtain ⟨j,hj⟩:=List.mem_iff_getElem?.1 hu
      have hjl:j<n:=by have:=(List.getElem?_eq_some_iff.1 hj).1;simpa [hsz] using this
      have hc:(frz st.H 4 (ox st.ρ v)).cells[j]?=some ((frz st.H 4 (ox st.ρ v)).cells[j]'(by omega)):=List.getElem?_eq_getElem (by omega)
      have:=hcr j _ hc
      have e:(a.eval v).cells.getD j undef=u:=by
       rw [Array.getElem?_toList] at hj
       simp [Array.getD_eq_getD_getElem?,hj]
      rw [e] at this
      exact one_of_rel (List.all_eq_true.1 g6 _ (List.mem_of_getElem? hc)) this
     have hst:=run_storeVar (P:=G.P) hn hsz f1 (off:=i * k+off) (by omega) hone
     obtain ⟨q1,q2,q3,q4,q5⟩:=setRow_facts (w:=w) (b:=b) (arr:=putA (i * k+off) (a.eval v).cells.toList arr)
     refine run e4 hst ⟨_,L,g7,?_,hd⟩
     have putP_get:∀ (vs:List PV) (off:Nat) (cs:List PV) (j:Nat),off+vs.length<=cs.length->(putP off vs cs)[j]?=if off<=j/\j<off+vs.length then vs[j-off]? else cs[j]?:=by
      intro vs
      induction vs with
      | nil=>intro off cs j _;simp [putP];omega
      | cons x xs ih=>
        intro off cs j h
        simp only [List.length_cons] at h
        rw [putP,ih (off+1) _ j (by simp;omega)]
        by_cases h1:off+1<=j/\j<off+1+xs.length
        · rw [if_pos h1,if_pos (by simp;omega)]
          obtain ⟨m,rfl⟩:∃ m,j=off+1+m:=⟨j-(off+1),by omega⟩
          rw [show off+1+m-(off+1)=m by omega,show off+1+m-off=m+1 by omega,List.getElem?_cons_succ]
        · rw [if_neg h1]
          by_cases h2:j=off
          · subst h2
            rw [if_pos (by simp),List.getElem?_set]
            simp;omega
          · rw [if_neg (by simp;omega),List.getElem?_set_ne (Ne.symm h2)]
     have putP_len:∀ (vs:List PV) (off:Nat) (cs:List PV),(putP off vs cs).length=cs.length:=by
      intro vs
      induction vs with
      | nil=>intro off cs;rfl
      | cons x xs ih=>intro off cs;rw [putP,ih];simp
     have hlenN:(frz st.H 4 (ox st.ρ v)).cells.length=n:=g3
     have honeNew:∀ c,c∈putP off (frz st.H 4 (ox st.ρ v)).cells (PV.nth es i).cells->c.one=true:=by
      intro c hc
      obtain ⟨j,hj⟩:=List.mem_iff_getElem?.1 hc
      rw [putP_get _ _ _ _ (by omega)] at hj
      split at hj
      · exact List.all_eq_true.1 g6 _ (List.mem_of_getElem? hj)
      · exact (f5 i _ j c hm hj).1
     refine hR.writeBlock hH e2 (by simp [ABlk.le]) q1 q2 q3 q4 q5 setRow_frozen (fun M' H' hk hc=>?_)
     have hget:∀ (i':Nat) e',(es.set i (boxP (putP off (frz st.H 4 (ox st.ρ v)).cells (PV.nth es i).cells)))[i']?=some e'->(i'=i/\e'.cells=putP off (frz st.H 4 (ox st.ρ v)).cells (PV.nth es i).cells)\/(i'≠i/\es[i']?=some e'):=by
      intro i' e' he
      rw [List.getElem?_set] at he
      split at he
      · rename_i e
        subst e
        try rw [if_pos g5] at he
        simp only [Option.some.injEq] at he
        subst he
        exact .inl ⟨rfl,boxP_cells honeNew⟩
      · rename_i e;exact .inr ⟨Ne.symm e,he⟩
     unfold BRel
     refine ⟨hk0,fun e' he=>?_,?_⟩
     · obtain ⟨i',hi'⟩:=List.mem_iff_getElem?.1 he
       rcases hget i' e' hi' with ⟨_,h3⟩ | ⟨_,h3⟩
       · show e'.cells.length=k
         rw [h3,putP_len];exact hwid
       · exact hw0 _ (List.mem_of_getElem? h3)
     · rw [e2]
       refine ⟨_,et,setRow_heap w b arr _ et _ f1,by rw [size_putA];exact f2,by simpa using f3,f4,fun i' e' j c he hcj=>?_⟩
       have hgd:∀ m,(putA (i * k+off) (a.eval v).cells.toList arr).getD m undef=if i * k+off<=m/\m<i * k+off+n then (a.eval v).cells.getD (m-(i * k+off)) undef else arr.getD m undef:=by
        intro m
        simp only [Array.getD_eq_getD_getElem?]
        rw [putA_get _ _ _ _ (by simp [hsz];omega)]
        simp only [Array.length_toList,hsz]
        split
        · simp
        · rfl
       rcases hget i' e' he with ⟨rfl,h3⟩ | ⟨hne,h3⟩
       · rw [h3] at hcj
         refine ⟨honeNew c (List.mem_of_getElem? hcj),?_⟩
         rw [putP_get _ _ _ _ (by omega)] at hcj
         rw [hgd]
         split at hcj
         · rename_i hin
           rw [if_pos (by omega),show i' * k+j-(i' * k+off)=j-off by omega]
           exact (hcr _ c hcj).keep hk
         · rename_i hin
           rw [if_neg (by omega)]
           exact ((f5 i' _ j c hm hcj).2).keep hk
       · have h5:=f5 i' e' j c h3 hcj
         refine ⟨h5.1,?_⟩
         rw [hgd]
         have hj:j<k:=by
          have h6:=(List.getElem?_eq_some_iff.1 hcj).1
          have h7:e'.cells.length=k:=hw0 e' (List.mem_of_getElem? h3)
          omega
         have hout:¬ (i * k+off<=i' * k+j/\i' * k+j<i * k+off+n):=by
          intro hh
          rcases Nat.lt_or_gt_of_ne hne with hlt | hgt
          · have h8:(i'+1) * k<=i * k:=Nat.mul_le_mul_right _ hlt
            rw [Nat.add_mul,Nat.one_mul] at h8;omega
          · have h8:(i+1) * k<=i' * k:=Nat.mul_le_mul_right _ hgt
            rw [Nat.add_mul,Nat.one_mul] at h8;omega
         rw [if_neg hout]
         exact h5.2.keep hk
   · exact h.elim
 · exact h.elim
end
end Go.AM
