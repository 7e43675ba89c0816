/-
  A part of a proof.
-/
import Derived.Test.YteiphfohadlgiaaGreatDoorDM
set_option linter.unusedSimpArgs false
set_option linter.unusedVariables false
namespace Go.AM
open Go
section
variable {G:Glob} {E:Base} {N:Nat} {st:ASt} {a:Array Value} {w w':World} {L:Locs} {S:(List PV->Prop × PV)->Value->Prop}
end
section
variable {P:Program} {Φ:FuncId->PSpec} {Θ Θ':FuncId->Option QSpec} {Ψ Ψ':FuncId->Option ESpec} {rows pins:List Nat} {n:Nat} {c x y:Code} {Q:AX->ASt->Prop} {st:ASt}
theorem AWp.seqa {C:Ctx} (h1:AWp C x (AX.thn (fun st'=>AWp C y Q st') Q) st):AWp C (.seq x y) Q st:=by
  intro G E r n hr hF hP0 a w L hR hd
  refine wpIn_seq (wpIn_mono (h1 G E r n hr hF hP0 a w L hR hd) (fun e a w he=>?_))
  cases e with
  | normal=>
    obtain ⟨E',hE,s,L,h2,h2',h3⟩:=he
    have hP0':∀ κ,(E'.L0 κ).isSome=true->κ∈C.pins:=by rw [hE.L0];exact hP0
    exact wpIn_mono (h2 G E' r n hr hF hP0' a w L h2' h3) (fun e a w he=>he.up hE)
  | exit i=>exact he
  | ret=>exact he
  | goto l=>exact he
  | panic c=>exact he
  | outgrown=>exact he
end
def frzC (κ:Nat) (es:List PV):AV->AV
  | .rs κ' n=>if κ'=κ/\n<=es.length then .pv (.sl (es.take n)) else .rs κ' n
  | v=>v
def fitHF (κ:Nat) (es:List PV):AHeap->AHeap->Prop
  | [],_=>True
  | (key,B)::r,H=>(hget H key=some B\/∃ cs,hget H key=some (.cells cs)/\B=.cells (cs.map (frzC κ es)))/\fitHF κ es r H
theorem fitHF_get {κ:Nat} {es:List PV} {H:AHeap}:∀ {H1:AHeap},fitHF κ es H1 H->∀ key B,hget H1 key=some B->hget H key=some B\/∃ cs,hget H key=some (.cells cs)/\B=.cells (cs.map (frzC κ es))
  | [],_,key,B,hb=>by cases hb
  | (k1,B1)::r,h,key,B,hb=>by
    unfold hget at hb
    split at hb
    · rename_i e;subst e
      simp only [Option.some.injEq] at hb;subst hb
      exact h.1
    · exact fitHF_get h.2 key B hb
section
variable {w w':World} {M M':Nat->Prop} {L:Locs} {H H':AHeap} {S:(List PV->Prop × PV)->Value->Prop}
theorem AVRel.fit2 (hk:Keeps w M w' M') (hc:∀ key B,hget H key=some B->(hget H' key).isSome=true->hget H' key=some B\/∃ cs cs',B=.cells cs/\hget H' key=some (.cells cs')) {v:AV} {x:Value} (h:AVRel w M L H S v x):v.refsIn H'=true->AVRel w' M' L H' S v x:=by
  have get:∀ {key B},hget H key=some B->(hget H' key).isSome=true->(∀ cs,B≠.cells cs)->hget H' key=some B:=by
    intro key B h1 h2 h3
    rcases hc key B h1 h2 with h | ⟨cs,cs',e,_⟩
    · exact h
    · exact absurd e (h3 cs)
  induction h with
  | pv p v h=>exact fun _=>.pv p v (h.keep hk)
  | nils=>exact fun _=>.nils
  | ptr key off B b cap h1 hv h2=>
    intro hr
    rcases hc key B h1 hr with h | ⟨cs,cs',e,h⟩
    · exact .ptr key off B b cap h hv h2
    · exact .ptr key off _ b cap h rfl h2
  | rsN key k h1 h2=>exact fun hr=>.rsN key k (get h1 hr (fun _ e=>by cases e)) h2
  | rs key hi k es b cap h1 h2 h3=>exact fun hr=>.rs key hi k es b cap (get h1 hr (fun _ e=>by cases e)) h2 h3
  | rv key lo hi sz k es b cap cap' a h1 h2 h3 h4 h5 h6 h7=>exact fun hr=>.rv key lo hi sz k es b cap cap' a (get h1 hr (fun _ e=>by cases e)) h2 h3 h4 h5 h6 h7
  | rp key i off k es b cap h1 h2 h3=>exact fun hr=>.rp key i off k es b cap (get h1 hr (fun _ e=>by cases e)) h2 h3
  | mp key es b cap h1 h2=>exact fun hr=>.mp key es b cap (get h1 hr (fun _ e=>by cases e)) h2
  | bufN key e h1 h2=>exact fun hr=>.bufN key e (get h1 hr (fun _ e=>by cases e)) h2
  | buf key e bs b cap h1 h2=>exact fun hr=>.buf key e bs b cap (get h1 hr (fun _ e=>by cases e)) h2
  | it key s pos b cap h1 h2=>exact fun hr=>.it key s pos b cap (get h1 hr (fun _ e=>by cases e)) h2
  | agg cs vs hz _ ih=>exact fun hr=>.agg _ _ hz (fun i c hc'=>ih i c hc' (refsInL_mem hr i c hc'))
  | clo f caps vs hz _ ih=>exact fun hr=>.clo _ _ _ hz (fun i c hc'=>ih i c hc' (refsInL_mem hr i c hc'))
  | whnT v x _ ih=>exact fun hr=>.whnT _ _ (ih hr)
  | whnF v=>exact fun _=>.whnF _
  | opq φ x h=>exact fun _=>.opq φ x h
  | fix x=>exact fun _=>.fix x
  | top x=>exact fun _=>.top x
theorem BRel.fit2 (hh:w'.heap=w.heap) (hk:Keeps w M w' M') (hc:∀ key B,hget H key=some B->(hget H' key).isSome=true->hget H' key=some B\/∃ cs cs',B=.cells cs/\hget H' key=some (.cells cs')) {key:Nat} {B:ABlk} (h:BRel w M L H S key B) (hr:B.refsIn H'=true):BRel w' M' L H' S key B:=by
  cases B with
  | cells cs=>
    obtain ⟨b,cap,arr,et,e1,e2,e3,e4⟩:=h
    exact ⟨b,cap,arr,et,e1,by rw [hh];exact e2,e3,fun j c hc'=>(e4 j c hc').fit2 hk hc (refsInL_mem hr j c hc')⟩
  | typed ty cs=>
    obtain ⟨b,cap,arr,e1,e2,e3,e4⟩:=h
    exact ⟨b,cap,arr,e1,by rw [hh];exact e2,e3,fun j c hc'=>(e4 j c hc').fit2 hk hc (refsInL_mem hr j c hc')⟩
  | row k es=>
    obtain ⟨e1,e2,e3⟩:=h
    refine ⟨e1,e2,?_⟩
    cases hl:L key with
    | none=>rw [hl] at e3;exact e3
    | some bc=>
      obtain ⟨b,cap⟩:=bc
      rw [hl] at e3
      obtain ⟨arr,et,f1,f2,f3,f4,f5⟩:=e3
      exact ⟨arr,et,by rw [hh];exact f1,f2,f3,f4,fun i e j c he hc'=>⟨(f5 i e j c he hc').1,(f5 i e j c he hc').2.keep hk⟩⟩
  | obj J=>
    obtain ⟨cs,b,cap,arr,et,e1,e2,e3,e4,e5,e6⟩:=h
    exact ⟨cs,b,cap,arr,et,e1,e2,e3,by rw [hh];exact e4,e5,fun j c hc'=>(e6 j c hc').keep hk⟩
  | iter s pos=>
    obtain ⟨b,cap,e1,e2⟩:=h
    exact ⟨b,cap,e1,by rw [hh];exact e2⟩
  | buf e bs=>
    simp only [BRel,hh] at h ⊢
    exact h
  | map es=>
    obtain ⟨b,cap,ents,clock,e1,e2,e3,e4⟩:=h
    exact ⟨b,cap,ents,clock,e1,by rw [hh];exact e2,e3,fun i p hp=>by
      obtain ⟨e,g1,g2,g3,g4,g5⟩:=e4 i p hp
      exact ⟨e,g1,g2,g3,g4.keep hk,g5.keep hk⟩⟩
end
structure FitsG (pins:List Nat) (κ k:Nat) (es:List PV) (l:List (Nat × AV)) (H1:AHeap) (st:ASt):Prop where
  row:hget st.H κ=some (.row k es)
  gone:hget H1 κ=none
  slots:fitF κ es l st.ρ
  blocks:fitHF κ es H1 st.H
  refsR:refsR H1 l=true
  refsH:refsH H1 H1=true
  pins:(pins.all fun κ=>(hget H1 κ).isSome)=true
section
variable {G:Glob} {E:Base} {S:(List PV->Prop × PV)->Value->Prop} {N:Nat} {st:ASt} {a:Array Value} {w:World} {L:Locs}
theorem Rel.fitG (h:Rel G E S N st a w L) {pins:List Nat} (hp:∀ κ,(E.L0 κ).isSome=true->κ∈pins) {κ k:Nat} {es:List PV} {l:List (Nat × AV)} {H1:AHeap} (hf:FitsG pins κ k es l H1 st):Rel G E S N ⟨look l,H1⟩ a w L:=by
  have hc0:=fitHF_get hf.blocks
  have hc:∀ key B,hget H1 key=some B->∃ B0,hget st.H key=some B0:=fun key B hb=>by
    rcases hc0 key B hb with h1 | ⟨cs,h1,_⟩
    · exact ⟨_,h1⟩
    · exact ⟨_,h1⟩
  have hle:∀ key B,hget H1 key=some B->∀ B0,hget st.H key=some B0->(∃ k es,B=.row k es)->B=B0:=fun key B hb B0 hb0 ⟨k',es',e⟩=>by
    rcases hc0 key B hb with h1 | ⟨cs,h1,h2⟩
    · rw [h1] at hb0;exact Option.some.inj hb0
    · rw [e] at h2;cases h2
  have hm:∀ b,Mut E L H1 b->Mut E L st.H b:=fun b hm=>hm.imp id (fun ⟨key,B,cap,h1,h2⟩=>(by obtain ⟨B0,h3⟩:=hc key B h1;exact ⟨key,B0,cap,h3,h2⟩))
  have hk:Keeps w (Mut E L st.H) w (Mut E L H1):=fun b _ hn=>⟨rfl,fun h'=>hn (hm b h')⟩
  have hg:hget [(κ,ABlk.row k es)] κ=some (.row k es):=by simp [hget]
  have hB:∀ key B,hget [(κ,ABlk.row k es)] key=some B->BRel w (Mut E L st.H) L [(κ,ABlk.row k es)] S key B:=by
    intro key B hk'
    unfold hget at hk'
    split at hk'
    · rename_i e;subst e
      simp only [Option.some.injEq] at hk';subst hk'
      exact h.blk _ _ hf.row
    · cases hk'
  have hown:∀ key B b cap,hget [(κ,ABlk.row k es)] key=some B->L key=some (b,cap)->¬ Mut E L H1 b:=by
    intro key B b cap hk' hl hmm
    unfold hget at hk'
    split at hk'
    · rename_i e;subst e
      rcases hmm with hmm | ⟨key',B',cap',g1,g2⟩
      · exact (h.own _ _ _ _ hf.row hl).1 hmm
      · obtain ⟨B0,g3⟩:=hc _ _ g1
        have:=h.inj _ _ _ _ _ _ _ hf.row g3 hl g2
        rw [<- this,hf.gone] at g1;cases g1
    · cases hk'
  have rowcase:∀ (n:Nat) (x:Value),n<=es.length->AVRel w (Mut E L st.H) L st.H S (.rs κ n) x->AVRel w (Mut E L H1) L H1 S (.pv (.sl (es.take n))) x:=by
    intro n x hn hx
    have hx2:AVRel w (Mut E L st.H) L [(κ,ABlk.row k es)] S (.rs κ n) x:=by
      cases hx with
      | rsN key k' h1 h2 => rw [hf.row] at h1;obtain ⟨rfl,rfl⟩:k=k'/\es=[]:=by simpa using h1
                            exact .rsN _ _ hg h2
      | rs key hi k' es' b cap h1 h2 h3 => rw [hf.row] at h1;obtain ⟨rfl,rfl⟩:k=k'/\es=es':=by simpa using h1
                                           exact .rs _ _ _ _ _ _ hg h2 h3
    have:=frz_to hB hm hown 0 (.rs κ n) _ (by simp only [frzOk,hg];exact hn) hx2
    simp only [frz,hg] at this
    exact .pv _ _ this
  have hc2:∀ key B,hget st.H key=some B->(hget H1 key).isSome=true->hget H1 key=some B\/∃ cs cs',B=.cells cs/\hget H1 key=some (.cells cs'):=by
    intro key B hb hs
    obtain ⟨B1,hb1⟩:=Option.isSome_iff_exists.1 hs
    rcases hc0 key B1 hb1 with h1 | ⟨cs,h1,h2⟩
    · rw [h1] at hb
      rw [hb1,Option.some.inj hb];exact .inl rfl
    · rw [h1] at hb
      exact .inr ⟨cs,_,(Option.some.inj hb).symm,by rw [hb1,h2]⟩
  have val:∀ (v:AV) (x:Value),AVRel w (Mut E L st.H) L st.H S v x->v.refsIn H1=true->AVRel w (Mut E L H1) L H1 S v x:=fun v x hx hr=>hx.fit2 hk hc2 hr
  refine ⟨h.size,h.ext,h.inv,h.glob,h.old,h.m0,fun key B b cap h1 h2=>(by obtain ⟨B0,h3⟩:=hc _ _ h1;exact h.own key B0 b cap h3 h2),
    fun k1 k2 B1 B2 b c1 c2 h1 h2 h3 h4=>(by obtain ⟨B3,h5⟩:=hc _ _ h1;obtain ⟨B4,h6⟩:=hc _ _ h2;exact h.inj k1 k2 B3 B4 b c1 c2 h5 h6 h3 h4),
    fun key B h1=>?_,fun s=>?_,fun κ b c hl=>?_⟩
  case refine_3=>
    obtain ⟨h1,B,h2⟩:=h.fix κ b c hl
    obtain ⟨B',hB'⟩:=Option.isSome_iff_exists.1 (List.all_eq_true.1 hf.pins κ (hp κ (by rw [hl];rfl)))
    exact ⟨h1,B',hB'⟩
  case refine_1=>
    have hr:=refsH_get hf.refsH key B h1
    rcases hc0 key B h1 with h2 | ⟨cs,h2,rfl⟩
    · exact (h.blk key B h2).fit2 rfl hk hc2 hr
    · obtain ⟨b,cap,arr,et,e1,e2,e3,e4⟩:=h.blk key _ h2
      refine ⟨b,cap,arr,et,e1,e2,by simpa using e3,fun j c hj=>?_⟩
      have hrj:=refsInL_mem hr j c hj
      rw [List.getElem?_map] at hj
      obtain ⟨v,hv,rfl⟩:=Option.map_eq_some_iff.1 hj
      have hx:=e4 j v hv
      by_cases hrow:∃ n,v=.rs κ n/\n<=es.length
      · obtain ⟨n,rfl,hn⟩:=hrow
        have e:frzC κ es (.rs κ n)=.pv (.sl (es.take n)):=if_pos ⟨rfl,hn⟩
        rw [e];exact rowcase n _ hn hx
      · have e:frzC κ es v=v:=by
          unfold frzC
          split
          · rename_i κ' n
            split
            · rename_i h9;exact absurd ⟨n,by rw [h9.1],h9.2⟩ hrow
            · rfl
          · rfl
        rw [e] at hrj ⊢
        exact val v _ hx hrj
  rcases fitF_look hf.slots s with e | e | ⟨n,e1,hn,e2⟩
  · show AVRel _ _ _ _ _ (look l s) _
    rw [e];exact .top _
  · show AVRel _ _ _ _ _ (look l s) _
    rw [e];exact val _ _ (h.env s) (by rw [<- e];exact refsR_look hf.refsR s)
  · show AVRel _ _ _ _ _ (look l s) _
    rw [e2]
    have hx:=h.env s
    rw [e1] at hx
    exact rowcase n _ hn hx
end
theorem AWp.freezeC {C:Ctx} {T:Plan} {c:Code} {Q:AX->ASt->Prop} {st:ASt} {α:Type} (κ k:Nat) (es:α->List PV) (I:α->List (Nat × AV) × AHeap) (P:α->Prop)
    (h0:∃ z,P z/\FitsG C.pins κ k (es z) (I z).1 (I z).2 st) (h:∀ z,P z->wpc C T c Q ⟨look (I z).1,(I z).2⟩):AWp C c Q st:=by
  intro G E r n hr hF hP0 a w L hR hd
  obtain ⟨z,hz,hf⟩:=h0
  exact wpc_sound c Q _ (h z hz) G E r n hr hF hP0 a w L (hR.fitG hP0 hf) hd
def isAggF (κ:Nat) (es:List PV) (cs:List AV) (ps:List PV):Prop:=pvL (cs.map (frzC κ es))=some ps/\∀ p,p∈ps->p.one=true
def fitFA (κ:Nat) (es:List PV):List (Nat × AV)->(Nat->AV)->Prop
  | [],_=>True
  | (s,v)::r,ρ=>(ρ s=v\/(∃ n,ρ s=.rs κ n/\n<=es.length/\v=.pv (.sl (es.take n)))\/∃ cs ps,ρ s=.agg cs/\isAggF κ es cs ps/\v=.pv (.agg ps))/\fitFA κ es r ρ
structure FitsA (pins:List Nat) (κ k:Nat) (es:List PV) (l:List (Nat × AV)) (H1:AHeap) (st:ASt):Prop where
  row:hget st.H κ=some (.row k es)
  gone:hget H1 κ=none
  slots:fitFA κ es l st.ρ
  blocks:fitHF κ es H1 st.H
  refsR:refsR H1 l=true
  refsH:refsH H1 H1=true
  pins:(pins.all fun κ=>(hget H1 κ).isSome)=true
section
variable {G:Glob} {E:Base} {S:(List PV->Prop × PV)->Value->Prop} {N:Nat} {st:ASt} {a:Array Value} {w:World} {L:Locs}
end
end Go.AM
