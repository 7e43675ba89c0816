/-
  A part of a proof.
-/
import Derived.Test.YtkajgkbhkkgdbaaGreatDoorDM
import Derived.Test.YtkajgkbhkkgdbaaGreatDoorCD
set_option linter.unusedSimpArgs false
set_option linter.unusedVariables false
namespace Go.AM
open Go
def frzC (κ:Nat) (es:List PV):AV->AV
 | .rs κ' n=>if κ'=κ/\n<=es.length then .pv (.sl (es.take n)) else .rs κ' n
 | v=>v
def fitHF (κ:Nat) (es:List PV):AHeap->AHeap->Prop
 | [],_=>True
 | (key,B)::r,H=>(hget H key=some B\/∃ cs,hget H key=some (.cells cs)/\B=.cells (cs.map (frzC κ es)))/\fitHF κ es r H
theorem fitHF_get {κ:Nat} {es:List PV} {H:AHeap}:∀ {H1:AHeap},fitHF κ es H1 H->∀ key B,hget H1 key=some B->hget H key=some B\/∃ cs,hget H key=some (.cells cs)/\B=.cells (cs.map (frzC κ es))
 | [],_,key,B,hb=>by cases hb
 | (k1,B1)::r,h,key,B,hb=>by
   unfold hget at hb
   split at hb
   · rename_i e;subst e
     simp only [Option.some.injEq] at hb;subst hb
     exact h.1
   · exact fitHF_get h.2 key B hb
section
variable {w w':World} {M M':Nat->Prop} {L:Locs} {H H':AHeap} {S:(List PV->Prop × PV)->Value->Prop}
theorem AVRel.fit2 (hk:Keeps w M w' M') (hc:∀ key B,hget H key=some B->(hget H' key).isSome=true->hget H' key=some B\/∃ cs cs',B=.cells cs/\hget H' key=some (.cells cs')) {v:AV} {x:Value} (h:AVRel w M L H S v x):v.refsIn H'=true->AVRel w' M' L H' S v x:=by
 have get:∀ {key B},hget H key=some B->(hget H' key).isSome=true->(∀ cs,B≠.cells cs)->hget H' key=some B:=by
  intro key B h1 h2 h3
  rcases hc key B h1 h2 with h | ⟨cs,cs',e,_⟩
  · exact h
  · exact absurd e (h3 cs)
 induction h with
 | pv p v h=>exact fun _=>.pv p v (h.keep hk)
 | nils=>exact fun _=>.nils
 | ptr key off B b cap h1 hv h2=>
   intro hr
   rcases hc key B h1 hr with h | ⟨cs,cs',e,h⟩
   · exact .ptr key off B b cap h hv h2
   · exact .ptr key off _ b cap h rfl h2
 | rsN key k h1 h2=>exact fun hr=>.rsN key k (get h1 hr (fun _ e=>by cases e)) h2
 | rs key hi k es b cap h1 h2 h3=>exact fun hr=>.rs key hi k es b cap (get h1 hr (fun _ e=>by cases e)) h2 h3
 | rv key lo hi sz k es b cap cap' a h1 h2 h3 h4 h5 h6 h7=>exact fun hr=>.rv key lo hi sz k es b cap cap' a (get h1 hr (fun _ e=>by cases e)) h2 h3 h4 h5 h6 h7
 | rp key i off k es b cap h1 h2 h3=>exact fun hr=>.rp key i off k es b cap (get h1 hr (fun _ e=>by cases e)) h2 h3
 | mp key es b cap h1 h2=>exact fun hr=>.mp key es b cap (get h1 hr (fun _ e=>by cases e)) h2
 | bufN key e h1 h2=>exact fun hr=>.bufN key e (get h1 hr (fun _ e=>by cases e)) h2
 | buf key e bs b cap h1 h2=>exact fun hr=>.buf key e bs b cap (get h1 hr (fun _ e=>by cases e)) h2
 | it key s pos b cap h1 h2=>exact fun hr=>.it key s pos b cap (get h1 hr (fun _ e=>by cases e)) h2
 | agg cs vs hz _ ih=>exact fun hr=>.agg _ _ hz (fun i c hc'=>ih i c hc' (refsInL_mem hr i c hc'))
 | clo f caps vs hz _ ih=>exact fun hr=>.clo _ _ _ hz (fun i c hc'=>ih i c hc' (refsInL_mem hr i c hc'))
 | whnT v x _ ih=>exact fun hr=>.whnT _ _ (ih hr)
 | whnF v=>exact fun _=>.whnF _
 | opq φ x h=>exact fun _=>.opq φ x h
 | fix x h1=>exact fun _=>.fix x h1
 | top x=>exact fun _=>.top x
theorem BRel.fit2 (hh:w'.heap=w.heap) (hk:Keeps w M w' M') (hc:∀ key B,hget H key=some B->(hget H' key).isSome=true->hget H' key=some B\/∃ cs cs',B=.cells cs/\hget H' key=some (.cells cs')) {key:Nat} {B:ABlk} (h:BRel w M L H S key B) (hr:B.refsIn H'=true):BRel w' M' L H' S key B:=by
 cases B with
 | cells cs=>
   obtain ⟨b,cap,arr,et,e1,e2,e3,e4⟩:=h
   exact ⟨b,cap,arr,et,e1,by rw [hh];exact e2,e3,fun j c hc'=>(e4 j c hc').fit2 hk hc (refsInL_mem hr j c hc')⟩
 | typed ty cs=>
   obtain ⟨b,cap,arr,e1,e2,e3,e4⟩:=h
   exact ⟨b,cap,arr,e1,by rw [hh];exact e2,e3,fun j c hc'=>(e4 j c hc').fit2 hk hc (refsInL_mem hr j c hc')⟩
 | row k es=>
   obtain ⟨e1,e2,e3⟩:=h
   refine ⟨e1,e2,?_⟩
   cases hl:L key with
   | none=>rw [hl] at e3;exact e3
   | some bc=>
     obtain ⟨b,cap⟩:=bc
     rw [hl] at e3
     obtain ⟨arr,et,f1,f2,f3,f4,f5⟩:=e3
     exact ⟨arr,et,by rw [hh];exact f1,f2,f3,f4,fun i e j c he hc'=>⟨(f5 i e j c he hc').1,(f5 i e j c he hc').2.keep hk⟩⟩
 | obj J=>
   obtain ⟨cs,b,cap,arr,et,e1,e2,e3,e4,e5,e6⟩:=h
   exact ⟨cs,b,cap,arr,et,e1,e2,e3,by rw [hh];exact e4,e5,fun j c hc'=>(e6 j c hc').keep hk⟩
 | iter s pos=>
   obtain ⟨b,cap,e1,e2⟩:=h
   exact ⟨b,cap,e1,by rw [hh];exact e2⟩
 | buf e bs=>
   simp only [BRel,hh] at h ⊢
   exact h
 | map es=>
   obtain ⟨b,cap,ents,clock,e1,e2,e3,e4⟩:=h
   exact ⟨b,cap,ents,clock,e1,by rw [hh];exact e2,e3,fun i p hp=>by
    obtain ⟨e,g1,g2,g3,g4,g5⟩:=e4 i p hp
    exact ⟨e,g1,g2,g3,g4.keep hk,g5.keep hk⟩⟩
end
structure FitsG (pins:List Nat) (κ k:Nat) (es:List PV) (l:List (Nat × AV)) (H1:AHeap) (st:ASt):Prop where
 row:hget st.H κ=some (.row k es)
 gone:hget H1 κ=none
 slots:fitF κ es l st.ρ
 blocks:fitHF κ es H1 st.H
 refsR:refsR H1 l=true
 refsH:refsH H1 H1=true
 pins:(pins.all fun κ=>(hget H1 κ).isSome)=true
section
variable {G:Glob} {E:Base} {S:(List PV->Prop × PV)->Value->Prop} {N:Nat} {st:ASt} {a:Array Value} {w:World} {L:Locs}
theorem Rel.fitG (h:Rel G E S N st a w L) {pins:List Nat} (hp:∀ κ,(E.L0 κ).isSome=true->κ∈pins) {κ k:Nat} {es:List PV} {l:List (Nat × AV)} {H1:AHeap} (hf:FitsG pins κ k es l H1 st):Rel G E S N ⟨look l,H1⟩ a w L:=by
 have hc0:=fitHF_get hf.blocks
 have hc:∀ key B,hget H1 key=some B->∃ B0,hget st.H key=some B0:=fun key B hb=>by
  rcases hc0 key B hb with h1 | ⟨cs,h1,_⟩
  · exact ⟨_,h1⟩
  · exact ⟨_,h1⟩
 have hle:∀ key B,hget H1 key=some B->∀ B0,hget st.H key=some B0->(∃ k es,B=.row k es)->B=B0:=fun key B hb B0 hb0 ⟨k',es',e⟩=>by
  rcases hc0 key B hb with h1 | ⟨cs,h1,h2⟩
  · rw [h1] at hb0;exact Option.some.inj hb0
  · rw [e] at h2;cases h2
 have hm:∀ b,Mut E L H1 b->Mut E L st.H b:=fun b hm=>hm.imp id (fun ⟨key,B,cap,h1,h2⟩=>(by obtain ⟨B0,h3⟩:=hc key B h1;exact ⟨key,B0,cap,h3,h2⟩))
 have hk:Keeps w (Mut E L st.H) w (Mut E L H1):=fun b _ hn=>⟨rfl,fun h'=>hn (hm b h')⟩
 have hg:hget [(κ,ABlk.row k es)] κ=some (.row k es):=by simp [hget]
 have hB:∀ key B,hget [(κ,ABlk.row k es)] key=some B->BRel w (Mut E L st.H) L [(κ,ABlk.row k es)] S key B:=by
  intro key B hk'
  unfold hget at hk'
  split at hk'
  · rename_i e;subst e
    simp only [Option.some.injEq] at hk';subst hk'
    exact h.blk _ _ hf.row
  · cases hk'
 have hown:∀ key B b cap,hget [(κ,ABlk.row k es)] key=some B->L key=some (b,cap)->¬ Mut E L H1 b:=by
  intro key B b cap hk' hl hmm
  unfold hget at hk'
  split at hk'
  · rename_i e;subst e
    rcases hmm with hmm | ⟨key',B',cap',g1,g2⟩
    · exact (h.own _ _ _ _ hf.row hl).1 hmm
    · obtain ⟨B0,g3⟩:=hc _ _ g1
      have:=h.inj _ _ _ _ _ _ _ hf.row g3 hl g2
      rw [<- this,hf.gone] at g1;cases g1
  · cases hk'
 have rowcase:∀ (n:Nat) (x:Value),n<=es.length->AVRel w (Mut E L st.H) L st.H S (.rs κ n) x->AVRel w (Mut E L H1) L H1 S (.pv (.sl (es.take n))) x:=by
  intro n x hn hx
  have hx2:AVRel w (Mut E L st.H) L [(κ,ABlk.row k es)] S (.rs κ n) x:=by
   cases hx with
   | rsN key k' h1 h2 => rw [hf.row] at h1;obtain ⟨rfl,rfl⟩:k=k'/\es=[]:=by simpa using h1
                         exact .rsN _ _ hg h2
   | rs key hi k' es' b cap h1 h2 h3 => rw [hf.row] at h1;obtain ⟨rfl,rfl⟩:k=k'/\es=es':=by simpa using h1
                                        exact .rs _ _ _ _ _ _ hg h2 h3
  have:=frz_to hB hm hown 0 (.rs κ n) _ (by simp only [frzOk,hg];exact hn) hx2
  simp only [frz,hg] at this
  exact .pv _ _ this
 have hc2:∀ key B,hget st.H key=some B->(hget H1 key).isSome=true->hget H1 key=some B\/∃ cs cs',B=.cells cs/\hget H1 key=some (.cells cs'):=by
  intro key B hb hs
  obtain ⟨B1,hb1⟩:=Option.isSome_iff_exists.1 hs
  rcases hc0 key B1 hb1 with h1 | ⟨cs,h1,h2⟩
  · rw [h1] at hb
    rw [hb1,Option.some.inj hb];exact .inl rfl
  · rw [h1] at hb
    exact .inr ⟨cs,_,(Option.some.inj hb).symm,by rw [hb1,h2]⟩
 have val:∀ (v:AV) (x:Value),AVRel w (Mut E L st.H) L st.H S v x->v.refsIn H1=true->AVRel w (Mut E L H1) L H1 S v x:=fun v x hx hr=>hx.fit2 hk hc2 hr
 refine ⟨h.size,h.ext,h.inv,h.glob,h.old,h.m0,fun key B b cap h1 h2=>(by obtain ⟨B0,h3⟩:=hc _ _ h1;exact h.own key B0 b cap h3 h2),
  fun k1 k2 B1 B2 b c1 c2 h1 h2 h3 h4=>(by obtain ⟨B3,h5⟩:=hc _ _ h1;obtain ⟨B4,h6⟩:=hc _ _ h2;exact h.inj k1 k2 B3 B4 b c1 c2 h5 h6 h3 h4),
  fun key B h1=>?_,fun s=>?_,fun κ b c hl=>?_⟩
 case refine_3=>
  obtain ⟨h1,B,h2⟩:=h.fix κ b c hl
  obtain ⟨B',hB'⟩:=Option.isSome_iff_exists.1 (List.all_eq_true.1 hf.pins κ (hp κ (by rw [hl];rfl)))
  exact ⟨h1,B',hB'⟩
 case refine_1=>
  have hr:=refsH_get hf.refsH key B h1
  rcases hc0 key B h1 with h2 | ⟨cs,h2,rfl⟩
  · exact (h.blk key B h2).fit2 rfl hk hc2 hr
  · obtain ⟨b,cap,arr,et,e1,e2,e3,e4⟩:=h.blk key _ h2
    refine ⟨b,cap,arr,et,e1,e2,by simpa using e3,fun j c hj=>?_⟩
    have hrj:=refsInL_mem hr j c hj
    rw [List.getElem?_map] at hj
    obtain ⟨v,hv,rfl⟩:=Option.map_eq_some_iff.1 hj
    have hx:=e4 j v hv
    by_cases hrow:∃ n,v=.rs κ n/\n<=es.length
    · obtain ⟨n,rfl,hn⟩:=hrow
      have e:frzC κ es (.rs κ n)=.pv (.sl (es.take n)):=if_pos ⟨rfl,hn⟩
      rw [e];exact rowcase n _ hn hx
    · have e:frzC κ es v=v:=by
        unfold frzC
        split
        · rename_i κ' n
          split
          · rename_i h9;exact absurd ⟨n,by rw [h9.1],h9.2⟩ hrow
          · rfl
        · rfl
      rw [e] at hrj ⊢
      exact val v _ hx hrj
 rcases fitF_look hf.slots s with e | e | ⟨n,e1,hn,e2⟩
 · show AVRel _ _ _ _ _ (look l s) _
   rw [e];exact .top _
 · show AVRel _ _ _ _ _ (look l s) _
   rw [e];exact val _ _ (h.env s) (by rw [<- e];exact refsR_look hf.refsR s)
 · show AVRel _ _ _ _ _ (look l s) _
   rw [e2]
   have hx:=h.env s
   rw [e1] at hx
   exact rowcase n _ hn hx
end
theorem AWp.freezeC {C:Ctx} {T:Plan} {c:Code} {Q:AX->ASt->Prop} {st:ASt} {α:Type} (κ k:Nat) (es:α->List PV) (I:α->List (Nat × AV) × AHeap) (P:α->Prop)
 (h0:∃ z,P z/\FitsG C.pins κ k (es z) (I z).1 (I z).2 st) (h:∀ z,P z->wpc C T c Q ⟨look (I z).1,(I z).2⟩):AWp C c Q st:=by
 intro G E r n hr hF hP0 a w L hR hd
 obtain ⟨z,hz,hf⟩:=h0
 exact wpc_sound c Q _ (h z hz) G E r n hr hF hP0 a w L (hR.fitG hP0 hf) hd
def isAggF (κ:Nat) (es:List PV) (cs:List AV) (ps:List PV):Prop:=pvL (cs.map (frzC κ es))=some ps/\∀ p,p∈ps->p.one=true
def fitFA (κ:Nat) (es:List PV):List (Nat × AV)->(Nat->AV)->Prop
 | [],_=>True
 | (s,v)::r,ρ=>(ρ s=v\/(∃ n,ρ s=.rs κ n/\n<=es.length/\v=.pv (.sl (es.take n)))\/∃ cs ps,ρ s=.agg cs/\isAggF κ es cs ps/\v=.pv (.agg ps))/\fitFA κ es r ρ
structure FitsA (pins:List Nat) (κ k:Nat) (es:List PV) (l:List (Nat × AV)) (H1:AHeap) (st:ASt):Prop where
 row:hget st.H κ=some (.row k es)
 gone:hget H1 κ=none
 slots:fitFA κ es l st.ρ
 blocks:fitHF κ es H1 st.H
 refsR:refsR H1 l=true
 refsH:refsH H1 H1=true
 pins:(pins.all fun κ=>(hget H1 κ).isSome)=true
section
variable {G:Glob} {E:Base} {S:(List PV->Prop × PV)->Value->Prop} {N:Nat} {st:ASt} {a:Array Value} {w:World} {L:Locs}
end
set_option maxHeartbeats 1000000
def flatC:PV->Bool
 | .int _ _ | .bool _ | .str _=>true
 | _=>false
theorem flat_rel {w w':World} {M M':Nat->Prop} {c:PV} {v:Value} (hf:flatC c=true) (h:PVRel w M c v):PVRel w' M' c v:=by
 cases c <;> simp only [flatC] at hf <;> first | (exact absurd hf (by decide)) | (cases h;constructor)
def objC (fs:List PV) (key n:Nat):List AV:=fs.map .pv++[.rs key n]
def psiObj (k:Nat) (φ:List PV->List PV->List PV->Prop × List PV):ESpec:=fun d args st K=>
 ∃ κ rest fs key es,args=.ptr κ 0::rest/\hget st.H κ=some (.cells (objC fs key es.length))/\hget st.H key=some (.row k es)/\1000000<=key/\AV.freeL rest=true/\(∀ a,a∈rest->frzOk st.H 4 a)/\
  (φ fs es (rest.map (frz st.H 4))).1/\(∀ e,e∈(φ fs es (rest.map (frz st.H 4))).2->e.cells.all flatC=true)/\
  K (.pv (.tup [])) ⟨killR key st.ρ,hset (hset (killH key st.H) key (.row k (φ fs es (rest.map (frz st.H 4))).2)) κ (.cells (objC fs key (φ fs es (rest.map (frz st.H 4))).2.length))⟩
theorem psiObj_mono {k:Nat} {φ:List PV->List PV->List PV->Prop × List PV}:∀ d args st (K K':AV->ASt->Prop),(∀ r s,K r s->K' r s)->psiObj k φ d args st K->psiObj k φ d args st K':=by
 rintro d args st K K' hk ⟨κ,rest,fs,key,es,h1,h2,h3,h4,h5,h6,h7,h8,h9⟩
 exact ⟨κ,rest,fs,key,es,h1,h2,h3,h4,h5,h6,h7,h8,hk _ _ h9⟩
def FinObj (k:Nat) (fs es:List PV):AX->ASt->Prop
 | .normal,st=>hget st.H 9000=some (.cells (objC fs 1009001 es.length))/\hget st.H 1009001=some (.row k es)
 | .ret,st=>hget st.H 9000=some (.cells (objC fs 1009001 es.length))/\hget st.H 1009001=some (.row k es)
 | .exit _,_=>False
theorem objC_get {fs:List PV} {key n j:Nat} {c:AV} (h:(objC fs key n)[j]?=some c):(∃ p,fs[j]?=some p/\c=.pv p)\/(j=fs.length/\c=.rs key n):=by
 unfold objC at h
 rw [List.getElem?_append] at h
 split at h
 · rename_i hlt
   rw [List.getElem?_map] at h
   obtain ⟨p,h1,h2⟩:=Option.map_eq_some_iff.1 h
   exact .inl ⟨p,h1,h2.symm⟩
 · rename_i hge
   simp only [List.length_map] at hge h
   rcases Nat.eq_zero_or_pos (j-fs.length) with h0 | h0
   · rw [h0] at h
     simp only [List.getElem?_cons_zero,Option.some.injEq] at h
     exact .inr ⟨by omega,h.symm⟩
   · rw [List.getElem?_eq_none (by simp;omega)] at h;cases h
theorem obj_cells {w w':World} {M M':Nat->Prop} {L L':Locs} {H H':AHeap} {S S':(List PV->Prop × PV)->Value->Prop} {fs:List PV} {key key' n k:Nat} {es:List PV} {j:Nat} {c:AV} {v:Value}
 (hp:∀ p,PVRel w M p v->PVRel w' M' p v) (h1:hget H key=some (.row k es)) (h2:hget H' key'=some (.row k es)) (hL:L' key'=L key)
 (hj:(objC fs key' n)[j]?=some c) (h:∀ c',(objC fs key n)[j]?=some c'->AVRel w M L H S c' v):AVRel w' M' L' H' S' c v:=by
 rcases objC_get hj with ⟨p,g1,rfl⟩ | ⟨rfl,rfl⟩
 · have:(objC fs key n)[j]?=some (.pv p):=by
     unfold objC
     have hlt:=(List.getElem?_eq_some_iff.1 g1).1
     rw [List.getElem?_append_left (by simpa using hlt),List.getElem?_map,g1];rfl
   exact .pv p v (hp p (pv_inv (h _ this)))
 · have:(objC fs key n)[fs.length]?=some (.rs key n):=by
     unfold objC
     rw [List.getElem?_append_right (by simp)]
     simp
   rcases rs_inv (h _ this) with ⟨k2,g1,g2,rfl,rfl⟩ | ⟨k2,es2,b,cap,g1,g2,g3,rfl⟩
   · rw [h1] at g1
     simp only [Option.some.injEq,ABlk.row.injEq] at g1
     obtain ⟨_,rfl⟩:=g1
     exact .rsN key' k h2 (by rw [hL];exact g2)
   · rw [h1] at g1
     simp only [Option.some.injEq,ABlk.row.injEq] at g1
     obtain ⟨rfl,rfl⟩:=g1
     exact .rs key' n k es b cap h2 (by rw [hL];exact g2) g3
theorem ESound.of_obj {G:Glob} {C:Ctx} {T:Plan} {f:FuncId} {fn:Func} {c:Code} {φ:List PV->List PV->List PV->Prop × List PV} {k:Nat}
 (hf:G.P.funcs[f]?=some fn) (hb:fn.body=some c) (hn:(fn.name == "runtime.NumGoroutine")=false) (hN:C.N=fn.ntmps) (hres:fn.results=#[]) (hpins:C.pins=[9000]) (hF:Fit G C)
 (h:∀ fs es args,(φ fs es args).1->(∀ e,e∈es->e.width=k)->args.length+1<=C.N/\wpc C T c (FinObj k fs (φ fs es args).2) ⟨look ((0,.ptr 9000 0)::argL 1 args),[(9000,.cells (objC fs 1009001 es.length)),(1009001,.row k es)]⟩) (ho:C.outer=false:=by rfl):ESound G f (psiObj k φ):=by
 rintro d args st K ⟨κ,rest,fs,key,es,rfl,hκ,hH,hbig,p1,p2,p3,p4,p5⟩
 refine ⟨⟨fn,hf,hn,by rw [hb];rfl⟩,fun E N a w L xs hR hargs hp0=>?_⟩
 cases hargs with
 | cons _ x0 _ xs' hx0 hrest=>
 have hne:κ≠key:=fun e=>by rw [e,hH] at hκ;cases hκ
 have hL0:E.L0 key=none:=by
  cases hl:E.L0 key with
  | none=>rfl
  | some bc=>have:=hp0 key (by rw [hl];rfl);omega
 have hblkκ:=hR.blk κ _ hκ
 have hblk0:=hR.blk key _ hH
 have hwid:∀ e,e∈es->e.width=k:=hblk0.2.1
 have hk0:0<k:=hblk0.1
 obtain ⟨b,cap,arr,et,hlκ,hbκ,hsz,hcells⟩:=hblkκ
 obtain ⟨hlen,hw⟩:=h fs es _ p3 hwid
 obtain ⟨hxl,hpv⟩:=hrest.pvs p1 p2
 obtain ⟨es',he'⟩:∃ es',(φ fs es (rest.map (frz st.H 4))).2=es':=⟨_,rfl⟩
 rw [he'] at hw p4 p5
 let L0:Locs:=fun k=>if k=9000 then L κ else none
 let L1:Locs:=fun k=>if k=9000 then L κ else if k=1009001 then L key else none
 let H1:AHeap:=[(9000,.cells (objC fs 1009001 es.length)),(1009001,.row k es)]
 let E':Base:=⟨w,fun x=>Mut E L st.H x/\(∀ c,L κ≠some (x,c))/\∀ c,L key≠some (x,c),fun x=>(∃ c,L κ=some (x,c))\/∃ c,L key=some (x,c),L0,[]⟩
 have hmκ:∀ x c,L κ=some (x,c)->Mut E L st.H x:=fun x c hl=>.inr ⟨κ,_,c,hκ,hl⟩
 have hmk:∀ x c,L key=some (x,c)->Mut E L st.H x:=fun x c hl=>.inr ⟨key,_,c,hH,hl⟩
 have one:∀ kk B,hget H1 kk=some B->(kk=9000/\B=.cells (objC fs 1009001 es.length))\/(kk=1009001/\B=.row k es):=by
  intro kk B hk
  simp only [H1,hget] at hk
  split at hk
  · rename_i e;simp only [Option.some.injEq] at hk;exact .inl ⟨e.symm,hk.symm⟩
  · split at hk
    · rename_i e;simp only [Option.some.injEq] at hk;exact .inr ⟨e.symm,hk.symm⟩
    · cases hk
 have g0:hget H1 9000=some (.cells (objC fs 1009001 es.length)):=by simp [H1,hget]
 have g1:hget H1 1009001=some (.row k es):=by simp [H1,hget]
 have l0:L1 9000=L κ:=by simp [L1]
 have l1:L1 1009001=L key:=by simp [L1]
 have hMut0:∀ x,Mut E' L1 H1 x->Mut E L st.H x:=by
  rintro x (hx | ⟨kk,B,c0,k1,k2⟩)
  · exact hx.1
  · rcases one kk B k1 with ⟨rfl,_⟩ | ⟨rfl,_⟩
    · rw [l0] at k2;exact hmκ x c0 k2
    · rw [l1] at k2;exact hmk x c0 k2
 have hk00:Keeps w (Mut E L st.H) w (Mut E' L1 H1):=fun x _ hn=>⟨rfl,fun hm=>hn (hMut0 x hm)⟩
 have hR0:Rel G E' (OpqS G E') C.N ⟨look ((0,.ptr 9000 0)::argL 1 (rest.map (frz st.H 4))),H1⟩ ((x0::xs').toArray++Array.replicate (fn.ntmps-(x0::xs').toArray.size) undef) w L1:=by
  refine ⟨?_,Ext.refl _ _,hR.inv,Nat.le_trans hR.glob hR.ext.size,fun x hx=>⟨hR.mut_lt hx.1,?_⟩,?_,?_,?_,?_,fun s=>?_,?_⟩
  · have:=hlen
    simp only [List.length_map] at this
    simp [hxl];omega
  · rintro (⟨c,hc⟩ | ⟨c,hc⟩)
    · exact hx.2.1 c hc
    · exact hx.2.2 c hc
  · rintro x (⟨c,hc⟩ | ⟨c,hc⟩)
    · exact (hR.own κ _ x c hκ hc).2.1
    · exact (hR.own key _ x c hH hc).2.1
  · intro kk B x c0 k1 k2
    rcases one kk B k1 with ⟨rfl,_⟩ | ⟨rfl,_⟩
    · rw [l0] at k2
      exact ⟨fun hx=>hx.2.1 c0 k2,(hR.own κ _ x c0 hκ k2).2.1,.inl (.inl ⟨c0,k2⟩)⟩
    · rw [l1] at k2
      exact ⟨fun hx=>hx.2.2 c0 k2,(hR.own key _ x c0 hH k2).2.1,.inl (.inr ⟨c0,k2⟩)⟩
  · intro k1 k2 B1 B2 x c1 c2 m1 m2 q1 q2
    rcases one k1 B1 m1 with ⟨rfl,_⟩ | ⟨rfl,_⟩ <;> rcases one k2 B2 m2 with ⟨rfl,_⟩ | ⟨rfl,_⟩
    · rfl
    · rw [l0] at q1;rw [l1] at q2;exact absurd (hR.inj κ key _ _ x c1 c2 hκ hH q1 q2) hne
    · rw [l1] at q1;rw [l0] at q2;exact absurd (hR.inj κ key _ _ x c2 c1 hκ hH q2 q1) hne
    · rfl
  · intro kk B hk
    rcases one kk B hk with ⟨rfl,rfl⟩ | ⟨rfl,rfl⟩
    · refine ⟨b,cap,arr,et,by rw [l0];exact hlκ,hbκ,by rw [hsz];simp [objC],fun j c hj=>?_⟩
      exact obj_cells (fun p hp=>hp.keep hk00) hH g1 l1 hj (fun c' hc'=>hcells j c' hc')
    · simp only [BRel,l1] at hblk0 ⊢
      refine ⟨hk0,hwid,?_⟩
      have h3:=hblk0.2.2
      cases hl:L key with
      | none=>rw [hl] at h3;exact h3
      | some bc=>
        obtain ⟨b,cap⟩:=bc
        rw [hl] at h3
        obtain ⟨arr,et,e1,e2,e3,e4,e5⟩:=h3
        exact ⟨arr,et,e1,e2,e3,e4,fun i e j c he hc=>⟨(e5 i e j c he hc).1,(e5 i e j c he hc).2.keep hk00⟩⟩
  · unfold look
    split
    · rename_i e;subst e
      have hg:((x0::xs').toArray++Array.replicate (fn.ntmps-(x0::xs').toArray.size) undef).getD 0 undef=x0:=by
       simp [Array.getD_eq_getD_getElem?,Array.getElem?_append]
      rw [hg]
      obtain ⟨B,b2,cap2,m1,m2,m3,rfl⟩:=ptr_inv hx0
      exact .ptr 9000 0 _ b2 cap2 g0 rfl (by rw [l0];exact m3)
    · refine look_argL (vs:=(x0::xs').toArray) (rest.map (frz st.H 4)) 1 (fun j p hp=>?_) (by simp [hxl];omega) s
      have:=(hpv j p hp).keep hk00
      have e:(x0::xs').toArray.getD (1+j) undef=xs'.toArray.getD j undef:=by
       simp [Array.getD_eq_getD_getElem?,Nat.add_comm 1 j]
      rw [e];exact this
  · intro k2 b0 c0 hl
    have hl':(if k2=9000 then L κ else none)=some (b0,c0):=hl
    split at hl'
    · rename_i e;subst e
      exact ⟨by rw [l0];exact hl',_,g0⟩
    · cases hl'
 refine calls_of_wp hf hb ?_
 have hwp:=wpIn_wide.1 <| wpc_sound c _ _ hw G E' none 0 (fun _=>rfl) hF (fun k2 hk=>by
  rw [hpins]
  have hk':((if k2=9000 then L κ else none:Option (Nat × Nat))).isSome=true:=hk
  split at hk'
  · rename_i e;rw [e];simp
  · cases hk') { tmps:=(x0::xs').toArray++Array.replicate (fn.ntmps-(x0::xs').toArray.size) undef,defers:=[] } w L1 hR0 rfl
 have fin:∀ (a':Act) (w':World),Beh G E' C.N (fun s=>hget s.H 9000=some (.cells (objC fs 1009001 es'.length))/\hget s.H 1009001=some (.row k es')) a' w'->
  a'.defers=[]/\∃ v,(results fn a'.tmps).run G.P w'=.ok v w'/\∃ v' r st' L',Ending.returned v=.returned v'/\K r st'/\Rel G E (OpqS G E) N st' a w' L'/\AVRel w' (Mut E L' st'.H) L' st'.H (OpqS G E) r v':=by
  rintro a' w' ⟨s,L',⟨q0,q1⟩,hR',hd⟩
  have hrun:(results fn a'.tmps).run G.P w'=.ok (.tuple #[]) w':=by
   rw [results_eq,hres]
   simp
  have hext:Ext E'.M0 w w':=hR'.ext
  have hl9:L' 9000=some (b,cap):=(hR'.fix 9000 b cap (by simp [E',L0,hlκ])).1
  obtain ⟨b',cap',arr',et',m1,m2,m3,m4⟩:=hR'.blk 9000 _ q0
  rw [hl9] at m1
  simp only [Option.some.injEq,Prod.mk.injEq] at m1
  obtain ⟨rfl,rfl⟩:=m1
  have hrow:=hR'.blk 1009001 _ q1
  have hbw:b<w.heap.size:=hR.mut_lt (hmκ b cap hlκ)
  have hbs':b<w'.heap.size:=Nat.lt_of_lt_of_le hbw hext.size
  obtain ⟨w1,hw1⟩:∃ w1,w'.putObj b (.cells arr et (0,0))=w1:=⟨_,rfl⟩
  have z1:w1.heap[b]?=some (.cells arr et (0,0)):=by rw [<- hw1];exact World.putObj_heap_same hbs'
  have z2:∀ k,k≠b->w1.heap[k]?=w'.heap[k]?:=fun k hk=>by rw [<- hw1];exact World.putObj_heap_other hk
  have z3:w1.heap.size=w'.heap.size:=by rw [<- hw1];simp [World.putObj]
  have z4:w1.os=w'.os/\w1.tape=w'.tape/\w1.output=w'.output:=by rw [<- hw1];exact ⟨rfl,rfl,rfl⟩
  have hgb:∀ g c,L' 1009001=some (g,c)->g≠b:=fun g c hg e=>by
   subst e
   have:=hR'.inj 9000 1009001 _ _ _ _ _ q0 q1 hl9 hg
   exact absurd this (by decide)
  obtain ⟨hR1,hK1⟩:=hR.turnBlock' (w':=w1) hH hL0 (x:=L' 1009001) (B':=.row k es') (fun kk hk hnk=>by
   by_cases e:kk=b
   · subst e;exact z1.trans hbκ.symm
   · rw [z2 kk e]
     refine hext.block kk hk ?_
     rintro (⟨c,hc⟩ | ⟨c,hc⟩)
     · rw [hlκ] at hc;simp only [Option.some.injEq,Prod.mk.injEq] at hc;exact e hc.1.symm
     · exact hnk kk c hc rfl) (by have:=hext.size;omega) (z4.1.trans hext.os) (z4.2.1.trans hext.tape) (z4.2.2.trans hext.output)
   (fun g c hg=>by
     rcases (hR'.own 1009001 _ g c q1 hg).2.2 with (⟨c',hc'⟩ | ⟨c',hc'⟩) | h9
     · rw [hlκ] at hc';simp only [Option.some.injEq,Prod.mk.injEq] at hc';exact absurd hc'.1.symm (hgb g c hg)
     · exact .inl ⟨c',hc'⟩
     · exact .inr h9) (fun M' L2 H2 hkp hc hl=>by
     simp only [BRel,hl] at hrow ⊢
     refine ⟨hk0,hrow.2.1,?_⟩
     have h3:=hrow.2.2
     cases hl1:L' 1009001 with
     | none=>rw [hl1] at h3;exact h3
     | some gc=>
       obtain ⟨g,c⟩:=gc
       rw [hl1] at h3
       obtain ⟨arr2,et2,e1,e2,e3,e4,e5⟩:=h3
       refine ⟨arr2,et2,(z2 g (hgb g c hl1)).trans e1,e2,e3,e4,fun i e j cc he hc'=>⟨(e5 i e j cc he hc').1,flat_rel ?_ (e5 i e j cc he hc').2⟩⟩
       exact List.all_eq_true.1 (p4 e (List.mem_of_getElem? he)) cc (List.mem_of_getElem? hc'))
  have hlκ':(locSet L key (L' 1009001)) κ=some (b,cap):=by simp [locSet,hne,hlκ]
  have hκ':hget (hset (killH key st.H) key (.row k es')) κ=some (.cells (AV.killL key (objC fs key es.length))):=by
   rw [hget_hset_ne _ _ (Ne.symm hne),hget_killH,hκ];rfl
  have hmut:∀ x,Mut E (locSet L key (L' 1009001)) (hset (killH key st.H) key (.row k es')) x->Mut E' L' s.H x:=by
   rintro x (hx | ⟨kk,B0,c0,n1,n2⟩)
   · refine .inl ⟨.inl hx,fun c hc=>(hR.own κ _ x c hκ hc).1 hx,fun c hc=>(hR.own key _ x c hH hc).1 hx⟩
   · by_cases e:kk=key
     · subst e
       simp only [locSet,if_true] at n2
       exact .inr ⟨1009001,_,c0,q1,n2⟩
     · simp only [locSet,e,if_false] at n2
       rw [hget_hset_ne _ _ (Ne.symm e),hget_killH] at n1
       obtain ⟨B1,n3,_⟩:=Option.map_eq_some_iff.1 n1
       by_cases e2:kk=κ
       · subst e2
         rw [hlκ] at n2
         simp only [Option.some.injEq,Prod.mk.injEq] at n2
         rw [<- n2.1]
         exact .inr ⟨9000,_,cap,q0,hl9⟩
       · exact .inl ⟨.inr ⟨kk,B1,c0,n3,n2⟩,fun c hc=>e2 (hR.inj kk κ _ _ x c0 c n3 hκ n2 hc),fun c hc=>e (hR.inj kk key _ _ x c0 c n3 hH n2 hc)⟩
  have hkeep:Keeps w' (Mut E' L' s.H) w1 (Mut E (locSet L key (L' 1009001)) (hset (killH key st.H) key (.row k es'))):=fun x hx hnm=>
   ⟨z2 x (fun e=>hnm (by rw [e];exact .inr ⟨9000,_,cap,q0,hl9⟩)),fun hm=>hnm (hmut x hm)⟩
  have hR2:=hR1.writeBlock' (w':=w') (B':=.cells (objC fs key es'.length)) hκ' hlκ' trivial (fun kk hk=>(z2 kk hk).symm) z3.symm z4.1.symm z4.2.1.symm z4.2.2.symm (fun M' H' hkp hc=>by
   obtain ⟨B2,n1,n2,_,n4⟩:=hc key _ (hget_hset_same _ _ _)
   refine ⟨b,cap,arr',et',hlκ',m2,by rw [m3];simp [objC],fun j c hj=>?_⟩
   rcases objC_get hj with ⟨p,r1,rfl⟩ | ⟨rfl,rfl⟩
   · have:(objC fs 1009001 es'.length)[j]?=some (.pv p):=by
       unfold objC
       have hlt:=(List.getElem?_eq_some_iff.1 r1).1
       rw [List.getElem?_append_left (by simpa using hlt),List.getElem?_map,r1];rfl
     exact .pv p _ (((pv_inv (m4 j _ this)).keep hkeep).keep hkp)
   · have:(objC fs 1009001 es'.length)[fs.length]?=some (.rs 1009001 es'.length):=by
       unfold objC
       rw [List.getElem?_append_right (by simp)]
       simp
     have hrs:=m4 _ _ this
     have hlk:(locSet L key (L' 1009001)) key=L' 1009001:=by simp [locSet]
     cases B2 with
     | row k2 es2=>
       obtain ⟨rfl,hle⟩:=n2
       rcases rs_inv hrs with ⟨k3,r1,r2,r3,r4⟩ | ⟨k3,es3,b3,cap3,r1,r2,r3,r4⟩
       · rw [r4,r3]
         have hB:=n4 (by rw [hlk];exact r2)
         simp only [ABlk.row.injEq,true_and] at hB
         have hnil:es'=[]:=List.eq_nil_of_length_eq_zero r3
         rw [<- hB,hnil] at n1
         exact .rsN key k n1 (by rw [hlk];exact r2)
       · rw [q1] at r1
         simp only [Option.some.injEq,ABlk.row.injEq] at r1
         obtain ⟨rfl,rfl⟩:=r1
         rw [r4]
         exact .rs key _ k es2 b3 cap3 n1 (by rw [hlk];exact r2) hle
     | _=>exact n2.elim)
  exact ⟨hd,_,hrun,_,_,_,_,rfl,p5,hR2,.pv _ _ (.tup [] #[] rfl (fun i c hc=>by simp at hc))⟩
 refine wp_mono hwp (fun e a' w' he=>?_)
 rw [ho] at he
 cases e with
 | normal=>exact fin a' w' (BehX.beh he)
 | ret=>exact fin a' w' (BehX.beh he)
 | exit i=>obtain ⟨_,_,h,_⟩:=BehX.beh he;exact h.elim
 | goto l=>exact he
 | panic c=>exact he.elim
 | outgrown=>exact he.elim
end Go.AM
