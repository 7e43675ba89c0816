/-
  A part of a proof.
-/
import Derived.Test.YtkajgkbhkkgdbaaGreatDoorAX
set_option linter.unusedSimpArgs false
set_option linter.unusedVariables false
namespace Go.AM
open Go
section
variable {C:Ctx} {T:Plan} {c:Code} {Q:AX->ASt->Prop} {st:ASt}
theorem AWp.look_in {κ:Nat} {J:List PV->Prop} (hκ:hget st.H κ=some (.obj J)) (h:∀ cs,J cs->(∀ c,c∈cs->c.one=true)->AWp C c Q { st with H:=hset st.H κ (.cells (cs.map AV.pv)) }):AWp C c Q st:=by
 intro G E r n hr hF hP0 a w L hR hd
 obtain ⟨cs,b,cap,arr,et,e1,e2,e3,e4,e5,e6⟩:=hR.blk κ _ hκ
 refine h cs e1 e2 G E r n hr hF hP0 a w L ?_ hd
 refine hR.writeBlock (w':=w) hκ e3 (by simp [ABlk.le]) (fun _ _=>rfl) rfl rfl rfl rfl (fun _=>rfl) (fun M' H' hk hc=>?_)
 refine ⟨b,cap,arr,et,e3,e4,by simpa using e5,fun j c hc'=>?_⟩
 rw [List.getElem?_map] at hc'
 obtain ⟨p,hp,rfl⟩:=Option.map_eq_some_iff.1 hc'
 exact .pv _ _ ((e6 j p hp).keep hk)
end
def tapeOk (J:List PV->Prop):Option ABlk->Prop
 | some (.obj J')=>J'=J
 | some (.cells as)=>∃ cs,pvL as=some cs/\J cs/\cs.all PV.one=true
 | _=>False
def filt (H:AHeap) (ρ:Nat->AV):Nat->AV:=fun s=>bif (ρ s).refsIn H then ρ s else .top
def FinQ (C:Ctx) (rs:List ResultVar) (κ:Nat) (J:List PV->Prop) (post:PV->Prop):AX->ASt->Prop
 | .normal,st=>tapeOk J (hget st.H κ)/\refsH (hdel st.H κ) (hdel st.H κ)=true/\resC C ⟨filt (hdel st.H κ) st.ρ,hdel st.H κ⟩ rs/\post (tupP (resV C ⟨filt (hdel st.H κ) st.ρ,hdel st.H κ⟩ rs))
 | .ret,st=>tapeOk J (hget st.H κ)/\refsH (hdel st.H κ) (hdel st.H κ)=true/\resC C ⟨filt (hdel st.H κ) st.ρ,hdel st.H κ⟩ rs/\post (tupP (resV C ⟨filt (hdel st.H κ) st.ρ,hdel st.H κ⟩ rs))
 | .exit _,_=>False
def qT (J:List PV->Prop) (pre:List PV->Prop) (post:List PV->PV->Prop):QSpec:=fun args H=>
 match args with
 | .ptr κ 0::rest=>(hget H κ=some (.obj J)/\AV.freeL rest=true/\(∀ a,a∈rest->frzOk H 4 a)/\pre (rest.map (frz H 4)),fun r=>∃ p,r=.pv p/\post (rest.map (frz H 4)) p)
 | _=>(False,fun _=>False)
theorem pvL_map:∀ {as:List AV} {cs:List PV},pvL as=some cs->as=cs.map AV.pv
 | [],cs,h=>by simp [pvL] at h;subst h;rfl
 | .pv p::r,cs,h=>by
   simp only [pvL] at h
   obtain ⟨ds,h1,rfl⟩:=Option.map_eq_some_iff.1 h
   rw [pvL_map h1];rfl
 | .nils::r,cs,h=>by simp [pvL] at h
 | .ptr _ _::r,cs,h=>by simp [pvL] at h
 | .rs _ _::r,cs,h=>by simp [pvL] at h
 | .rv _ _ _ _::r,cs,h=>by simp [pvL] at h
 | .rp _ _ _::r,cs,h=>by simp [pvL] at h
 | .mp _::r,cs,h=>by simp [pvL] at h
 | .bufh _ _::r,cs,h=>by simp [pvL] at h
 | .it _::r,cs,h=>by simp [pvL] at h
 | .agg _::r,cs,h=>by simp [pvL] at h
 | .clo _ _::r,cs,h=>by simp [pvL] at h
 | .whn _ _::r,cs,h=>by simp [pvL] at h
 | .opq _::r,cs,h=>by simp [pvL] at h
 | .fix _::r,cs,h=>by simp [pvL] at h
 | .top::r,cs,h=>by simp [pvL] at h
theorem tapeOk_rel {w:World} {M:Nat->Prop} {L:Locs} {H:AHeap} {S:(List PV->Prop × PV)->Value->Prop} {κ:Nat} {J:List PV->Prop} {B:ABlk} (h:tapeOk J (some B)) (hB:BRel w M L H S κ B):BRel w M L H S κ (.obj J):=by
 cases B with
 | obj J'=>have e:J'=J:=h;subst e;exact hB
 | row k es=>exact h.elim
 | map es=>exact h.elim
 | iter s pos=>exact h.elim
 | buf e bs=>exact h.elim
 | typed ty cs=>exact h.elim
 | cells as=>
   obtain ⟨cs,h1,h2,h3⟩:=h
   have:=pvL_map h1
   subst this
   obtain ⟨b,cap,arr,et,e1,e2,e3,e4⟩:=hB
   refine ⟨cs,b,cap,arr,et,h2,List.all_eq_true.1 h3,e1,e2,by simpa using e3,fun j c hc=>?_⟩
   exact pv_inv (e4 j (.pv c) (by rw [List.getElem?_map,hc];rfl))
theorem LRel.pvs {w:World} {M:Nat->Prop} {L:Locs} {H:AHeap} {S:(List PV->Prop × PV)->Value->Prop} {l:List AV} {xs:List Value} (h:LRel w M L H S l xs) (hf:AV.freeL l=true) (hk:∀ a,a∈l->frzOk H 4 a):
 xs.length=l.length/\∀ (j:Nat) p,(l.map (Go.AM.frz H 4))[j]?=some p->PVRel w M p (xs.toArray.getD j undef):=by
 have:=h.frzFree hf hk
 exact ⟨by have h1:=this.1;simp at h1;exact h1,this.2⟩
theorem QSound.of_wpc {G:Glob} {C:Ctx} {f:FuncId} {fn:Func} {c:Code} {J:List PV->Prop} {pre:List PV->Prop} {post:List PV->PV->Prop} (κ0:Nat)
 (hf:G.P.funcs[f]?=some fn) (hb:fn.body=some c) (hn:(fn.name == "runtime.NumGoroutine")=false) (hN:C.N=fn.ntmps) (hF:Fit G C) (hpins:C.pins=[κ0])
 (hin:∀ args,pre args->∃ p,post args p)
 (h:∀ args,pre args->args.length+1<=C.N/\AWp C c (FinQ C fn.results.toList κ0 J (post args)) ⟨look ((0,.ptr κ0 0)::argL 1 args),[(κ0,.obj J)]⟩) (ho:C.outer=false:=by rfl):QSound G f (qT J pre post):=by
 have shape:∀ args H,(qT J pre post args H).1->∃ κ rest,args=.ptr κ 0::rest/\hget H κ=some (.obj J)/\AV.freeL rest=true/\(∀ a,a∈rest->frzOk H 4 a)/\pre (rest.map (frz H 4))/\
  (qT J pre post args H).2=fun r=>∃ p,r=.pv p/\post (rest.map (frz H 4)) p:=by
  intro args H hq
  unfold qT at hq ⊢
  split at hq
  · exact ⟨_,_,rfl,hq.1,hq.2.1,hq.2.2.1,hq.2.2.2,rfl⟩
  · exact hq.elim
 have ent:Enterable G.P f:=⟨fn,hf,hn,by rw [hb];rfl⟩
 refine ⟨fun _ _ _=>ent,fun args H hq=>?_,fun args H H' hs hq=>?_,?_⟩
 · obtain ⟨κ,rest,rfl,h1,h2,h3,h4,h5⟩:=shape args H hq
   obtain ⟨p,hp⟩:=hin _ h4
   rw [h5];exact ⟨_,p,rfl,hp⟩
 · obtain ⟨κ,rest,rfl,h1,h2,h3,h4,h5⟩:=shape args H hq
   obtain ⟨m1,m2⟩:=frzL_mono (show Sub H H' from hs) h3
   simp only [qT,m2]
   exact ⟨⟨hs _ _ h1,h2,m1,h4⟩,trivial⟩
 · intro args st hq E N a w L xs hR hargs
   obtain ⟨κ,rest,rfl,h1,h2,h3,h4,h5⟩:=shape args st.H hq
   rw [h5]
   cases hargs with
   | cons _ x0 _ xs' hx0 hrest=>
   obtain ⟨B0,b,cap,g1,gv,g2,rfl⟩:=ptr_inv hx0
   obtain ⟨hlen,hw⟩:=h _ h4
   obtain ⟨hxl,hpv⟩:=hrest.pvs h2 h3
   have hown:=hR.own κ _ b cap h1 g2
   have hmb:Mut E L st.H b:=.inr ⟨κ,_,cap,h1,g2⟩
   have hblt:=hR.mut_lt hmb
   let E':Base:=⟨w,fun x=>Mut E L st.H x/\x≠b,fun x=>x=b,fun k=>if k=κ0 then some (b,cap) else none,[]⟩
   let L0:Locs:=fun k=>if k=κ0 then some (b,cap) else none
   have hMut0:∀ x,Mut E' L0 [(κ0,.obj J)] x->Mut E L st.H x:=by
    rintro x (hx | ⟨key,B,c0,k1,k2⟩)
    · exact hx.1
    · have:key=κ0/\x=b:=by
        by_cases e:key=κ0
        · refine ⟨e,?_⟩
          simp only [L0,e,if_true,Option.some.injEq,Prod.mk.injEq] at k2
          exact k2.1.symm
        · simp only [L0,e,if_false] at k2;cases k2
      rw [this.2];exact hmb
   have hk0:Keeps w (Mut E L st.H) w (Mut E' L0 [(κ0,.obj J)]):=fun x _ hn=>⟨rfl,fun hm=>hn (hMut0 x hm)⟩
   have one:∀ key B,hget [(κ0,ABlk.obj J)] key=some B->key=κ0/\B=.obj J:=by
    intro key B hk
    unfold hget at hk
    split at hk
    · rename_i e;simp only [Option.some.injEq] at hk;exact ⟨e.symm,hk.symm⟩
    · cases hk
   have hsz:(#[Value.pointer (some ⟨b,0,none⟩)]++xs'.toArray).size=(rest.map (frz st.H 4)).length+1:=by simp [hxl]
   have hR0:Rel G E' (OpqS G E') C.N ⟨look ((0,.ptr κ0 0)::argL 1 (rest.map (frz st.H 4))),[(κ0,.obj J)]⟩ ((Value.pointer (some ⟨b,0,none⟩)::xs').toArray++Array.replicate (fn.ntmps-(Value.pointer (some ⟨b,0,none⟩)::xs').toArray.size) undef) w L0:=by
    refine ⟨?_,Ext.refl _ _,hR.inv,Nat.le_trans hR.glob hR.ext.size,fun x hx=>⟨hR.mut_lt hx.1,hx.2⟩,fun x hx=>?_,?_,?_,?_,fun s=>?_,?_⟩
    · have:=hlen
      simp only [List.length_map] at this
      simp [hxl];omega
    · have hx:x=b:=hx
      subst hx;exact hown.2.1
    · intro key B x c0 k1 k2
      obtain ⟨rfl,rfl⟩:=one key B k1
      simp only [L0,if_true,Option.some.injEq,Prod.mk.injEq] at k2
      obtain ⟨rfl,rfl⟩:=k2
      exact ⟨fun hx=>hx.2 rfl,hown.2.1,.inl rfl⟩
    · intro k1 k2 B1 B2 x c1 c2 m1 m2 _ _
      rw [(one k1 B1 m1).1,(one k2 B2 m2).1]
    · intro key B hk
      obtain ⟨rfl,rfl⟩:=one key B hk
      obtain ⟨cs,b2,cap2,arr,et,e1,e2,e3,e4,e5,e6⟩:=hR.blk κ _ h1
      rw [g2] at e3
      simp only [Option.some.injEq,Prod.mk.injEq] at e3
      obtain ⟨rfl,rfl⟩:=e3
      exact ⟨cs,b,cap,arr,et,e1,e2,by simp [L0],e4,e5,fun j c hc=>(e6 j c hc).keep hk0⟩
    · unfold look
      split
      · rename_i e;subst e
        have:((Value.pointer (some ⟨b,0,none⟩)::xs').toArray++Array.replicate (fn.ntmps-(Value.pointer (some ⟨b,0,none⟩)::xs').toArray.size) undef).getD 0 undef=.pointer (some ⟨b,0,none⟩):=by
         simp [Array.getD_eq_getD_getElem?,Array.getElem?_append]
        rw [this]
        exact .ptr κ0 0 (.obj J) b cap (by simp [hget]) rfl (by simp [L0])
      · refine look_argL (vs:=(Value.pointer (some ⟨b,0,none⟩)::xs').toArray) (rest.map (frz st.H 4)) 1 (fun j p hp=>?_) (by simp [hxl];omega) s
        have:=(hpv j p hp).keep hk0
        have e:(Value.pointer (some ⟨b,0,none⟩)::xs').toArray.getD (1+j) undef=xs'.toArray.getD j undef:=by
         simp [Array.getD_eq_getD_getElem?,Nat.add_comm 1 j]
        rw [e];exact this
    · intro k b0 c0 hl
      have hl':(if k=κ0 then some (b,cap) else none)=some (b0,c0):=hl
      split at hl'
      · rename_i e;subst e
        exact ⟨hl,.obj J,by simp [hget]⟩
      · cases hl'
   refine calls_of_wp hf hb ?_
   have hwp:=wpIn_wide.1 <| hw G E' none 0 (fun _=>rfl) hF (fun k hk=>by
    rw [hpins]
    have hk':((if k=κ0 then some (b,cap) else none:Option (Nat × Nat))).isSome=true:=hk
    split at hk'
    · rename_i e;rw [e];simp
    · cases hk') { tmps:=(Value.pointer (some ⟨b,0,none⟩)::xs').toArray++Array.replicate (fn.ntmps-(Value.pointer (some ⟨b,0,none⟩)::xs').toArray.size) undef,defers:=[] } w L0 hR0 rfl
   have fin:∀ (a':Act) (w':World),Beh G E' C.N (fun s=>tapeOk J (hget s.H κ0)/\refsH (hdel s.H κ0) (hdel s.H κ0)=true/\resC C ⟨filt (hdel s.H κ0) s.ρ,hdel s.H κ0⟩ fn.results.toList/\post (rest.map (frz st.H 4)) (tupP (resV C ⟨filt (hdel s.H κ0) s.ρ,hdel s.H κ0⟩ fn.results.toList))) a' w'->
    a'.defers=[]/\∃ v,(results fn a'.tmps).run G.P w'=.ok v w'/\∃ v' r L',Ending.returned v=.returned v'/\(∃ p,r=.pv p/\post (rest.map (frz st.H 4)) p)/\Rel G E (OpqS G E) N st a w' L'/\AVRel w' (Mut E L' st.H) L' st.H (OpqS G E) r v':=by
    rintro a' w' ⟨s,L',⟨q1,q2,q3,q4⟩,hR',hd⟩
    obtain ⟨f1,B1,f2⟩:=hR'.fix κ0 b cap (by simp [E'])
    have hmut:∀ x,Mut E L st.H x->Mut E' L' s.H x:=by
     intro x hx
     by_cases e:x=b
     · exact .inr ⟨κ0,B1,cap,f2,by rw [e];exact f1⟩
     · exact .inl ⟨hx,e⟩
    have hdelg:∀ key B,hget (hdel s.H κ0) key=some B->hget s.H key=some B/\key≠κ0:=by
     intro key B hk
     by_cases e:key=κ0
     · subst e;rw [hget_hdel_same] at hk;cases hk
     · rw [hget_hdel_ne _ (Ne.symm e)] at hk;exact ⟨hk,e⟩
    have hkr:Keeps w' (Mut E' L' s.H) w' (Mut E' L' s.H):=fun _ _ hn=>⟨rfl,hn⟩
    obtain ⟨v,hv,hr⟩:=results_run (C:=C) (st:=⟨filt (hdel s.H κ0) s.ρ,hdel s.H κ0⟩) (M:=Mut E' L' s.H) (S:=OpqS G E') (M':=Mut E L st.H) (w:=w') (L:=L') (a:=a'.tmps) hF.tabs.base.prog
     (fun key B hk=>(hR'.blk key B (hdelg key B hk).1).fit rfl hkr (fun key B hk=>(hdelg key B hk).1) (refsH_get q2 key B hk))
     (fun t=>by
       show AVRel _ _ _ _ _ (filt (hdel s.H κ0) s.ρ t) _
       unfold filt
       cases hf':(s.ρ t).refsIn (hdel s.H κ0) with
       | true=>exact (hR'.env t).fit hkr (fun key B hk=>(hdelg key B hk).1) hf'
       | false=>exact .top _)
     hmut
     (fun key B b' c' hk hl hm=>by
       obtain ⟨k1,k2⟩:=hdelg key B hk
       obtain ⟨o1,_,_⟩:=hR'.own key B b' c' k1 hl
       by_cases e:b'=b
       · subst e;exact k2 (hR'.inj key κ0 B B1 b' c' cap k1 f2 hl f1)
       · exact o1 ⟨hm,e⟩) q3
    refine ⟨hd,v,hv,v,.pv (tupP (resV C ⟨filt (hdel s.H κ0) s.ρ,hdel s.H κ0⟩ fn.results.toList)),L,rfl,⟨_,rfl,q4⟩,?_,.pv _ _ hr⟩
    have hext:Ext (fun x=>x=b) w w':=hR'.ext
    have hk:Keeps w (Mut E L st.H) w' (Mut E L st.H):=fun x hx hn=>⟨hext.block x hx (fun e=>hn (by have e:x=b:=e;rw [e];exact hmb)),hn⟩
    have hc:∀ key B,hget st.H key=some B->∃ B',hget st.H key=some B'/\B.le B'/\L key=L key/\(L key=none->B=B'):=fun key B hb=>⟨B,hb,ABlk.le_refl _,rfl,fun _=>rfl⟩
    refine ⟨hR.size,hR.ext.trans' hext (fun x hx=>?_),hR'.inv,hR.glob,hR.old,hR.m0,hR.own,hR.inj,fun key B hb=>?_,fun t=>(hR.env t).keep hk (fun _ _ h=>h) hc,hR.fix⟩
    · have hx:x=b:=hx
      rw [hx];exact hown.2.2
    · by_cases e:key=κ
      · subst e
        rw [h1] at hb
        simp only [Option.some.injEq] at hb
        subst hb
        rw [f2] at q1
        obtain ⟨cs,b2,cap2,arr,et,e1,e2,e3,e4,e5,e6⟩:=tapeOk_rel q1 (hR'.blk κ0 B1 f2)
        rw [f1] at e3
        simp only [Option.some.injEq,Prod.mk.injEq] at e3
        obtain ⟨rfl,rfl⟩:=e3
        exact ⟨cs,b,cap,arr,et,e1,e2,g2,e4,e5,fun j c hc'=>(e6 j c hc').keep (fun x _ hn=>⟨rfl,fun hm=>hn (hmut x hm)⟩)⟩
      · refine (hR.blk key B hb).keepAll hk hc (fun b' cap' hl=>hext.block b' (hR.mut_lt (.inr ⟨key,B,cap',hb,hl⟩)) (fun e'=>?_)) rfl
        have e':b'=b:=e'
        subst e'
        exact e (hR.inj key κ B _ b' cap' cap hb h1 hl g2)
   refine wp_mono hwp (fun e a' w' he=>?_)
   rw [ho] at he
   cases e with
   | normal=>exact fin a' w' (BehX.beh he)
   | ret=>exact fin a' w' (BehX.beh he)
   | exit i=>obtain ⟨_,_,h,_⟩:=BehX.beh he;exact h.elim
   | goto l=>exact he
   | panic c=>exact he.elim
   | outgrown=>exact he.elim
def FinN (t:Nat) (J:List PV->Prop):AX->ASt->Prop
 | .normal,st=>match st.ρ t with
   | .ptr κ 0=>tapeOk J (hget st.H κ)
   | _=>False
 | .ret,st=>match st.ρ t with
   | .ptr κ 0=>tapeOk J (hget st.H κ)
   | _=>False
 | .exit _,_=>False
def psiNew (J:List PV->Prop) (pre:List PV->Prop):ESpec:=fun d args st K=>
 AV.freeL args=true/\(∀ a,a∈args->frzOk st.H 4 a)/\pre (args.map (frz st.H 4))/\hget st.H d=none/\K (.ptr d 0) { st with H:=hset st.H d (.obj J) }
theorem psiNew_mono {J:List PV->Prop} {pre:List PV->Prop}:∀ d args st (K K':AV->ASt->Prop),(∀ r s,K r s->K' r s)->psiNew J pre d args st K->psiNew J pre d args st K':=
 fun d args st K K' hk h=>⟨h.1,h.2.1,h.2.2.1,h.2.2.2.1,hk _ _ h.2.2.2.2⟩
theorem ESound.of_new {G:Glob} {C:Ctx} {T:Plan} {f:FuncId} {fn:Func} {c:Code} {J:List PV->Prop} {pre:List PV->Prop} {t:Nat}
 (hf:G.P.funcs[f]?=some fn) (hb:fn.body=some c) (hn:(fn.name == "runtime.NumGoroutine")=false) (hN:C.N=fn.ntmps) (hres:fn.results=#[.tmp t]) (hF:Fit G C)
 (h:∀ args,pre args->args.length<=C.N/\wpc C T c (FinN t J) ⟨look (argL 0 args),[]⟩) (ho:C.outer=false:=by rfl):ESound G f (psiNew J pre):=by
 intro d args st K hψ
 obtain ⟨p1,p2,p3,p4,p5⟩:=hψ
 refine ⟨⟨fn,hf,hn,by rw [hb];rfl⟩,fun E N a w L xs hR hargs _=>?_⟩
 obtain ⟨hlen,hw⟩:=h _ p3
 obtain ⟨hxl,hpv⟩:=hargs.pvs p1 p2
 let E':Base:=⟨w,Mut E L st.H,NoB,fun _=>none,[]⟩
 have hR0:Rel G E' (OpqS G E') C.N ⟨look (argL 0 (args.map (frz st.H 4))),[]⟩ (xs.toArray++Array.replicate (fn.ntmps-xs.toArray.size) undef) w (fun _=>none):=by
  refine ⟨?_,Ext.refl _ _,hR.inv,Nat.le_trans hR.glob hR.ext.size,fun b hb=>⟨hR.mut_lt hb,id⟩,fun b hb=>hb.elim,(fun key B b cap hk=>by cases hk),(fun k1 k2 B1 B2 b c1 c2 hk=>by cases hk),(fun key B hk=>by cases hk),fun s=>?_,(fun κ b c hl=>by cases hl)⟩
  · have:=hlen
    simp only [List.length_map] at this
    simp [hxl];omega
  · refine look_argL (vs:=xs.toArray) (args.map (frz st.H 4)) 0 (fun j p hp=>?_) (by simp [hxl]) s
    rw [Nat.zero_add]
    refine (hpv j p hp).keep (fun b _ hn=>⟨rfl,fun hm=>?_⟩)
    rcases hm with hm | ⟨key,B,cap,hk,_⟩
    · exact hn hm
    · cases hk
 refine calls_of_wp hf hb ?_
 have hwp:=wpIn_wide.1 <| wpc_sound c _ _ hw G E' none 0 (fun _=>rfl) hF (fun κ hk=>by cases hk) { tmps:=xs.toArray++Array.replicate (fn.ntmps-xs.toArray.size) undef,defers:=[] } w (fun _=>none) hR0 rfl
 have fin:∀ (a':Act) (w':World),Beh G E' C.N (fun s=>match s.ρ t with | .ptr κ 0=>tapeOk J (hget s.H κ) | _=>False) a' w'->
  a'.defers=[]/\∃ v,(results fn a'.tmps).run G.P w'=.ok v w'/\∃ v' r st' L',Ending.returned v=.returned v'/\K r st'/\Rel G E (OpqS G E) N st' a w' L'/\AVRel w' (Mut E L' st'.H) L' st'.H (OpqS G E) r v':=by
  rintro a' w' ⟨s,L',q,hR',hd⟩
  split at q
  · rename_i κ hκ
    have hx:=hR'.env t
    rw [hκ] at hx
    obtain ⟨B1,b,cap,f2,f3,f1,hv⟩:=ptr_inv hx
    rw [f2] at q
    obtain ⟨cs,b2,cap2,arr,et,e1,e2,e3,e4,e5,e6⟩:=tapeOk_rel q (hR'.blk κ B1 f2)
    rw [f1] at e3
    simp only [Option.some.injEq,Prod.mk.injEq] at e3
    obtain ⟨rfl,rfl⟩:=e3
    have hbge:w.heap.size<=b:=(hR'.own κ B1 b cap f2 f1).2.2.elim (fun h=>h.elim) id
    refine ⟨hd,a'.tmps.getD t undef,?_,_,.ptr d 0,_,locSet L d (some (b,cap)),rfl,p5,hR.newBlockAt p4 hR'.ext hbge (fun M' L2 H2 hM hl=>?_),?_⟩
    · rw [results_eq,hres]
      simp [resM]
    · exact ⟨cs,b,cap,arr,et,e1,e2,hl,e4,e5,fun j c hc=>(e6 j c hc).keep (fun x _ hn=>⟨rfl,fun hm=>hn ((hM x hm).elim (fun h=>.inl h) (fun e=>.inr ⟨κ,B1,cap,f2,by rw [e];exact f1⟩))⟩)⟩
    · rw [hv]
      exact .ptr d 0 (.obj J) b cap (hget_hset_same _ _ _) rfl (by simp [locSet])
  · exact q.elim
 refine wp_mono hwp (fun e a' w' he=>?_)
 rw [ho] at he
 cases e with
 | normal=>exact fin a' w' (BehX.beh he)
 | ret=>exact fin a' w' (BehX.beh he)
 | exit i=>obtain ⟨_,_,h,_⟩:=BehX.beh he;exact h.elim
 | goto l=>exact he
 | panic c=>exact he.elim
 | outgrown=>exact he.elim
section
variable {G:Glob} {E:Base} {S:(List PV->Prop × PV)->Value->Prop} {N:Nat} {st:ASt} {a:Array Value} {w:World} {L:Locs}
theorem Rel.emptyRow (hR:Rel G E S N st a w L) {d k:Nat} (p1:hget st.H d=none) (hk0:0<k):
 Rel G E S N { st with H:=hset st.H d (.row k []) } a w (locSet L d none):=by
 have hne:∀ key B,hget st.H key=some B->key≠d:=fun key B hb e=>by rw [e,p1] at hb;cases hb
 have hc:∀ key B0,hget st.H key=some B0->∃ B',hget (hset st.H d (.row k [])) key=some B'/\B0.le B'/\(locSet L d none) key=L key/\(L key=none->B0=B'):=
  fun key B0 hb=>⟨B0,by rw [hget_hset_ne _ _ (Ne.symm (hne key B0 hb))];exact hb,ABlk.le_refl _,by simp [locSet,hne key B0 hb],fun _=>rfl⟩
 have hget:∀ key B0,hget (hset st.H d (.row k [])) key=some B0->∀ b c,(locSet L d none) key=some (b,c)->hget st.H key=some B0/\L key=some (b,c)/\key≠d:=by
  intro key B0 hb b c hl
  by_cases e:key=d
  · subst e;simp [locSet] at hl
  · rw [hget_hset_ne _ _ (Ne.symm e)] at hb
    simp only [locSet,e,if_false] at hl
    exact ⟨hb,hl,e⟩
 have hk':Keeps w (Mut E L st.H) w (Mut E (locSet L d none) (hset st.H d (.row k []))):=fun b hb hm=>⟨rfl,fun hm'=>hm (by
  rcases hm' with hX | ⟨key,B0,c0,m1,m2⟩
  · exact .inl hX
  · obtain ⟨m3,m4,_⟩:=hget key B0 m1 b c0 m2
    exact .inr ⟨key,B0,c0,m3,m4⟩)⟩
 exact
  { size:=hR.size,ext:=hR.ext,inv:=hR.inv,glob:=hR.glob,old:=hR.old,m0:=hR.m0
    own:=fun key B b c m1 m2=>by obtain ⟨m3,m4,_⟩:=hget key B m1 b c m2;exact hR.own key B b c m3 m4
    inj:=fun k1 k2 B1 B2 b c1 c2 m1 m2 m3 m4=>by
     obtain ⟨n1,n2,_⟩:=hget k1 B1 m1 b c1 m3
     obtain ⟨n3,n4,_⟩:=hget k2 B2 m2 b c2 m4
     exact hR.inj k1 k2 B1 B2 b c1 c2 n1 n3 n2 n4
    blk:=fun key B hb=>by
     by_cases e:key=d
     · subst e
       simp only [hget_hset_same,Option.some.injEq] at hb
       subst hb
       simp [BRel,locSet,hk0]
     · have hb':=hb
       simp only [hget_hset_ne _ _ (Ne.symm e)] at hb'
       exact (hR.blk key B hb').keepAll hk' hc (fun _ _ _=>rfl) (by simp [locSet,e])
    env:=fun s=>(hR.env s).keep hk' (fun _ _ h=>h) hc
    fix:=fun k b c hl=>by
     obtain ⟨f1,B0,f2⟩:=hR.fix k b c hl
     have e:=hne k B0 f2
     exact ⟨by simp [locSet,e,f1],B0,by rw [hget_hset_ne _ _ (Ne.symm e)];exact f2⟩ }
end
section
variable {C:Ctx} {c:Code} {Q:AX->ASt->Prop} {st:ASt}
theorem AWp.adoptS {s κ k:Nat} (h1:st.ρ s=.nils) (h2:hget st.H κ=none) (h3:0<k) (h:AWp C c Q ⟨upd st.ρ s (.rs κ 0),hset st.H κ (.row k [])⟩):AWp C c Q st:=by
 intro G E r n hr hF hP0 a w L hR hd
 have hR':=hR.emptyRow h2 h3
 refine h G E r n hr hF hP0 a w (locSet L κ none) ⟨hR'.size,hR'.ext,hR'.inv,hR'.glob,hR'.old,hR'.m0,hR'.own,hR'.inj,hR'.blk,fun t=>?_,hR'.fix⟩ hd
 show AVRel _ _ _ _ _ (upd st.ρ s (.rs κ 0) t) _
 unfold upd
 split
 · rename_i e
   subst e
   have hx:=hR.env t
   rw [h1] at hx
   cases hx':a.tmps.getD t undef <;> rw [hx'] at hx <;> cases hx
   exact .rsN κ k (hget_hset_same _ _ _) (by simp [locSet])
 · exact hR'.env t
theorem AWp.adoptC {b i κ k:Nat} {cs:List AV} (h1:hget st.H b=some (.cells cs)) (h0:cs[i]?=some .nils) (h2:hget st.H κ=none) (h3:0<k)
 (h:AWp C c Q ⟨st.ρ,hset (hset st.H κ (.row k [])) b (.cells (cs.set i (.rs κ 0)))⟩):AWp C c Q st:=by
 intro G E r n hr hF hP0 a w L hR hd
 have hR':=hR.emptyRow h2 h3
 have hne:b≠κ:=fun e=>by subst e;rw [h2] at h1;cases h1
 have h1':hget (hset st.H κ (.row k [])) b=some (.cells cs):=by rw [hget_hset_ne _ _ (Ne.symm hne)];exact h1
 have hb0:=hR'.blk b _ h1'
 obtain ⟨bb,cap,arr,et,e1,e2,e3,e4⟩:=hb0
 refine h G E r n hr hF hP0 a w (locSet L κ none) (hR'.writeBlock (w':=w) (B:=.cells cs) h1' e1 (by simp [ABlk.le]) (fun _ _=>rfl) rfl rfl rfl rfl (fun _=>rfl) (fun M' H' hk hc=>?_)) hd
 refine ⟨bb,cap,arr,et,e1,e2,by simpa using e3,fun j v hv=>?_⟩
 rw [List.getElem?_set] at hv
 split at hv
 · rename_i e
   subst e
   split at hv
   · simp only [Option.some.injEq] at hv
     subst hv
     have hx:=e4 i .nils h0
     cases hx':arr.getD i undef <;> rw [hx'] at hx <;> cases hx
     obtain ⟨B',hB',hle,hL,he⟩:=hc κ (.row k []) (hget_hset_same _ _ _)
     have:=he (by simp [locSet])
     subst this
     exact .rsN κ k hB' (by simp [locSet])
   · cases hv
 · exact (e4 j v hv).keep hk (fun _ _ h=>h) hc
end
def callK (C:Ctx) (st:ASt) (d:Option Tmp) (args:List AV) (ok:Prop) (pv:Prop × AV) (K:ASt->Prop):Option ESpec->Option QSpec->Prop
 | some ψ,_=>ok/\ψ (d.getD 0) args st (fun r st'=>putD C.N st' d r K)
 | none,some θ=>ok/\(θ args st.H).1/\∀ r,(θ args st.H).2 r->putD C.N st d r K
 | none,none=>pv.1/\putD C.N st d pv.2 K
section
variable {C:Ctx} {dr:Bool} {H0:AHeap} {ops:Array Oper} {st:ASt} {K:ASt->Prop}
theorem ev_call {d:Option Tmp} {f:FuncId} {args:Array Operand} {ts:Array TypeId} {ty:TypeId} {pos:String} {af:Array Edge}:
 stepX C dr H0 ops ⟨d,.call { callee:=.value (.func f),args:=args,argTypes:=ts },ty,pos,af,none⟩ st K=
  callK C st d (mapV st.ρ args.toList) (allC st.ρ args.toList) (aopP C st.ρ st.H (.call { callee:=.value (.func f),args:=args,argTypes:=ts })) K (C.Ψ f) (C.Θ f):=by
 rw [mapV_eq]
 have e1:oc st.ρ (.func f)=True:=rfl
 have e2:ox st.ρ (.func f)=.pv (.fn f []):=rfl
 unfold stepX stepG callK
 cases hψ:C.Ψ f with
 | some ψ=>
   simp only [guardC,cls,hψ,Option.isSome_some,if_true,effA,aopE,e1,e2,calleeA,List.map_nil,List.append_nil,true_and]
   rfl
 | none=>
   cases hθ:C.Θ f with
   | some θ=>
     simp only [guardC,cls,hψ,Option.isSome_none,Bool.false_eq_true,if_false,if_true,stepQ,qop,e1,e2,calleeA,hθ,List.map_nil,List.append_nil,true_and,and_assoc]
   | none=>
     simp only [guardC,cls,hψ,Option.isSome_none,Bool.false_eq_true,if_false,if_true,stepQ,qop,e2,calleeA,hθ]
     exact propext ⟨fun h=>⟨h.1,h.2 _ rfl⟩,fun h=>⟨h.1,fun r hr=>by subst hr;exact h.2⟩⟩
theorem callK_E {d:Option Tmp} {args:List AV} {ok:Prop} {pv:Prop × AV} {ψ:ESpec} {θ:Option QSpec}:callK C st d args ok pv K (some ψ) θ=(ok/\ψ (d.getD 0) args st (fun r st'=>putD C.N st' d r K)):=rfl
theorem callK_Q {d:Option Tmp} {args:List AV} {ok:Prop} {pv:Prop × AV} {θ:QSpec}:callK C st d args ok pv K none (some θ)=(ok/\(θ args st.H).1/\∀ r,(θ args st.H).2 r->putD C.N st d r K):=rfl
theorem callK_P {d:Option Tmp} {args:List AV} {ok:Prop} {pv:Prop × AV}:callK C st d args ok pv K none none=(pv.1/\putD C.N st d pv.2 K):=rfl
end
theorem qT_ptr {J:List PV->Prop} {pre:List PV->Prop} {post:List PV->PV->Prop} {κ:Nat} {rest:List AV} {H:AHeap}:qT J pre post (.ptr κ 0::rest) H=
 (hget H κ=some (.obj J)/\AV.freeL rest=true/\frzAll H rest/\pre (frzL H rest),fun r=>∃ p,r=.pv p/\post (frzL H rest) p):=by
 rw [frzAll_eq,frzL_eq];rfl
def qV (J:List PV->Prop) (pre:List PV->Prop) {α:Type} (val:α->PV) (ok:List PV->α->Prop):QSpec:=qT J pre (fun args p=>∃ x,p=val x/\ok args x)
theorem qV_1 {J:List PV->Prop} {pre:List PV->Prop} {α:Type} {val:α->PV} {ok:List PV->α->Prop} {κ:Nat} {rest:List AV} {H:AHeap}:(qV J pre val ok (.ptr κ 0::rest) H).1=
 (hget H κ=some (.obj J)/\AV.freeL rest=true/\frzAll H rest/\pre (frzL H rest)):=by
 unfold qV;rw [qT_ptr]
theorem all_qV {J:List PV->Prop} {pre:List PV->Prop} {α:Type} {val:α->PV} {ok:List PV->α->Prop} {κ:Nat} {rest:List AV} {H:AHeap} {F:AV->Prop}:
 (∀ r,(qV J pre val ok (.ptr κ 0::rest) H).2 r->F r)=∀ x,ok (frzL H rest) x->F (.pv (val x)):=by
 unfold qV;rw [qT_ptr]
 exact propext ⟨fun h x hx=>h _ ⟨_,rfl,x,rfl,hx⟩,fun h r ⟨p,e,x,e2,hx⟩=>by subst e;subst e2;exact h x hx⟩
theorem gt1 {p q:Prop}:(p->p/\q)=(p->q):=propext ⟨fun h hp=>(h hp).2,fun h hp=>⟨hp,h hp⟩⟩
theorem gt2 {b:Bool}:(b=false->(!b)=true)=True:=by cases b <;> simp
def killS (κ:Nat):List (Nat × AV)->List (Nat × AV)
 | []=>[]
 | (i,v)::r=>(i,v.kill κ)::killS κ r
theorem killR_look {κ:Nat} {l:List (Nat × AV)}:killR κ (look l)=look (killS κ l):=by
 funext s
 induction l with
 | nil=>rfl
 | cons x r ih=>
   obtain ⟨i,v⟩:=x
   show (look ((i,v)::r) s).kill κ=look ((i,v.kill κ)::killS κ r) s
   unfold look
   split
   · rfl
   · exact ih
def Later (p:Prop):Prop:=p
theorem Later_congr {p:Prop}:Later p=Later p:=rfl
attribute [congr] Later_congr
theorem Later_eq {p:Prop}:Later p=p:=rfl
theorem all_qVs {J:List PV->Prop} {pre:List PV->Prop} {α:Type} {val:α->PV} {ok:List PV->α->Prop} {κ:Nat} {rest:List AV} {H:AHeap} {F:AV->Prop}:
 (∀ r,(qV J pre val ok (.ptr κ 0::rest) H).2 r->F r)=∀ x,ok (frzL H rest) x->Later (F (.pv (val x))):=all_qV
theorem QSound.of_wpcV {G:Glob} {C:Ctx} {f:FuncId} {fn:Func} {c:Code} {J:List PV->Prop} {pre:List PV->Prop} {α:Type} {val:α->PV} {ok:List PV->α->Prop} (κ0:Nat)
 (hf:G.P.funcs[f]?=some fn) (hb:fn.body=some c) (hn:(fn.name == "runtime.NumGoroutine")=false) (hN:C.N=fn.ntmps) (hF:Fit G C) (hpins:C.pins=[κ0])
 (hin:∀ args,pre args->∃ x,ok args x)
 (h:∀ args,pre args->args.length+1<=C.N/\AWp C c (FinQ C fn.results.toList κ0 J (fun p=>∃ x,p=val x/\ok args x)) ⟨look ((0,.ptr κ0 0)::argL 1 args),[(κ0,.obj J)]⟩) (ho:C.outer=false:=by rfl):QSound G f (qV J pre val ok):=
 QSound.of_wpc κ0 hf hb hn hN hF hpins (fun args h=>let ⟨x,hx⟩:=hin args h;⟨_,x,rfl,hx⟩) h ho
theorem psiNew_eq {J:List PV->Prop} {pre:List PV->Prop} {d:Nat} {args:List AV} {ρ:Nat->AV} {H:AHeap} {K:AV->ASt->Prop}:psiNew J pre d args ⟨ρ,H⟩ K=
 (AV.freeL args=true/\frzAll H args/\pre (frzL H args)/\hget H d=none/\K (.ptr d 0) ⟨ρ,hset H d (.obj J)⟩):=by
 rw [frzAll_eq,frzL_eq];rfl
def putΘ (Θ:FuncId->Option QSpec) (f:FuncId) (θ:QSpec):FuncId->Option QSpec:=fun g=>if g=f then some θ else Θ g
def putΨ (Ψ:FuncId->Option ESpec) (f:FuncId) (ψ:ESpec):FuncId->Option ESpec:=fun g=>if g=f then some ψ else Ψ g
def noΘ:FuncId->Option QSpec:=fun _=>none
def noΨ:FuncId->Option ESpec:=fun _=>none
def QTab (G:Glob) (Θ:FuncId->Option QSpec):Prop:=∀ f θ,Θ f=some θ->QSound G f θ
def ETab (G:Glob) (Ψ:FuncId->Option ESpec):Prop:=∀ f ψ,Ψ f=some ψ->ESound G f ψ/\∀ d args st (K K':AV->ASt->Prop),(∀ r s,K r s->K' r s)->ψ d args st K->ψ d args st K'
theorem QTab.nil {G:Glob}:QTab G noΘ:=fun f θ h=>by cases h
theorem ETab.nil {G:Glob}:ETab G noΨ:=fun f θ h=>by cases h
theorem QTab.put {G:Glob} {Θ:FuncId->Option QSpec} {f:FuncId} {θ:QSpec} (h:QTab G Θ) (hf:QSound G f θ):QTab G (putΘ Θ f θ):=by
 intro g θ' hg
 unfold putΘ at hg
 split at hg
 · rename_i e;subst e;simp only [Option.some.injEq] at hg;subst hg;exact hf
 · exact h g θ' hg
theorem ETab.put {G:Glob} {Ψ:FuncId->Option ESpec} {f:FuncId} {ψ:ESpec} (h:ETab G Ψ) (hf:ESound G f ψ) (hm:∀ d args st (K K':AV->ASt->Prop),(∀ r s,K r s->K' r s)->ψ d args st K->ψ d args st K'):ETab G (putΨ Ψ f ψ):=by
 intro g ψ' hg
 unfold putΨ at hg
 split at hg
 · rename_i e;subst e;simp only [Option.some.injEq] at hg;subst hg;exact ⟨hf,hm⟩
 · exact h g ψ' hg
noncomputable def cxQ (P:Program) (Φ:FuncId->PSpec) (Θ:FuncId->Option QSpec) (Ψ:FuncId->Option ESpec) (rows pins:List Nat) (n:Nat):Ctx:={ P:=P,N:=n,Φ:=Φ,Θ:=Θ,Ψ:=Ψ,rows:=rows,pins:=pins }
section
variable {P:Program} {Φ:FuncId->PSpec} {Θ:FuncId->Option QSpec} {Ψ:FuncId->Option ESpec} {rows pins:List Nat} {n:Nat}
theorem cxQ_P:(cxQ P Φ Θ Ψ rows pins n).P=P:=rfl
theorem cxQ_N:(cxQ P Φ Θ Ψ rows pins n).N=n:=rfl
theorem cxQ_Φ:(cxQ P Φ Θ Ψ rows pins n).Φ=Φ:=rfl
theorem cxQ_Ψ:(cxQ P Φ Θ Ψ rows pins n).Ψ=Ψ:=rfl
theorem cxQ_Θ:(cxQ P Φ Θ Ψ rows pins n).Θ=Θ:=rfl
theorem cxQ_rows:(cxQ P Φ Θ Ψ rows pins n).rows=rows:=rfl
theorem cxQ_pins:(cxQ P Φ Θ Ψ rows pins n).pins=pins:=rfl
theorem Fit.all {G:Glob} (h:TabSound G Φ) (hq:QTab G Θ) (he:ETab G Ψ) (hm:G.P.follows .mixedOrders=true) (hpl:∀ κ,κ∈pins->κ<1000000:=by decide):Fit G (cxQ G.P Φ Θ Ψ rows pins n):=
 ⟨⟨⟨rfl,h,fun f ψ hf=>(he f ψ hf).1,hpl⟩,hq⟩,(fun f ψ hf=>(he f ψ hf).2),hm⟩
end
end Go.AM
