/-
  A part of a proof.
-/
import Derived.Test.YtkajgkbhkkgdbaaGreatDoorPN
set_option linter.unusedSimpArgs false
set_option linter.unusedVariables false
namespace Go.AM
open Go
section
variable {G:Glob} {E:Base} {N:Nat} {st:ASt} {a:Array Value} {w w':World} {L:Locs} {S:(List PV->Prop × PV)->Value->Prop}
theorem Rel.turnTwo (h:Rel G E S N st a w L) {κ1 κ2:Nat} {J:List PV->Prop} {cs:List AV} {b1 c1 b2 c2:Nat} (hne:κ1≠κ2) (h1:hget st.H κ1=some (.obj J)) (l1:L κ1=some (b1,c1)) (h2:hget st.H κ2=some (.cells cs)) (l2:L κ2=some (b2,c2))
 (he:Ext (fun x=>x=b1\/x=b2) w w') (hinv:G.I w') (gs:List AV)
 (hT:∀ M' L' H',(∀ x,M' x->Mut E L st.H x)->L' κ1=some (b1,c1)->BRel w' M' L' H' S κ1 (.obj J))
 (hB:∀ M' L' H',(∀ x,M' x->Mut E L st.H x)->L' κ2=some (b2,c2)->BRel w' M' L' H' S κ2 (.cells gs)):
 Rel G E S N { st with H:=hset st.H κ2 (.cells gs) } a w' L:=by
 have hm1:Mut E L st.H b1:=.inr ⟨κ1,_,c1,h1,l1⟩
 have hm2:Mut E L st.H b2:=.inr ⟨κ2,_,c2,h2,l2⟩
 have hgo:∀ key B0,hget (hset st.H κ2 (.cells gs)) key=some B0->∃ B1,hget st.H key=some B1:=by
  intro key B0 hb
  by_cases e:key=κ2
  · subst e;exact ⟨_,h2⟩
  · rw [hget_hset_ne _ _ (Ne.symm e)] at hb;exact ⟨_,hb⟩
 have hc:∀ key B0,hget st.H key=some B0->∃ B',hget (hset st.H κ2 (.cells gs)) key=some B'/\B0.le B'/\L key=L key/\(L key=none->B0=B'):=by
  intro key B0 hb
  by_cases e:key=κ2
  · subst e
    rw [h2] at hb
    simp only [Option.some.injEq] at hb
    subst hb
    exact ⟨_,hget_hset_same _ _ _,trivial,rfl,fun hn=>by rw [l2] at hn;cases hn⟩
  · exact ⟨B0,by rw [hget_hset_ne _ _ (Ne.symm e)];exact hb,ABlk.le_refl _,rfl,fun _=>rfl⟩
 have hMut:∀ x,Mut E L (hset st.H κ2 (.cells gs)) x->Mut E L st.H x:=by
  intro x hx
  rcases hx with hx | ⟨key,B0,c0,g1,g2⟩
  · exact .inl hx
  · obtain ⟨B1,g3⟩:=hgo key B0 g1
    exact .inr ⟨key,B1,c0,g3,g2⟩
 have hk:Keeps w (Mut E L st.H) w' (Mut E L (hset st.H κ2 (.cells gs))):=fun x hx hm=>
  ⟨he.block x hx (fun e=>hm (by rcases e with e | e <;> rw [e] <;> assumption)),fun hm'=>hm (hMut x hm')⟩
 refine ⟨h.size,h.ext.trans' he (fun x hx=>?_),hinv,h.glob,h.old,h.m0,?_,?_,?_,?_,?_⟩
 · rcases hx with hx | hx
   · rw [hx];exact (h.own κ1 _ b1 c1 h1 l1).2.2
   · rw [hx];exact (h.own κ2 _ b2 c2 h2 l2).2.2
 · intro key B0 x c0 g1 g2
   obtain ⟨B1,g3⟩:=hgo key B0 g1
   exact h.own key B1 x c0 g3 g2
 · intro k1 k2 B1 B2 x d1 d2 g1 g2 g3 g4
   obtain ⟨B3,g5⟩:=hgo k1 B1 g1
   obtain ⟨B4,g6⟩:=hgo k2 B2 g2
   exact h.inj k1 k2 B3 B4 x d1 d2 g5 g6 g3 g4
 · intro key B0 hb0
   by_cases e:key=κ2
   · subst e
     simp only [hget_hset_same,Option.some.injEq] at hb0
     subst hb0
     exact hB _ _ _ hMut l2
   · simp only [hget_hset_ne _ _ (Ne.symm e)] at hb0
     by_cases e0:key=κ1
     · subst e0
       rw [h1] at hb0
       simp only [Option.some.injEq] at hb0
       subst hb0
       exact hT _ _ _ hMut l1
     · refine (h.blk key B0 hb0).keepAll hk hc (fun x cap' hl=>he.block x (h.mut_lt (.inr ⟨key,B0,cap',hb0,hl⟩)) (fun ex=>?_)) rfl
       rcases ex with ex | ex
       · subst ex;exact e0 (h.inj key κ1 B0 _ x cap' c1 hb0 h1 hl l1)
       · subst ex;exact e (h.inj key κ2 B0 _ x cap' c2 hb0 h2 hl l2)
 · intro s
   exact (h.env s).keep hk (fun _ _ h=>h) hc
 · intro k x c hl
   obtain ⟨g1,B0,g2⟩:=h.fix k x c hl
   obtain ⟨B1,g3,_⟩:=hc k B0 g2
   exact ⟨g1,B1,g3⟩
end
def flatA:AV->Bool
 | .nils | .pv _=>true
 | _=>false
theorem flatA_rel {w w':World} {M M':Nat->Prop} {L L':Locs} {H H':AHeap} {S S':(List PV->Prop × PV)->Value->Prop} {c:AV} {v:Value} (hf:flatA c=true) (hk:Keeps w M w' M') (h:AVRel w M L H S c v):AVRel w' M' L' H' S' c v:=by
 cases c <;> simp only [flatA] at hf <;> first | (exact absurd hf (by decide)) | skip
 · exact .pv _ _ ((pv_inv h).keep hk)
 · cases h;exact .nils
def psiW (J:List PV->Prop) (pre:List AV->Prop) (post:List AV->List AV->Prop):ESpec:=fun d args st K=>
 ∃ κ1 κ2 fs,args=[.ptr κ1 0,.ptr κ2 0]/\hget st.H κ1=some (.obj J)/\hget st.H κ2=some (.cells fs)/\fs.all flatA=true/\pre fs/\
  ∀ gs,post fs gs->K (.pv (.tup [])) { st with H:=hset st.H κ2 (.cells gs) }
theorem psiW_mono {J:List PV->Prop} {pre:List AV->Prop} {post:List AV->List AV->Prop}:∀ d args st (K K':AV->ASt->Prop),(∀ r s,K r s->K' r s)->psiW J pre post d args st K->psiW J pre post d args st K':=by
 rintro d args st K K' hk ⟨κ1,κ2,fs,h1,h2,h3,h4,h6,h5⟩
 exact ⟨κ1,κ2,fs,h1,h2,h3,h4,h6,fun gs hg=>hk _ _ (h5 gs hg)⟩
def cellW (H:AHeap):AV->AV
 | .nils=>.nils
 | c=>.pv (frz H 4 c)
def delW (H:AHeap):AHeap:=hdel (hdel H 9000) 9001
def finW (J:List PV->Prop) (post:List AV->Prop) (st:ASt):Prop:=tapeOk J (hget st.H 9000)/\∃ cs,hget st.H 9001=some (.cells cs)/\refsH (delW st.H) (delW st.H)=true/\(∀ c,c∈cs->c.refsIn (delW st.H)=true/\frzOk (delW st.H) 4 c)/\post (cs.map (cellW (delW st.H)))
theorem hget_delW {H:AHeap} {key:Nat} {B:ABlk} (h:hget (delW H) key=some B):hget H key=some B/\key≠9000/\key≠9001:=by
 unfold delW at h
 by_cases e:key=9001
 · subst e;rw [hget_hdel_same] at h;cases h
 · rw [hget_hdel_ne _ (Ne.symm e)] at h
   by_cases e2:key=9000
   · subst e2;rw [hget_hdel_same] at h;cases h
   · rw [hget_hdel_ne _ (Ne.symm e2)] at h;exact ⟨h,e2,e⟩
def FinW (J:List PV->Prop) (post:List AV->Prop):AX->ASt->Prop
 | .normal,st=>finW J post st
 | .ret,st=>finW J post st
 | .exit _,_=>False
theorem ESound.of_wr {G:Glob} {C:Ctx} {f:FuncId} {fn:Func} {c:Code} {J:List PV->Prop} {pre:List AV->Prop} {post:List AV->List AV->Prop}
 (hf:G.P.funcs[f]?=some fn) (hb:fn.body=some c) (hn:(fn.name == "runtime.NumGoroutine")=false) (hN:C.N=fn.ntmps) (hres:fn.results=#[]) (hpins:C.pins=[9000,9001]) (hF:Fit G C) (h2N:2<=C.N)
 (h:∀ fs,fs.all flatA=true->pre fs->AWp C c (FinW J (post fs)) ⟨look [(0,.ptr 9000 0),(1,.ptr 9001 0)],[(9000,.obj J),(9001,.cells fs)]⟩) (ho:C.outer=false:=by rfl):ESound G f (psiW J pre post):=by
 rintro d args st K ⟨κ1,κ2,fs,rfl,h1,h2,hfl,h3,hK⟩
 refine ⟨⟨fn,hf,hn,by rw [hb];rfl⟩,fun E N a w L xs hR hargs _=>?_⟩
 cases hargs with
 | cons _ x0 _ xs' hx0 hrest=>
 cases hrest with
 | cons _ x1 _ xs'' hx1 hrest=>
 cases hrest with
 | nil=>
 obtain ⟨B1,b1,c1,g1,gv,l1,rfl⟩:=ptr_inv hx0
 obtain ⟨B2,b2,c2,g2,gv2,l2,rfl⟩:=ptr_inv hx1
 rw [h1] at g1
 rw [h2] at g2
 simp only [Option.some.injEq] at g1 g2
 subst g1 g2
 have hne:κ1≠κ2:=fun e=>by rw [e,h2] at h1;cases h1
 have hw:=h fs hfl h3
 have hm1:Mut E L st.H b1:=.inr ⟨κ1,_,c1,h1,l1⟩
 have hm2:Mut E L st.H b2:=.inr ⟨κ2,_,c2,h2,l2⟩
 have hbb:b1≠b2:=fun e=>hne (h1 |> fun h1=>by subst e;exact hR.inj κ1 κ2 _ _ b1 c1 c2 h1 h2 l1 l2)
 let L0:Locs:=fun k=>if k=9000 then some (b1,c1) else if k=9001 then some (b2,c2) else none
 let H0:AHeap:=[(9000,.obj J),(9001,.cells fs)]
 let E':Base:=⟨w,fun x=>Mut E L st.H x/\x≠b1/\x≠b2,fun x=>x=b1\/x=b2,L0,[]⟩
 have L0a:L0 9000=some (b1,c1):=rfl
 have L0b:L0 9001=some (b2,c2):=rfl
 have H0a:hget H0 9000=some (.obj J):=rfl
 have H0b:hget H0 9001=some (.cells fs):=rfl
 have one:∀ key B,hget H0 key=some B->(key=9000/\B=.obj J)\/(key=9001/\B=.cells fs):=by
  intro key B hk
  simp only [H0,hget] at hk
  split at hk
  · rename_i e;simp only [Option.some.injEq] at hk;exact .inl ⟨e.symm,hk.symm⟩
  · split at hk
    · rename_i e;simp only [Option.some.injEq] at hk;exact .inr ⟨e.symm,hk.symm⟩
    · cases hk
 have hMut0:∀ x,Mut E' L0 H0 x->Mut E L st.H x:=by
  rintro x (hx | ⟨key,B,c0,k1,k2⟩)
  · exact hx.1
  · rcases one key B k1 with ⟨rfl,_⟩ | ⟨rfl,_⟩
    · rw [L0a] at k2;simp only [Option.some.injEq,Prod.mk.injEq] at k2;rw [<- k2.1];exact hm1
    · rw [L0b] at k2;simp only [Option.some.injEq,Prod.mk.injEq] at k2;rw [<- k2.1];exact hm2
 have hk0:Keeps w (Mut E L st.H) w (Mut E' L0 H0):=fun x _ hn=>⟨rfl,fun hm=>hn (hMut0 x hm)⟩
 have o1:=hR.own κ1 _ b1 c1 h1 l1
 have o2:=hR.own κ2 _ b2 c2 h2 l2
 have hR0:Rel G E' (OpqS G E') C.N ⟨look [(0,.ptr 9000 0),(1,.ptr 9001 0)],H0⟩ ([Value.pointer (some ⟨b1,0,none⟩),Value.pointer (some ⟨b2,0,none⟩)].toArray++Array.replicate (fn.ntmps-[Value.pointer (some ⟨b1,0,none⟩),Value.pointer (some ⟨b2,0,none⟩)].toArray.size) undef) w L0:=by
  refine ⟨?_,Ext.refl _ _,hR.inv,Nat.le_trans hR.glob hR.ext.size,fun x hx=>⟨hR.mut_lt hx.1,fun hx'=>?_⟩,fun x hx=>?_,?_,?_,?_,fun s=>?_,?_⟩
  · rw [hN] at h2N ⊢
    simp;omega
  · rcases hx' with e | e
    · exact hx.2.1 e
    · exact hx.2.2 e
  · rcases hx with e | e
    · rw [e];exact o1.2.1
    · rw [e];exact o2.2.1
  · intro key B x c0 k1 k2
    rcases one key B k1 with ⟨rfl,rfl⟩ | ⟨rfl,rfl⟩
    · rw [L0a] at k2;simp only [Option.some.injEq,Prod.mk.injEq] at k2
      obtain ⟨rfl,rfl⟩:=k2
      exact ⟨fun hx=>hx.2.1 rfl,o1.2.1,.inl (.inl rfl)⟩
    · rw [L0b] at k2;simp only [Option.some.injEq,Prod.mk.injEq] at k2
      obtain ⟨rfl,rfl⟩:=k2
      exact ⟨fun hx=>hx.2.2 rfl,o2.2.1,.inl (.inr rfl)⟩
  · intro k1 k2 B1 B2 x d1 d2 m1 m2 q1 q2
    rcases one k1 B1 m1 with ⟨rfl,_⟩ | ⟨rfl,_⟩ <;> rcases one k2 B2 m2 with ⟨rfl,_⟩ | ⟨rfl,_⟩
    · rfl
    · rw [L0a] at q1;rw [L0b] at q2
      simp only [Option.some.injEq,Prod.mk.injEq] at q1 q2
      exact absurd (q1.1.trans q2.1.symm) hbb
    · rw [L0b] at q1;rw [L0a] at q2
      simp only [Option.some.injEq,Prod.mk.injEq] at q1 q2
      exact absurd (q2.1.trans q1.1.symm) hbb
    · rfl
  · intro key B hk
    rcases one key B hk with ⟨rfl,rfl⟩ | ⟨rfl,rfl⟩
    · obtain ⟨cs,b3,cap3,arr,et,e1,e2,e3,e4,e5,e6⟩:=hR.blk κ1 _ h1
      rw [l1] at e3
      simp only [Option.some.injEq,Prod.mk.injEq] at e3
      obtain ⟨rfl,rfl⟩:=e3
      exact ⟨cs,b1,c1,arr,et,e1,e2,L0a,e4,e5,fun j c hc=>(e6 j c hc).keep hk0⟩
    · obtain ⟨b3,cap3,arr,et,e1,e2,e3,e4⟩:=hR.blk κ2 _ h2
      rw [l2] at e1
      simp only [Option.some.injEq,Prod.mk.injEq] at e1
      obtain ⟨rfl,rfl⟩:=e1
      refine ⟨b2,c2,arr,et,L0b,e2,e3,fun j c hc=>?_⟩
      exact flatA_rel (List.all_eq_true.1 hfl c (List.mem_of_getElem? hc)) hk0 (e4 j c hc)
  · have ea:([Value.pointer (some ⟨b1,0,none⟩),Value.pointer (some ⟨b2,0,none⟩)].toArray++Array.replicate (fn.ntmps-[Value.pointer (some ⟨b1,0,none⟩),Value.pointer (some ⟨b2,0,none⟩)].toArray.size) undef).getD 0 undef=.pointer (some ⟨b1,0,none⟩):=by
      simp [Array.getD_eq_getD_getElem?,Array.getElem?_append]
    have eb:([Value.pointer (some ⟨b1,0,none⟩),Value.pointer (some ⟨b2,0,none⟩)].toArray++Array.replicate (fn.ntmps-[Value.pointer (some ⟨b1,0,none⟩),Value.pointer (some ⟨b2,0,none⟩)].toArray.size) undef).getD 1 undef=.pointer (some ⟨b2,0,none⟩):=by
     simp [Array.getD_eq_getD_getElem?,Array.getElem?_append]
    unfold look
    split
    · rename_i e;subst e
      rw [ea]
      exact .ptr 9000 0 _ b1 c1 H0a rfl L0a
    · unfold look
      split
      · rename_i e;subst e
        rw [eb]
        exact .ptr 9001 0 _ b2 c2 H0b rfl L0b
      · exact .top _
  · intro k b0 c0 hl
    have hl':L0 k=some (b0,c0):=hl
    simp only [L0] at hl'
    split at hl'
    · rename_i e;subst e
      exact ⟨hl,_,H0a⟩
    · split at hl'
      · rename_i e;subst e
        exact ⟨hl,_,H0b⟩
      · cases hl'
 refine calls_of_wp hf hb ?_
 have hwp:=wpIn_wide.1 <| hw G E' none 0 (fun _=>rfl) hF (fun k hk=>by
  rw [hpins]
  have hk':(L0 k).isSome=true:=hk
  simp only [L0] at hk'
  split at hk'
  · rename_i e;rw [e];simp
  · split at hk'
    · rename_i e;rw [e];simp
    · cases hk') { tmps:=[Value.pointer (some ⟨b1,0,none⟩),Value.pointer (some ⟨b2,0,none⟩)].toArray++Array.replicate (fn.ntmps-[Value.pointer (some ⟨b1,0,none⟩),Value.pointer (some ⟨b2,0,none⟩)].toArray.size) undef,defers:=[] } w L0 hR0 rfl
 have fin:∀ (a':Act) (w':World),Beh G E' C.N (fun s=>finW J (post fs) s) a' w'->
  a'.defers=[]/\∃ v,(results fn a'.tmps).run G.P w'=.ok v w'/\∃ v' r' st' L',Ending.returned v=.returned v'/\K r' st'/\Rel G E (OpqS G E) N st' a w' L'/\AVRel w' (Mut E L' st'.H) L' st'.H (OpqS G E) r' v':=by
  rintro a' w' ⟨s,L',⟨q1,gs0,q2,hrf,hcl,q3⟩,hR',hd⟩
  have hrun:(results fn a'.tmps).run G.P w'=.ok (.tuple #[]) w':=by
   rw [results_eq,hres]
   simp
  obtain ⟨f1,F1,f2⟩:=hR'.fix 9000 b1 c1 L0a
  obtain ⟨f3,F2,f4⟩:=hR'.fix 9001 b2 c2 L0b
  have hext:Ext (fun x=>x=b1\/x=b2) w w':=hR'.ext
  have hmut:∀ x,Mut E L st.H x->Mut E' L' s.H x:=by
   intro x hx
   by_cases e:x=b1
   · exact .inr ⟨9000,F1,c1,f2,by rw [e];exact f1⟩
   · by_cases e2:x=b2
     · exact .inr ⟨9001,F2,c2,f4,by rw [e2];exact f3⟩
     · exact .inl ⟨hx,e,e2⟩
  refine ⟨hd,_,hrun,_,_,_,L,rfl,hK _ q3,?_,.pv _ _ (.tup [] #[] rfl (fun i c hc=>by simp at hc))⟩
  refine hR.turnTwo hne h1 l1 h2 l2 hext hR'.inv (gs0.map (cellW (delW s.H))) (fun M' L2 H' hM hl=>?_) (fun M' L2 H' hM hl=>?_)
  · rw [f2] at q1
    obtain ⟨cs,b3,cap3,arr,et,e1,e2,e3,e4,e5,e6⟩:=tapeOk_rel q1 (hR'.blk 9000 F1 f2)
    rw [f1] at e3
    simp only [Option.some.injEq,Prod.mk.injEq] at e3
    obtain ⟨rfl,rfl⟩:=e3
    exact ⟨cs,b1,c1,arr,et,e1,e2,hl,e4,e5,fun j c hc'=>(e6 j c hc').keep (fun x _ hn=>⟨rfl,fun hm=>hn (hmut x (hM x hm))⟩)⟩
  · obtain ⟨b3,cap3,arr,et,e1,e2,e3,e4⟩:=hR'.blk 9001 _ q2
    rw [f3] at e1
    simp only [Option.some.injEq,Prod.mk.injEq] at e1
    obtain ⟨rfl,rfl⟩:=e1
    refine ⟨b2,c2,arr,et,hl,e2,by simpa using e3,fun j c hc=>?_⟩
    rw [List.getElem?_map] at hc
    obtain ⟨c0,hc0,rfl⟩:=Option.map_eq_some_iff.1 hc
    have h9:=e4 j c0 hc0
    obtain ⟨r1,r2⟩:=hcl c0 (List.mem_of_getElem? hc0)
    have hkr:Keeps w' (Mut E' L' s.H) w' (Mut E' L' s.H):=fun _ _ hn=>⟨rfl,hn⟩
    have hM2:∀ x,M' x->Mut E' L' s.H x:=fun x hx=>hmut x (hM x hx)
    have hown:∀ key B b' c',hget (delW s.H) key=some B->L' key=some (b',c')->¬ M' b':=by
     intro key B b' c' hk hl' hm
     obtain ⟨k1,k2,k3⟩:=hget_delW hk
     obtain ⟨o1,_,o3⟩:=hR'.own key B b' c' k1 hl'
     have hlt:=hR.mut_lt (hM b' hm)
     rcases o3 with (e | e) | hge
     · subst e;exact k2 (hR'.inj key 9000 B F1 b' c' c1 k1 f2 hl' f1)
     · subst e;exact k3 (hR'.inj key 9001 B F2 b' c' c2 k1 f4 hl' f3)
     · have hge:w.heap.size<=b':=hge
       omega
    have hpv:PVRel w' M' (frz (delW s.H) 4 c0) (arr.getD j undef):=frz_to (w:=w') (M:=Mut E' L' s.H) (L:=L') (H:=delW s.H) (S:=OpqS G E') (fun key B hk=>(hR'.blk key B (hget_delW hk).1).fit rfl hkr (fun key B hk=>(hget_delW hk).1) (refsH_get hrf key B hk)) hM2 hown 4 c0 _ r2 (h9.fit hkr (fun key B hk=>(hget_delW hk).1) r1)
    cases c0 with
    | nils=>
      revert h9
      generalize arr.getD j undef=v
      intro h9
      cases h9
      exact .nils
    | _=>exact .pv _ _ hpv
 refine wp_mono hwp (fun e a' w' he=>?_)
 rw [ho] at he
 cases e with
 | normal=>exact fin a' w' (BehX.beh he)
 | ret=>exact fin a' w' (BehX.beh he)
 | exit i=>obtain ⟨_,_,h,_⟩:=BehX.beh he;exact h.elim
 | goto l=>exact he
 | panic c=>exact he.elim
 | outgrown=>exact he.elim
def putRes (κ m:Nat):AV:=if m=0 then .pv (.sl []) else .rs κ m
def psiPutR (k:Nat) (φ:List PV->List PV->Prop × List PV × Nat):ESpec:=fun d args st K=>
 match args with
 | .rs κ n::rest=>match hget st.H κ with
   | some (.row k' es)=>k'=k/\n=es.length/\((∀ a,a∈rest->a.refsIn (hdel st.H κ)=true)/\refsH (hdel st.H κ) (hdel st.H κ)=true)/\(∀ a,a∈rest->frzOk (hdel st.H κ) 4 a)/\(φ es (rest.map (frz (hdel st.H κ) 4))).1/\
       ((φ es (rest.map (frz (hdel st.H κ) 4))).2.1.length=es.length/\∀ e,e∈(φ es (rest.map (frz (hdel st.H κ) 4))).2.1->e.cells.all flatC=true)/\
       K (putRes κ (φ es (rest.map (frz (hdel st.H κ) 4))).2.2) { st with H:=hset st.H κ (.row k (φ es (rest.map (frz (hdel st.H κ) 4))).2.1) }
   | _=>False
 | _=>False
theorem psiPutR_mono {k:Nat} {φ:List PV->List PV->Prop × List PV × Nat}:∀ d args st (K K':AV->ASt->Prop),(∀ r s,K r s->K' r s)->psiPutR k φ d args st K->psiPutR k φ d args st K':=by
 intro d args st K K' hk h
 unfold psiPutR at h ⊢
 split at h
 · split at h
   · exact ⟨h.1,h.2.1,h.2.2.1,h.2.2.2.1,h.2.2.2.2.1,h.2.2.2.2.2.1,hk _ _ h.2.2.2.2.2.2⟩
   · exact h.elim
 · exact h.elim
theorem psiPutR_run {k d κ n:Nat} {φ:List PV->List PV->Prop × List PV × Nat} {rest:List AV} {es es' args:List PV} {m:Nat} {ρ:Nat->AV} {H:AHeap} {K:AV->ASt->Prop}
 {H1:AHeap} (h1:hget H κ=some (.row k es)) (hn:n=es.length) (hd:hdel H κ=H1) (hrf:(∀ a,a∈rest->a.refsIn H1=true)/\refsH H1 H1=true) (hfr:∀ a,a∈rest->frzOk H1 4 a) (ha:rest.map (frz H1 4)=args)
 (hφ:(φ es args).1) (he:(φ es args).2=(es',m)) (hl:es'.length=es.length) (hfl:∀ e,e∈es'->e.cells.all flatC=true) (hK:K (putRes κ m) ⟨ρ,hset H κ (.row k es')⟩):psiPutR k φ d (.rs κ n::rest) ⟨ρ,H⟩ K:=by
 subst hd
 subst ha
 unfold psiPutR
 simp only [h1]
 rw [he]
 exact ⟨trivial,hn,hrf,hfr,hφ,⟨hl,hfl⟩,hK⟩
def FinPutR (r k:Nat) (es:List PV) (m:Nat):AX->ASt->Prop
 | .normal,st=>st.ρ r=.rs 9001 m/\hget st.H 9001=some (.row k es)
 | .ret,st=>st.ρ r=.rs 9001 m/\hget st.H 9001=some (.row k es)
 | .exit _,_=>False
theorem FinPutR_n {r k m:Nat} {es:List PV} {st:ASt}:FinPutR r k es m .normal st=(st.ρ r=.rs 9001 m/\hget st.H 9001=some (.row k es)):=rfl
theorem FinPutR_r {r k m:Nat} {es:List PV} {st:ASt}:FinPutR r k es m .ret st=(st.ρ r=.rs 9001 m/\hget st.H 9001=some (.row k es)):=rfl
theorem ESound.of_putR {G:Glob} {C:Ctx} {T:Plan} {f:FuncId} {fn:Func} {c:Code} {φ:List PV->List PV->Prop × List PV × Nat} {k r:Nat}
 (hf:G.P.funcs[f]?=some fn) (hb:fn.body=some c) (hn:(fn.name == "runtime.NumGoroutine")=false) (hN:C.N=fn.ntmps) (hres:fn.results=#[.tmp r]) (hpins:C.pins=[9001]) (hF:Fit G C)
 (h:∀ es args,(φ es args).1->(∀ e,e∈es->e.width=k)->args.length+1<=C.N/\wpc C T c (FinPutR r k (φ es args).2.1 (φ es args).2.2) ⟨look ((0,.rs 9001 es.length)::argL 1 args),[(9001,.row k es)]⟩) (ho:C.outer=false:=by rfl):ESound G f (psiPutR k φ):=by
 intro d args st K hψ
 unfold psiPutR at hψ
 split at hψ
 case h_2=>exact hψ.elim
 rename_i κ n rest
 split at hψ
 case h_2=>exact hψ.elim
 rename_i k' es hH
 obtain ⟨rfl,rfl,⟨p1,p1'⟩,p2,p3,⟨p4,p4'⟩,p5⟩:=hψ
 refine ⟨⟨fn,hf,hn,by rw [hb];rfl⟩,fun E N a w L xs hR hargs _=>?_⟩
 cases hargs with
 | cons _ x0 _ xs' hx0 hrest=>
 have hblk0:=hR.blk κ _ hH
 have hwid:∀ e,e∈es->e.width=k':=hblk0.2.1
 have hk0:0<k':=hblk0.1
 obtain ⟨hlen,hw⟩:=h es _ p3 hwid
 have hxl:xs'.length=rest.length:=hrest.length.symm
 obtain ⟨es',he'⟩:∃ es',(φ es (rest.map (frz (hdel st.H κ) 4))).2.1=es':=⟨_,rfl⟩
 obtain ⟨m,hm'⟩:∃ m,(φ es (rest.map (frz (hdel st.H κ) 4))).2.2=m:=⟨_,rfl⟩
 rw [he'] at hw p4 p4' p5
 rw [hm'] at hw p5
 let L0:Locs:=fun k=>if k=9001 then L κ else none
 let E':Base:=⟨w,E.X,fun x=>∃ c,L κ=some (x,c),L0,[]⟩
 have hmb:∀ x c,L κ=some (x,c)->Mut E L st.H x:=fun x c hl=>.inr ⟨κ,_,c,hH,hl⟩
 have one:∀ key B,hget [(9001,ABlk.row k' es)] key=some B->key=9001/\B=.row k' es:=by
  intro key B hk
  unfold hget at hk
  split at hk
  · rename_i e;simp only [Option.some.injEq] at hk;exact ⟨e.symm,hk.symm⟩
  · cases hk
 have hMut0:∀ x,Mut E' L0 [(9001,.row k' es)] x->Mut E L st.H x:=by
  rintro x (hx | ⟨key,B,c0,k1,k2⟩)
  · exact .inl hx
  · obtain ⟨rfl,rfl⟩:=one key B k1
    simp only [L0,if_true] at k2
    exact hmb x c0 k2
 have hk00:Keeps w (Mut E L st.H) w (Mut E' L0 [(9001,.row k' es)]):=fun x _ hn=>⟨rfl,fun hm=>hn (hMut0 x hm)⟩
 have hpv:∀ (j:Nat) p,(rest.map (frz (hdel st.H κ) 4))[j]?=some p->PVRel w (Mut E' L0 [(9001,.row k' es)]) p (xs'.toArray.getD j undef):=by
  intro j p hp
  rw [List.getElem?_map] at hp
  obtain ⟨a0,ha0,rfl⟩:=Option.map_eq_some_iff.1 hp
  obtain ⟨x,hx,hr⟩:=hrest.get j a0 ha0
  have hm0:=List.mem_of_getElem? ha0
  rw [getD_toArray,List.getD_eq_getElem?_getD,hx]
  have hkr:Keeps w (Mut E L st.H) w (Mut E L st.H):=fun b _ hn=>⟨rfl,hn⟩
  have hsub:∀ key B,hget (hdel st.H κ) key=some B->hget st.H key=some B:=fun key B hk=>by
   by_cases e:key=κ
   · subst e;rw [hget_hdel_same] at hk;cases hk
   · rw [hget_hdel_ne _ (Ne.symm e)] at hk;exact hk
  have hne:∀ key B,hget (hdel st.H κ) key=some B->key≠κ:=fun key B hk e=>by subst e;rw [hget_hdel_same] at hk;cases hk
  refine frz_to (w:=w) (M:=Mut E L st.H) (L:=L) (H:=hdel st.H κ) (S:=OpqS G E) (fun key B hk=>(hR.blk key B (hsub key B hk)).fit rfl hkr hsub (refsH_get p1' key B hk)) hMut0 (fun key B b cap hk hl hm=>?_) 4 a0 _ (p2 a0 hm0) (hr.fit hkr hsub (p1 a0 hm0))
  rcases hm with hm | ⟨k2,B2,c2,q1,q2⟩
  · exact (hR.own key B b cap (hsub key B hk) hl).1 hm
  · obtain ⟨rfl,rfl⟩:=one k2 B2 q1
    simp only [L0,if_true] at q2
    exact hne key B hk (hR.inj key κ B _ b cap c2 (hsub key B hk) hH hl q2)
 have hR0:Rel G E' (OpqS G E') C.N ⟨look ((0,.rs 9001 es.length)::argL 1 (rest.map (frz (hdel st.H κ) 4))),[(9001,.row k' es)]⟩ ((x0::xs').toArray++Array.replicate (fn.ntmps-(x0::xs').toArray.size) undef) w L0:=by
  refine ⟨?_,Ext.refl _ _,hR.inv,Nat.le_trans hR.glob hR.ext.size,fun x hx=>⟨hR.mut_lt (.inl hx),fun ⟨c,hc⟩=>(hR.own κ _ x c hH hc).1 hx⟩,fun x ⟨c,hc⟩=>(hR.own κ _ x c hH hc).2.1,?_,?_,?_,fun s=>?_,?_⟩
  · have:=hlen
    simp only [List.length_map] at this
    simp [hxl];omega
  · intro key B x c0 k1 k2
    obtain ⟨rfl,rfl⟩:=one key B k1
    simp only [L0,if_true] at k2
    exact ⟨(hR.own κ _ x c0 hH k2).1,(hR.own κ _ x c0 hH k2).2.1,.inl ⟨c0,k2⟩⟩
  · intro k1 k2 B1 B2 x c1 c2 m1 m2 _ _
    rw [(one k1 B1 m1).1,(one k2 B2 m2).1]
  · intro key B hk
    obtain ⟨rfl,rfl⟩:=one key B hk
    have e0:L0 9001=L κ:=by simp [L0]
    simp only [BRel,e0] at hblk0 ⊢
    refine ⟨hk0,hwid,?_⟩
    have h3:=hblk0.2.2
    cases hl:L κ with
    | none=>rw [hl] at h3;exact h3
    | some bc=>
      obtain ⟨b,cap⟩:=bc
      rw [hl] at h3
      obtain ⟨arr,et,e1,e2,e3,e4,e5⟩:=h3
      exact ⟨arr,et,e1,e2,e3,e4,fun i e j c he hc=>⟨(e5 i e j c he hc).1,(e5 i e j c he hc).2.keep hk00⟩⟩
  · unfold look
    split
    · rename_i e;subst e
      have hg:((x0::xs').toArray++Array.replicate (fn.ntmps-(x0::xs').toArray.size) undef).getD 0 undef=x0:=by
       simp [Array.getD_eq_getD_getElem?,Array.getElem?_append]
      rw [hg]
      rcases rs_inv hx0 with ⟨k2,g1,g2,g3,g4⟩ | ⟨k2,es2,b,cap,g1,g2,g3,g4⟩
      · rw [hH] at g1
        simp only [Option.some.injEq,ABlk.row.injEq] at g1
        obtain ⟨_,rfl⟩:=g1
        rw [g4]
        exact .rsN 9001 k' (by simp [hget]) (by simp [L0,g2])
      · rw [hH] at g1
        simp only [Option.some.injEq,ABlk.row.injEq] at g1
        obtain ⟨rfl,rfl⟩:=g1
        rw [g4]
        exact .rs 9001 es.length k' es b cap (by simp [hget]) (by simp [L0,g2]) (Nat.le_refl _)
    · refine look_argL (vs:=(x0::xs').toArray) (rest.map (frz (hdel st.H κ) 4)) 1 (fun j p hp=>?_) (by simp [hxl];omega) s
      have:=hpv j p hp
      have e:(x0::xs').toArray.getD (1+j) undef=xs'.toArray.getD j undef:=by
       simp [Array.getD_eq_getD_getElem?,Nat.add_comm 1 j]
      rw [e];exact this
  · intro k2 b0 c0 hl
    have hl':(if k2=9001 then L κ else none)=some (b0,c0):=hl
    split at hl'
    · rename_i e;subst e
      exact ⟨hl,.row k' es,by simp [hget]⟩
    · cases hl'
 refine calls_of_wp hf hb ?_
 have hwp:=wpIn_wide.1 <| wpc_sound c _ _ hw G E' none 0 (fun _=>rfl) hF (fun k2 hk=>by
  rw [hpins]
  have hk':((if k2=9001 then L κ else none:Option (Nat × Nat))).isSome=true:=hk
  split at hk'
  · rename_i e;rw [e];simp
  · cases hk') { tmps:=(x0::xs').toArray++Array.replicate (fn.ntmps-(x0::xs').toArray.size) undef,defers:=[] } w L0 hR0 rfl
 have fin:∀ (a':Act) (w':World),Beh G E' C.N (fun s=>s.ρ r=.rs 9001 m/\hget s.H 9001=some (.row k' es')) a' w'->
  a'.defers=[]/\∃ v,(results fn a'.tmps).run G.P w'=.ok v w'/\∃ v' r st' L',Ending.returned v=.returned v'/\K r st'/\Rel G E (OpqS G E) N st' a w' L'/\AVRel w' (Mut E L' st'.H) L' st'.H (OpqS G E) r v':=by
  rintro a' w' ⟨s,L',⟨qr,q⟩,hR',hd⟩
  have hrun:(results fn a'.tmps).run G.P w'=.ok (a'.tmps.getD r undef) w':=by
   rw [results_eq,hres]
   simp [resM]
  have hv:=hR'.env r
  rw [qr] at hv
  have hb9:=hR'.blk 9001 _ q
  suffices hS:Rel G E (OpqS G E) N { st with H:=hset st.H κ (.row k' es') } a w' L by
   refine ⟨hd,_,hrun,_,_,_,L,rfl,p5,hS,?_⟩
   rcases rs_inv hv with ⟨k2,g1,g2,g3,g4⟩ | ⟨k2,es2,b,cap,g1,g2,g3,g4⟩
   · rw [g4,g3]
     exact .pv _ _ (.sl [] none 0 0 0 0 (fun _ _=>undef) (Nat.le_refl _) (Nat.zero_le _) (by simp) (by simp) (fun i e j c h=>by simp at h) (fun i e j c h=>by simp at h))
   · rw [g4]
     rw [q] at g1
     simp only [Option.some.injEq,ABlk.row.injEq] at g1
     obtain ⟨rfl,rfl⟩:=g1
     simp only [BRel,g2] at hb9
     obtain ⟨_,_,arr,ety,f1,f2,f3,f4,f5⟩:=hb9
     unfold putRes
     by_cases h0:m=0
     · rw [if_pos h0,h0]
       exact .pv _ _ (.sl [] _ cap 0 0 0 (fun _ _=>undef) (Nat.zero_le _) f4 (by simp) (by simp) (fun i e j c h=>by simp at h) (fun i e j c h=>by simp at h))
     · rw [if_neg h0]
       have hel:es'.length=es.length:=p4
       cases hl:L κ with
       | none=>
         simp only [BRel,hl] at hblk0
         have e1:es=[]:=hblk0.2.2
         rw [e1,List.length_nil] at hel
         omega
       | some bc=>
         obtain ⟨b2,cap2⟩:=bc
         have e9:=(hR'.fix 9001 b2 cap2 (by simp [E',L0,hl])).1
         rw [e9] at g2
         simp only [Option.some.injEq,Prod.mk.injEq] at g2
         obtain ⟨rfl,rfl⟩:=g2
         exact .rs κ m k' es' b2 cap2 (hget_hset_same _ _ _) hl g3
  have hext:Ext E'.M0 w w':=hR'.ext
  have hlk:∀ b c,L κ=some (b,c)->L' 9001=some (b,c):=fun b c hl=>(hR'.fix 9001 b c (by simp [E',L0,hl])).1
  have hnil:L κ=none->es=[]/\es'=[]:=by
   intro hl
   simp only [BRel,hl] at hblk0
   have e1:es=[]:=hblk0.2.2
   exact ⟨e1,List.eq_nil_of_length_eq_zero (by rw [p4,e1];rfl)⟩
  have hMut:∀ x,Mut E L (hset st.H κ (.row k' es')) x->Mut E L st.H x:=by
   intro x hx
   rcases hx with hx | ⟨key,B0,c0,h1,h2⟩
   · exact .inl hx
   · by_cases e:key=κ
     · subst e;exact hmb x c0 h2
     · rw [hget_hset_ne _ _ (Ne.symm e)] at h1;exact .inr ⟨key,B0,c0,h1,h2⟩
  have hk:Keeps w (Mut E L st.H) w' (Mut E L (hset st.H κ (.row k' es'))):=fun x hx hn=>⟨hext.block x hx (fun ⟨c,hc⟩=>hn (hmb x c hc)),fun hm=>hn (hMut x hm)⟩
  have hc:∀ key B0,hget st.H key=some B0->∃ B1,hget (hset st.H κ (.row k' es')) key=some B1/\B0.le B1/\L key=L key/\(L key=none->B0=B1):=by
   intro key B0 hb0
   by_cases e:key=κ
   · subst e
     rw [hH] at hb0
     simp only [Option.some.injEq] at hb0
     subst hb0
     exact ⟨_,hget_hset_same _ _ _,⟨rfl,by omega⟩,rfl,fun hl=>by obtain ⟨e1,e2⟩:=hnil hl;rw [e1,e2]⟩
   · exact ⟨B0,by rw [hget_hset_ne _ _ (Ne.symm e)];exact hb0,ABlk.le_refl _,rfl,fun _=>rfl⟩
  refine ⟨hR.size,hR.ext.trans' hext (fun x hx=>?_),hR'.inv,hR.glob,hR.old,hR.m0,?_,?_,fun key B hb=>?_,fun t=>(hR.env t).keep hk (fun _ _ h=>h) hc,?_⟩
  · obtain ⟨c,hx⟩:=hx
    exact (hR.own κ _ x c hH hx).2.2
  · intro key B0 x c0 h1 h2
    by_cases e:key=κ
    · subst e;exact hR.own key _ x c0 hH h2
    · rw [hget_hset_ne _ _ (Ne.symm e)] at h1;exact hR.own key B0 x c0 h1 h2
  · intro k1 k2 B1 B2 x c1 c2 h1 h2 h3 h4
    have get:∀ k B0,hget (hset st.H κ (.row k' es')) k=some B0->∃ B1,hget st.H k=some B1:=fun k B0 hg=>by
     by_cases e:k=κ
     · subst e;exact ⟨_,hH⟩
     · rw [hget_hset_ne _ _ (Ne.symm e)] at hg;exact ⟨B0,hg⟩
    obtain ⟨B1',h1'⟩:=get k1 B1 h1
    obtain ⟨B2',h2'⟩:=get k2 B2 h2
    exact hR.inj k1 k2 B1' B2' x c1 c2 h1' h2' h3 h4
  · by_cases e:key=κ
    · subst e
      simp only [hget_hset_same,Option.some.injEq] at hb
      subst hb
      have hf9:=hR'.blk 9001 _ q
      simp only [BRel] at hf9 ⊢
      cases hl:L key with
      | none=>
        refine ⟨hk0,fun e he=>?_,(hnil hl).2⟩
        rw [(hnil hl).2] at he;cases he
      | some bc=>
        obtain ⟨b,cap⟩:=bc
        rw [hlk b cap hl] at hf9
        obtain ⟨_,hwid',arr,et,e1,e2,e3,e4,e5⟩:=hf9
        refine ⟨hk0,hwid',arr,et,e1,e2,e3,e4,fun i e j c he hc'=>⟨(e5 i e j c he hc').1,flat_rel (List.all_eq_true.1 (p4' e (List.mem_of_getElem? he)) c (List.mem_of_getElem? hc')) (e5 i e j c he hc').2⟩⟩
    · rw [hget_hset_ne _ _ (Ne.symm e)] at hb
      refine (hR.blk key B hb).keepAll hk hc (fun b' cap' hl=>hext.block b' (hR.mut_lt (.inr ⟨key,B,cap',hb,hl⟩)) (fun ⟨c,hc'⟩=>?_)) rfl
      exact e (hR.inj key κ B _ b' cap' c hb hH hl hc')
  · intro k2 b0 c0 hl0
    obtain ⟨h1,B0,h2⟩:=hR.fix k2 b0 c0 hl0
    obtain ⟨B1,h4,_⟩:=hc k2 B0 h2
    exact ⟨h1,B1,h4⟩
 refine wp_mono hwp (fun e a' w' he=>?_)
 rw [ho] at he
 cases e with
 | normal=>exact fin a' w' (BehX.beh he)
 | ret=>exact fin a' w' (BehX.beh he)
 | exit i=>obtain ⟨_,_,h,_⟩:=BehX.beh he;exact h.elim
 | goto l=>exact he
 | panic c=>exact he.elim
 | outgrown=>exact he.elim
end Go.AM
