/-
  A part of a proof.
-/
import Derived.Test.YtkajgkbhkkgdbaaGreatDoorDM
set_option linter.unusedSimpArgs false
set_option linter.unusedVariables false
namespace Go.AM
open Go
section
variable {G:Glob} {E:Base} {N:Nat} {st:ASt} {a:Array Value} {w w':World} {L:Locs} {S:(List PV->Prop × PV)->Value->Prop}
theorem Rel.turnTwo (h:Rel G E S N st a w L) {κ1 κ2:Nat} {J:List PV->Prop} {cs:List AV} {b1 c1 b2 c2:Nat} (hne:κ1≠κ2) (h1:hget st.H κ1=some (.obj J)) (l1:L κ1=some (b1,c1)) (h2:hget st.H κ2=some (.cells cs)) (l2:L κ2=some (b2,c2))
    (he:Ext (fun x=>x=b1\/x=b2) w w') (hinv:G.I w') (gs:List AV)
    (hT:∀ M' L' H',(∀ x,M' x->Mut E L st.H x)->L' κ1=some (b1,c1)->BRel w' M' L' H' S κ1 (.obj J))
    (hB:∀ M' L' H',(∀ x,M' x->Mut E L st.H x)->L' κ2=some (b2,c2)->BRel w' M' L' H' S κ2 (.cells gs)):
    Rel G E S N { st with H:=hset st.H κ2 (.cells gs) } a w' L:=by
  have hm1:Mut E L st.H b1:=.inr ⟨κ1,_,c1,h1,l1⟩
  have hm2:Mut E L st.H b2:=.inr ⟨κ2,_,c2,h2,l2⟩
  have hgo:∀ key B0,hget (hset st.H κ2 (.cells gs)) key=some B0->∃ B1,hget st.H key=some B1:=by
    intro key B0 hb
    by_cases e:key=κ2
    · subst e;exact ⟨_,h2⟩
    · rw [hget_hset_ne _ _ (Ne.symm e)] at hb;exact ⟨_,hb⟩
  have hc:∀ key B0,hget st.H key=some B0->∃ B',hget (hset st.H κ2 (.cells gs)) key=some B'/\B0.le B'/\L key=L key/\(L key=none->B0=B'):=by
    intro key B0 hb
    by_cases e:key=κ2
    · subst e
      rw [h2] at hb
      simp only [Option.some.injEq] at hb
      subst hb
      exact ⟨_,hget_hset_same _ _ _,trivial,rfl,fun hn=>by rw [l2] at hn;cases hn⟩
    · exact ⟨B0,by rw [hget_hset_ne _ _ (Ne.symm e)];exact hb,ABlk.le_refl _,rfl,fun _=>rfl⟩
  have hMut:∀ x,Mut E L (hset st.H κ2 (.cells gs)) x->Mut E L st.H x:=by
    intro x hx
    rcases hx with hx | ⟨key,B0,c0,g1,g2⟩
    · exact .inl hx
    · obtain ⟨B1,g3⟩:=hgo key B0 g1
      exact .inr ⟨key,B1,c0,g3,g2⟩
  have hk:Keeps w (Mut E L st.H) w' (Mut E L (hset st.H κ2 (.cells gs))):=fun x hx hm=>
    ⟨he.block x hx (fun e=>hm (by rcases e with e | e <;> rw [e] <;> assumption)),fun hm'=>hm (hMut x hm')⟩
  refine ⟨h.size,h.ext.trans' he (fun x hx=>?_),hinv,h.glob,h.old,h.m0,?_,?_,?_,?_,?_⟩
  · rcases hx with hx | hx
    · rw [hx];exact (h.own κ1 _ b1 c1 h1 l1).2.2
    · rw [hx];exact (h.own κ2 _ b2 c2 h2 l2).2.2
  · intro key B0 x c0 g1 g2
    obtain ⟨B1,g3⟩:=hgo key B0 g1
    exact h.own key B1 x c0 g3 g2
  · intro k1 k2 B1 B2 x d1 d2 g1 g2 g3 g4
    obtain ⟨B3,g5⟩:=hgo k1 B1 g1
    obtain ⟨B4,g6⟩:=hgo k2 B2 g2
    exact h.inj k1 k2 B3 B4 x d1 d2 g5 g6 g3 g4
  · intro key B0 hb0
    by_cases e:key=κ2
    · subst e
      simp only [hget_hset_same,Option.some.injEq] at hb0
      subst hb0
      exact hB _ _ _ hMut l2
    · simp only [hget_hset_ne _ _ (Ne.symm e)] at hb0
      by_cases e0:key=κ1
      · subst e0
        rw [h1] at hb0
        simp only [Option.some.injEq] at hb0
        subst hb0
        exact hT _ _ _ hMut l1
      · refine (h.blk key B0 hb0).keepAll hk hc (fun x cap' hl=>he.block x (h.mut_lt (.inr ⟨key,B0,cap',hb0,hl⟩)) (fun ex=>?_)) rfl
        rcases ex with ex | ex
        · subst ex;exact e0 (h.inj key κ1 B0 _ x cap' c1 hb0 h1 hl l1)
        · subst ex;exact e (h.inj key κ2 B0 _ x cap' c2 hb0 h2 hl l2)
  · intro s
    exact (h.env s).keep hk (fun _ _ h=>h) hc
  · intro k x c hl
    obtain ⟨g1,B0,g2⟩:=h.fix k x c hl
    obtain ⟨B1,g3,_⟩:=hc k B0 g2
    exact ⟨g1,B1,g3⟩
end
def flatA:AV->Bool
  | .nils | .pv _=>true
  | _=>false
theorem flatA_rel {w w':World} {M M':Nat->Prop} {L L':Locs} {H H':AHeap} {S S':(List PV->Prop × PV)->Value->Prop} {c:AV} {v:Value} (hf:flatA c=true) (hk:Keeps w M w' M') (h:AVRel w M L H S c v):AVRel w' M' L' H' S' c v:=by
  cases c <;> simp only [flatA] at hf <;> first | (exact absurd hf (by decide)) | skip
  · exact .pv _ _ ((pv_inv h).keep hk)
  · cases h;exact .nils
def psiW (J:List PV->Prop) (pre:List AV->Prop) (post:List AV->List AV->Prop):ESpec:=fun d args st K=>
  ∃ κ1 κ2 fs,args=[.ptr κ1 0,.ptr κ2 0]/\hget st.H κ1=some (.obj J)/\hget st.H κ2=some (.cells fs)/\fs.all flatA=true/\pre fs/\
    ∀ gs,post fs gs->K (.pv (.tup [])) { st with H:=hset st.H κ2 (.cells gs) }
theorem psiW_mono {J:List PV->Prop} {pre:List AV->Prop} {post:List AV->List AV->Prop}:∀ d args st (K K':AV->ASt->Prop),(∀ r s,K r s->K' r s)->psiW J pre post d args st K->psiW J pre post d args st K':=by
  rintro d args st K K' hk ⟨κ1,κ2,fs,h1,h2,h3,h4,h6,h5⟩
  exact ⟨κ1,κ2,fs,h1,h2,h3,h4,h6,fun gs hg=>hk _ _ (h5 gs hg)⟩
def cellW (H:AHeap):AV->AV
  | .nils=>.nils
  | c=>.pv (frz H 4 c)
def delW (H:AHeap):AHeap:=hdel (hdel H 9000) 9001
def finW (J:List PV->Prop) (post:List AV->Prop) (st:ASt):Prop:=tapeOk J (hget st.H 9000)/\∃ cs,hget st.H 9001=some (.cells cs)/\refsH (delW st.H) (delW st.H)=true/\(∀ c,c∈cs->c.refsIn (delW st.H)=true/\frzOk (delW st.H) 4 c)/\post (cs.map (cellW (delW st.H)))
theorem hget_delW {H:AHeap} {key:Nat} {B:ABlk} (h:hget (delW H) key=some B):hget H key=some B/\key≠9000/\key≠9001:=by
  unfold delW at h
  by_cases e:key=9001
  · subst e;rw [hget_hdel_same] at h;cases h
  · rw [hget_hdel_ne _ (Ne.symm e)] at h
    by_cases e2:key=9000
    · subst e2;rw [hget_hdel_same] at h;cases h
    · rw [hget_hdel_ne _ (Ne.symm e2)] at h;exact ⟨h,e2,e⟩
def FinW (J:List PV->Prop) (post:List AV->Prop):AX->ASt->Prop
  | .normal,st=>finW J post st
  | .ret,st=>finW J post st
  | .exit _,_=>False
theorem ESound.of_wr {G:Glob} {C:Ctx} {f:FuncId} {fn:Func} {c:Code} {J:List PV->Prop} {pre:List AV->Prop} {post:List AV->List AV->Prop}
    (hf:G.P.funcs[f]?=some fn) (hb:fn.body=some c) (hn:(fn.name == "runtime.NumGoroutine")=false) (hN:C.N=fn.ntmps) (hres:fn.results=#[]) (hpins:C.pins=[9000,9001]) (hF:Fit G C) (h2N:2<=C.N)
    (h:∀ fs,fs.all flatA=true->pre fs->AWp C c (FinW J (post fs)) ⟨look [(0,.ptr 9000 0),(1,.ptr 9001 0)],[(9000,.obj J),(9001,.cells fs)]⟩) (ho:C.outer=false:=by rfl):ESound G f (psiW J pre post):=by
  rintro d args st K ⟨κ1,κ2,fs,rfl,h1,h2,hfl,h3,hK⟩
  refine ⟨⟨fn,hf,hn,by rw [hb];rfl⟩,fun E N a w L xs hR hargs _=>?_⟩
  cases hargs with
  | cons _ x0 _ xs' hx0 hrest=>
  cases hrest with
  | cons _ x1 _ xs'' hx1 hrest=>
  cases hrest with
  | nil=>
  obtain ⟨B1,b1,c1,g1,gv,l1,rfl⟩:=ptr_inv hx0
  obtain ⟨B2,b2,c2,g2,gv2,l2,rfl⟩:=ptr_inv hx1
  rw [h1] at g1
  rw [h2] at g2
  simp only [Option.some.injEq] at g1 g2
  subst g1 g2
  have hne:κ1≠κ2:=fun e=>by rw [e,h2] at h1;cases h1
  have hw:=h fs hfl h3
  have hm1:Mut E L st.H b1:=.inr ⟨κ1,_,c1,h1,l1⟩
  have hm2:Mut E L st.H b2:=.inr ⟨κ2,_,c2,h2,l2⟩
  have hbb:b1≠b2:=fun e=>hne (h1 |> fun h1=>by subst e;exact hR.inj κ1 κ2 _ _ b1 c1 c2 h1 h2 l1 l2)
  let L0:Locs:=fun k=>if k=9000 then some (b1,c1) else if k=9001 then some (b2,c2) else none
  let H0:AHeap:=[(9000,.obj J),(9001,.cells fs)]
  let E':Base:=⟨w,fun x=>Mut E L st.H x/\x≠b1/\x≠b2,fun x=>x=b1\/x=b2,L0,[]⟩
  have L0a:L0 9000=some (b1,c1):=rfl
  have L0b:L0 9001=some (b2,c2):=rfl
  have H0a:hget H0 9000=some (.obj J):=rfl
  have H0b:hget H0 9001=some (.cells fs):=rfl
  have one:∀ key B,hget H0 key=some B->(key=9000/\B=.obj J)\/(key=9001/\B=.cells fs):=by
    intro key B hk
    simp only [H0,hget] at hk
    split at hk
    · rename_i e;simp only [Option.some.injEq] at hk;exact .inl ⟨e.symm,hk.symm⟩
    · split at hk
      · rename_i e;simp only [Option.some.injEq] at hk;exact .inr ⟨e.symm,hk.symm⟩
      · cases hk
  have hMut0:∀ x,Mut E' L0 H0 x->Mut E L st.H x:=by
    rintro x (hx | ⟨key,B,c0,k1,k2⟩)
    · exact hx.1
    · rcases one key B k1 with ⟨rfl,_⟩ | ⟨rfl,_⟩
      · rw [L0a] at k2;simp only [Option.some.injEq,Prod.mk.injEq] at k2;rw [<- k2.1];exact hm1
      · rw [L0b] at k2;simp only [Option.some.injEq,Prod.mk.injEq] at k2;rw [<- k2.1];exact hm2
  have hk0:Keeps w (Mut E L st.H) w (Mut E' L0 H0):=fun x _ hn=>⟨rfl,fun hm=>hn (hMut0 x hm)⟩
  have o1:=hR.own κ1 _ b1 c1 h1 l1
  have o2:=hR.own κ2 _ b2 c2 h2 l2
  have hR0:Rel G E' (OpqS G E') C.N ⟨look [(0,.ptr 9000 0),(1,.ptr 9001 0)],H0⟩ ([Value.pointer (some ⟨b1,0,none⟩),Value.pointer (some ⟨b2,0,none⟩)].toArray++Array.replicate (fn.ntmps-[Value.pointer (some ⟨b1,0,none⟩),Value.pointer (some ⟨b2,0,none⟩)].toArray.size) undef) w L0:=by
    refine ⟨?_,Ext.refl _ _,hR.inv,Nat.le_trans hR.glob hR.ext.size,fun x hx=>⟨hR.mut_lt hx.1,fun hx'=>?_⟩,fun x hx=>?_,?_,?_,?_,fun s=>?_,?_⟩
    · rw [hN] at h2N ⊢
      simp;omega
    · rcases hx' with e | e
      · exact hx.2.1 e
      · exact hx.2.2 e
    · rcases hx with e | e
      · rw [e];exact o1.2.1
      · rw [e];exact o2.2.1
    · intro key B x c0 k1 k2
      rcases one key B k1 with ⟨rfl,rfl⟩ | ⟨rfl,rfl⟩
      · rw [L0a] at k2;simp only [Option.some.injEq,Prod.mk.injEq] at k2
        obtain ⟨rfl,rfl⟩:=k2
        exact ⟨fun hx=>hx.2.1 rfl,o1.2.1,.inl (.inl rfl)⟩
      · rw [L0b] at k2;simp only [Option.some.injEq,Prod.mk.injEq] at k2
        obtain ⟨rfl,rfl⟩:=k2
        exact ⟨fun hx=>hx.2.2 rfl,o2.2.1,.inl (.inr rfl)⟩
    · intro k1 k2 B1 B2 x d1 d2 m1 m2 q1 q2
      rcases one k1 B1 m1 with ⟨rfl,_⟩ | ⟨rfl,_⟩ <;> rcases one k2 B2 m2 with ⟨rfl,_⟩ | ⟨rfl,_⟩
      · rfl
      · rw [L0a] at q1;rw [L0b] at q2
        simp only [Option.some.injEq,Prod.mk.injEq] at q1 q2
        exact absurd (q1.1.trans q2.1.symm) hbb
      · rw [L0b] at q1;rw [L0a] at q2
        simp only [Option.some.injEq,Prod.mk.injEq] at q1 q2
        exact absurd (q2.1.trans q1.1.symm) hbb
      · rfl
    · intro key B hk
      rcases one key B hk with ⟨rfl,rfl⟩ | ⟨rfl,rfl⟩
      · obtain ⟨cs,b3,cap3,arr,et,e1,e2,e3,e4,e5,e6⟩:=hR.blk κ1 _ h1
        rw [l1] at e3
        simp only [Option.some.injEq,Prod.mk.injEq] at e3
        obtain ⟨rfl,rfl⟩:=e3
        exact ⟨cs,b1,c1,arr,et,e1,e2,L0a,e4,e5,fun j c hc=>(e6 j c hc).keep hk0⟩
      · obtain ⟨b3,cap3,arr,et,e1,e2,e3,e4⟩:=hR.blk κ2 _ h2
        rw [l2] at e1
        simp only [Option.some.injEq,Prod.mk.injEq] at e1
        obtain ⟨rfl,rfl⟩:=e1
        refine ⟨b2,c2,arr,et,L0b,e2,e3,fun j c hc=>?_⟩
        exact flatA_rel (List.all_eq_true.1 hfl c (List.mem_of_getElem? hc)) hk0 (e4 j c hc)
    · have ea:([Value.pointer (some ⟨b1,0,none⟩),Value.pointer (some ⟨b2,0,none⟩)].toArray++Array.replicate (fn.ntmps-[Value.pointer (some ⟨b1,0,none⟩),Value.pointer (some ⟨b2,0,none⟩)].toArray.size) undef).getD 0 undef=.pointer (some ⟨b1,0,none⟩):=by
        simp [Array.getD_eq_getD_getElem?,Array.getElem?_append]
      have eb:([Value.pointer (some ⟨b1,0,none⟩),Value.pointer (some ⟨b2,0,none⟩)].toArray++Array.replicate (fn.ntmps-[Value.pointer (some ⟨b1,0,none⟩),Value.pointer (some ⟨b2,0,none⟩)].toArray.size) undef).getD 1 undef=.pointer (some ⟨b2,0,none⟩):=by
        simp [Array.getD_eq_getD_getElem?,Array.getElem?_append]
      unfold look
      split
      · rename_i e;subst e
        rw [ea]
        exact .ptr 9000 0 _ b1 c1 H0a rfl L0a
      · unfold look
        split
        · rename_i e;subst e
          rw [eb]
          exact .ptr 9001 0 _ b2 c2 H0b rfl L0b
        · exact .top _
    · intro k b0 c0 hl
      have hl':L0 k=some (b0,c0):=hl
      simp only [L0] at hl'
      split at hl'
      · rename_i e;subst e
        exact ⟨hl,_,H0a⟩
      · split at hl'
        · rename_i e;subst e
          exact ⟨hl,_,H0b⟩
        · cases hl'
  refine calls_of_wp hf hb ?_
  have hwp:=wpIn_wide.1 <| hw G E' none 0 (fun _=>rfl) hF (fun k hk=>by
    rw [hpins]
    have hk':(L0 k).isSome=true:=hk
    simp only [L0] at hk'
    split at hk'
    · rename_i e;rw [e];simp
    · split at hk'
      · rename_i e;rw [e];simp
      · cases hk') { tmps:=[Value.pointer (some ⟨b1,0,none⟩),Value.pointer (some ⟨b2,0,none⟩)].toArray++Array.replicate (fn.ntmps-[Value.pointer (some ⟨b1,0,none⟩),Value.pointer (some ⟨b2,0,none⟩)].toArray.size) undef,defers:=[] } w L0 hR0 rfl
  have fin:∀ (a':Act) (w':World),Beh G E' C.N (fun s=>finW J (post fs) s) a' w'->
      a'.defers=[]/\∃ v,(results fn a'.tmps).run G.P w'=.ok v w'/\∃ v' r' st' L',Ending.returned v=.returned v'/\K r' st'/\Rel G E (OpqS G E) N st' a w' L'/\AVRel w' (Mut E L' st'.H) L' st'.H (OpqS G E) r' v':=by
    rintro a' w' ⟨s,L',⟨q1,gs0,q2,hrf,hcl,q3⟩,hR',hd⟩
    have hrun:(results fn a'.tmps).run G.P w'=.ok (.tuple #[]) w':=by
      rw [results_eq,hres]
      simp
    obtain ⟨f1,F1,f2⟩:=hR'.fix 9000 b1 c1 L0a
    obtain ⟨f3,F2,f4⟩:=hR'.fix 9001 b2 c2 L0b
    have hext:Ext (fun x=>x=b1\/x=b2) w w':=hR'.ext
    have hmut:∀ x,Mut E L st.H x->Mut E' L' s.H x:=by
      intro x hx
      by_cases e:x=b1
      · exact .inr ⟨9000,F1,c1,f2,by rw [e];exact f1⟩
      · by_cases e2:x=b2
        · exact .inr ⟨9001,F2,c2,f4,by rw [e2];exact f3⟩
        · exact .inl ⟨hx,e,e2⟩
    refine ⟨hd,_,hrun,_,_,_,L,rfl,hK _ q3,?_,.pv _ _ (.tup [] #[] rfl (fun i c hc=>by simp at hc))⟩
    refine hR.turnTwo hne h1 l1 h2 l2 hext hR'.inv (gs0.map (cellW (delW s.H))) (fun M' L2 H' hM hl=>?_) (fun M' L2 H' hM hl=>?_)
    · rw [f2] at q1
      obtain ⟨cs,b3,cap3,arr,et,e1,e2,e3,e4,e5,e6⟩:=tapeOk_rel q1 (hR'.blk 9000 F1 f2)
      rw [f1] at e3
      simp only [Option.some.injEq,Prod.mk.injEq] at e3
      obtain ⟨rfl,rfl⟩:=e3
      exact ⟨cs,b1,c1,arr,et,e1,e2,hl,e4,e5,fun j c hc'=>(e6 j c hc').keep (fun x _ hn=>⟨rfl,fun hm=>hn (hmut x (hM x hm))⟩)⟩
    · obtain ⟨b3,cap3,arr,et,e1,e2,e3,e4⟩:=hR'.blk 9001 _ q2
      rw [f3] at e1
      simp only [Option.some.injEq,Prod.mk.injEq] at e1
      obtain ⟨rfl,rfl⟩:=e1
      refine ⟨b2,c2,arr,et,hl,e2,by simpa using e3,fun j c hc=>?_⟩
      rw [List.getElem?_map] at hc
      obtain ⟨c0,hc0,rfl⟩:=Option.map_eq_some_iff.1 hc
      have h9:=e4 j c0 hc0
      obtain ⟨r1,r2⟩:=hcl c0 (List.mem_of_getElem? hc0)
      have hkr:Keeps w' (Mut E' L' s.H) w' (Mut E' L' s.H):=fun _ _ hn=>⟨rfl,hn⟩
      have hM2:∀ x,M' x->Mut E' L' s.H x:=fun x hx=>hmut x (hM x hx)
      have hown:∀ key B b' c',hget (delW s.H) key=some B->L' key=some (b',c')->¬ M' b':=by
        intro key B b' c' hk hl' hm
        obtain ⟨k1,k2,k3⟩:=hget_delW hk
        obtain ⟨o1,_,o3⟩:=hR'.own key B b' c' k1 hl'
        have hlt:=hR.mut_lt (hM b' hm)
        rcases o3 with (e | e) | hge
        · subst e;exact k2 (hR'.inj key 9000 B F1 b' c' c1 k1 f2 hl' f1)
        · subst e;exact k3 (hR'.inj key 9001 B F2 b' c' c2 k1 f4 hl' f3)
        · have hge:w.heap.size<=b':=hge
          omega
      have hpv:PVRel w' M' (frz (delW s.H) 4 c0) (arr.getD j undef):=frz_to (w:=w') (M:=Mut E' L' s.H) (L:=L') (H:=delW s.H) (S:=OpqS G E') (fun key B hk=>(hR'.blk key B (hget_delW hk).1).fit rfl hkr (fun key B hk=>(hget_delW hk).1) (refsH_get hrf key B hk)) hM2 hown 4 c0 _ r2 (h9.fit hkr (fun key B hk=>(hget_delW hk).1) r1)
      cases c0 with
      | nils=>
        revert h9
        generalize arr.getD j undef=v
        intro h9
        cases h9
        exact .nils
      | _=>exact .pv _ _ hpv
  refine wp_mono hwp (fun e a' w' he=>?_)
  rw [ho] at he
  cases e with
  | normal=>exact fin a' w' (BehX.beh he)
  | ret=>exact fin a' w' (BehX.beh he)
  | exit i=>obtain ⟨_,_,h,_⟩:=BehX.beh he;exact h.elim
  | goto l=>exact he
  | panic c=>exact he.elim
  | outgrown=>exact he.elim
end Go.AM
