/-
  A part of a proof.
-/
import Derived.Test.YtkajgkbhkkgdbaaGreatDoorDM
set_option linter.unusedSimpArgs false
set_option linter.unusedVariables false
namespace Go.AM
open Go
set_option maxHeartbeats 1000000
def wk1:AV->AV->Prop
 | a,.top=>a.one=true
 | .pv p,.pv q=>p=q
 | _,_=>False
def wkL1:List AV->List AV->Prop
 | [],[]=>True
 | a::r,b::s=>wk1 a b/\wkL1 r s
 | _,_=>False
def wk:AV->AV->Prop
 | _,.top=>True
 | .pv p,.pv q=>p=q
 | .agg cs,.agg ds=>wkL1 cs ds
 | _,_=>False
def wkL:List AV->List AV->Prop
 | [],[]=>True
 | a::r,b::s=>wk a b/\wkL r s
 | _,_=>False
def fl1 (u:Value):AV->AV
 | .top=>.fix u
 | a=>a
def flA (u:Nat->Value):Nat->List AV->List AV
 | _,[]=>[]
 | i,a::r=>fl1 (u i) a::flA u (i+1) r
def flV (u:Nat->Value):AV->AV
 | .agg cs=>.agg (flA u 0 cs)
 | a=>a
def flL (u:Nat->Nat->Value):Nat->List AV->List AV
 | _,[]=>[]
 | i,a::r=>flV (u i) a::flL u (i+1) r
theorem flA_len (u:Nat->Value):∀ (l:List AV) i,(flA u i l).length=l.length
 | [],_=>rfl
 | _::r,i=>by simp [flA,flA_len u r]
theorem flL_len (u:Nat->Nat->Value):∀ (l:List AV) i,(flL u i l).length=l.length
 | [],_=>rfl
 | _::r,i=>by simp [flL,flL_len u r]
theorem flA_at (u:Nat->Value):∀ (l:List AV) (i j:Nat) d,(flA u i l)[j]?=some d->∃ c,l[j]?=some c/\d=fl1 (u (i+j)) c
 | [],_,j,d,h=>by simp [flA] at h
 | a::r,i,0,d,h=>by
   simp only [flA,List.getElem?_cons_zero,Option.some.injEq] at h
   exact ⟨a,rfl,h.symm⟩
 | a::r,i,j+1,d,h=>by
   simp only [flA,List.getElem?_cons_succ] at h
   obtain ⟨c,h1,h2⟩:=flA_at u r (i+1) j d h
   exact ⟨c,by simpa using h1,by rw [h2,show i+1+j=i+(j+1) by omega]⟩
theorem flL_at (u:Nat->Nat->Value):∀ (l:List AV) (i j:Nat) d,(flL u i l)[j]?=some d->∃ c,l[j]?=some c/\d=flV (u (i+j)) c
 | [],_,j,d,h=>by simp [flL] at h
 | a::r,i,0,d,h=>by
   simp only [flL,List.getElem?_cons_zero,Option.some.injEq] at h
   exact ⟨a,rfl,h.symm⟩
 | a::r,i,j+1,d,h=>by
   simp only [flL,List.getElem?_cons_succ] at h
   obtain ⟨c,h1,h2⟩:=flL_at u r (i+1) j d h
   exact ⟨c,by simpa using h1,by rw [h2,show i+1+j=i+(j+1) by omega]⟩
def pickV (v:Value):Value:=if v.oneCell'=true then v else .pointer none
def pkV (v:Value) (j:Nat):Value:=match v with
 | .agg vs=>pickV (vs.getD j undef)
 | _=>.pointer none
theorem pickV_one (v:Value):(pickV v).oneCell'=true:=by
 unfold pickV;split
 · assumption
 · rfl
theorem pkV_one (v:Value) (j:Nat):(pkV v j).oneCell'=true:=by
 unfold pkV;split
 · exact pickV_one _
 · rfl
section
variable {w w':World} {M M':Nat->Prop} {L L':Locs} {H H':AHeap} {S S':(List PV->Prop × PV)->Value->Prop}
theorem wk1_rel (hk:Keeps w M w' M') {a b:AV} {v:Value} (h:wk1 a b) (hr:AVRel w M L H S a v):AVRel w' M' L' H' S' (fl1 (pickV v) b) v:=by
 unfold wk1 at h
 split at h
 · have h1:=oneA_of_rel h hr
   have:pickV v=v:=by unfold pickV;rw [if_pos h1]
   rw [this]
   exact .fix v h1
 · subst h;exact .pv _ _ ((pv_inv hr).keep hk)
 · exact h.elim
theorem wkL1_len:∀ {cs ds:List AV},wkL1 cs ds->cs.length=ds.length
 | [],[],_=>rfl
 | _::r,_::s,h=>by simp [wkL1_len h.2]
 | [],_::_,h=>h.elim
 | _::_,[],h=>h.elim
theorem wkL1_at:∀ {cs ds:List AV},wkL1 cs ds->∀ (i:Nat) d,ds[i]?=some d->∃ c,cs[i]?=some c/\wk1 c d
 | [],[],_,i,d,hd=>by simp at hd
 | c::r,e::s,h,0,d,hd=>by
   simp only [List.getElem?_cons_zero,Option.some.injEq] at hd
   subst hd
   exact ⟨c,rfl,h.1⟩
 | c::r,e::s,h,i+1,d,hd=>wkL1_at h.2 i d (by simpa using hd)
 | [],_::_,h,_,_,_=>h.elim
 | _::_,[],h,_,_,_=>h.elim
theorem wk_rel (hk:Keeps w M w' M') {a b:AV} {v:Value} (h:wk a b) (hr:AVRel w M L H S a v):AVRel w' M' L' H' S' (flV (pkV v) b) v:=by
 unfold wk at h
 split at h
 · exact .top v
 · subst h;exact .pv _ _ ((pv_inv hr).keep hk)
 · cases hr with
   | agg _ vs hsz hall=>
     refine .agg _ vs (by rw [hsz,wkL1_len h,flA_len]) (fun i d hd=>?_)
     obtain ⟨d0,hd0,rfl⟩:=flA_at _ _ _ _ _ hd
     obtain ⟨c,hc,h1⟩:=wkL1_at h i d0 hd0
     rw [Nat.zero_add]
     exact wk1_rel hk h1 (hall i c hc)
 · exact h.elim
theorem LRel.wk (hk:Keeps w M w' M'):∀ {l l':List AV} {xs:List Value},LRel w M L H S l xs->wkL l l'->xs.length=l'.length/\∀ (j:Nat) b,l'[j]?=some b->AVRel w' M' L' H' S' (flV (pkV (xs.toArray.getD j undef)) b) (xs.toArray.getD j undef)
 | [],[],_,h,_=>by cases h;exact ⟨rfl,fun j b hb=>by simp at hb⟩
 | a::r,e::s,_,h,hw=>by
   cases h with
   | cons _ x _ xs hx hr=>
   obtain ⟨h1,h2⟩:=LRel.wk hk hr hw.2
   refine ⟨by simp [h1],fun j b hb=>?_⟩
   cases j with
   | zero=>
     simp only [List.getElem?_cons_zero,Option.some.injEq] at hb
     subst hb
     have:(x::xs).toArray.getD 0 undef=x:=by simp [Array.getD_eq_getD_getElem?]
     rw [this]
     exact wk_rel hk hw.1 hx
   | succ j=>
     simp only [List.getElem?_cons_succ] at hb
     have e:(x::xs).toArray.getD (j+1) undef=xs.toArray.getD j undef:=by simp [Array.getD_eq_getD_getElem?]
     rw [e];exact h2 j b hb
 | [],_::_,_,_,h=>h.elim
 | _::_,[],_,_,h=>h.elim
theorem LRel.wkU (hk:Keeps w M w' M') {l l':List AV} {xs:List Value} (h:LRel w M L H S l xs) (hw:wkL l l'):∃ u:Nat->Nat->Value,(∀ i j,(u i j).oneCell'=true)/\xs.length=(flL u 0 l').length/\∀ (j:Nat) b,(flL u 0 l')[j]?=some b->AVRel w' M' L' H' S' b (xs.toArray.getD j undef):=by
 obtain ⟨h1,h2⟩:=LRel.wk (w':=w') (M':=M') (L':=L') (H':=H') (S':=S') hk h hw
 refine ⟨fun i j=>pkV (xs.toArray.getD i undef) j,fun i j=>pkV_one _ j,by rw [h1,flL_len],fun j b hb=>?_⟩
 obtain ⟨c,hc,rfl⟩:=flL_at _ _ _ _ _ hb
 rw [Nat.zero_add]
 exact h2 j c hc
def argV:Nat->List AV->List (Nat × AV)
 | _,[]=>[]
 | i,p::r=>(i,p)::argV (i+1) r
theorem look_argV {vs:Array Value} {pad:Nat}:∀ (args:List AV) (i:Nat),
 (∀ (j:Nat) p,args[j]?=some p->AVRel w M L H S p (vs.getD (i+j) undef))->i+args.length<=vs.size->∀ s,AVRel w M L H S (look (argV i args) s) ((vs++Array.replicate pad undef).getD s undef)
 | [],i,_,_,s=>.top _
 | p::r,i,h,hl,s=>by
   simp only [List.length_cons] at hl
   unfold argV look
   split
   · rename_i e
     subst e
     have h0:=h 0 p rfl
     rw [Nat.add_zero] at h0
     have hlt:s<vs.size:=by omega
     have:(vs++Array.replicate pad undef).getD s undef=vs.getD s undef:=by
      simp [Array.getD_eq_getD_getElem?,Array.getElem?_append_left hlt]
     rw [this]
     exact h0
   · refine look_argV r (i+1) (fun j p hp=>?_) (by omega) s
     have:=h (j+1) p (by simpa using hp)
     rw [show i+1+j=i+(j+1) by omega]
     exact this
end
def qS (J:List PV->Prop) {β γ:Type} (sh:List AV->Option β) (pre:β->Prop) (val:γ->PV) (ok:β->γ->Prop):QSpec:=fun args H=>
 match args with
 | .ptr κ 0::rest=>match sh rest with
   | some x=>(hget H κ=some (.obj J)/\pre x,fun r=>∃ p,r=.pv p/\∃ y,p=val y/\ok x y)
   | none=>(False,fun _=>False)
 | _=>(False,fun _=>False)
def qP {β:Type} (sh:List AV->Option β) (pre:β->Prop) (val:β->PV):QSpec:=fun args _=>
 match sh args with
 | some x=>(pre x,fun r=>r=.pv (val x))
 | none=>(False,fun _=>False)
def shP {β:Type} (pre:β->Prop):Option β->Prop
 | some x=>pre x
 | none=>False
def shO {β γ:Type} (ok:β->γ->Prop):Option β->γ->Prop
 | some x,y=>ok x y
 | none,_=>False
theorem qS_1 {J:List PV->Prop} {β γ:Type} {sh:List AV->Option β} {pre:β->Prop} {val:γ->PV} {ok:β->γ->Prop} {κ:Nat} {rest:List AV} {H:AHeap}:(qS J sh pre val ok (.ptr κ 0::rest) H).1=(shP pre (sh rest)/\hget H κ=some (.obj J)):=by
 unfold qS
 simp only
 cases sh rest with
 | none=>simp [shP]
 | some x=>simp [shP,and_comm]
theorem all_qS {J:List PV->Prop} {β γ:Type} {sh:List AV->Option β} {pre:β->Prop} {val:γ->PV} {ok:β->γ->Prop} {κ:Nat} {rest:List AV} {H:AHeap} {N:Nat} {st:ASt} {d:Option Tmp} {K:ASt->Prop}:
 (∀ r,(qS J sh pre val ok (.ptr κ 0::rest) H).2 r->putD N st d r K)=∀ y,shO ok (sh rest) y->Stop N st d (.pv (val y)) K:=by
 unfold qS
 simp only
 cases sh rest with
 | none=>exact propext ⟨fun _ y h=>h.elim,fun _ r h=>h.elim⟩
 | some x=>exact propext ⟨fun h y hy=>h _ ⟨_,rfl,y,rfl,hy⟩,fun h r ⟨p,e,y,e2,hy⟩=>by subst e;subst e2;exact h y hy⟩
theorem qP_1 {β:Type} {sh:List AV->Option β} {pre:β->Prop} {val:β->PV} {args:List AV} {H:AHeap}:(qP sh pre val args H).1=shP pre (sh args):=by
 unfold qP
 cases sh args <;> rfl
theorem all_qP {β:Type} {sh:List AV->Option β} {pre:β->Prop} {val:β->PV} {args:List AV} {H:AHeap} {N:Nat} {st:ASt} {d:Option Tmp} {K:ASt->Prop}:
 (∀ r,(qP sh pre val args H).2 r->putD N st d r K)=(match sh args with | some x=>putD N st d (.pv (val x)) K | none=>True):=by
 unfold qP
 cases sh args with
 | none=>exact propext ⟨fun _=>trivial,fun _ r h=>h.elim⟩
 | some x=>exact propext ⟨fun h=>h _ rfl,fun h r e=>by subst e;exact h⟩
theorem QSound.of_top {G:Glob} {C:Ctx} {f:FuncId} {fn:Func} {c:Code} {J:List PV->Prop} {β γ:Type} {sh:List AV->Option β} {pre:β->Prop} {val:γ->PV} {ok:β->γ->Prop} (init:β->List AV) (κ0:Nat)
 (hf:G.P.funcs[f]?=some fn) (hb:fn.body=some c) (hn:(fn.name == "runtime.NumGoroutine")=false) (hN:C.N=fn.ntmps) (hF:Fit G C) (hpins:C.pins=[κ0])
 (hwk:∀ rest x,sh rest=some x->wkL rest (init x)) (hin:∀ x,pre x->∃ y,ok x y)
 (h:∀ x,pre x->(init x).length+1<=C.N/\∀ u:Nat->Nat->Value,(∀ i j,(u i j).oneCell'=true)->AWp C c (FinQ C fn.results.toList κ0 J (fun p=>∃ y,p=val y/\ok x y)) ⟨look ((0,.ptr κ0 0)::argV 1 (flL u 0 (init x))),[(κ0,.obj J)]⟩) (ho:C.outer=false:=by rfl):QSound G f (qS J sh pre val ok):=by
 have shape:∀ args H,(qS J sh pre val ok args H).1->∃ κ rest x,args=.ptr κ 0::rest/\sh rest=some x/\hget H κ=some (.obj J)/\pre x/\
  (qS J sh pre val ok args H).2=fun r=>∃ p,r=.pv p/\∃ y,p=val y/\ok x y:=by
  intro args H hq
  unfold qS at hq ⊢
  split at hq
  · split at hq
    · rename_i x hx
      simp only []
      exact ⟨_,_,x,rfl,hx,hq.1,hq.2,rfl⟩
    · exact hq.elim
  · exact hq.elim
 have ent:Enterable G.P f:=⟨fn,hf,hn,by rw [hb];rfl⟩
 refine ⟨fun _ _ _=>ent,fun args H hq=>?_,fun args H H' hs hq=>?_,?_⟩
 · obtain ⟨κ,rest,x,rfl,hx,h1,h4,h5⟩:=shape args H hq
   obtain ⟨y,hy⟩:=hin _ h4
   rw [h5];exact ⟨_,_,rfl,y,rfl,hy⟩
 · obtain ⟨κ,rest,x,rfl,hx,h1,h4,h5⟩:=shape args H hq
   simp only [qS,hx]
   exact ⟨⟨hs _ _ h1,h4⟩,trivial⟩
 · intro args st hq E N a w L xs hR hargs
   obtain ⟨κ,rest,x0',rfl,hx,h1,h4,h5⟩:=shape args st.H hq
   rw [h5]
   cases hargs with
   | cons _ x0 _ xs' hx0 hrest=>
   obtain ⟨B0,b,cap,g1,gv,g2,rfl⟩:=ptr_inv hx0
   obtain ⟨hlen,hw⟩:=h _ h4
   have hown:=hR.own κ _ b cap h1 g2
   have hmb:Mut E L st.H b:=.inr ⟨κ,_,cap,h1,g2⟩
   have hblt:=hR.mut_lt hmb
   let E':Base:=⟨w,fun x=>Mut E L st.H x/\x≠b,fun x=>x=b,fun k=>if k=κ0 then some (b,cap) else none,[]⟩
   let L0:Locs:=fun k=>if k=κ0 then some (b,cap) else none
   have hMut0:∀ x,Mut E' L0 [(κ0,.obj J)] x->Mut E L st.H x:=by
    rintro x (hx | ⟨key,B,c0,k1,k2⟩)
    · exact hx.1
    · have:key=κ0/\x=b:=by
        by_cases e:key=κ0
        · refine ⟨e,?_⟩
          simp only [L0,e,if_true,Option.some.injEq,Prod.mk.injEq] at k2
          exact k2.1.symm
        · simp only [L0,e,if_false] at k2;cases k2
      rw [this.2];exact hmb
   have hk0:Keeps w (Mut E L st.H) w (Mut E' L0 [(κ0,.obj J)]):=fun x _ hn=>⟨rfl,fun hm=>hn (hMut0 x hm)⟩
   obtain ⟨u,hu,hxl,hpv⟩:=LRel.wkU (L':=L0) (H':=[(κ0,.obj J)]) (S':=OpqS G E') hk0 hrest (hwk rest x0' hx)
   have one:∀ key B,hget [(κ0,ABlk.obj J)] key=some B->key=κ0/\B=.obj J:=by
    intro key B hk
    unfold hget at hk
    split at hk
    · rename_i e;simp only [Option.some.injEq] at hk;exact ⟨e.symm,hk.symm⟩
    · cases hk
   have hlen0:=flL_len u (init x0') 0
   have hR0:Rel G E' (OpqS G E') C.N ⟨look ((0,.ptr κ0 0)::argV 1 (flL u 0 (init x0'))),[(κ0,.obj J)]⟩ ((Value.pointer (some ⟨b,0,none⟩)::xs').toArray++Array.replicate (fn.ntmps-(Value.pointer (some ⟨b,0,none⟩)::xs').toArray.size) undef) w L0:=by
    refine ⟨?_,Ext.refl _ _,hR.inv,Nat.le_trans hR.glob hR.ext.size,fun x hx=>⟨hR.mut_lt hx.1,hx.2⟩,fun x hx=>?_,?_,?_,?_,fun s=>?_,?_⟩
    · have:=hlen
      simp [hxl];omega
    · have hx:x=b:=hx
      subst hx;exact hown.2.1
    · intro key B x c0 k1 k2
      obtain ⟨rfl,rfl⟩:=one key B k1
      simp only [L0,if_true,Option.some.injEq,Prod.mk.injEq] at k2
      obtain ⟨rfl,rfl⟩:=k2
      exact ⟨fun hx=>hx.2 rfl,hown.2.1,.inl rfl⟩
    · intro k1 k2 B1 B2 x c1 c2 m1 m2 _ _
      rw [(one k1 B1 m1).1,(one k2 B2 m2).1]
    · intro key B hk
      obtain ⟨rfl,rfl⟩:=one key B hk
      obtain ⟨cs,b2,cap2,arr,et,e1,e2,e3,e4,e5,e6⟩:=hR.blk κ _ h1
      rw [g2] at e3
      simp only [Option.some.injEq,Prod.mk.injEq] at e3
      obtain ⟨rfl,rfl⟩:=e3
      exact ⟨cs,b,cap,arr,et,e1,e2,by simp [L0],e4,e5,fun j c hc=>(e6 j c hc).keep hk0⟩
    · unfold look
      split
      · rename_i e;subst e
        have:((Value.pointer (some ⟨b,0,none⟩)::xs').toArray++Array.replicate (fn.ntmps-(Value.pointer (some ⟨b,0,none⟩)::xs').toArray.size) undef).getD 0 undef=.pointer (some ⟨b,0,none⟩):=by
         simp [Array.getD_eq_getD_getElem?,Array.getElem?_append]
        rw [this]
        exact .ptr κ0 0 (.obj J) b cap (by simp [hget]) rfl (by simp [L0])
      · refine look_argV (vs:=(Value.pointer (some ⟨b,0,none⟩)::xs').toArray) (flL u 0 (init x0')) 1 (fun j p hp=>?_) (by simp [hxl];omega) s
        have:=hpv j p hp
        have e:(Value.pointer (some ⟨b,0,none⟩)::xs').toArray.getD (1+j) undef=xs'.toArray.getD j undef:=by
         simp [Array.getD_eq_getD_getElem?,Nat.add_comm 1 j]
        rw [e];exact this
    · intro k b0 c0 hl
      have hl':(if k=κ0 then some (b,cap) else none)=some (b0,c0):=hl
      split at hl'
      · rename_i e;subst e
        exact ⟨hl,.obj J,by simp [hget]⟩
      · cases hl'
   refine calls_of_wp hf hb ?_
   have hwp:=wpIn_wide.1 <| hw u hu G E' none 0 (fun _=>rfl) hF (fun k hk=>by
    rw [hpins]
    have hk':((if k=κ0 then some (b,cap) else none:Option (Nat × Nat))).isSome=true:=hk
    split at hk'
    · rename_i e;rw [e];simp
    · cases hk') { tmps:=(Value.pointer (some ⟨b,0,none⟩)::xs').toArray++Array.replicate (fn.ntmps-(Value.pointer (some ⟨b,0,none⟩)::xs').toArray.size) undef,defers:=[] } w L0 hR0 rfl
   have fin:∀ (a':Act) (w':World),Beh G E' C.N (fun s=>tapeOk J (hget s.H κ0)/\refsH (hdel s.H κ0) (hdel s.H κ0)=true/\resC C ⟨filt (hdel s.H κ0) s.ρ,hdel s.H κ0⟩ fn.results.toList/\(fun p:PV=>∃ y,p=val y/\ok x0' y) (tupP (resV C ⟨filt (hdel s.H κ0) s.ρ,hdel s.H κ0⟩ fn.results.toList))) a' w'->
    a'.defers=[]/\∃ v,(results fn a'.tmps).run G.P w'=.ok v w'/\∃ v' r L',Ending.returned v=.returned v'/\(∃ p,r=.pv p/\(fun p:PV=>∃ y,p=val y/\ok x0' y) p)/\Rel G E (OpqS G E) N st a w' L'/\AVRel w' (Mut E L' st.H) L' st.H (OpqS G E) r v':=by
    rintro a' w' ⟨s,L',⟨q1,q2,q3,q4⟩,hR',hd⟩
    obtain ⟨f1,B1,f2⟩:=hR'.fix κ0 b cap (by simp [E'])
    have hmut:∀ x,Mut E L st.H x->Mut E' L' s.H x:=by
     intro x hx
     by_cases e:x=b
     · exact .inr ⟨κ0,B1,cap,f2,by rw [e];exact f1⟩
     · exact .inl ⟨hx,e⟩
    have hdelg:∀ key B,hget (hdel s.H κ0) key=some B->hget s.H key=some B/\key≠κ0:=by
     intro key B hk
     by_cases e:key=κ0
     · subst e;rw [hget_hdel_same] at hk;cases hk
     · rw [hget_hdel_ne _ (Ne.symm e)] at hk;exact ⟨hk,e⟩
    have hkr:Keeps w' (Mut E' L' s.H) w' (Mut E' L' s.H):=fun _ _ hn=>⟨rfl,hn⟩
    obtain ⟨v,hv,hr⟩:=results_run (C:=C) (st:=⟨filt (hdel s.H κ0) s.ρ,hdel s.H κ0⟩) (M:=Mut E' L' s.H) (S:=OpqS G E') (M':=Mut E L st.H) (w:=w') (L:=L') (a:=a'.tmps) hF.tabs.base.prog
     (fun key B hk=>(hR'.blk key B (hdelg key B hk).1).fit rfl hkr (fun key B hk=>(hdelg key B hk).1) (refsH_get q2 key B hk))
     (fun t=>by
       show AVRel _ _ _ _ _ (filt (hdel s.H κ0) s.ρ t) _
       unfold filt
       cases hf':(s.ρ t).refsIn (hdel s.H κ0) with
       | true=>exact (hR'.env t).fit hkr (fun key B hk=>(hdelg key B hk).1) hf'
       | false=>exact .top _)
     hmut
     (fun key B b' c' hk hl hm=>by
       obtain ⟨k1,k2⟩:=hdelg key B hk
       obtain ⟨o1,_,_⟩:=hR'.own key B b' c' k1 hl
       by_cases e:b'=b
       · subst e;exact k2 (hR'.inj key κ0 B B1 b' c' cap k1 f2 hl f1)
       · exact o1 ⟨hm,e⟩) q3
    refine ⟨hd,v,hv,v,.pv (tupP (resV C ⟨filt (hdel s.H κ0) s.ρ,hdel s.H κ0⟩ fn.results.toList)),L,rfl,⟨_,rfl,q4⟩,?_,.pv _ _ hr⟩
    have hext:Ext (fun x=>x=b) w w':=hR'.ext
    have hk:Keeps w (Mut E L st.H) w' (Mut E L st.H):=fun x hx hn=>⟨hext.block x hx (fun e=>hn (by have e:x=b:=e;rw [e];exact hmb)),hn⟩
    have hc:∀ key B,hget st.H key=some B->∃ B',hget st.H key=some B'/\B.le B'/\L key=L key/\(L key=none->B=B'):=fun key B hb=>⟨B,hb,ABlk.le_refl _,rfl,fun _=>rfl⟩
    refine ⟨hR.size,hR.ext.trans' hext (fun x hx=>?_),hR'.inv,hR.glob,hR.old,hR.m0,hR.own,hR.inj,fun key B hb=>?_,fun t=>(hR.env t).keep hk (fun _ _ h=>h) hc,hR.fix⟩
    · have hx:x=b:=hx
      rw [hx];exact hown.2.2
    · by_cases e:key=κ
      · subst e
        rw [h1] at hb
        simp only [Option.some.injEq] at hb
        subst hb
        rw [f2] at q1
        obtain ⟨cs,b2,cap2,arr,et,e1,e2,e3,e4,e5,e6⟩:=tapeOk_rel q1 (hR'.blk κ0 B1 f2)
        rw [f1] at e3
        simp only [Option.some.injEq,Prod.mk.injEq] at e3
        obtain ⟨rfl,rfl⟩:=e3
        exact ⟨cs,b,cap,arr,et,e1,e2,g2,e4,e5,fun j c hc'=>(e6 j c hc').keep (fun x _ hn=>⟨rfl,fun hm=>hn (hmut x hm)⟩)⟩
      · refine (hR.blk key B hb).keepAll hk hc (fun b' cap' hl=>hext.block b' (hR.mut_lt (.inr ⟨key,B,cap',hb,hl⟩)) (fun e'=>?_)) rfl
        have e':b'=b:=e'
        subst e'
        exact e (hR.inj key κ B _ b' cap' cap hb h1 hl g2)
   refine wp_mono hwp (fun e a' w' he=>?_)
   rw [ho] at he
   cases e with
   | normal=>exact fin a' w' (BehX.beh he)
   | ret=>exact fin a' w' (BehX.beh he)
   | exit i=>obtain ⟨_,_,h,_⟩:=BehX.beh he;exact h.elim
   | goto l=>exact he
   | panic c=>exact he.elim
   | outgrown=>exact he.elim
theorem QSound.of_topP {G:Glob} {C:Ctx} {T:Plan} {f:FuncId} {fn:Func} {c:Code} {β:Type} {sh:List AV->Option β} {pre:β->Prop} {val:β->PV} (init:β->List AV)
 (hf:G.P.funcs[f]?=some fn) (hb:fn.body=some c) (hn:(fn.name == "runtime.NumGoroutine")=false) (hN:C.N=fn.ntmps) (hF:Fit G C) (hwk:∀ args x,sh args=some x->wkL args (init x))
 (h:∀ x,pre x->(init x).length<=C.N/\∀ u:Nat->Nat->Value,(∀ i j,(u i j).oneCell'=true)->wpc C T c (Fin C fn.results.toList (val x)) ⟨look (argV 0 (flL u 0 (init x))),[]⟩) (ho:C.outer=false:=by rfl):QSound G f (qP sh pre val):=by
 have shape:∀ args H,(qP sh pre val args H).1->∃ x,sh args=some x/\pre x/\(qP sh pre val args H).2=fun r=>r=.pv (val x):=by
  intro args H hq
  unfold qP at hq ⊢
  split at hq
  · rename_i x hx
    simp only [hx]
    exact ⟨x,rfl,hq,rfl⟩
  · exact hq.elim
 refine ⟨fun _ _ _=>⟨fn,hf,hn,by rw [hb];rfl⟩,fun args H hq=>?_,fun args H H' hs hq=>⟨hq,rfl⟩,?_⟩
 · obtain ⟨x,hx,h4,h5⟩:=shape args H hq
   rw [h5];exact ⟨_,rfl⟩
 · intro args st hq E N a w L xs hR hargs
   obtain ⟨x0,hx,h4,h5⟩:=shape args st.H hq
   rw [h5]
   obtain ⟨hlen,hw⟩:=h x0 h4
   let E':Base:=⟨w,Mut E L st.H,NoB,fun _=>none,[]⟩
   have hk0:Keeps w (Mut E L st.H) w (Mut E' (fun _=>none) []):=fun b _ hn=>⟨rfl,fun hm=>by
    rcases hm with hm | ⟨key,B,cap,hk,_⟩
    · exact hn hm
    · cases hk⟩
   obtain ⟨u,hu,hxl,hpv⟩:=LRel.wkU (L':=fun _=>none) (H':=[]) (S':=OpqS G E') hk0 hargs (hwk args x0 hx)
   have hlen0:=flL_len u (init x0) 0
   have hR0:Rel G E' (OpqS G E') C.N ⟨look (argV 0 (flL u 0 (init x0))),[]⟩ (xs.toArray++Array.replicate (fn.ntmps-xs.toArray.size) undef) w (fun _=>none):=by
    refine ⟨?_,Ext.refl _ _,hR.inv,Nat.le_trans hR.glob hR.ext.size,fun b hb=>⟨hR.mut_lt hb,id⟩,fun b hb=>hb.elim,(fun key B b cap hk=>by cases hk),(fun k1 k2 B1 B2 b c1 c2 hk=>by cases hk),(fun key B hk=>by cases hk),fun s=>?_,(fun κ b c hl=>by cases hl)⟩
    · simp [hxl];omega
    · refine look_argV (vs:=xs.toArray) (flL u 0 (init x0)) 0 (fun j p hp=>?_) (by simp [hxl]) s
      rw [Nat.zero_add]
      exact hpv j p hp
   refine calls_of_wp hf hb ?_
   have hwp:=wpIn_wide.1 <| wpc_sound c _ _ (hw u hu) G E' none 0 (fun _=>rfl) hF (fun κ hk=>by cases hk) { tmps:=xs.toArray++Array.replicate (fn.ntmps-xs.toArray.size) undef,defers:=[] } w (fun _=>none) hR0 rfl
   have fin:∀ (a':Act) (w':World),Beh G E' C.N (fun st=>resC C st fn.results.toList/\tupP (resV C st fn.results.toList)=val x0) a' w'->
    a'.defers=[]/\∃ v,(results fn a'.tmps).run G.P w'=.ok v w'/\∃ v' r L',Ending.returned v=.returned v'/\r=.pv (val x0)/\Rel G E (OpqS G E) N st a w' L'/\AVRel w' (Mut E L' st.H) L' st.H (OpqS G E) r v':=by
    rintro a' w' ⟨s,L',⟨h1,h2⟩,hR',hd⟩
    obtain ⟨v,hv,hr⟩:=results_run (M':=Mut E L st.H) hF.tabs.base.prog hR'.blk hR'.env (fun b hb=>.inl hb) (fun key B b cap hk hl=>(hR'.own key B b cap hk hl).1) h1
    rw [h2] at hr
    exact ⟨hd,v,hv,v,_,L,rfl,rfl,hR.grow hR'.ext,.pv _ _ hr⟩
   refine wp_mono hwp (fun e a w' he=>?_)
   rw [ho] at he
   cases e with
   | normal=>exact fin a w' (BehX.beh he)
   | ret=>exact fin a w' (BehX.beh he)
   | exit i=>obtain ⟨_,_,h,_⟩:=BehX.beh he;exact h.elim
   | goto l=>exact he
   | panic c=>exact he.elim
   | outgrown=>exact he.elim
def qR {β:Type} (sh:List AV->List AV->Option β) (pre:β->Prop) (val:β->PV):QSpec:=fun args H=>
 match args with
 | .ptr κ 0::rest=>match hget H κ with
   | some (.cells cs)=>match sh cs rest with
     | some x=>(pre x,fun r=>r=.pv (val x))
     | none=>(False,fun _=>False)
   | _=>(False,fun _=>False)
 | _=>(False,fun _=>False)
def FinR (C:Ctx) (rs:List ResultVar) (κ:Nat) (cs:List AV) (p:PV):AX->ASt->Prop
 | .normal,st=>hget st.H κ=some (.cells cs)/\refsH (hdel st.H κ) (hdel st.H κ)=true/\resC C ⟨filt (hdel st.H κ) st.ρ,hdel st.H κ⟩ rs/\tupP (resV C ⟨filt (hdel st.H κ) st.ρ,hdel st.H κ⟩ rs)=p
 | .ret,st=>hget st.H κ=some (.cells cs)/\refsH (hdel st.H κ) (hdel st.H κ)=true/\resC C ⟨filt (hdel st.H κ) st.ρ,hdel st.H κ⟩ rs/\tupP (resV C ⟨filt (hdel st.H κ) st.ρ,hdel st.H κ⟩ rs)=p
 | .exit _,_=>False
theorem all_qR {β:Type} {sh:List AV->List AV->Option β} {pre:β->Prop} {val:β->PV} {κ:Nat} {rest:List AV} {H:AHeap} {N:Nat} {st:ASt} {d:Option Tmp} {K:ASt->Prop}:
 (∀ r,(qR sh pre val (.ptr κ 0::rest) H).2 r->putD N st d r K)=(match hget H κ with | some (.cells cs)=>(match sh cs rest with | some x=>putD N st d (.pv (val x)) K | none=>True) | _=>True):=by
 unfold qR
 simp only
 cases hget H κ with
 | none=>exact propext ⟨fun _=>trivial,fun _ r h=>h.elim⟩
 | some B=>
   cases B with
   | cells cs=>
     simp only
     cases sh cs rest with
     | none=>exact propext ⟨fun _=>trivial,fun _ r h=>h.elim⟩
     | some x=>exact propext ⟨fun h=>h _ rfl,fun h r e=>by subst e;exact h⟩
   | _=>exact propext ⟨fun _=>trivial,fun _ r h=>h.elim⟩
def pre1 {β:Type} (sh:List AV->List AV->Option β) (pre:β->Prop) (rest:List AV):Option ABlk->Prop
 | some (.cells cs)=>shP pre (sh cs rest)
 | _=>False
theorem qR_11 {β:Type} {sh:List AV->List AV->Option β} {pre:β->Prop} {val:β->PV} {κ:Nat} {rest:List AV} {H:AHeap}:(qR sh pre val (.ptr κ 0::rest) H).1=pre1 sh pre rest (hget H κ):=by
 unfold qR pre1
 simp only
 split
 · rename_i cs _
   cases sh cs rest <;> rfl
 · rfl
theorem QSound.of_rdr {G:Glob} {C:Ctx} {f:FuncId} {fn:Func} {c:Code} {β:Type} {sh:List AV->List AV->Option β} {pre:β->Prop} {val:β->PV} (initC:β->List AV) (initA:β->List AV) (κ0:Nat)
 (hf:G.P.funcs[f]?=some fn) (hb:fn.body=some c) (hn:(fn.name == "runtime.NumGoroutine")=false) (hN:C.N=fn.ntmps) (hF:Fit G C) (hpins:C.pins=[κ0])
 (hwk:∀ cs rest x,sh cs rest=some x->wkL1 cs (initC x)/\wkL rest (initA x))
 (h:∀ x,pre x->(initA x).length+1<=C.N/\∀ (u0:Nat->Value) (u:Nat->Nat->Value),(∀ j,(u0 j).oneCell'=true)->(∀ i j,(u i j).oneCell'=true)->AWp C c (FinR C fn.results.toList κ0 (flA u0 0 (initC x)) (val x)) ⟨look ((0,.ptr κ0 0)::argV 1 (flL u 0 (initA x))),[(κ0,.cells (flA u0 0 (initC x)))]⟩) (ho:C.outer=false:=by rfl):QSound G f (qR sh pre val):=by
 have shape:∀ args H,(qR sh pre val args H).1->∃ κ rest cs x,args=.ptr κ 0::rest/\hget H κ=some (.cells cs)/\sh cs rest=some x/\pre x/\
  (qR sh pre val args H).2=fun r=>r=.pv (val x):=by
  intro args H hq
  unfold qR at hq ⊢
  split at hq
  · rename_i κ rest
    split at hq
    · rename_i cs hκ
      split at hq
      · rename_i x hx
        simp only []
        exact ⟨κ,rest,cs,x,rfl,hκ,hx,hq,rfl⟩
      · exact hq.elim
    · exact hq.elim
  · exact hq.elim
 have ent:Enterable G.P f:=⟨fn,hf,hn,by rw [hb];rfl⟩
 refine ⟨fun _ _ _=>ent,fun args H hq=>?_,fun args H H' hs hq=>?_,?_⟩
 · obtain ⟨κ,rest,cs,x,rfl,h1,hx,h4,h5⟩:=shape args H hq
   rw [h5];exact ⟨_,rfl⟩
 · obtain ⟨κ,rest,cs,x,rfl,h1,hx,h4,h5⟩:=shape args H hq
   rw [h5]
   simp only [qR,hs _ _ h1,hx]
   exact ⟨h4,trivial⟩
 · intro args st hq E N a w L xs hR hargs
   obtain ⟨κ,rest,cs,x0',rfl,h1,hx,h4,h5⟩:=shape args st.H hq
   rw [h5]
   obtain ⟨hwc,hwa⟩:=hwk cs rest x0' hx
   cases hargs with
   | cons _ x0 _ xs' hx0 hrest=>
   obtain ⟨B0,b,cap,g1,gv,g2,rfl⟩:=ptr_inv hx0
   obtain ⟨hlen,hw⟩:=h _ h4
   have hown:=hR.own κ _ b cap h1 g2
   have hmb:Mut E L st.H b:=.inr ⟨κ,_,cap,h1,g2⟩
   have hblt:=hR.mut_lt hmb
   obtain ⟨b1,cap1,arr,et,c1,c2,c3,c4⟩:=hR.blk κ _ h1
   rw [g2] at c1
   simp only [Option.some.injEq,Prod.mk.injEq] at c1
   obtain ⟨rfl,rfl⟩:=c1
   let E':Base:=⟨w,fun x=>Mut E L st.H x/\x≠b,fun x=>x=b,fun k=>if k=κ0 then some (b,cap) else none,[]⟩
   let L0:Locs:=fun k=>if k=κ0 then some (b,cap) else none
   let u0:Nat->Value:=fun j=>pickV (arr.getD j undef)
   let CS:List AV:=flA u0 0 (initC x0')
   have hCS:CS.length=cs.length:=by rw [wkL1_len hwc];exact flA_len _ _ _
   have hMut0:∀ x,Mut E' L0 [(κ0,.cells CS)] x->Mut E L st.H x:=by
    rintro x (hx | ⟨key,B,c0,k1,k2⟩)
    · exact hx.1
    · have:key=κ0/\x=b:=by
        by_cases e:key=κ0
        · refine ⟨e,?_⟩
          simp only [L0,e,if_true,Option.some.injEq,Prod.mk.injEq] at k2
          exact k2.1.symm
        · simp only [L0,e,if_false] at k2;cases k2
      rw [this.2];exact hmb
   have hk0:Keeps w (Mut E L st.H) w (Mut E' L0 [(κ0,.cells CS)]):=fun x _ hn=>⟨rfl,fun hm=>hn (hMut0 x hm)⟩
   obtain ⟨u,hu,hxl,hpv⟩:=LRel.wkU (L':=L0) (H':=[(κ0,.cells CS)]) (S':=OpqS G E') hk0 hrest hwa
   have one:∀ key B,hget [(κ0,ABlk.cells CS)] key=some B->key=κ0/\B=.cells CS:=by
    intro key B hk
    unfold hget at hk
    split at hk
    · rename_i e;simp only [Option.some.injEq] at hk;exact ⟨e.symm,hk.symm⟩
    · cases hk
   have hlen0:=flL_len u (initA x0') 0
   have hR0:Rel G E' (OpqS G E') C.N ⟨look ((0,.ptr κ0 0)::argV 1 (flL u 0 (initA x0'))),[(κ0,.cells CS)]⟩ ((Value.pointer (some ⟨b,0,none⟩)::xs').toArray++Array.replicate (fn.ntmps-(Value.pointer (some ⟨b,0,none⟩)::xs').toArray.size) undef) w L0:=by
    refine ⟨?_,Ext.refl _ _,hR.inv,Nat.le_trans hR.glob hR.ext.size,fun x hx=>⟨hR.mut_lt hx.1,hx.2⟩,fun x hx=>?_,?_,?_,?_,fun s=>?_,?_⟩
    · have:=hlen
      simp [hxl];omega
    · have hx:x=b:=hx
      subst hx;exact hown.2.1
    · intro key B x c0 k1 k2
      obtain ⟨rfl,rfl⟩:=one key B k1
      simp only [L0,if_true,Option.some.injEq,Prod.mk.injEq] at k2
      obtain ⟨rfl,rfl⟩:=k2
      exact ⟨fun hx=>hx.2 rfl,hown.2.1,.inl rfl⟩
    · intro k1 k2 B1 B2 x c1 c2 m1 m2 _ _
      rw [(one k1 B1 m1).1,(one k2 B2 m2).1]
    · intro key B hk
      obtain ⟨rfl,rfl⟩:=one key B hk
      refine ⟨b,cap,arr,et,by simp [L0],c2,by rw [c3,hCS],fun j c hc=>?_⟩
      obtain ⟨d,hd,rfl⟩:=flA_at _ _ _ _ _ hc
      obtain ⟨c0,hc0,hw1⟩:=wkL1_at hwc j d hd
      rw [Nat.zero_add]
      exact wk1_rel hk0 hw1 (c4 j c0 hc0)
    · unfold look
      split
      · rename_i e;subst e
        have:((Value.pointer (some ⟨b,0,none⟩)::xs').toArray++Array.replicate (fn.ntmps-(Value.pointer (some ⟨b,0,none⟩)::xs').toArray.size) undef).getD 0 undef=.pointer (some ⟨b,0,none⟩):=by
         simp [Array.getD_eq_getD_getElem?,Array.getElem?_append]
        rw [this]
        exact .ptr κ0 0 (.cells CS) b cap (by simp [hget]) rfl (by simp [L0])
      · refine look_argV (vs:=(Value.pointer (some ⟨b,0,none⟩)::xs').toArray) (flL u 0 (initA x0')) 1 (fun j p hp=>?_) (by simp [hxl];omega) s
        have:=hpv j p hp
        have e:(Value.pointer (some ⟨b,0,none⟩)::xs').toArray.getD (1+j) undef=xs'.toArray.getD j undef:=by
         simp [Array.getD_eq_getD_getElem?,Nat.add_comm 1 j]
        rw [e];exact this
    · intro k b0 c0 hl
      have hl':(if k=κ0 then some (b,cap) else none)=some (b0,c0):=hl
      split at hl'
      · rename_i e;subst e
        exact ⟨hl,.cells CS,by simp [hget]⟩
      · cases hl'
   refine calls_of_wp hf hb ?_
   have hwp:=wpIn_wide.1 <| hw u0 u (fun j=>pickV_one _) hu G E' none 0 (fun _=>rfl) hF (fun k hk=>by
    rw [hpins]
    have hk':((if k=κ0 then some (b,cap) else none:Option (Nat × Nat))).isSome=true:=hk
    split at hk'
    · rename_i e;rw [e];simp
    · cases hk') { tmps:=(Value.pointer (some ⟨b,0,none⟩)::xs').toArray++Array.replicate (fn.ntmps-(Value.pointer (some ⟨b,0,none⟩)::xs').toArray.size) undef,defers:=[] } w L0 hR0 rfl
   have fin:∀ (a':Act) (w':World),Beh G E' C.N (fun s=>hget s.H κ0=some (.cells CS)/\refsH (hdel s.H κ0) (hdel s.H κ0)=true/\resC C ⟨filt (hdel s.H κ0) s.ρ,hdel s.H κ0⟩ fn.results.toList/\tupP (resV C ⟨filt (hdel s.H κ0) s.ρ,hdel s.H κ0⟩ fn.results.toList)=val x0') a' w'->
    a'.defers=[]/\∃ v,(results fn a'.tmps).run G.P w'=.ok v w'/\∃ v' r L',Ending.returned v=.returned v'/\r=.pv (val x0')/\Rel G E (OpqS G E) N st a w' L'/\AVRel w' (Mut E L' st.H) L' st.H (OpqS G E) r v':=by
    rintro a' w' ⟨s,L',⟨q1,q2,q3,q4⟩,hR',hd⟩
    obtain ⟨f1,B1,f2⟩:=hR'.fix κ0 b cap (by simp [E'])
    have hmut:∀ x,Mut E L st.H x->Mut E' L' s.H x:=by
     intro x hx
     by_cases e:x=b
     · exact .inr ⟨κ0,B1,cap,f2,by rw [e];exact f1⟩
     · exact .inl ⟨hx,e⟩
    have hdelg:∀ key B,hget (hdel s.H κ0) key=some B->hget s.H key=some B/\key≠κ0:=by
     intro key B hk
     by_cases e:key=κ0
     · subst e;rw [hget_hdel_same] at hk;cases hk
     · rw [hget_hdel_ne _ (Ne.symm e)] at hk;exact ⟨hk,e⟩
    have hkr:Keeps w' (Mut E' L' s.H) w' (Mut E' L' s.H):=fun _ _ hn=>⟨rfl,hn⟩
    obtain ⟨v,hv,hr⟩:=results_run (C:=C) (st:=⟨filt (hdel s.H κ0) s.ρ,hdel s.H κ0⟩) (M:=Mut E' L' s.H) (S:=OpqS G E') (M':=Mut E L st.H) (w:=w') (L:=L') (a:=a'.tmps) hF.tabs.base.prog
     (fun key B hk=>(hR'.blk key B (hdelg key B hk).1).fit rfl hkr (fun key B hk=>(hdelg key B hk).1) (refsH_get q2 key B hk))
     (fun t=>by
       show AVRel _ _ _ _ _ (filt (hdel s.H κ0) s.ρ t) _
       unfold filt
       cases hf':(s.ρ t).refsIn (hdel s.H κ0) with
       | true=>exact (hR'.env t).fit hkr (fun key B hk=>(hdelg key B hk).1) hf'
       | false=>exact .top _)
     hmut
     (fun key B b' c' hk hl hm=>by
       obtain ⟨k1,k2⟩:=hdelg key B hk
       obtain ⟨o1,_,_⟩:=hR'.own key B b' c' k1 hl
       by_cases e:b'=b
       · subst e;exact k2 (hR'.inj key κ0 B B1 b' c' cap k1 f2 hl f1)
       · exact o1 ⟨hm,e⟩) q3
    rw [q4] at hr
    refine ⟨hd,v,hv,v,_,L,rfl,rfl,?_,.pv _ _ hr⟩
    have hext:Ext (fun x=>x=b) w w':=hR'.ext
    have hk:Keeps w (Mut E L st.H) w' (Mut E L st.H):=fun x hx hn=>⟨hext.block x hx (fun e=>hn (by have e:x=b:=e;rw [e];exact hmb)),hn⟩
    have hc:∀ key B,hget st.H key=some B->∃ B',hget st.H key=some B'/\B.le B'/\L key=L key/\(L key=none->B=B'):=fun key B hb=>⟨B,hb,ABlk.le_refl _,rfl,fun _=>rfl⟩
    refine ⟨hR.size,hR.ext.trans' hext (fun x hx=>?_),hR'.inv,hR.glob,hR.old,hR.m0,hR.own,hR.inj,fun key B hb=>?_,fun t=>(hR.env t).keep hk (fun _ _ h=>h) hc,hR.fix⟩
    · have hx:x=b:=hx
      rw [hx];exact hown.2.2
    · by_cases e:key=κ
      · subst e
        rw [h1] at hb
        simp only [Option.some.injEq] at hb
        subst hb
        obtain ⟨b2,cap2,arr2,et2,e1,e2,e3,e4⟩:=hR'.blk κ0 _ q1
        rw [f1] at e1
        simp only [Option.some.injEq,Prod.mk.injEq] at e1
        obtain ⟨rfl,rfl⟩:=e1
        refine ⟨b,cap,arr2,et2,g2,e2,by rw [e3,hCS],fun j c hc'=>?_⟩
        obtain ⟨d,hd0⟩:∃ d,(initC x0')[j]?=some d:=by
         have hj:j<cs.length:=by
          rcases Nat.lt_or_ge j cs.length with h | h
          · exact h
          · rw [List.getElem?_eq_none h] at hc';cases hc'
         rw [wkL1_len hwc] at hj
         exact ⟨_,List.getElem?_eq_getElem hj⟩
        obtain ⟨c0,hc0,hw1⟩:=wkL1_at hwc j d hd0
        rw [hc'] at hc0
        simp only [Option.some.injEq] at hc0
        subst hc0
        have hcs2:CS[j]?=some (fl1 (u0 j) d):=by
         have hj:j<CS.length:=by
          rw [hCS]
          rcases Nat.lt_or_ge j cs.length with h | h
          · exact h
          · rw [List.getElem?_eq_none h] at hc';cases hc'
         obtain ⟨d2,k1,k2⟩:=flA_at u0 (initC x0') 0 j _ (List.getElem?_eq_getElem hj)
         rw [hd0] at k1
         simp only [Option.some.injEq] at k1
         subst k1
         rw [List.getElem?_eq_getElem hj,k2,Nat.zero_add]
        have hrel:=e4 j _ hcs2
        have hold:=c4 j c hc'
        unfold wk1 at hw1
        split at hw1
        · have ho1:=oneA_of_rel hw1 hold
          have hp:u0 j=arr.getD j undef:=by show pickV _=_;unfold pickV;rw [if_pos ho1]
          have hv2:arr2.getD j undef=arr.getD j undef:=by
           have:AVRel w' (Mut E' L' s.H) L' s.H (OpqS G E') (.fix (u0 j)) (arr2.getD j undef):=hrel
           generalize arr2.getD j undef=vv at this ⊢
           rw [<- hp]
           generalize u0 j=uu at this ⊢
           cases this;rfl
          rw [hv2]
          exact hold.keep hk (fun _ _ h=>h) hc
        · subst hw1
          exact .pv _ _ ((pv_inv (show AVRel w' (Mut E' L' s.H) L' s.H (OpqS G E') (.pv _) _ from hrel)).keep (fun x _ hn=>⟨rfl,fun hm=>hn (hmut x hm)⟩))
        · exact hw1.elim
      · refine (hR.blk key B hb).keepAll hk hc (fun b' cap' hl=>hext.block b' (hR.mut_lt (.inr ⟨key,B,cap',hb,hl⟩)) (fun e'=>?_)) rfl
        have e':b'=b:=e'
        subst e'
        exact e (hR.inj key κ B _ b' cap' cap hb h1 hl g2)
   refine wp_mono hwp (fun e a' w' he=>?_)
   rw [ho] at he
   cases e with
   | normal=>exact fin a' w' (BehX.beh he)
   | ret=>exact fin a' w' (BehX.beh he)
   | exit i=>obtain ⟨_,_,h,_⟩:=BehX.beh he;exact h.elim
   | goto l=>exact he
   | panic c=>exact he.elim
   | outgrown=>exact he.elim
end Go.AM
