/-
  A part of a proof.
-/
import Derived.Test.YtkajgkbhkkgdbaaGreatDoorAV
set_option linter.unusedSimpArgs false
set_option linter.unusedVariables false
namespace Go.AM
open Go
mutual
def AV.refsIn (H:AHeap):AV->Bool
 | .ptr key _=>(hget H key).isSome
 | .rs key _=>(hget H key).isSome
 | .rv key _ _ _=>(hget H key).isSome
 | .rp key _ _=>(hget H key).isSome
 | .mp key=>(hget H key).isSome
 | .it key=>(hget H key).isSome
 | .bufh key _=>(hget H key).isSome
 | .agg cs=>AV.refsInL H cs
 | .clo _ caps=>AV.refsInL H caps
 | .whn _ v=>AV.refsIn H v
 | .pv _ | .nils | .opq _ | .fix _ | .top=>true
def AV.refsInL (H:AHeap):List AV->Bool
 | []=>true
 | c::r=>AV.refsIn H c&&AV.refsInL H r
end
def ABlk.refsIn (H:AHeap):ABlk->Bool
 | .cells cs=>AV.refsInL H cs
 | .typed _ cs=>AV.refsInL H cs
 | _=>true
def fitR:List (Nat × AV)->(Nat->AV)->Prop
 | [],_=>True
 | (s,v)::r,ρ=>ρ s=v/\fitR r ρ
def fitH:AHeap->AHeap->Prop
 | [],_=>True
 | (k,B)::r,H=>hget H k=some B/\fitH r H
def refsR (H:AHeap):List (Nat × AV)->Bool
 | []=>true
 | (_,v)::r=>v.refsIn H&&refsR H r
def refsH (H:AHeap):AHeap->Bool
 | []=>true
 | (_,B)::r=>B.refsIn H&&refsH H r
structure Fits (pins:List Nat) (l:List (Nat × AV)) (H1:AHeap) (st:ASt):Prop where
 slots:fitR l st.ρ
 blocks:fitH H1 st.H
 refsR:refsR H1 l=true
 refsH:refsH H1 H1=true
 pins:(pins.all fun κ=>(hget H1 κ).isSome)=true
theorem refsInL_mem {H:AHeap}:∀ {l:List AV},AV.refsInL H l=true->∀ (i:Nat) (c:AV),l[i]?=some c->AV.refsIn H c=true
 | [],_,i,c,hc=>by simp at hc
 | v::r,h,i,c,hc=>by
   simp only [AV.refsInL,Bool.and_eq_true] at h
   cases i with
   | zero=>simp at hc;subst hc;exact h.1
   | succ i=>exact refsInL_mem h.2 i c (by simpa using hc)
theorem fitR_look:∀ {l:List (Nat × AV)} {ρ:Nat->AV},fitR l ρ->∀ s,look l s=.top\/look l s=ρ s
 | [],ρ,_,s=>.inl rfl
 | (i,v)::r,ρ,h,s=>by
   unfold look
   split
   · rename_i e;subst e;exact .inr h.1.symm
   · exact fitR_look h.2 s
theorem fitH_get:∀ {H1 H:AHeap},fitH H1 H->∀ key B,hget H1 key=some B->hget H key=some B
 | [],H,_,key,B,hk=>by cases hk
 | (i,B')::r,H,h,key,B,hk=>by
   unfold hget at hk
   split at hk
   · rename_i e;subst e;simp only [Option.some.injEq] at hk;subst hk;exact h.1
   · exact fitH_get h.2 key B hk
theorem refsR_look {H:AHeap}:∀ {l:List (Nat × AV)},refsR H l=true->∀ s,(look l s).refsIn H=true
 | [],_,s=>rfl
 | (i,v)::r,h,s=>by
   simp only [refsR,Bool.and_eq_true] at h
   unfold look
   split
   · exact h.1
   · exact refsR_look h.2 s
theorem refsH_get {H:AHeap}:∀ {H1:AHeap},refsH H H1=true->∀ key B,hget H1 key=some B->B.refsIn H=true
 | [],_,key,B,hk=>by cases hk
 | (i,B')::r,h,key,B,hk=>by
   simp only [refsH,Bool.and_eq_true] at h
   unfold hget at hk
   split at hk
   · simp only [Option.some.injEq] at hk;subst hk;exact h.1
   · exact refsH_get h.2 key B hk
section
variable {w w':World} {M M':Nat->Prop} {L:Locs} {H H':AHeap} {S:(List PV->Prop × PV)->Value->Prop}
theorem AVRel.fit (hk:Keeps w M w' M') (hc:∀ key B,hget H' key=some B->hget H key=some B) {v:AV} {x:Value} (h:AVRel w M L H S v x):v.refsIn H'=true->AVRel w' M' L H' S v x:=by
 have get:∀ {key B},hget H key=some B->(hget H' key).isSome=true->hget H' key=some B:=by
  intro key B h1 h2
  obtain ⟨B',hB'⟩:=Option.isSome_iff_exists.1 h2
  have:=hc key B' hB'
  rw [h1] at this
  rw [hB',this]
 induction h with
 | pv p v h=>exact fun _=>.pv p v (h.keep hk)
 | nils=>exact fun _=>.nils
 | ptr key off B b cap h1 hv h2=>exact fun hr=>.ptr key off B b cap (get h1 hr) hv h2
 | rsN key k h1 h2=>exact fun hr=>.rsN key k (get h1 hr) h2
 | rs key hi k es b cap h1 h2 h3=>exact fun hr=>.rs key hi k es b cap (get h1 hr) h2 h3
 | rv key lo hi sz k es b cap cap' a h1 h2 h3 h4 h5 h6 h7=>exact fun hr=>.rv key lo hi sz k es b cap cap' a (get h1 hr) h2 h3 h4 h5 h6 h7
 | rp key i off k es b cap h1 h2 h3=>exact fun hr=>.rp key i off k es b cap (get h1 hr) h2 h3
 | mp key es b cap h1 h2=>exact fun hr=>.mp key es b cap (get h1 hr) h2
 | bufN key e h1 h2=>exact fun hr=>.bufN key e (get h1 hr) h2
 | buf key e bs b cap h1 h2=>exact fun hr=>.buf key e bs b cap (get h1 hr) h2
 | it key s pos b cap h1 h2=>exact fun hr=>.it key s pos b cap (get h1 hr) h2
 | agg cs vs hz _ ih=>exact fun hr=>.agg _ _ hz (fun i c hc'=>ih i c hc' (refsInL_mem hr i c hc'))
 | clo f caps vs hz _ ih=>exact fun hr=>.clo _ _ _ hz (fun i c hc'=>ih i c hc' (refsInL_mem hr i c hc'))
 | whnT v x _ ih=>exact fun hr=>.whnT _ _ (ih hr)
 | whnF v=>exact fun _=>.whnF _
 | opq φ x h=>exact fun _=>.opq φ x h
 | fix x h1=>exact fun _=>.fix x h1
 | top x=>exact fun _=>.top x
theorem BRel.fit (hh:w'.heap=w.heap) (hk:Keeps w M w' M') (hc:∀ key B,hget H' key=some B->hget H key=some B) {key:Nat} {B:ABlk} (h:BRel w M L H S key B) (hr:B.refsIn H'=true):BRel w' M' L H' S key B:=by
 cases B with
 | cells cs=>
   obtain ⟨b,cap,arr,et,e1,e2,e3,e4⟩:=h
   exact ⟨b,cap,arr,et,e1,by rw [hh];exact e2,e3,fun j c hc'=>(e4 j c hc').fit hk hc (refsInL_mem hr j c hc')⟩
 | typed ty cs=>
   obtain ⟨b,cap,arr,e1,e2,e3,e4⟩:=h
   exact ⟨b,cap,arr,e1,by rw [hh];exact e2,e3,fun j c hc'=>(e4 j c hc').fit hk hc (refsInL_mem hr j c hc')⟩
 | row k es=>
   obtain ⟨e1,e2,e3⟩:=h
   refine ⟨e1,e2,?_⟩
   cases hl:L key with
   | none=>rw [hl] at e3;exact e3
   | some bc=>
     obtain ⟨b,cap⟩:=bc
     rw [hl] at e3
     obtain ⟨arr,et,f1,f2,f3,f4,f5⟩:=e3
     exact ⟨arr,et,by rw [hh];exact f1,f2,f3,f4,fun i e j c he hc'=>⟨(f5 i e j c he hc').1,(f5 i e j c he hc').2.keep hk⟩⟩
 | obj J=>
   obtain ⟨cs,b,cap,arr,et,e1,e2,e3,e4,e5,e6⟩:=h
   exact ⟨cs,b,cap,arr,et,e1,e2,e3,by rw [hh];exact e4,e5,fun j c hc'=>(e6 j c hc').keep hk⟩
 | iter s pos=>
   obtain ⟨b,cap,e1,e2⟩:=h
   exact ⟨b,cap,e1,by rw [hh];exact e2⟩
 | buf e bs=>
   simp only [BRel,hh] at h ⊢
   exact h
 | map es=>
   obtain ⟨b,cap,ents,clock,e1,e2,e3,e4⟩:=h
   exact ⟨b,cap,ents,clock,e1,by rw [hh];exact e2,e3,fun i p hp=>by
    obtain ⟨e,g1,g2,g3,g4,g5⟩:=e4 i p hp
    exact ⟨e,g1,g2,g3,g4.keep hk,g5.keep hk⟩⟩
end
section
variable {G:Glob} {E:Base} {S:(List PV->Prop × PV)->Value->Prop} {N:Nat} {st:ASt} {a:Array Value} {w:World} {L:Locs}
theorem Rel.fit (h:Rel G E S N st a w L) {pins:List Nat} (hp:∀ κ,(E.L0 κ).isSome=true->κ∈pins) {l:List (Nat × AV)} {H1:AHeap} (hf:Fits pins l H1 st):Rel G E S N ⟨look l,H1⟩ a w L:=by
 have hc:=fitH_get hf.blocks
 have hk:Keeps w (Mut E L st.H) w (Mut E L H1):=fun b _ hn=>⟨rfl,fun hm=>hn (hm.imp id (fun ⟨key,B,cap,h1,h2⟩=>⟨key,B,cap,hc key B h1,h2⟩))⟩
 refine ⟨h.size,h.ext,h.inv,h.glob,h.old,h.m0,fun key B b cap h1 h2=>h.own key B b cap (hc _ _ h1) h2,
  fun k1 k2 B1 B2 b c1 c2 h1 h2 h3 h4=>h.inj k1 k2 B1 B2 b c1 c2 (hc _ _ h1) (hc _ _ h2) h3 h4,
  fun key B h1=>(h.blk key B (hc _ _ h1)).fit rfl hk hc (refsH_get hf.refsH key B h1),fun s=>?_,fun κ b c hl=>?_⟩
 case refine_2=>
  obtain ⟨h1,B,h2⟩:=h.fix κ b c hl
  obtain ⟨B',hB'⟩:=Option.isSome_iff_exists.1 (List.all_eq_true.1 hf.pins κ (hp κ (by rw [hl];rfl)))
  have h4:=hc κ B' hB'
  rw [h2] at h4
  exact ⟨h1,B',hB'⟩
 rcases fitR_look hf.slots s with e | e
 · show AVRel _ _ _ _ _ (look l s) _
   rw [e];exact .top _
 · have:=(h.env s).fit hk hc (by rw [<- e];exact refsR_look hf.refsR s)
   show AVRel _ _ _ _ _ (look l s) _
   rw [e];exact this
theorem Rel.keepSlots (h:Rel G E S N st a w L) (l:List Nat):Rel G E S N { st with ρ:=look (l.map fun s=>(s,st.ρ s)) } a w L:=by
 have hl:∀ (l:List Nat) s,look (l.map fun s=>(s,st.ρ s)) s=.top\/look (l.map fun s=>(s,st.ρ s)) s=st.ρ s:=by
  intro l s
  induction l with
  | nil=>exact .inl rfl
  | cons t r ih=>
    simp only [List.map_cons]
    unfold look
    split
    · rename_i e;subst e;exact .inr rfl
    · exact ih
 refine ⟨h.size,h.ext,h.inv,h.glob,h.old,h.m0,h.own,h.inj,h.blk,fun s=>?_,h.fix⟩
 show AVRel _ _ _ _ _ (look _ s) _
 rcases hl l s with e | e
 · rw [e];exact .top _
 · rw [e];exact h.env s
end
inductive AX where
 | normal
 | exit (i:Nat)
 | ret
def AX.thn (next:ASt->Prop) (Q:AX->ASt->Prop):AX->ASt->Prop
 | .normal,st=>next st
 | .exit i,st=>Q (.exit i) st
 | .ret,st=>Q .ret st
def AX.blk (id:Nat) (Q:AX->ASt->Prop):AX->ASt->Prop
 | .exit i,st=>if i=id then Q .normal st else Q (.exit i) st
 | .normal,st=>Q .normal st
 | .ret,st=>Q .ret st
structure Reb (E E':Base):Prop where
 X:∀ b,E.X b->E'.X b
 X':∀ b,E'.X b->E.X b\/E.M0 b\/E.w0.heap.size<=b
 L0:E'.L0=E.L0
 ext:Ext E.M0 E.w0 E'.w0
 m0:∀ b,E'.M0 b->E.M0 b\/E.w0.heap.size<=b
 ds:∃ ds',E'.ds=ds'++E.ds/\ds'.Nodup/\∀ d∈ds',∃ D,d={ target:=.collected D,args:=#[] }/\E'.w0.heap[D]?=some (.deferred (some []))/\E'.X D/\¬ E'.M0 D/\E.w0.heap.size<=D
theorem Reb.trans {A B C:Base} (h:Reb A B) (k:Reb B C):Reb A C:=by
 obtain ⟨d1,e1,n1,p1⟩:=h.ds
 obtain ⟨d2,e2,n2,p2⟩:=k.ds
 have lt1:∀ D,B.w0.heap[D]?=some (.deferred (some []))->D<B.w0.heap.size:=fun D hD=>(Array.getElem?_eq_some_iff.1 hD).1
 have up:∀ b,B.M0 b\/B.w0.heap.size<=b->A.M0 b\/A.w0.heap.size<=b:=fun b hb=>hb.elim (h.m0 b) (fun hb=>.inr (Nat.le_trans h.ext.size hb))
 refine ⟨fun b hb=>k.X b (h.X b hb),fun b hb=>(k.X' b hb).elim (h.X' b) (fun hb=>.inr (up b hb)),k.L0.trans h.L0,h.ext.trans' k.ext h.m0,fun b hb=>up b (k.m0 b hb),d2++d1,by rw [e2,e1,List.append_assoc],?_,?_⟩
 · refine List.nodup_append.2 ⟨n2,n1,fun x h2 y h1 e=>?_⟩
   subst e
   obtain ⟨D,rfl,hD,_⟩:=p1 _ h1
   obtain ⟨D',hd',_,_,_,hD'⟩:=p2 _ h2
   cases hd'
   have:=lt1 D hD
   omega
 · intro d hd
   rcases List.mem_append.1 hd with hd | hd
   · obtain ⟨D,rfl,g1,g2,g3,g4⟩:=p2 d hd
     exact ⟨D,rfl,g1,g2,g3,Nat.le_trans h.ext.size g4⟩
   · obtain ⟨D,rfl,g1,g2,g3,g4⟩:=p1 d hd
     have hlt:=lt1 D g1
     exact ⟨D,rfl,(k.ext.block D hlt g3).trans g1,k.X D g2,fun hm=>(k.m0 D hm).elim g3 (fun hge=>by omega),g4⟩
def Rebs (o:Bool) (E E':Base):Prop:=E'=E\/(o=true/\Reb E E')
theorem Rebs.refl {o:Bool} {E:Base}:Rebs o E E:=.inl rfl
theorem Rebs.trans {o:Bool} {A B C:Base} (h:Rebs o A B) (k:Rebs o B C):Rebs o A C:=by
 rcases h with rfl | ⟨ho,h⟩
 · exact k
 · rcases k with rfl | ⟨_,k⟩
   · exact .inr ⟨ho,h⟩
   · exact .inr ⟨ho,h.trans k⟩
theorem Rebs.L0 {o:Bool} {E E':Base} (h:Rebs o E E'):E'.L0=E.L0:=by
 rcases h with rfl | ⟨_,h⟩
 · rfl
 · exact h.L0
def BehX (o:Bool) (G:Glob) (E:Base) (N:Nat) (K:ASt->Prop) (a:Act) (w:World):Prop:=∃ E',Rebs o E E'/\Beh G E' N K a w
theorem BehX.beh {G:Glob} {E:Base} {N:Nat} {K:ASt->Prop} {a:Act} {w:World} (h:BehX false G E N K a w):Beh G E N K a w:=by
 obtain ⟨E',h1 | ⟨h1,_⟩,h2⟩:=h
 · subst h1;exact h2
 · cases h1
theorem BehX.up {o:Bool} {G:Glob} {E E':Base} {N:Nat} {K:ASt->Prop} {a:Act} {w:World} (hr:Rebs o E E') (h:BehX o G E' N K a w):BehX o G E N K a w:=by
 obtain ⟨E2,h1,h2⟩:=h
 exact ⟨E2,hr.trans h1,h2⟩
def LiftQ (o:Bool) (G:Glob) (E:Base) (N:Nat) (Q:AX->ASt->Prop):Exit->Act->World->Prop
 | .normal,a,w=>BehX o G E N (Q .normal) a w
 | .exit i,a,w=>BehX o G E N (Q (.exit i)) a w
 | .ret,a,w=>BehX o G E N (Q .ret) a w
 | _,_,_=>False
structure Fit (G:Glob) (C:Ctx):Prop where
 tabs:TabsAll G C
 mono:EMono C
 mixed:G.P.follows .mixedOrders=true
def AWp (C:Ctx) (c:Code) (Q:AX->ASt->Prop) (st:ASt):Prop:=
 ∀ (G:Glob) (E:Base) (r:Option Nat) (n:Nat),(C.outer=true->r=none)->Fit G C->(∀ κ,(E.L0 κ).isSome=true->κ∈C.pins)->∀ a w L,Rel G E (OpqS G E) C.N st a.tmps w L->a.defers=E.ds->c.wpIn (FF r) n G.P (LiftQ C.outer G E C.N Q) a w
theorem LiftQ.up {o:Bool} {G:Glob} {E E':Base} {N:Nat} {Q:AX->ASt->Prop} (hr:Rebs o E E') {e:Exit} {a:Act} {w:World} (h:LiftQ o G E' N Q e a w):LiftQ o G E N Q e a w:=by
 cases e <;> first | exact BehX.up hr h | exact h
structure Plan where
 keep:Nat->Option (List Nat)
 cut:Nat->Bool
 stop:Nat->Bool
def keepA (T:Plan) (id:Nat) (st:ASt):ASt:=
 match T.keep id with
 | none=>st
 | some l=>{ st with ρ:=look (l.map fun s=>(s,st.ρ s)) }
def isCut (T:Plan):Code->Bool
 | .cond (.tmp c) _ _=>T.cut c
 | .region id _ _=>T.stop id
 | _=>false
def wpc (C:Ctx) (T:Plan):Code->(AX->ASt->Prop)->ASt->Prop
 | .skip,Q,st=>Q .normal st
 | .region id ops dr,Q,st=>(dr=true->checkD C .any ops=true)/\stepsG C dr st.H ops ops.toList st (fun st'=>Q .normal (keepA T id st'))
 | .seq a b,Q,st=>if isCut T a then AWp C (.seq a b) Q st else wpc C T a (AX.thn (fun st'=>wpc C T b Q st') Q) st
 | .cond c a b,Q,st=>match opndV st.ρ c with
   | .pv (.bool t)=>(t=true->wpc C T a Q st)/\(t=false->wpc C T b Q st)
   | _=>False
 | .block id c,Q,st=>wpc C T c (AX.blk id Q) st
 | .exit id,Q,st=>Q (.exit id) st
 | .ret,Q,st=>Q .ret st
 | .scope c,Q,st=>wpc C T c Q st
 | .label _,Q,st=>Q .normal st
 | .loop c,Q,st=>AWp C (.loop c) Q st
 | .rangeFunc f ps c b,Q,st=>AWp C (.rangeFunc f ps c b) Q st
 | _,_,_=>False
section
variable {C:Ctx} {T:Plan}
theorem Beh.mono {G:Glob} {E:Base} {N:Nat} {K K':ASt->Prop} (hk:∀ s,K s->K' s) {a:Act} {w:World} (h:Beh G E N K a w):Beh G E N K' a w:=by
 obtain ⟨st,L,h1,h2⟩:=h
 exact ⟨st,L,hk _ h1,h2⟩
theorem BehX.of {o:Bool} {G:Glob} {E:Base} {N:Nat} {K:ASt->Prop} {a:Act} {w:World} (h:Beh G E N K a w):BehX o G E N K a w:=⟨E,.refl,h⟩
def QR (G:Glob) (E:Base) (N:Nat) (K:ASt->Prop):Exit->Act->World->Prop
 | .normal,a,w=>Beh G E N K a w
 | _,_,_=>False
theorem region_in {G:Glob} {E:Base} {K:ASt->Prop} {a:Act} {w:World} {id:Nat} {ops:Array Oper} {H0:AHeap} (r:Option Nat) (n:Nat) (hP0:∀ κ,(E.L0 κ).isSome=true->κ∈C.pins) (hC:TabsAll G C)
 (h:Beh G E C.N (fun st=>stepsG C false H0 ops ops.toList st K) a w):(Code.region id ops false).wpIn (FF r) n G.P (QR G E C.N K) a w:=by
 refine wpIn_region (wpOps_in (k:=E.ds.length) r n ?_ ?_ ?_ _ a w ?_ ?_)
 · rintro a w ⟨st,L,_,_,hd⟩;rw [hd];exact Nat.le_refl _
 · exact fun ch a w h=>h
 · rintro ⟨a,w,h⟩;exact h
 · obtain ⟨st,L,_,_,hd⟩:=h;rw [hd];exact Nat.le_refl _
 · have:=stepsG_wp hP0 hC rfl (Q:=QR G E C.N K) (fun a w h=>h) ops.toList 0 (fun j=>by simp) a w h
   rw [<- List.range_eq_range'] at this
   simpa using this
theorem region_any_in {G:Glob} {E:Base} {K:ASt->Prop} {a:Act} {w:World} {id:Nat} {ops:Array Oper} {H0:AHeap} (r:Option Nat) (n:Nat) (hP0:∀ κ,(E.L0 κ).isSome=true->κ∈C.pins) (hC:TabsAll G C) (hE:EMono C) (hm:G.P.follows .mixedOrders=true)
 (hchk:checkD C .any ops=true) (h:Beh G E C.N (fun st=>stepsG C true H0 ops ops.toList st K) a w):(Code.region id ops true).wpIn (FF r) n G.P (QR G E C.N K) a w:=by
 refine wpIn_region_draw fun t=>?_
 refine wpOps_in (k:=E.ds.length) r n ?_ ?_ ?_ _ a _ ?_ ?_
 · rintro a w ⟨st,L,_,_,hd⟩;rw [hd];exact Nat.le_refl _
 · exact fun ch a w h=>h
 · rintro ⟨a,w,h⟩;exact h
 · obtain ⟨st,L,_,_,hd⟩:=h;rw [hd];exact Nat.le_refl _
 · simp only [Region.schedule,hm,Bool.true_or,if_true]
   refine wpAny_sound ops.size t _ a _ ?_
   obtain ⟨st,L,hs,hR,hd⟩:=h
   have hx:=aAny_lex (K:=K) hC hE hchk ops.toList 0 (Array.replicate ops.size false) st (by simp) (by simp) (fun j hj=>by simp [hj]) (by simp) hs
   rw [Array.length_toList] at hx
   refine aAny_wp hP0 hC rfl (Q:=QR G E C.N K) (fun a w h=>h) ops.size _ a _ ⟨st,L,hx,?_,hd⟩
   exact hR.grow ⟨rfl,rfl,rfl,Nat.le_refl _,fun _ _ _=>rfl,fun _ _ _=>rfl⟩
theorem wpc_sound:∀ (c:Code) (Q:AX->ASt->Prop) (st:ASt),wpc C T c Q st->AWp C c Q st:=by
 intro c
 induction c with
 | skip=>intro Q st h G E r n hr hF hP0 a w L hR hd;exact wpIn_skip (.of ⟨st,L,h,hR,hd⟩)
 | region id ops dr=>
   intro Q st h G E r n hr hF hP0 a w L hR hd
   obtain ⟨h1,h2⟩:=h
   have hQ:∀ e a w,QR G E C.N (fun st'=>Q .normal (keepA T id st')) e a w->LiftQ C.outer G E C.N Q e a w:=by
    intro e a w he
    cases e with
    | normal=>
      obtain ⟨s,L,h1,h2,h3⟩:=he
      refine .of ⟨_,L,h1,?_,h3⟩
      unfold keepA
      split
      · exact h2
      · exact h2.keepSlots _
    | _=>exact he.elim
   cases dr with
   | false=>exact wpIn_mono (region_in r n hP0 hF.tabs ⟨st,L,h2,hR,hd⟩) hQ
   | true=>exact wpIn_mono (region_any_in r n hP0 hF.tabs hF.mono hF.mixed (h1 rfl) ⟨st,L,h2,hR,hd⟩) hQ
 | seq x y ihx ihy=>
   intro Q st h
   unfold wpc at h
   split at h
   · exact h
   · intro G E r n hr hF hP0 a w L hR hd
     refine wpIn_seq (wpIn_mono (ihx _ st h G E r n hr hF hP0 a w L hR hd) (fun e a w he=>?_))
     cases e with
     | normal=>
       obtain ⟨E',hE,s,L,h1,h2,h3⟩:=he
       exact wpIn_mono (ihy Q s h1 G E' r n hr hF (by rw [hE.L0];exact hP0) a w L h2 h3) (fun e a w he=>he.up hE)
     | exit i=>exact he
     | ret=>exact he
     | goto l=>exact he
     | panic c=>exact he
     | outgrown=>exact he
 | cond c x y ihx ihy=>
   intro Q st h G E r n hr hF hP0 a w L hR hd
   unfold wpc at h
   split at h
   · rename_i t hc
     have hb:=opnd_rel hR.env c
     rw [hc] at hb
     exact wpIn_cond_split (bool_inv hb) (fun ht=>ihx Q st (h.1 ht) G E r n hr hF hP0 a w L hR hd) (fun ht=>ihy Q st (h.2 ht) G E r n hr hF hP0 a w L hR hd)
   · exact h.elim
 | block id c ih=>
   intro Q st h G E r n hr hF hP0 a w L hR hd
   refine wpIn_block (wpIn_mono (ih _ st h G E r n hr hF hP0 a w L hR hd) (fun e a w he=>?_))
   cases e with
   | exit i=>
     obtain ⟨E',hE,s,L,h1,h2⟩:=he
     change if i=id then Q .normal s else Q (.exit i) s at h1
     show if i=id then LiftQ C.outer G E C.N Q .normal a w else LiftQ C.outer G E C.N Q (.exit i) a w
     by_cases e:i=id
     · rw [if_pos e] at h1
       rw [if_pos e]
       exact ⟨E',hE,s,L,h1,h2⟩
     · rw [if_neg e] at h1
       rw [if_neg e]
       exact ⟨E',hE,s,L,h1,h2⟩
   | normal=>exact he
   | ret=>exact he
   | goto l=>exact he
   | panic c=>exact he
   | outgrown=>exact he
 | loop c ih=>intro Q st h;exact h
 | rangeFunc f ps x y _ _=>intro Q st h;exact h
 | exit id=>intro Q st h G E r n hr hF hP0 a w L hR hd;exact wpIn_exit (.of ⟨st,L,h,hR,hd⟩)
 | scope c ih=>
   intro Q st h G E r n hr hF hP0 a w L hR hd
   refine wpIn_scope_straight (wpIn_mono (ih Q st h G E r n hr hF hP0 a w L hR hd) (fun e a w he=>?_))
   cases e <;> exact he
 | label l=>intro Q st h G E r n hr hF hP0 a w L hR hd;exact wpIn_label (.of ⟨st,L,h,hR,hd⟩)
 | goto l=>intro Q st h;exact h.elim
 | ret=>intro Q st h G E r n hr hF hP0 a w L hR hd;exact wpIn_ret (.of ⟨st,L,h,hR,hd⟩)
 | refuse s=>intro Q st h;exact h.elim
theorem AWp.loop {c:Code} {Q:AX->ASt->Prop} {st:ASt} {α:Type} (I:α->List (Nat × AV) × AHeap) (P:α->Prop) (μ:α->Nat) (h0:∃ x,P x/\Fits C.pins (I x).1 (I x).2 st)
 (h:∀ x,P x->wpc C T c (AX.thn (fun st'=>∃ y,P y/\μ y<μ x/\Fits C.pins (I y).1 (I y).2 st') Q) ⟨look (I x).1,(I x).2⟩):AWp C (.loop c) Q st:=by
 intro G E r n hr hF hP0
 have key:∀ m x,μ x<m->P x->∀ E',Rebs C.outer E E'->∀ a w L,Rel G E' (OpqS G E') C.N ⟨look (I x).1,(I x).2⟩ a.tmps w L->a.defers=E'.ds->Code.roundsIn (FF r) n G.P c (LiftQ C.outer G E C.N Q) m a w:=by
  intro m
  induction m with
  | zero=>intro x hx;omega
  | succ m ih=>
    intro x hx hP E' hE a w L hR hd
    have hP0':∀ κ,(E'.L0 κ).isSome=true->κ∈C.pins:=by rw [hE.L0];exact hP0
    unfold Code.roundsIn
    refine wpIn_mono (wpc_sound c _ _ (h x hP) G E' r n hr hF hP0' a w L hR hd) (fun e a w he=>?_)
    have he:=he.up hE
    cases e with
    | normal=>
      obtain ⟨E2,hE2,s,L,⟨y,hy,hlt,hf⟩,h2,h3⟩:=he
      exact ih y (by omega) hy E2 hE2 a w L (h2.fit (by rw [hE2.L0];exact hP0) hf) h3
    | exit i=>exact he
    | ret=>exact he
    | goto l=>exact he
    | panic c=>exact he
    | outgrown=>exact he
 intro a w L hR hd
 obtain ⟨x,hP,hf⟩:=h0
 exact wpIn_loop_rounds (μ x+1) (key (μ x+1) x (Nat.lt_succ_self _) hP E .refl a w L (hR.fit hP0 hf) hd)
theorem AWp.here {c:Code} {Q:AX->ASt->Prop} {st:ASt} {α:Type} (I:α->List (Nat × AV) × AHeap) (P:α->Prop)
 (h0:∃ z,P z/\Fits C.pins (I z).1 (I z).2 st) (h:∀ z,P z->wpc C T c Q ⟨look (I z).1,(I z).2⟩):AWp C c Q st:=by
 intro G E r n hr hF hP0 a w L hR hd
 obtain ⟨z,hz,hf⟩:=h0
 exact wpc_sound c Q _ (h z hz) G E r n hr hF hP0 a w L (hR.fit hP0 hf) hd
end
end Go.AM
