/-
  A part of a proof.
-/
import Derived.Test.YtkajgkbhkkgdbaaGreatDoorAX
import Derived.Below
set_option linter.unusedSimpArgs false
set_option linter.unusedVariables false
namespace Go.AM
open Go
mutual
/-- No function of which only a contract is known. -/
def AV.nq:AV->Bool
 | .opq _=>false
 | .agg cs=>AV.nqL cs
 | .clo _ cs=>AV.nqL cs
 | .whn _ v=>AV.nq v
 | .pv _=>true
 | .nils=>true
 | .ptr _ _=>true
 | .rs _ _=>true
 | .rv _ _ _ _=>true
 | .rp _ _ _=>true
 | .mp _=>true
 | .it _=>true
 | .bufh _ _=>true
 | .fix _=>true
 | .top=>true
def AV.nqL:List AV->Bool
 | []=>true
 | c::r=>AV.nq c&&AV.nqL r
end
def ABlk.nq:ABlk->Bool
 | .cells cs=>AV.nqL cs
 | .typed _ cs=>AV.nqL cs
 | _=>true
def nqH:AHeap->Bool
 | []=>true
 | (_,B)::r=>B.nq&&nqH r
theorem nqL_mem:∀ {l:List AV},AV.nqL l=true->∀ (i:Nat) (c:AV),l[i]?=some c->c.nq=true
 | [],_,i,c,hc=>by simp at hc
 | v::r,h,i,c,hc=>by
   simp only [AV.nqL,Bool.and_eq_true] at h
   cases i with
   | zero=>simp at hc;subst hc;exact h.1
   | succ i=>exact nqL_mem h.2 i c (by simpa using hc)
theorem nqH_get:∀ {H:AHeap},nqH H=true->∀ key B,hget H key=some B->B.nq=true
 | [],_,key,B,hk=>by cases hk
 | (i,B')::r,h,key,B,hk=>by
   simp only [nqH,Bool.and_eq_true] at h
   unfold hget at hk
   split at hk
   · simp only [Option.some.injEq] at hk;subst hk;exact h.1
   · exact nqH_get h.2 key B hk
section
variable {w:World} {M:Nat->Prop} {L:Locs} {H:AHeap} {S S':(List PV->Prop × PV)->Value->Prop}
theorem AVRel.nq {v:AV} {x:Value} (h:AVRel w M L H S v x):v.nq=true->AVRel w M L H S' v x:=by
 induction h with
 | pv p v h=>exact fun _=>.pv p v h
 | nils=>exact fun _=>.nils
 | ptr key off B b cap h1 hv h2=>exact fun _=>.ptr key off B b cap h1 hv h2
 | rsN key k h1 h2=>exact fun _=>.rsN key k h1 h2
 | rs key hi k es b cap h1 h2 h3=>exact fun _=>.rs key hi k es b cap h1 h2 h3
 | rv key lo hi sz k es b cap cap' a h1 h2 h3 h4 h5 h6 h7=>exact fun _=>.rv key lo hi sz k es b cap cap' a h1 h2 h3 h4 h5 h6 h7
 | rp key i off k es b cap h1 h2 h3=>exact fun _=>.rp key i off k es b cap h1 h2 h3
 | mp key es b cap h1 h2=>exact fun _=>.mp key es b cap h1 h2
 | bufN key e h1 h2=>exact fun _=>.bufN key e h1 h2
 | buf key e bs b cap h1 h2=>exact fun _=>.buf key e bs b cap h1 h2
 | it key s pos b cap h1 h2=>exact fun _=>.it key s pos b cap h1 h2
 | agg cs vs hz _ ih=>exact fun hr=>.agg _ _ hz (fun i c hc'=>ih i c hc' (nqL_mem hr i c hc'))
 | clo f caps vs hz _ ih=>exact fun hr=>.clo _ _ _ hz (fun i c hc'=>ih i c hc' (nqL_mem hr i c hc'))
 | whnT v x _ ih=>exact fun hr=>.whnT _ _ (ih hr)
 | whnF v=>exact fun _=>.whnF _
 | opq φ x h=>exact fun hr=>nomatch hr
 | fix x h1=>exact fun _=>.fix x h1
 | top x=>exact fun _=>.top x
theorem BRel.nq {key:Nat} {B:ABlk} (h:BRel w M L H S key B) (hr:B.nq=true):BRel w M L H S' key B:=by
 cases B with
 | cells cs=>
   obtain ⟨b,cap,arr,et,e1,e2,e3,e4⟩:=h
   exact ⟨b,cap,arr,et,e1,e2,e3,fun j c hc'=>(e4 j c hc').nq (nqL_mem hr j c hc')⟩
 | typed ty cs=>
   obtain ⟨b,cap,arr,e1,e2,e3,e4⟩:=h
   exact ⟨b,cap,arr,e1,e2,e3,fun j c hc'=>(e4 j c hc').nq (nqL_mem hr j c hc')⟩
 | row k es=>exact h
 | obj J=>exact h
 | iter s pos=>exact h
 | buf e bs=>exact h
 | map es=>exact h
end
section
variable {G:Glob} {E:Base} {S S':(List PV->Prop × PV)->Value->Prop} {N:Nat} {st:ASt} {a:Array Value} {w w':World} {L:Locs}
theorem Rel.nq (h:Rel G E S N st a w L) (h1:∀ s,(st.ρ s).nq=true) (h2:nqH st.H=true):Rel G E S' N st a w L:=
 ⟨h.size,h.ext,h.inv,h.glob,h.old,h.m0,h.own,h.inj,fun key B hk=>(h.blk key B hk).nq (nqH_get h2 key B hk),fun s=>(h.env s).nq (h1 s),h.fix⟩
theorem Rel.step (h:Rel G E S N st a w L) {Z X':Nat->Prop} {L0':Locs} (ds:List Deferred) (hw:Ext Z w w') (hZ:∀ b,Z b->E.X b/\G.nG<=b) (hX:∀ b,E.X b->X' b) (hX2:∀ b,X' b->E.X b\/(w.heap.size<=b/\b<w'.heap.size))
 (h0:∀ κ b c,L0' κ=some (b,c)->E.L0 κ=some (b,c)):Rel G ⟨w',X',Own L st.H,L0',ds⟩ S N st a w' L/\Keeps w (Mut E L st.H) w' (Mut ⟨w',X',Own L st.H,L0',ds⟩ L st.H):=by
 have hno:∀ b,Own L st.H b->¬ X' b:=by
  rintro b ⟨key,B,cap,h1,h2⟩ hx
  rcases hX2 b hx with hx | ⟨hx,_⟩
  · exact (h.own key B b cap h1 h2).1 hx
  · have:=h.mut_lt (.inr ⟨key,B,cap,h1,h2⟩);omega
 have hk:Keeps w (Mut E L st.H) w' (Mut ⟨w',X',Own L st.H,L0',ds⟩ L st.H):=fun b hb hn=>⟨hw.block b hb (fun hz=>hn (.inl (hZ b hz).1)),fun hm=>by
  rcases hm with hm | hm
  · rcases hX2 b hm with hx | ⟨hx,_⟩
    · exact hn (.inl hx)
    · omega
  · exact hn (.inr hm)⟩
 have hc:∀ key B,hget st.H key=some B->∃ B',hget st.H key=some B'/\B.le B'/\L key=L key/\(L key=none->B=B'):=fun key B hb=>⟨B,hb,ABlk.le_refl _,rfl,fun _=>rfl⟩
 have hsz:=h.ext.size
 refine ⟨⟨h.size,Ext.refl _ _,G.stable w w' h.inv (fun b hb=>hw.block b (by have:=h.glob;omega) (fun hz=>by have:=(hZ b hz).2;omega)) hw.size,by have:=h.glob;have:=hw.size;show G.nG<=w'.heap.size;omega,fun b hb=>⟨?_,fun ho=>hno b ho hb⟩,?_,fun key B b cap h1 h2=>⟨fun hx=>hno b ⟨key,B,cap,h1,h2⟩ hx,(h.own key B b cap h1 h2).2.1,.inl ⟨key,B,cap,h1,h2⟩⟩,h.inj,
  fun key B hb=>(h.blk key B hb).keepAll hk hc (fun b cap hl=>hw.block b (h.mut_lt (.inr ⟨key,B,cap,hb,hl⟩)) (fun hz=>(h.own key B b cap hb hl).1 (hZ b hz).1)) rfl,fun s=>(h.env s).keep hk (fun _ _ h=>h) hc,fun κ b c hl=>h.fix κ b c (h0 κ b c hl)⟩,hk⟩
 · rcases hX2 b hb with hx | ⟨_,hx⟩
   · have:=(h.old b hx).1;have:=hw.size;show b<w'.heap.size;omega
   · exact hx
 · rintro b ⟨key,B,cap,h1,h2⟩;exact (h.own key B b cap h1 h2).2.1
theorem Rel.drop (h:Rel G E S N st a w L) {l:List (Nat × AV)} {H1:AHeap} {L0':Locs} (ds:List Deferred) (hf:fitR l st.ρ) (hb:fitH H1 st.H) (rr:refsR H1 l=true) (rh:refsH H1 H1=true)
 (h0:∀ κ b c,L0' κ=some (b,c)->L κ=some (b,c)/\(hget H1 κ).isSome=true):
 Rel G ⟨w,fun b=>E.X b\/∃ key B cap,hget st.H key=some B/\L key=some (b,cap)/\hget H1 key=none,Own L H1,L0',ds⟩ S N ⟨look l,H1⟩ a w L:=by
 have hc:=fitH_get hb
 have ho:∀ b,Own L H1 b->Own L st.H b:=fun b ⟨key,B,cap,h1,h2⟩=>⟨key,B,cap,hc _ _ h1,h2⟩
 have hk:Keeps w (Mut E L st.H) w (Mut ⟨w,fun b=>E.X b\/∃ key B cap,hget st.H key=some B/\L key=some (b,cap)/\hget H1 key=none,Own L H1,L0',ds⟩ L H1):=fun b _ hn=>⟨rfl,fun hm=>by
  rcases hm with (hm | ⟨key,B,cap,h1,h2,_⟩) | hm
  · exact hn (.inl hm)
  · exact hn (.inr ⟨key,B,cap,h1,h2⟩)
  · exact hn (.inr (ho b hm))⟩
 have hno:∀ b,Own L H1 b->¬ (E.X b\/∃ key B cap,hget st.H key=some B/\L key=some (b,cap)/\hget H1 key=none):=by
  rintro b ⟨key,B,cap,h1,h2⟩ (hx | ⟨key',B',cap',g1,g2,g3⟩)
  · exact (h.own key B b cap (hc _ _ h1) h2).1 hx
  · have:=h.inj key key' B B' b cap cap' (hc _ _ h1) g1 h2 g2
    subst this
    rw [h1] at g3;cases g3
 refine ⟨h.size,Ext.refl _ _,h.inv,by have:=h.glob;have:=h.ext.size;show G.nG<=w.heap.size;omega,fun b hb'=>⟨?_,fun ho=>hno b ho hb'⟩,?_,fun key B b cap h1 h2=>⟨hno b ⟨key,B,cap,h1,h2⟩,(h.own key B b cap (hc _ _ h1) h2).2.1,.inl ⟨key,B,cap,h1,h2⟩⟩,
  fun k1 k2 B1 B2 b c1 c2 h1 h2 h3 h4=>h.inj k1 k2 B1 B2 b c1 c2 (hc _ _ h1) (hc _ _ h2) h3 h4,fun key B h1=>(h.blk key B (hc _ _ h1)).fit rfl hk hc (refsH_get rh key B h1),fun s=>?_,fun κ b c hl=>?_⟩
 · rcases hb' with hx | ⟨key,B,cap,h1,h2,_⟩
   · exact Nat.lt_of_lt_of_le (h.old b hx).1 h.ext.size
   · exact h.mut_lt (.inr ⟨key,B,cap,h1,h2⟩)
 · rintro b ⟨key,B,cap,h1,h2⟩;exact (h.own key B b cap (hc _ _ h1) h2).2.1
 · rcases fitR_look hf s with e | e
   · show AVRel _ _ _ _ _ (look l s) _
     rw [e];exact .top _
   · show AVRel _ _ _ _ _ (look l s) _
     have:=(h.env s).fit hk hc (by rw [<- e];exact refsR_look rr s)
     rw [e];exact this
 · obtain ⟨h1,h2⟩:=h0 κ b c hl
   exact ⟨h1,Option.isSome_iff_exists.1 h2⟩
end
structure RB (E:Base) (X1:Nat->Prop) (L1:Locs) (E':Base):Prop where
 X:E'.X=X1
 L0:E'.L0=L1
 ds:E'.ds=[]
 ext:Ext E.M0 E.w0 E'.w0
 m0:∀ b,E'.M0 b->E.M0 b\/E.w0.heap.size<=b
theorem Rel.keeps {G:Glob} {w:World} {X1:Nat->Prop} {L1:Locs} {ds:List Deferred} {S':(List PV->Prop × PV)->Value->Prop} {N:Nat} {st':ASt} {a':Array Value} {w':World} {L L':Locs} {H:AHeap}
 (h:Rel G ⟨w,X1,Own L H,L1,ds⟩ S' N st' a' w' L'):Keeps w (Mut ⟨w,X1,Own L H,L1,ds⟩ L H) w' (Mut ⟨w,X1,Own L H,L1,ds⟩ L' st'.H):=fun b hb hn=>by
 refine ⟨h.ext.block b hb (fun hm=>hn (.inr hm)),fun hm=>?_⟩
 rcases hm with hm | ⟨key,B,cap,h1,h2⟩
 · exact hn (.inl hm)
 · rcases (h.own key B b cap h1 h2).2.2 with ho | ho
   · exact hn (.inr ho)
   · have:w.heap.size<=b:=ho
     omega
end Go.AM
namespace Go.AM
open Go Go.RowKit
def keyOf (S:List (Nat × Nat)):Operand->Option Nat
 | .tmp t=>S.lookup t
 | _=>none
section
variable {G:Glob} {C:Ctx} {ops:Array Oper} {md:Region.Mode} {S:List (Nat × Nat)}
end
section
variable {G:Glob} {C:Ctx} {ops:Array Oper} {md:Region.Mode} {S:List (Nat × Nat)}
def isAppN (o:Oper):Bool:=
 match o.op,o.guard with
 | .call { callee:=.builtin .append,args, .. },none=>match args.toList with
   | [.const (.slice none 0 0),_]=>true
   | _=>false
 | _,_=>false
def appR (C:Ctx) (ρ:Nat->AV) (H:AHeap) (o:Oper) (k:Nat) (es:List PV):Prop:=
 ∃ args ts s x t tx e by' z,o.op=.call { callee:=.builtin .append,args:=args,argTypes:=ts }/\args.toList=[s,x]/\ts.toList=[t,tx]/\C.P.underlying t=some (.slice e)/\szOf C.P e=some k/\bytesT C.P e=some by'/\zeroT C.P e=some z/\
  oc ρ s/\oc ρ x/\srcA H (ox ρ x)=some es/\0<k/\z.cells.size=k/\isSliceOrStr (C.P.underlying tx)=true/\allW k es/\es.length * by'<=140737488355328/\es.length<=maxLen
theorem appR_fun {ρ:Nat->AV} {H:AHeap} {o:Oper} {k k':Nat} {es es':List PV} (h:appR C ρ H o k es) (h':appR C ρ H o k' es'):k=k'/\es=es':=by
 obtain ⟨args,ts,s,x,t,tx,e,by',z,a1,a2,a3,a4,a5,a6,a7,a8,a9,a10,_⟩:=h
 obtain ⟨args',ts',s',x',t',tx',e',by'',z',b1,b2,b3,b4,b5,b6,b7,b8,b9,b10,_⟩:=h'
 rw [a1] at b1
 simp only [Op.call.injEq,Call.mk.injEq,true_and] at b1
 obtain ⟨rfl,rfl⟩:=b1
 rw [a2] at b2;rw [a3] at b3
 simp only [List.cons.injEq,and_true] at b2 b3
 obtain ⟨rfl,rfl⟩:=b2
 obtain ⟨rfl,rfl⟩:=b3
 rw [a4] at b4
 simp only [Option.some.injEq,TypeDesc.slice.injEq] at b4
 subst b4
 rw [a5] at b5;rw [a10] at b10
 simp only [Option.some.injEq] at b5 b10
 exact ⟨b5,b10⟩
theorem stepG_n {dr:Bool} {H0:AHeap} {o:Oper} {st:ASt} {K:ASt->Prop} (h:isAppN o=true):stepG C dr H0 ops o st K↔
 ∃ k es d,appR C st.ρ st.H o k es/\o.dst=some d/\hget st.H d=none/\d<C.N/\K { ρ:=upd st.ρ d (.rs d es.length),H:=hset st.H d (.row k es) }:=by
 unfold isAppN at h
 split at h
 · rename_i args ts ho hg
   split at h
   · rename_i x ha
     have hgc:guardC ops o st.ρ=some true:=by unfold guardC;rw [hg]
     have hc:cls C dr o=2:=by unfold cls;rw [ho]
     have hs:ox st.ρ (.const (.slice none 0 0))=.nils:=rfl
     unfold stepG
     rw [hgc]
     simp only [hc,hg,effA,aopE,ho,ha]
     constructor
     · intro h
       simp at h
       split at h
       · rename_i s x' t tx h1 h2
         simp only [List.cons.injEq,and_true] at h1
         obtain ⟨rfl,rfl⟩:=h1
         obtain ⟨c1,c2,h⟩:=h
         unfold appendA at h
         split at h
         · rename_i e es2 hu hsrc
           split at h
           · rename_i k by' z hk hb hz
             obtain ⟨d1,d2,d3,d4,h⟩:=h
             rw [hs] at h
             obtain ⟨d5,d6,h⟩:=h
             unfold newB at h
             split at h
             · exact h.elim
             · rename_i d hd
               exact ⟨k,es2,d,⟨args,ts,_,_,t,tx,e,by',z,ho,ha,h2,hu,hk,hb,hz,c1,c2,hsrc,d1,d2,d3,d4,d5,d6⟩,hd,h.1,h.2.1,h.2.2⟩
           · exact h.elim
         · exact h.elim
       · exact h.elim
     · rintro ⟨k,es,d,⟨args',ts',s,x',t,tx,e,by',z,a1,a2,a3,a4,a5,a6,a7,a8,a9,a10,a11,a12,a13,a14,a15,a16⟩,hd,e1,e2,e3⟩
       rw [ho] at a1
       simp only [Op.call.injEq,Call.mk.injEq,true_and] at a1
       obtain ⟨rfl,rfl⟩:=a1
       rw [ha] at a2
       simp only [List.cons.injEq,and_true] at a2
       obtain ⟨rfl,rfl⟩:=a2
       simp [a3,a8,a9,appendA,a4,a5,a6,a7,a10,a11,a12,a13,a14,hs,a15,a16,newB,hd,e1,e2,e3]
   · cases h
 · cases h
theorem appR_put {H:AHeap} {o:Oper} {st:ASt} {d:Option Tmp} {v:AV} {k:Nat} {es:List PV} (h:∀ t,d=some t->t∉o.looksAt ops):appR C (putS st d v).ρ H o k es↔appR C st.ρ H o k es:=by
 cases d with
 | none=>exact Iff.rfl
 | some t=>
   have key:∀ ρ1 ρ2:Nat->AV,(∀ x,x∈o.op.operands.toList->opndV ρ1 x=opndV ρ2 x)->appR C ρ1 H o k es->appR C ρ2 H o k es:=by
    rintro ρ1 ρ2 hx ⟨args,ts,s,x,t,tx,e,by',z,a1,a2,a3,a4,a5,a6,a7,a8,a9,a10,a11⟩
    have h1 := hx s (by rw [a1];simp [Op.operands,Call.operands];have:s∈args.toList:=by rw [a2];simp
                        simpa using this)
    have h2 := hx x (by rw [a1];simp [Op.operands,Call.operands];have:x∈args.toList:=by rw [a2];simp
                        simpa using this)
    exact ⟨args,ts,s,x,t,tx,e,by',z,a1,a2,a3,a4,a5,a6,a7,by unfold oc at a8 ⊢;rw [<- h1];exact a8,by unfold oc at a9 ⊢;rw [<- h2];exact a9,by unfold ox at a10 ⊢;rw [<- h2];exact a10,a11⟩
   have hx:=looks_tmp (h t rfl)
   exact ⟨key _ _ (fun x hm=>opnd_upd (hx x hm)),key _ _ (fun x hm=>(opnd_upd (hx x hm)).symm)⟩
def isLit0 (C:Ctx) (o:Oper):Bool:=
 match o.op,o.guard,o.dst with
 | .buildSlice _ _ _,none,some d=>C.rows.contains d
 | _,_,_=>false
def isNew (C:Ctx) (o:Oper):Bool:=isAppN o||isLit0 C o
def litV (ρ:Nat->AV) (parts:Array (Nat × Operand)):List AV:=(parts.toList.map (·.2)).map (ox ρ)
def litR (C:Ctx) (ρ:Nat->AV) (H:AHeap) (o:Oper) (k:Nat) (es:List PV):Prop:=
 ∃ t n parts e z,o.op=.buildSlice t n parts/\C.P.underlying t=some (.slice e)/\szOf C.P e=some k/\zeroT C.P e=some z/\es=(litV ρ parts).map (frz H 4)/\
  allC ρ (parts.toList.map (·.2))/\idxOk 0 ((parts.toList.map fun x=>(x.1,ox ρ x.2)).map (·.1))=true/\parts.toList.length=n/\n * k<=16777216/\0<k/\elemOk H k (litV ρ parts)
theorem litV_len (ρ:Nat->AV) (H:AHeap) (parts:Array (Nat × Operand)):((litV ρ parts).map (frz H 4)).length=parts.toList.length:=by simp [litV]
theorem allC_imp {ρ1 ρ2:Nat->AV}:∀ {l:List Operand},(∀ x,x∈l->opndV ρ1 x=opndV ρ2 x)->allC ρ1 l->allC ρ2 l
 | [],_,_=>trivial
 | x::r,h,⟨h1,h2⟩=>⟨by unfold oc at h1 ⊢;rw [<- h x List.mem_cons_self];exact h1,allC_imp (fun y hy=>h y (List.mem_cons_of_mem _ hy)) h2⟩
def newR (C:Ctx) (ρ:Nat->AV) (H:AHeap) (o:Oper) (k:Nat) (es:List PV):Prop:=appR C ρ H o k es\/litR C ρ H o k es
theorem stepG_l {dr:Bool} {H0:AHeap} {o:Oper} {st:ASt} {K:ASt->Prop} (h:isLit0 C o=true):stepG C dr H0 ops o st K↔
 ∃ k es d,litR C st.ρ st.H o k es/\o.dst=some d/\hget st.H d=none/\d<C.N/\K { ρ:=upd st.ρ d (.rs d es.length),H:=hset st.H d (.row k es) }:=by
 unfold isLit0 at h
 split at h
 · rename_i t n parts d ho hg hd
   have hgc:guardC ops o st.ρ=some true:=by unfold guardC;rw [hg]
   have hc:cls C dr o=2:=by unfold cls;rw [ho];simp only [hd,h,if_true]
   unfold stepG
   rw [hgc]
   simp only [hc,hg,effA,ho]
   constructor
   · intro h
     simp at h
     unfold rowLit at h
     rw [ho] at h
     simp only at h
     split at h
     · rename_i e hu
       split at h
       · rename_i k z hk hz
         obtain ⟨h1,h2,h3,h4,h5,h6,h7⟩:=h
         rw [hd] at h7
         obtain ⟨g1,g2,g3⟩:=h7
         refine ⟨k,_,d,⟨t,n,parts,e,z,ho,hu,hk,hz,rfl,h1,h2,h3,h4,h5,h6⟩,hd,g1,g2,?_⟩
         rw [litV_len,h3]
         exact g3
       · exact h.elim
     · exact h.elim
   · rintro ⟨k,es,d',⟨t',n',parts',e,z,a1,a2,a3,a4,rfl,b1,b2,b3,b4,b5,b6⟩,hd',e1,e2,e3⟩
     rw [ho] at a1
     simp only [Op.buildSlice.injEq] at a1
     obtain ⟨rfl,rfl,rfl⟩:=a1
     rw [hd] at hd'
     simp only [Option.some.injEq] at hd'
     subst hd'
     rw [litV_len,b3] at e3
     simp only [rowLit,ho,a2,a3,a4,hd]
     simp
     exact ⟨by simpa using b1,by simpa using b2,by simpa using b3,b4,b5,by simpa [litV] using b6,e1,e2,by simpa [litV] using e3⟩
 · cases h
theorem stepG_new {dr:Bool} {H0:AHeap} {o:Oper} {st:ASt} {K:ASt->Prop} (h:isNew C o=true):stepG C dr H0 ops o st K↔
 ∃ k es d,newR C st.ρ st.H o k es/\o.dst=some d/\hget st.H d=none/\d<C.N/\K { ρ:=upd st.ρ d (.rs d es.length),H:=hset st.H d (.row k es) }:=by
 unfold isNew at h
 rw [Bool.or_eq_true] at h
 rcases h with h | h
 · rw [stepG_n h]
   constructor
   · rintro ⟨k,es,d,h1,h2⟩;exact ⟨k,es,d,.inl h1,h2⟩
   · rintro ⟨k,es,d,h1 | ⟨t,n,parts,e,z,h3,_⟩,h2⟩
     · exact ⟨k,es,d,h1,h2⟩
     · unfold isAppN at h;rw [h3] at h;cases h
 · rw [stepG_l h]
   constructor
   · rintro ⟨k,es,d,h1,h2⟩;exact ⟨k,es,d,.inr h1,h2⟩
   · rintro ⟨k,es,d,⟨args,ts,s,x,t,tx,e,by',z,h3,_⟩ | h1,h2⟩
     · unfold isLit0 at h;rw [h3] at h;cases h
     · exact ⟨k,es,d,h1,h2⟩
theorem newR_fun {ρ:Nat->AV} {H:AHeap} {o:Oper} {k k':Nat} {es es':List PV} (h:newR C ρ H o k es) (h':newR C ρ H o k' es'):k=k'/\es=es':=by
 rcases h with h | h <;> rcases h' with h' | h'
 · exact appR_fun h h'
 · obtain ⟨args,ts,s,x,t,tx,e,by',z,h3,_⟩:=h
   obtain ⟨t,n,parts,e,z,h4,_⟩:=h'
   rw [h3] at h4;cases h4
 · obtain ⟨args,ts,s,x,t,tx,e,by',z,h3,_⟩:=h'
   obtain ⟨t,n,parts,e,z,h4,_⟩:=h
   rw [h3] at h4;cases h4
 · obtain ⟨t,n,parts,e,z,a1,a2,a3,_,rfl,_⟩:=h
   obtain ⟨t',n',parts',e',z',b1,b2,b3,_,rfl,_⟩:=h'
   rw [a1] at b1
   simp only [Op.buildSlice.injEq] at b1
   obtain ⟨rfl,rfl,rfl⟩:=b1
   rw [a2] at b2
   simp only [Option.some.injEq,TypeDesc.slice.injEq] at b2
   subst b2
   rw [a3] at b3
   simp only [Option.some.injEq] at b3
   exact ⟨b3,rfl⟩
theorem litR_put {H:AHeap} {o:Oper} {st:ASt} {d:Option Tmp} {v:AV} {k:Nat} {es:List PV} (h:∀ t,d=some t->t∉o.looksAt ops):litR C (putS st d v).ρ H o k es↔litR C st.ρ H o k es:=by
 cases d with
 | none=>exact Iff.rfl
 | some t=>
   have key:∀ ρ1 ρ2:Nat->AV,(∀ x,x∈o.op.operands.toList->opndV ρ1 x=opndV ρ2 x)->litR C ρ1 H o k es->litR C ρ2 H o k es:=by
    rintro ρ1 ρ2 hx ⟨t,n,parts,e,z,a1,a2,a3,a4,rfl,b1,b2,b3,b4,b5,b6⟩
    have hp:∀ x,x∈parts.toList->opndV ρ1 x.2=opndV ρ2 x.2:=fun x hm=>hx x.2 (by
     rw [a1]
     simp only [Op.operands]
     exact List.mem_map.2 ⟨x,hm,rfl⟩)
    have hox:∀ x,x∈parts.toList->ox ρ1 x.2=ox ρ2 x.2:=fun x hm=>by unfold ox;rw [hp x hm]
    have hv:litV ρ1 parts=litV ρ2 parts:=by
     unfold litV
     rw [List.map_map,List.map_map]
     exact List.map_congr_left (fun x hm=>hox x hm)
    refine ⟨t,n,parts,e,z,a1,a2,a3,a4,by rw [hv],allC_imp (fun x hm=>?_) b1,?_,b3,b4,b5,by rw [<- hv];exact b6⟩
    · obtain ⟨y,hy,rfl⟩:=List.mem_map.1 hm
      exact hp y hy
    · rw [<- b2,List.map_map,List.map_map];rfl
   have hx:=looks_tmp (h t rfl)
   exact ⟨key _ _ (fun x hm=>opnd_upd (hx x hm)),key _ _ (fun x hm=>(opnd_upd (hx x hm)).symm)⟩
theorem newR_put {H:AHeap} {o:Oper} {st:ASt} {d:Option Tmp} {v:AV} {k:Nat} {es:List PV} (h:∀ t,d=some t->t∉o.looksAt ops):newR C (putS st d v).ρ H o k es↔newR C st.ρ H o k es:=by
 unfold newR
 rw [appR_put h,litR_put h]
theorem swap_qn {G:Glob} (hC:TabsAll G C) {H0:AHeap} {x y:Oper} (hap:x.apart ops y=true) (h1:cls C true x=0) (h2:isNew C y=true):Swap C H0 ops x y:=by
 obtain ⟨a1,a2,a3⟩:=Oper.apart_spec hap
 intro st K H
 have some_r:∀ (o:Oper) (ρ:Nat->AV) (H:AHeap) (c:Bool) (z:AV),(c=true->(qop C ρ H o).1)->∃ r,(c=true->(qop C ρ H o).2 r)/\(c=false->r=z):=by
  intro o ρ H c z h
  cases c with
  | true=>obtain ⟨r,hr⟩:=qop_inhab hC (h rfl);exact ⟨r,(fun _=>hr),(fun h=>by cases h)⟩
  | false=>exact ⟨z,(fun h=>by cases h),fun _=>rfl⟩
 rw [stepG_q h1] at H
 rw [stepG_new h2]
 obtain ⟨ci,g1,g2,g3⟩:=H
 obtain ⟨r0,hr0,hz0⟩:=some_r x st.ρ st.H ci (aopP C st.ρ H0 x.op).2 g2
 obtain ⟨b1,b2⟩:=g3 r0 hr0 hz0
 rw [stepG_new h2] at b2
 obtain ⟨k,es,d,f1,e1,e2,e3,e4⟩:=b2
 rw [newR_put a1,putS_same] at f1
 rw [putS_same] at e2
 refine ⟨k,es,d,f1,e1,e2,e3,?_⟩
 have hd:d∉x.looksAt ops:=a3 d e1
 rw [stepG_q h1]
 have hsub:Sub st.H (hset st.H d (.row k es)):=sub_hset e2
 have hq:qop C (upd st.ρ d (.rs d es.length)) (hset st.H d (.row k es)) x=qop C st.ρ (hset st.H d (.row k es)) x:=qop_upd hd
 have hp:aopP C (upd st.ρ d (.rs d es.length)) H0 x.op=aopP C st.ρ H0 x.op:=aopP_congr C H0 x.op (fun z hm=>opnd_upd (looks_tmp hd z hm))
 refine ⟨ci,by rw [<- g1];exact guardC_upd hd,fun hc=>by rw [hq];exact (qop_mono hC hsub (g2 hc)).1,fun ri hri hzi=>⟨b1,?_⟩⟩
 have hri':ci=true->(qop C st.ρ st.H x).2 ri:=fun hc=>by
  have:=hri hc
  rw [hq,(qop_mono hC hsub (g2 hc)).2] at this
  exact this
 have:=(g3 ri hri' (fun hc=>by rw [hzi hc];simp only [cond_true,hp])).2
 rw [stepG_new h2] at this
 obtain ⟨k',es',d',f1',e1',e2',e3',e4'⟩:=this
 rw [newR_put a1,putS_same] at f1'
 obtain ⟨rfl,rfl⟩:=newR_fun f1 f1'
 rw [e1] at e1'
 simp only [Option.some.injEq] at e1'
 subst e1'
 have:putS { ρ:=upd st.ρ d (.rs d es.length),H:=hset st.H d (.row k es) } x.dst (wrapG x ci ri)={ ρ:=upd (putS st x.dst (wrapG x ci ri)).ρ d (.rs d es.length),H:=hset (putS st x.dst (wrapG x ci ri)).H d (.row k es) }:=by
  cases hxd:x.dst with
  | none=>rfl
  | some t=>
    have:t≠d:=fun e=>a2 t hxd (by rw [e1,e])
    simp only [putS]
    rw [upd_comm _ _ this]
 rw [this]
 exact e4'
theorem swap_nq {G:Glob} (hC:TabsAll G C) {H0:AHeap} {x y:Oper} (hap:x.apart ops y=true) (h1:isNew C x=true) (h2:cls C true y=0) (h3:noHop y.op=true):Swap C H0 ops x y:=by
 obtain ⟨a1,a2,a3⟩:=Oper.apart_spec hap
 intro st K H
 rw [stepG_new h1] at H
 rw [stepG_q h2]
 obtain ⟨k,es,d,f1,e1,e2,e3,e5⟩:=H
 have hd:d∉y.looksAt ops:=a1 d e1
 rw [stepG_q h2] at e5
 obtain ⟨c,g1,g2,g3⟩:=e5
 have hq:qop C (upd st.ρ d (.rs d es.length)) (hset st.H d (.row k es)) y=qop C st.ρ st.H y:=by
  rw [qop_noH h3 (H':=st.H)];exact qop_upd hd
 have hp:aopP C (upd st.ρ d (.rs d es.length)) H0 y.op=aopP C st.ρ H0 y.op:=aopP_congr C H0 y.op (fun z hm=>opnd_upd (looks_tmp hd z hm))
 simp only at g1 g2 g3
 rw [hq] at g2
 refine ⟨c,by rw [<- g1];exact (guardC_upd hd).symm,g2,fun r hr hz=>?_⟩
 obtain ⟨k1,k2⟩:=g3 r (by rw [hq];exact hr) (fun hc=>by rw [hz hc];simp only [cond_true,hp])
 refine ⟨k1,?_⟩
 rw [stepG_new h1]
 refine ⟨k,es,d,by rw [newR_put a3,putS_same];exact f1,e1,by rw [putS_same];exact e2,e3,?_⟩
 have:putS { ρ:=upd st.ρ d (.rs d es.length),H:=hset st.H d (.row k es) } y.dst (wrapG y c r)={ ρ:=upd (putS st y.dst (wrapG y c r)).ρ d (.rs d es.length),H:=hset (putS st y.dst (wrapG y c r)).H d (.row k es) }:=by
  cases hyd:y.dst with
  | none=>rfl
  | some t=>
    have:t≠d:=fun e=>a2 d e1 (by rw [hyd,e])
    simp only [putS]
    rw [upd_comm _ _ this]
 rw [<- this]
 exact k2
end
section
variable {G:Glob} {C:Ctx} {ops:Array Oper} {md:Region.Mode}
def isApp (o:Oper):Bool:=
 match o.op,o.guard with
 | .call { callee:=.builtin .append, .. },none=>true
 | _,_=>false
def appOut (C:Ctx) (o:Oper) (st st':ASt):Prop:=
 ∃ args ts s x t tx e k by' z es2 d,o.op=.call { callee:=.builtin .append,args:=args,argTypes:=ts }/\args.toList=[s,x]/\ts.toList=[t,tx]/\C.P.underlying t=some (.slice e)/\szOf C.P e=some k/\bytesT C.P e=some by'/\zeroT C.P e=some z/\
  oc st.ρ s/\oc st.ρ x/\srcA st.H (ox st.ρ x)=some es2/\0<k/\z.cells.size=k/\isSliceOrStr (C.P.underlying tx)=true/\allW k es2/\o.dst=some d/\d<C.N/\
  ((ox st.ρ s=.nils/\es2.length * by'<=140737488355328/\es2.length<=maxLen/\hget st.H d=none/\st'=⟨upd st.ρ d (.rs d es2.length),hset st.H d (.row k es2)⟩)\/
   (∃ key hi es,ox st.ρ s=.rs key hi/\hget st.H key=some (.row k es)/\notIn key C.pins/\hi<=es.length/\(hi+es2.length) * by'<=140737488355328/\hi+es2.length<=maxLen/\
     st'=⟨upd (killR key st.ρ) d (.rs key (hi+es2.length)),hset (killH key st.H) key (.row k (es.take hi++es2))⟩))
theorem stepG_ap {dr:Bool} {H0:AHeap} {o:Oper} {st:ASt} {K:ASt->Prop} (h:isApp o=true):stepG C dr H0 ops o st K↔∃ st',appOut C o st st'/\K st':=by
 unfold isApp at h
 split at h
 · rename_i args ts ho hg
   have hgc:guardC ops o st.ρ=some true:=by unfold guardC;rw [hg]
   have hc:cls C dr o=2:=by unfold cls;rw [ho]
   unfold stepG
   rw [hgc]
   simp only [hc,hg,effA,aopE,ho]
   constructor
   · intro h
     simp at h
     split at h
     · rename_i s x t tx ha h2
       obtain ⟨c1,c2,h⟩:=h
       unfold appendA at h
       split at h
       · rename_i e es2 hu hsrc
         split at h
         · rename_i k by' z hk hb hz
           obtain ⟨d1,d2,d3,d4,h⟩:=h
           split at h
           · rename_i hs
             obtain ⟨d5,d6,h⟩:=h
             unfold newB at h
             split at h
             · exact h.elim
             · rename_i d hd
               exact ⟨_,⟨args,ts,_,_,t,tx,e,k,by',z,es2,d,ho,ha,h2,hu,hk,hb,hz,c1,c2,hsrc,d1,d2,d3,d4,hd,h.2.1,.inl ⟨hs,d5,d6,h.1,rfl⟩⟩,h.2.2⟩
           · rename_i key hi hs
             split at h
             · rename_i k' es d hH hd
               obtain ⟨f1,f2,f3,f4,f5,f6,f7⟩:=h
               subst f2
               exact ⟨_,⟨args,ts,_,_,t,tx,e,k',by',z,es2,d,ho,ha,h2,hu,hk,hb,hz,c1,c2,hsrc,d1,d2,d3,d4,hd,f6,.inr ⟨key,hi,es,hs,hH,f1,f3,f4,f5,rfl⟩⟩,f7⟩
             · exact h.elim
           · exact h.elim
         · exact h.elim
       · exact h.elim
     · exact h.elim
   · rintro ⟨st',⟨args',ts',s,x,t,tx,e,k,by',z,es2,d,a1,a2,a3,a4,a5,a6,a7,a8,a9,a10,a11,a12,a13,a14,hd,hdN,hh⟩,hK⟩
     rw [ho] at a1
     simp only [Op.call.injEq,Call.mk.injEq,true_and] at a1
     obtain ⟨rfl,rfl⟩:=a1
     rcases hh with ⟨hs,b1,b2,b3,rfl⟩ | ⟨key,hi,es,hs,b1,b2,b3,b4,b5,rfl⟩
     · simp [a2,a3,a8,a9,appendA,a4,a5,a6,a7,a10,a11,a12,a13,a14,hs,b1,b2,newB,hd,b3,hdN,hK]
     · simp [a2,a3,a8,a9,appendA,a4,a5,a6,a7,a10,a11,a12,a13,a14,hs,b1,b2,b3,b4,b5,hd,hdN,hK]
 · cases h
def killOk:Op->Bool
 | .move (.tmp _)=>true
 | .move (.const (.int _ _))=>true
 | .slice _ _ _ _ _=>true
 | .binOp _ _ _ _ _=>true
 | _=>false
theorem strip_kill (key:Nat) (v:AV):stripV (v.kill key)=(stripV v).kill key:=by
 cases v <;> first | rfl | (show stripV (ite _ _ _)=ite _ _ _;split <;> rfl)
theorem oc_kill (key:Nat) (ρ:Nat->AV) (x:Operand):oc (killR key ρ) x->oc ρ x:=by
 cases x with
 | tmp t=>
   show stripC ((ρ t).kill key)->stripC (ρ t)
   cases ρ t <;> simp only [AV.kill,stripC] <;> first | exact id | exact fun _=>trivial
 | _=>exact id
theorem ox_kill (key:Nat) (ρ:Nat->AV) (x:Operand):ox (killR key ρ) x=ox ρ x\/ox (killR key ρ) x=(ox ρ x).kill key:=by
 cases x with
 | tmp t=>exact .inr (strip_kill key (ρ t))
 | _=>exact .inl rfl
theorem kill_pv {key:Nat} {v:AV} {p:PV} (h:v.kill key=.pv p):v=.pv p:=by
 cases v <;> simp only [AV.kill] at h <;> first | exact h | (split at h <;> cases h) | cases h
theorem kill_nils {key:Nat} {v:AV} (h:v.kill key=.nils):v=.nils:=by
 cases v <;> simp only [AV.kill] at h <;> first | rfl | (split at h <;> cases h) | cases h
theorem ox_pv {key:Nat} {ρ:Nat->AV} {x:Operand} {p:PV} (h:ox (killR key ρ) x=.pv p):ox ρ x=.pv p:=by
 rcases ox_kill key ρ x with e | e
 · rw [<- e];exact h
 · rw [e] at h;exact kill_pv h
theorem ox_nils {key:Nat} {ρ:Nat->AV} {x:Operand} (h:ox (killR key ρ) x=.nils):ox ρ x=.nils:=by
 rcases ox_kill key ρ x with e | e
 · rw [<- e];exact h
 · rw [e] at h;exact kill_nils h
theorem kill_rs {key κ n:Nat} {v:AV} (h:v.kill key=.rs κ n):v=.rs κ n/\κ≠key:=by
 cases v <;> simp only [AV.kill] at h <;> first | cases h;done | (split at h <;> first | (cases h;done) | (rename_i h1;simp only [AV.rs.injEq] at h;obtain ⟨rfl,rfl⟩:=h;exact ⟨rfl,h1⟩))
theorem ox_rs {key κ n:Nat} {ρ:Nat->AV} {x:Operand} (h:ox (killR key ρ) x=.rs κ n):ox ρ x=.rs κ n/\κ≠key:=by
 cases x with
 | tmp t=>
   have:ox (killR key ρ) (.tmp t)=(ox ρ (.tmp t)).kill key:=strip_kill key (ρ t)
   rw [this] at h;exact kill_rs h
 | const v=>
   exfalso
   have h:stripV (ofV v)=.rs κ n:=h
   unfold ofV at h
   split at h
   · cases h
   · unfold ofV1 at h
     split at h <;> cases h
 | func f=>cases h
 | global g=>cases h
theorem natOf_kill {key:Nat} {ρ:Nat->AV} {x:Option Operand} {d:Nat} {n:Int} (h:natOf (x.map (ox (killR key ρ))) d=some n):natOf (x.map (ox ρ)) d=some n:=by
 cases x with
 | none=>exact h
 | some x=>
   simp only [Option.map_some] at h ⊢
   unfold natOf at h
   split at h
   · rename_i he;cases he
   · rename_i k m d' he
     simp only [Option.some.injEq] at he
     rw [ox_pv he]
     exact h
   · cases h
theorem kill_aop {key:Nat} {ρ:Nat->AV} {H:AHeap} {o:Op} (ho:killOk o=true) (h:(aopP C (killR key ρ) H o).1):(aopP C ρ H o).1/\(aopP C (killR key ρ) H o).2=((aopP C ρ H o).2).kill key:=by
 unfold killOk at ho
 split at ho
 · exact ⟨trivial,rfl⟩
 · exact ⟨trivial,rfl⟩
 · rename_i t x lo hi mx
   simp only [aopP] at h ⊢
   obtain ⟨h1,h2,h3⟩:=h
   have h2':allC ρ (lo.toList++hi.toList++mx.toList):=by
    have:∀ l:List Operand,allC (killR key ρ) l->allC ρ l:=by
     intro l
     induction l with
     | nil=>exact id
     | cons a r ih=>exact fun h=>⟨oc_kill key ρ a h.1,ih h.2⟩
    exact this _ h2
   suffices hs:(sliceA C.P t (ox ρ x) (lo.map (ox ρ)) (hi.map (ox ρ)) (mx.map (ox ρ))).1/\(sliceA C.P t (ox (killR key ρ) x) (lo.map (ox (killR key ρ))) (hi.map (ox (killR key ρ))) (mx.map (ox (killR key ρ)))).2=((sliceA C.P t (ox ρ x) (lo.map (ox ρ)) (hi.map (ox ρ)) (mx.map (ox ρ))).2).kill key from ⟨⟨oc_kill key ρ x h1,h2',hs.1⟩,hs.2⟩
   unfold sliceA at h3 ⊢
   split at h3
   · rename_i s hu hx hm
     have hm':mx.map (ox ρ)=none:=by cases mx with | none=>rfl | some m=>cases hm
     split at h3
     · rename_i l1 h1' hl hh
       simp only [hu,ox_pv hx,hm',natOf_kill hl,natOf_kill hh]
       exact ⟨h3,rfl⟩
     · exact h3.elim
   · rename_i e es hu hx hm
     have hm':mx.map (ox ρ)=none:=by cases mx with | none=>rfl | some m=>cases hm
     split at h3
     · rename_i l1 h1' hl hh
       simp only [hu,ox_pv hx,hm',natOf_kill hl,natOf_kill hh]
       exact ⟨h3,rfl⟩
     · exact h3.elim
   · rename_i e hu hx hm
     have hm':mx.map (ox ρ)=none:=by cases mx with | none=>rfl | some m=>cases hm
     split at h3
     · rename_i l1 h1' hl hh
       simp only [hu,ox_nils hx,hm',natOf_kill hl,natOf_kill hh]
       exact ⟨h3,rfl⟩
     · exact h3.elim
   · rename_i e κ n hu hx hm
     have hm':mx.map (ox ρ)=none:=by cases mx with | none=>rfl | some m=>cases hm
     obtain ⟨hx',hne⟩:=ox_rs hx
     have hkl:∀ m,AV.kill key (.rs κ m)=.rs κ m:=fun m=>if_neg hne
     have hkv:∀ a b c,AV.kill key (.rv κ a b c)=.rv κ a b c:=fun a b c=>if_neg hne
     cases lo with
     | none=>
       simp only [Option.map_none] at h3
       split at h3
       · rename_i h1' hh
         simp only [hu,hx',hm',Option.map_none,natOf_kill hh,hkl]
         exact ⟨h3,trivial⟩
       · exact h3.elim
     | some lo=>
       simp only [Option.map_some] at h3
       split at h3
       · rename_i l1 h1' sz hl hh hsz
         have hl':=natOf_kill (x:=some lo) hl
         simp only [Option.map_some] at hl'
         simp only [hu,hx',hm',Option.map_some,hl,hh,hl',natOf_kill hh,hkv,hsz]
         exact ⟨h3,trivial⟩
       · exact h3.elim
   · exact h3.elim
 · rename_i op t x y t2
   simp only [aopP] at h ⊢
   obtain ⟨h1,h2,h3⟩:=h
   suffices hs:(binT C.P op t (isC x||isC y) (ox ρ x) (ox ρ y)).1/\(binT C.P op t (isC x||isC y) (ox (killR key ρ) x) (ox (killR key ρ) y)).2=((binT C.P op t (isC x||isC y) (ox ρ x) (ox ρ y)).2).kill key from ⟨⟨oc_kill key ρ x h1,oc_kill key ρ y h2,hs.1⟩,hs.2⟩
   obtain ⟨p,q,hp,hq⟩:∃ p q,ox (killR key ρ) x=.pv p/\ox (killR key ρ) y=.pv q:=by
    unfold binT at h3
    split at h3
    · rename_i a b hx hy;exact ⟨_,_,hx,hy⟩
    · unfold binA at h3
      split at h3
      · rename_i a b hx hy;exact ⟨_,_,hx,hy⟩
      · exact h3.elim
   rw [hp,hq] at h3 ⊢
   rw [ox_pv hp,ox_pv hq]
   refine ⟨h3,?_⟩
   have:∃ r,(binT C.P op t (isC x||isC y) (.pv p) (.pv q)).2=.pv r:=by
    unfold binT
    split
    · exact ⟨_,rfl⟩
    · exact ⟨_,rfl⟩
   obtain ⟨r,hr⟩:=this
   rw [hr];rfl
 · cases ho
theorem killOk_qop {ρ:Nat->AV} {H:AHeap} {o:Oper} (ho:killOk o.op=true):qop C ρ H o=((aopP C ρ H o.op).1,fun r=>r=(aopP C ρ H o.op).2)/\noHop o.op=true/\cls C true o=0:=by
 unfold killOk at ho
 split at ho
 · rename_i z h
   refine ⟨by unfold qop;rw [h],by rw [h];rfl,by unfold cls;rw [h]⟩
 · rename_i h
   refine ⟨by unfold qop;rw [h],by rw [h];rfl,by unfold cls;rw [h]⟩
 · rename_i h
   refine ⟨by unfold qop;rw [h],by rw [h];rfl,by unfold cls;rw [h]⟩
 · rename_i h
   refine ⟨by unfold qop;rw [h],by rw [h];rfl,by unfold cls;rw [h]⟩
 · cases ho
theorem aop_noH {ρ:Nat->AV} {H H':AHeap} {o:Op} (ho:killOk o=true):aopP C ρ H o=aopP C ρ H' o:=by
 unfold killOk at ho
 split at ho
 · rfl
 · rfl
 · rfl
 · rfl
 · cases ho
theorem killR_upd (key:Nat) (ρ:Nat->AV) (e:Nat) (v:AV):killR key (upd ρ e v)=upd (killR key ρ) e (v.kill key):=by
 funext t
 simp only [killR,upd]
 split <;> rfl
theorem swap_ak {H0:AHeap} {x y:Oper} (hap:x.apart ops y=true) (h1:isApp x=true) (h2:killOk y.op=true) (h3:y.guard=none):Swap C H0 ops x y:=by
 obtain ⟨a1,a2,a3⟩:=Oper.apart_spec hap
 intro st K H
 rw [stepG_ap h1] at H
 obtain ⟨st',hout,H⟩:=H
 have hcy:=(killOk_qop (C:=C) (ρ:=st.ρ) (H:=st.H) h2).2.2
 rw [stepG_q hcy] at H ⊢
 obtain ⟨c,g1,g2,g3⟩:=H
 have hgy:∀ ρ,guardC ops y ρ=some true:=fun ρ=>by unfold guardC;rw [h3]
 rw [hgy] at g1
 simp only [Option.some.injEq] at g1
 subst g1
 rw [(killOk_qop h2).1] at g2 g3
 rw [(killOk_qop h2).1]
 have hcond:=g2 rfl
 obtain ⟨b1,b2⟩:=g3 _ (fun _=>rfl) (fun h=>by cases h)
 have hwr:∀ r,wrapG y true r=r:=fun r=>by unfold wrapG;rw [h3]
 rw [hwr] at b2
 obtain ⟨args,ts,s,z,t,tx,e,k,by',zz,es2,d,e1,e2,e3,e4,e5,e6,e7,e8,e9,e10,e11,e12,e13,e14,e15,e16,hh⟩:=hout
 have hd:d∉y.looksAt ops:=a1 d e15
 have hs:∀ r,opndV (putS st y.dst r).ρ s=opndV st.ρ s:=fun r=>by
  cases hyd:y.dst with
  | none=>rfl
  | some q => exact opnd_upd (looks_tmp (a3 q hyd) s (by rw [e1];simp [Op.operands,Call.operands];have:s∈args.toList:=by rw [e2];simp
                                                         simpa using this))
 have hz:∀ r,opndV (putS st y.dst r).ρ z=opndV st.ρ z:=fun r=>by
  cases hyd:y.dst with
  | none=>rfl
  | some q => exact opnd_upd (looks_tmp (a3 q hyd) z (by rw [e1];simp [Op.operands,Call.operands];have:z∈args.toList:=by rw [e2];simp
                                                         simpa using this))
 have hocs:∀ r,oc (putS st y.dst r).ρ s:=fun r=>by unfold oc at e8 ⊢;rw [hs];exact e8
 have hocz:∀ r,oc (putS st y.dst r).ρ z:=fun r=>by unfold oc at e9 ⊢;rw [hz];exact e9
 have hoxs:∀ r,ox (putS st y.dst r).ρ s=ox st.ρ s:=fun r=>by unfold ox;rw [hs]
 have hoxz:∀ r,ox (putS st y.dst r).ρ z=ox st.ρ z:=fun r=>by unfold ox;rw [hz]
 have hsrc:∀ r,srcA (putS st y.dst r).H (ox (putS st y.dst r).ρ z)=some es2:=fun r=>by rw [putS_same,hoxz];exact e10
 rcases hh with ⟨hsn,f1,f2,f3,rfl⟩ | ⟨key,hi,es,hsr,f1,f2,f3,f4,f5,rfl⟩
 · have he:aopP C (upd st.ρ d (.rs d es2.length)) (hset st.H d (.row k es2)) y.op=aopP C st.ρ st.H y.op:=by
     rw [aop_noH h2 (H':=st.H)]
     exact aopP_congr C st.H y.op (fun q hm=>opnd_upd (looks_tmp hd q hm))
   simp only [he] at hcond b2
   refine ⟨true,hgy _,fun _=>hcond,fun r hr _=>⟨b1,?_⟩⟩
   have hr:=hr rfl
   simp only at hr
   subst hr
   rw [hwr,stepG_ap h1]
   refine ⟨_,⟨args,ts,s,z,t,tx,e,k,by',zz,es2,d,e1,e2,e3,e4,e5,e6,e7,hocs _,hocz _,hsrc _,e11,e12,e13,e14,e15,e16,.inl ⟨by rw [hoxs];exact hsn,f1,f2,by rw [putS_same];exact f3,rfl⟩⟩,?_⟩
   have:putS { ρ:=upd st.ρ d (.rs d es2.length),H:=hset st.H d (.row k es2) } y.dst (aopP C st.ρ st.H y.op).2={ ρ:=upd (putS st y.dst (aopP C st.ρ st.H y.op).2).ρ d (.rs d es2.length),H:=hset (putS st y.dst (aopP C st.ρ st.H y.op).2).H d (.row k es2) }:=by
    cases hyd:y.dst with
    | none=>rfl
    | some q=>
      have:q≠d:=fun h=>a2 d e15 (by rw [hyd,h])
      simp only [putS]
      rw [upd_comm _ _ this]
   rw [<- this]
   exact b2
 · have he:aopP C (upd (killR key st.ρ) d (.rs key (hi+es2.length))) (hset (killH key st.H) key (.row k (es.take hi++es2))) y.op=aopP C (killR key st.ρ) st.H y.op:=by
     rw [aop_noH h2 (H':=st.H)]
     exact aopP_congr C st.H y.op (fun q hm=>opnd_upd (looks_tmp hd q hm))
   simp only [he] at hcond b2
   obtain ⟨m1,m2⟩:=kill_aop h2 hcond
   rw [m2] at b2
   refine ⟨true,hgy _,fun _=>m1,fun r hr _=>⟨b1,?_⟩⟩
   have hr:=hr rfl
   simp only at hr
   subst hr
   rw [hwr,stepG_ap h1]
   refine ⟨_,⟨args,ts,s,z,t,tx,e,k,by',zz,es2,d,e1,e2,e3,e4,e5,e6,e7,hocs _,hocz _,hsrc _,e11,e12,e13,e14,e15,e16,.inr ⟨key,hi,es,by rw [hoxs];exact hsr,by rw [putS_same];exact f1,f2,f3,f4,f5,rfl⟩⟩,?_⟩
   have:putS { ρ:=upd (killR key st.ρ) d (.rs key (hi+es2.length)),H:=hset (killH key st.H) key (.row k (es.take hi++es2)) } y.dst ((aopP C st.ρ st.H y.op).2.kill key)={ ρ:=upd (killR key (putS st y.dst (aopP C st.ρ st.H y.op).2).ρ) d (.rs key (hi+es2.length)),H:=hset (killH key (putS st y.dst (aopP C st.ρ st.H y.op).2).H) key (.row k (es.take hi++es2)) }:=by
    cases hyd:y.dst with
    | none=>rfl
    | some q=>
      have:q≠d:=fun h=>a2 d e15 (by rw [hyd,h])
      simp only [putS,killR_upd]
      rw [upd_comm _ _ this]
   rw [<- this]
   exact b2
end
section
variable {G:Glob} {C:Ctx} {ops:Array Oper} {md:Region.Mode}
def pairP (C:Ctx) (ops:Array Oper) (x y:Oper):Bool:=
 pairOk C ops x y||(x.apart ops y&&((cls C true x == 0&&isNew C y)||(isNew C x&&cls C true y == 0&&noHop y.op)||(isApp x&&killOk y.op&&y.guard.isNone)))
theorem swap_of_pairP {G:Glob} (hC:TabsAll G C) {H0:AHeap} {x y:Oper} (h:pairP C ops x y=true):Swap C H0 ops x y:=by
 unfold pairP at h
 simp only [Bool.or_eq_true,Bool.and_eq_true,beq_iff_eq] at h
 rcases h with h | ⟨hap,(⟨h1,h2⟩ | ⟨⟨h1,h2⟩,h3⟩) | ⟨⟨h1,h2⟩,h3⟩⟩
 · exact swap_of_pairOk hC h
 · exact swap_qn hC hap h1 h2
 · exact swap_nq hC hap h1 h2 h3
 · exact swap_ak hap h1 h2 (Option.isNone_iff_eq_none.1 h3)
def checkO (pr:Oper->Oper->Bool) (md:Region.Mode) (ops:Array Oper) (fr:Array Nat):List Nat->List Nat->Bool
 | _,[]=>true
 | done,j::r=>(match ops[j]? with
     | none=>false
     | some y=>(fr.getD j 0 == waitOf md fr y)&&(y.after.toList.all fun e=>!Region.binds md e||done.contains e.on)&&(!done.contains j)&&
         done.all fun i=>(fr.getD j 0).testBit i||(match ops[i]? with | some x=>pr x y | none=>false))&&checkO pr md ops fr (done++[j]) r
def checkQ (pr:Oper->Oper->Bool) (md:Region.Mode) (ops:Array Oper) (order:List Nat):Bool:=
 checkO pr md ops (waits md ops.toList) [] order&&(List.range ops.size).all (fun i=>order.contains i)
def checkP (C:Ctx) (md:Region.Mode) (ops:Array Oper) (order:List Nat):Bool:=checkQ (pairP C ops) md ops order
theorem checkO_spec {pr:Oper->Oper->Bool} {fr:Array Nat}:∀ (l done:List Nat),checkO pr md ops fr done l=true->∀ (p q:List Nat) (j:Nat),l=p++j::q->
 ∃ y,ops[j]?=some y/\fr.getD j 0=waitOf md fr y/\(∀ e∈y.after,Region.binds md e=true->e.on∈done++p)/\j∉done++p/\∀ i,i∈done++p->(fr.getD j 0).testBit i=false->∃ x,ops[i]?=some x/\pr x y=true
 | [],done,_,p,q,j,h=>by cases p <;> cases h
 | a::r,done,h,p,q,j,hl=>by
   unfold checkO at h
   rw [Bool.and_eq_true] at h
   obtain ⟨h1,h2⟩:=h
   cases p with
   | nil=>
     simp only [List.nil_append,List.cons.injEq] at hl
     obtain ⟨rfl,rfl⟩:=hl
     rw [List.append_nil]
     cases hj:ops[a]? with
     | none=>rw [hj] at h1;cases h1
     | some y=>
       rw [hj] at h1
       simp only [Bool.and_eq_true,beq_iff_eq] at h1
       obtain ⟨⟨⟨c1,c2⟩,c3⟩,c4⟩:=h1
       refine ⟨y,rfl,c1,fun e he hb=>?_,by simpa using c3,fun i hi hm=>?_⟩
       · have:=List.all_eq_true.1 c2 e (by simpa using he)
         simpa [hb] using this
       · have:=List.all_eq_true.1 c4 i hi
         rw [hm,Bool.false_or] at this
         cases hx:ops[i]? with
         | none=>rw [hx] at this;cases this
         | some x=>rw [hx] at this;exact ⟨x,rfl,this⟩
   | cons b p=>
     simp only [List.cons_append,List.cons.injEq] at hl
     obtain ⟨rfl,rfl⟩:=hl
     have:=checkO_spec (p++j::q) (done++[a]) h2 p q j rfl
     simpa [List.append_assoc] using this
def opsOf (ops:Array Oper) (l:List Nat):List Oper:=l.filterMap fun i=>ops[i]?
theorem aAny_perm {G:Glob} {H0:AHeap} (hC:TabsAll G C) (hE:EMono C) {K:ASt->Prop} {order:List Nat} {pr:Oper->Oper->Bool} (hsw:∀ x y,pr x y=true->Swap C H0 ops x y) (hchk:checkQ pr md ops order=true):∀ (l done:List Nat) (listed:Array Bool) (st:ASt),done++l=order->
 listed.size=ops.size->(∀ j,j<ops.size->listed.getD j false=decide (j∈done))->
 stepsG C true H0 ops (opsOf ops l) st K->aAny C H0 md ops K l.length listed st:=by
 unfold checkQ at hchk
 rw [Bool.and_eq_true] at hchk
 obtain ⟨hck,hcov⟩:=hchk
 have hcov:∀ i,i<ops.size->i∈order:=fun i hi=>by simpa using List.all_eq_true.1 hcov i (List.mem_range.2 hi)
 have hspec:∀ (p q:List Nat) (j:Nat),order=p++j::q->∃ y,ops[j]?=some y/\(waits md ops.toList).getD j 0=waitOf md (waits md ops.toList) y/\(∀ e∈y.after,Region.binds md e=true->e.on∈p)/\j∉p/\∀ i,i∈p->((waits md ops.toList).getD j 0).testBit i=false->∃ x,ops[i]?=some x/\pr x y=true:=by
  intro p q j h
  have:=checkO_spec order [] hck p q j h
  simpa using this
 have hcl:∀ j oj,ops[j]?=some oj->∀ i,((waits md ops.toList).getD j 0).testBit i=true->∃ e∈oj.after,Region.binds md e=true/\(e.on=i\/((waits md ops.toList).getD e.on 0).testBit i=true):=by
  intro j oj hj i hb
  obtain ⟨p,q,hpq⟩:=List.append_of_mem (hcov j (Array.getElem?_eq_some_iff.1 hj).1)
  obtain ⟨y,hy,hw,_⟩:=hspec p q j hpq
  rw [hj] at hy
  simp only [Option.some.injEq] at hy
  subst hy
  rw [hw] at hb
  exact waitOf_spec hb
 have hclosed:∀ (n:Nat) (p q:List Nat) (j:Nat),p.length<=n->order=p++j::q->∀ i,((waits md ops.toList).getD j 0).testBit i=true->i∈p:=by
  intro n
  induction n with
  | zero=>
    intro p q j hn hpq i hb
    obtain ⟨y,hy,hw,hdep,_⟩:=hspec p q j hpq
    obtain ⟨e,he,hbd,_⟩:=hcl j y hy i hb
    have:=hdep e he hbd
    have hp:p=[]:=List.length_eq_zero_iff.1 (by omega)
    subst hp
    cases this
  | succ n ih=>
    intro p q j hn hpq i hb
    obtain ⟨y,hy,hw,hdep,_⟩:=hspec p q j hpq
    obtain ⟨e,he,hbd,hor⟩:=hcl j y hy i hb
    have hep:=hdep e he hbd
    rcases hor with rfl | hor
    · exact hep
    · obtain ⟨p1,p2,hp⟩:=List.append_of_mem hep
      have:=ih p1 (p2++j::q) e.on (by rw [hp] at hn;simp at hn;omega) (by rw [hpq,hp];simp) i hor
      rw [hp]
      exact List.mem_append_left _ this
 intro l
 induction l with
 | nil=>
   intro done listed st hdl hsz hlk h
   rw [List.append_nil] at hdl
   refine ⟨?_,h⟩
   rw [List.eq_nil_iff_forall_not_mem]
   intro j hj
   obtain ⟨h0,o,ho,_⟩:=mem_ready.1 hj
   have hlt:=(Array.getElem?_eq_some_iff.1 ho).1
   have:=hlk j hlt
   rw [show decide (j∈done)=true by rw [decide_eq_true_eq,hdl];exact hcov j hlt] at this
   rw [getD_tf this] at h0
   cases h0
 | cons i r ih=>
   intro done listed st hdl hsz hlk h
   obtain ⟨oi,hoi,hwi,hdepi,hni,hpr⟩:=hspec done r i hdl.symm
   have hilt:=(Array.getElem?_eq_some_iff.1 hoi).1
   have tf:∀ j,j<ops.size->listed.getD j true=listed.getD j false:=fun j hj=>by
    have:j<listed.size:=by rw [hsz];exact hj
    simp [this]
   have unl:∀ j,listed.getD j true=false->j<ops.size/\j∉done:=fun j hj=>by
    have hlt:j<ops.size:=by
     rcases Nat.lt_or_ge j listed.size with h' | h'
     · rw [<- hsz];exact h'
     · simp [Array.getElem?_eq_none h'] at hj
    rw [tf j hlt,hlk j hlt] at hj
    exact ⟨hlt,by simpa using hj⟩
   have hsteps:stepG C true H0 ops oi st (fun st'=>stepsG C true H0 ops (opsOf ops r) st' K):=by
    have e:opsOf ops (i::r)=oi::opsOf ops r:=by unfold opsOf;rw [List.filterMap_cons,hoi]
    rw [e] at h
    exact h
   refine aAny_first hE hoi (fun j=>(waits md ops.toList).getD j 0) hcl r.length listed st ?_ ?_ ?_ ?_ ?_
   · intro Z hZ hall
     have:=nodup_len Z (i::r) hZ (fun j hj=>by
      obtain ⟨h1,h2⟩:=unl j (hall j hj)
      have h3:=hcov j h1
      rw [<- hdl,List.mem_append] at h3
      rcases h3 with h3 | h3
      · exact absurd h3 h2
      · exact h3)
     simpa using this
   · intro e he i' hb
     have hlt:e<ops.size:=by
      rcases Nat.lt_or_ge e listed.size with h' | h'
      · rw [<- hsz];exact h'
      · simp [Array.getElem?_eq_none h'] at he
     rw [hlk e hlt,decide_eq_true_eq] at he
     obtain ⟨p1,p2,hp⟩:=List.append_of_mem he
     have hm:=hclosed p1.length p1 (p2++i::r) e (Nat.le_refl _) (by rw [<- hdl,hp];simp) i' hb
     have hmd:i'∈done:=by rw [hp];exact List.mem_append_left _ hm
     have hi'lt:i'<ops.size:=by
      obtain ⟨q1,q2,hq⟩:=List.append_of_mem hm
      obtain ⟨y,hy,_⟩:=hspec q1 (q2++e::(p2++i::r)) i' (by rw [<- hdl,hp,hq];simp)
      exact (Array.getElem?_eq_some_iff.1 hy).1
     rw [hlk i' hi'lt,decide_eq_true_eq]
     exact hmd
   · intro j oj hj hji hun hm
     obtain ⟨h1,h2⟩:=unl j hun
     have h3:=hcov j h1
     rw [<- hdl,List.mem_append,List.mem_cons] at h3
     rcases h3 with h3 | rfl | h3
     · exact absurd h3 h2
     · exact absurd rfl hji
     · obtain ⟨p1,p2,hp⟩:=List.append_of_mem h3
       obtain ⟨y,hy,_,_,_,hpr2⟩:=hspec (done++i::p1) p2 j (by rw [<- hdl,hp];simp)
       rw [hj] at hy
       simp only [Option.some.injEq] at hy
       subst hy
       obtain ⟨x,hx,hxy⟩:=hpr2 i (by simp) hm
       rw [hoi] at hx
       simp only [Option.some.injEq] at hx
       subst hx
       exact hsw _ _ hxy
   · rw [mem_ready]
     refine ⟨by rw [tf i hilt,hlk i hilt];simpa using hni,oi,hoi,fun e he hb=>?_⟩
     have hed:=hdepi e he hb
     have helt:e.on<ops.size:=by
      obtain ⟨q1,q2,hq⟩:=List.append_of_mem hed
      obtain ⟨y,hy,_⟩:=hspec q1 (q2++i::r) e.on (by rw [<- hdl,hq];simp)
      exact (Array.getElem?_eq_some_iff.1 hy).1
     rw [hlk e.on helt]
     simpa using hed
   · refine stepG_mono hE (fun s hs=>?_) hsteps
     refine ih (done++[i]) _ s (by rw [<- hdl];simp) (by simpa using hsz) ?_ hs
     intro j hj
     by_cases hjk:i=j
     · subst hjk
       have:i<listed.size:=by rw [hsz];exact hj
       simp [this]
     · rw [getD_set_ne false hjk,hlk j hj]
       have:j≠i:=fun e=>hjk e.symm
       simp [this]
theorem region_any_inP {G:Glob} {E:Base} {K:ASt->Prop} {a:Act} {w:World} {id:Nat} {ops:Array Oper} {H0:AHeap} {order:List Nat} (r:Option Nat) (n:Nat) (hP0:∀ κ,(E.L0 κ).isSome=true->κ∈C.pins) (hC:TabsAll G C) (hE:EMono C) (hm:G.P.follows .mixedOrders=true)
 {pr:Oper->Oper->Bool} (hsw:∀ x y,pr x y=true->Swap C H0 ops x y) (hchk:checkQ pr .any ops order=true) (hlen:order.length=ops.size) {st:ASt} {L:Locs} (hs:stepsG C true H0 ops (opsOf ops order) st K) (hR:Rel G E (OpqS G E) C.N st a.tmps w L) (hd:a.defers=E.ds):(Code.region id ops true).wpIn (FF r) n G.P (QR G E C.N K) a w:=by
 refine wpIn_region_draw fun t=>?_
 refine wpOps_in (k:=E.ds.length) r n ?_ ?_ ?_ _ a _ ?_ ?_
 · rintro a w ⟨st,L,_,_,hd⟩;rw [hd];exact Nat.le_refl _
 · exact fun ch a w h=>h
 · rintro ⟨a,w,h⟩;exact h
 · rw [hd];exact Nat.le_refl _
 · simp only [Region.schedule,hm,Bool.true_or,if_true]
   refine wpAny_sound ops.size t _ a _ ?_
   have hx:=aAny_perm (K:=K) hC hE hsw hchk order [] (Array.replicate ops.size false) st (by simp) (by simp) (fun j hj=>by simp [hj]) hs
   rw [hlen] at hx
   refine aAny_wp hP0 hC rfl (Q:=QR G E C.N K) (fun a w h=>h) ops.size _ a _ ⟨st,L,hx,?_,hd⟩
   exact hR.grow ⟨rfl,rfl,rfl,Nat.le_refl _,fun _ _ _=>rfl,fun _ _ _=>rfl⟩
theorem AWp.perm {T:Plan} (order:List Nat) {id:Nat} {rest:Code} {Q:AX->ASt->Prop} {st:ASt} (hchk:checkP C .any ops order=true) (hlen:order.length=ops.size)
 (h:stepsG C true st.H ops (opsOf ops order) st (fun st'=>wpc C T rest Q st')):AWp C (.seq (.region id ops true) rest) Q st:=by
 intro G E r n hr hF hP0 a w L hR hd
 refine wpIn_seq (wpIn_mono (region_any_inP (id:=id) r n hP0 hF.tabs hF.mono hF.mixed (fun x y=>swap_of_pairP hF.tabs) hchk hlen h hR hd) (fun e a w he=>?_))
 cases e with
 | normal=>
   obtain ⟨st2,L2,h1,h2,h3⟩:=he
   exact wpc_sound rest Q _ h1 G E r n hr hF hP0 a w L2 h2 h3
 | _=>exact he.elim
end
section
variable {C:Ctx} {T:Plan}
theorem AWp.seqc {x y:Code} {Q:AX->ASt->Prop} {st:ASt} (h1:wpc C T x (AX.thn (fun st'=>AWp C y Q st') Q) st):AWp C (.seq x y) Q st:=by
 intro G E r n hr hF hP0 a w L hR hd
 refine wpIn_seq (wpIn_mono (wpc_sound x _ st h1 G E r n hr hF hP0 a w L hR hd) (fun e a w he=>?_))
 cases e with
 | normal=>
   obtain ⟨E',hE,s,L,h2,h2',h3⟩:=he
   have hP0':∀ κ,(E'.L0 κ).isSome=true->κ∈C.pins:=by rw [hE.L0];exact hP0
   exact wpIn_mono (h2 G E' r n hr hF hP0' a w L h2' h3) (fun e a w he=>he.up hE)
 | exit i=>exact he
 | ret=>exact he
 | goto l=>exact he
 | panic c=>exact he
 | outgrown=>exact he
theorem AWp.perm0 (order:List Nat) {id:Nat} {ops:Array Oper} {Q:AX->ASt->Prop} {st:ASt} (hchk:checkP C .any ops order=true) (hlen:order.length=ops.size)
 (h:stepsG C true st.H ops (opsOf ops order) st (fun st'=>Q .normal st')):AWp C (.region id ops true) Q st:=by
 intro G E r n hr hF hP0 a w L hR hd
 refine wpIn_mono (region_any_inP (id:=id) r n hP0 hF.tabs hF.mono hF.mixed (fun x y=>swap_of_pairP hF.tabs) hchk hlen h hR hd) (fun e a w he=>?_)
 cases e with
 | normal=>
   obtain ⟨st2,L2,h1,h2,h3⟩:=he
   exact .of ⟨st2,L2,h1,h2,h3⟩
 | _=>exact he.elim
end
end Go.AM
