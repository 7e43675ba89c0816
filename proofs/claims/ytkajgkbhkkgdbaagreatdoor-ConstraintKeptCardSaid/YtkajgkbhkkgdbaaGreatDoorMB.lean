/-
  A part of a proof.
-/
import Derived.Test.YtkajgkbhkkgdbaaGreatDoorMA
set_option linter.unusedSimpArgs false
set_option linter.unusedVariables false
namespace Go.AM
open Go
section
variable {w:World} {M:Nat->Prop} {L:Locs} {H:AHeap} {S:(List PV->Prop × PV)->Value->Prop} {P:Program}
theorem nth_mem {es:List PV} {i:Nat} (h:i<es.length):es[i]?=some (PV.nth es i):=by
 unfold PV.nth
 rw [List.getD_eq_getElem?_getD,List.getElem?_eq_getElem h];rfl
theorem toNat_lt {n:Int} {m:Nat} (h0:0<=n) (h1:n<m):n.toNat<m:=by omega
theorem indexAt_slice {t e:TypeId} {k:IntKind} {n:Int} {b o len cap sz:Nat} (ht:P.underlying t=some (.slice e)) (hs:szOf P e=some sz) (h0:0<=n) (h1:n<len):
 (Instr.indexAt t (.slice (some ⟨b,o,none⟩) len cap) (.int k n)).run P w=.ok (.pointer (some ⟨b,o+n.toNat * sz,none⟩)) w:=by
 unfold Instr.indexAt
 simp only [Sem.run_bind,run_asInt,Result.andThen_ok,run_underlying ht,Sem.run_pure]
 rw [if_pos ⟨h0,h1⟩]
 simp only [Sem.run_bind,run_szOf hs,Result.andThen_ok,Sem.run_pure,Addr.add_lit]
theorem indexAt_array {t e:TypeId} {k:IntKind} {n:Int} {b o len sz:Nat} (ht:P.underlying t=some (.array len e)) (hs:szOf P e=some sz) (h0:0<=n) (h1:n<len):
 (Instr.indexAt t (.pointer (some ⟨b,o,none⟩)) (.int k n)).run P w=.ok (.pointer (some ⟨b,o+n.toNat * sz,none⟩)) w:=by
 unfold Instr.indexAt
 simp only [Sem.run_bind,run_asInt,Result.andThen_ok,run_underlying ht,Sem.run_pure,Instr.sureAddr]
 rw [if_pos ⟨h0,h1⟩]
 simp only [Sem.run_bind,run_szOf hs,Result.andThen_ok,Sem.run_pure,Addr.add_lit]
theorem pint_inv {k:IntKind} {n:Int} {v:Value} (h:PVRel w M (.int k n) v):v=.int k n:=by cases h;rfl
theorem indexAddrA_run {t:TypeId} {x i:AV} {vx vi:Value} (h:(indexAddrA P H t x i).1) (hx:AVRel w M L H S x vx) (hi:AVRel w M L H S i vi):
 ∃ y,(Instr.indexAt t vx vi).run P w=.ok y w/\AVRel w M L H S (indexAddrA P H t x i).2 y:=by
 unfold indexAddrA at h ⊢
 split at h
 · rename_i e es k n ht
   obtain ⟨h0,h1,hs⟩:=h
   obtain rfl:=int_inv hi
   obtain ⟨a,cap,k',b,o,val,rfl,h2,h3,h4,h5,h6,h7⟩:=sl_inv hx
   have hlt:=toNat_lt h0 h1
   have hne:es≠[]:=by intro e;subst e;simp at hlt
   obtain rfl:=h5 hne
   have hm:=nth_mem hlt
   have hw:(PV.nth es n.toNat).width=k':=h4 _ (List.mem_of_getElem? hm)
   refine ⟨_,indexAt_slice ht hs h0 h1,.pv _ _ ?_⟩
   rw [hw]
   exact .pp _ 0 b (o+n.toNat * k') (val n.toNat) (fun j c hc=>h6 _ _ j c hm hc) (fun j c hc=>h7 _ _ j c hm hc)
 · rename_i e key hi' k n ht
   split at h
   · rename_i k' es hH
     obtain ⟨h0,h1,hs⟩:=h
     obtain rfl:=int_inv hi
     rcases rs_inv hx with ⟨k2,g1,g2,g3,rfl⟩ | ⟨k2,es2,b,cap,g1,g2,g3,rfl⟩
     · omega
     · rw [hH] at g1
       simp only [Option.some.injEq,ABlk.row.injEq] at g1
       obtain ⟨rfl,rfl⟩:=g1
       refine ⟨_,indexAt_slice ht hs h0 h1,?_⟩
       have:=AVRel.rp (w:=w) (M:=M) (S:=S) key n.toNat 0 k' es b cap hH g2 (by omega)
       simpa using this
   · exact h.elim
 · rename_i e key lo hi' sz k n ht
   split at h
   · rename_i k' es hH
     obtain ⟨hsk,h0,h1,hs⟩:=h
     subst hsk
     obtain rfl:=int_inv hi
     obtain ⟨k2,es2,b,cap,cap',a,g1,g2,g3,g4,g5,g6,g7,rfl⟩:=rv_inv hx
     rw [hH] at g1
     simp only [Option.some.injEq,ABlk.row.injEq] at g1
     obtain ⟨rfl,rfl⟩:=g1
     obtain rfl:=g7 (by omega)
     refine ⟨_,indexAt_slice ht hs h0 (by omega),?_⟩
     have:=AVRel.rp (w:=w) (M:=M) (S:=S) key (lo+n.toNat) 0 _ es b cap hH g2 (by omega)
     rw [<- Nat.add_mul]
     simpa using this
   · exact h.elim
 · rename_i len e y k n ht _ _ _
   split at h
   · rename_i sz hs
     obtain ⟨h0,h1,ha⟩:=h
     obtain rfl:=int_inv hi
     obtain ⟨b,o,rfl,hr⟩:=addOff_rel ha hx
     exact ⟨_,indexAt_array (by assumption) hs h0 h1,hr⟩
   · exact h.elim
 · exact h.elim
theorem indexA_run {t:TypeId} {x i:AV} {vx vi:Value} (h:(indexA P t x i).1) (hx:AVRel w M L H S x vx) (hi:AVRel w M L H S i vi):
 ∃ y,(Instr.index t vx vi).run P w=.ok y w/\AVRel w M L H S (indexA P t x i).2 y:=by
 unfold indexA at h ⊢
 split at h
 · rename_i s k n ht
   obtain ⟨h0,h1⟩:=h
   obtain rfl:=int_inv hi
   have hp:=pv_inv hx
   cases hp
   have hlt:=toNat_lt h0 h1
   refine ⟨_,?_,.pv _ _ (.int _ _)⟩
   unfold Instr.index
   simp only [Sem.run_bind,run_asInt,Result.andThen_ok,run_underlying ht]
   rw [if_pos h0]
   have:(⟨s.toArray⟩:ByteArray)[n.toNat]?=some (s.getD n.toNat 0):=by
    rw [List.getD_eq_getElem?_getD,List.getElem?_eq_getElem hlt]
    rw [getElem?_pos (⟨s.toArray⟩:ByteArray) n.toNat (by simpa [ByteArray.size] using hlt)]
    rfl
   simp only [this,Sem.run_pure]
 · rename_i len e cs k n ht
   split at h
   · rename_i sz hs
     obtain ⟨h0,h1,hp⟩:=h
     obtain rfl:=int_inv hi
     have hx':=pv_inv hx
     cases hx' with
     | agg _ vs hs' ho hr=>
       obtain ⟨y,hy,hyr⟩:=part_pure (w:=w) (M:=M) (L:=L) (H:=H) (S:=S) hp hs' ho hr
       refine ⟨y,?_,hyr⟩
       unfold Instr.index
       simp only [Sem.run_bind,run_asInt,Result.andThen_ok,run_underlying ht]
       rw [if_pos ⟨h0,h1⟩]
       simp only [Sem.run_bind,run_szOf hs,Result.andThen_ok,hy]
   · exact h.elim
 · rename_i len e cs k n ht
   split at h
   · rename_i sz hs
     obtain ⟨h0,h1,hp⟩:=h
     obtain rfl:=int_inv hi
     cases hx with
     | agg _ vs hs' hr=>
       obtain ⟨y,hy,hyr⟩:=part_own (w:=w) (M:=M) (L:=L) (H:=H) (S:=S) hp hs' hr
       refine ⟨y,?_,hyr⟩
       unfold Instr.index
       simp only [Sem.run_bind,run_asInt,Result.andThen_ok,run_underlying ht]
       rw [if_pos ⟨h0,h1⟩]
       simp only [Sem.run_bind,run_szOf hs,Result.andThen_ok,hy]
   · exact h.elim
 · exact h.elim
theorem loadA_run {t:TypeId} {x:AV} {vx:Value} (hB:∀ key B,hget H key=some B->BRel w M L H S key B) (h:(loadA P H t x).1) (hx:AVRel w M L H S x vx):
 ∃ y,(Instr.loadAt t vx).run P w=.ok y w/\AVRel w M L H S (loadA P H t x).2 y:=by
 unfold loadA at h ⊢
 split at h
 · rename_i key off
   split at h
   · rename_i cs hH
     obtain ⟨B2,b,cap,g1,gv,g2,rfl⟩:=ptr_inv hx
     obtain ⟨b2,cap2,arr,et,e1,e2,e3,e4⟩:=hB key _ hH
     rw [g2] at e1
     simp only [Option.some.injEq,Prod.mk.injEq] at e1
     obtain ⟨rfl,rfl⟩:=e1
     obtain ⟨y,hy,hr⟩:=load_own (P:=P) h e2 e3 e4
     refine ⟨y,?_,hr⟩
     simp only [Instr.loadAt,Sem.run_bind,Instr.sureAddr,Sem.run_pure,Result.andThen_ok,hy]
   · exact h.elim
 · rename_i key i off
   split at h
   · rename_i k es hH
     obtain ⟨hi,h⟩:=h
     obtain ⟨k2,es2,b,cap,g1,g2,g3,rfl⟩:=rp_inv hx
     rw [hH] at g1
     simp only [Option.some.injEq,ABlk.row.injEq] at g1
     obtain ⟨rfl,rfl⟩:=g1
     have hb:=hB key _ hH
     simp only [BRel,g2] at hb
     obtain ⟨hk,hw,arr,et,e1,e2,e3,e4,e5⟩:=hb
     have hm:=nth_mem hi
     have hwid:=hw _ (List.mem_of_getElem? hm)
     obtain ⟨y,hy,hr⟩:=load_pure (P:=P) (w:=w) (M:=M) (L:=L) (H:=H) (S:=S) (b:=b) (o:=i * k) (fun j=>arr.getD (i * k+j) undef) h
      (fun j c hc=>by
        refine ⟨(e5 i _ j c hm hc).1,?_⟩
        rw [cell_of_row w b _ arr et _ e1]
        have hj:j<k:=by
         have:=(List.getElem?_eq_some_iff.1 hc).1
         have hw':(PV.nth es i).cells.length=k:=hwid
         omega
        have hlt:i * k+j<arr.size:=by
         rw [e2]
         have h1:(i+1) * k<=cap * k:=Nat.mul_le_mul_right _ (by omega)
         have h2:(i+1) * k=i * k+k:=by rw [Nat.add_mul,Nat.one_mul]
         omega
        simp [Array.getD_eq_getD_getElem?,Array.getElem?_eq_getElem hlt])
      (fun j c hc=>(e5 i _ j c hm hc).2)
     refine ⟨y,?_,hr⟩
     simp only [Instr.loadAt,Sem.run_bind,Instr.sureAddr,Sem.run_pure,Result.andThen_ok,hy]
   · exact h.elim
 · rename_i e off
   obtain ⟨b,o,val,rfl,h1,h2⟩:=pp_inv hx
   obtain ⟨y,hy,hr⟩:=load_pure (P:=P) (w:=w) (M:=M) (L:=L) (H:=H) (S:=S) (b:=b) (o:=o) val h (fun j c hc=>(h1 j c hc).2) h2
   refine ⟨y,?_,hr⟩
   simp only [Instr.loadAt,Sem.run_bind,Instr.sureAddr,Sem.run_pure,Result.andThen_ok,hy]
 · exact h.elim
theorem nilCheckA_run {o:Oper} {x:Operand} {a:Act} {v:AV} (ho:o.op=.nilCheck x) (h:(nilCheckA v).1) (hx:AVRel w M L H S v (a.eval x)):
 ∃ y,(execOp a.eval o).run P w=.ok (.value y) w/\AVRel w M L H S (nilCheckA v).2 y:=by
 unfold nilCheckA at h ⊢
 split at h
 · obtain ⟨B,b,cap,g1,gv,g2,g3⟩:=ptr_inv hx
   refine ⟨a.eval x,?_,hx⟩
   simp only [execOp,ho,g3];rfl
 · obtain ⟨k,es,b,cap,g1,g2,g3,g4⟩:=rp_inv hx
   refine ⟨a.eval x,?_,hx⟩
   simp only [execOp,ho,g4];rfl
 · obtain ⟨b,o',val,g3,h1,h2⟩:=pp_inv hx
   refine ⟨a.eval x,?_,hx⟩
   simp only [execOp,ho,g3];rfl
 · rename_i f cs
   have hp:=pv_inv hx
   refine ⟨a.eval x,?_,hx⟩
   generalize hv:a.eval x=v at * 
   cases hp
   simp only [execOp,ho,hv];rfl
 · refine ⟨a.eval x,?_,hx⟩
   generalize hv:a.eval x=v at * 
   cases hx
   simp only [execOp,ho,hv];rfl
 · exact h.elim
end
section
variable {w:World} {M:Nat->Prop} {L:Locs} {H:AHeap} {S:(List PV->Prop × PV)->Value->Prop} {P:Program}
inductive ORel (w:World) (M:Nat->Prop) (L:Locs) (H:AHeap) (S:(List PV->Prop × PV)->Value->Prop):Option AV->Option Value->Prop where
 | none:ORel w M L H S none none
 | some (v:AV) (x:Value):AVRel w M L H S v x->ORel w M L H S (some v) (some x)
theorem natOf_inv {o:Option AV} {v:Option Value} {d:Nat} {n:Int} (h:natOf o d=some n) (hr:ORel w M L H S o v):(v=none/\n=d)\/∃ k,v=some (.int k n):=by
 unfold natOf at h
 split at h
 · cases hr;simp only [Option.some.injEq] at h;exact .inl ⟨rfl,h.symm⟩
 · simp only [Option.some.injEq] at h
   subst h
   cases hr with
   | some v x hx=>exact .inr ⟨_,by rw [int_inv hx]⟩
 · cases h
theorem run_sliceBound {k:IntKind} {n:Int} {y:Nat} {c:BoundsCode} (h0:0<=n) (h1:n<=y):(Instr.sliceBound (.int k n) y c).run P w=.ok n.toNat w:=by
 unfold Instr.sliceBound
 simp only [Sem.run_bind,run_asInt,Result.andThen_ok]
 rw [if_pos ⟨h0,h1⟩];rfl
theorem run_sliceBounds {lo hi:Option AV} {vl vh:Option Value} {l h:Int} {len cap:Nat} (b:Bool) (hl:natOf lo 0=some l) (hh:natOf hi len=some h)
 (rl:ORel w M L H S lo vl) (rh:ORel w M L H S hi vh) (h0:0<=l) (h1:l<=h) (h2:h<=len) (h3:len<=cap):
 (Instr.sliceBounds b len cap vl vh none).run P w=.ok (l.toNat,h.toNat,cap) w:=by
 unfold Instr.sliceBounds
 have hcap:h<=cap:=by omega
 rcases natOf_inv hh rh with ⟨rfl,rfl⟩ | ⟨k,rfl⟩ <;> rcases natOf_inv hl rl with ⟨rfl,rfl⟩ | ⟨k',rfl⟩
 · simp
 · simp only [Sem.run_bind,Sem.run_pure,Result.andThen_ok,Option.isSome_none,Bool.false_eq_true,if_false]
   rw [run_sliceBound h0 h1];simp
 · simp only [Sem.run_bind,Sem.run_pure,Result.andThen_ok]
   rw [run_sliceBound (by omega) hcap];simp
 · simp only [Sem.run_bind,Sem.run_pure,Result.andThen_ok]
   rw [run_sliceBound (by omega) hcap]
   simp only [Result.andThen_ok,Option.isSome_none,Bool.false_eq_true,if_false]
   rw [run_sliceBound h0 (by omega)];simp
theorem sliceA_run {t:TypeId} {x:AV} {vx:Value} {lo hi mx:Option AV} {vl vh vm:Option Value} (hB:∀ key B,hget H key=some B->BRel w M L H S key B) (h:(sliceA P t x lo hi mx).1) (hx:AVRel w M L H S x vx)
 (rl:ORel w M L H S lo vl) (rh:ORel w M L H S hi vh) (rm:ORel w M L H S mx vm):
 ∃ y,(Instr.sliceAt t vx vl vh vm).run P w=.ok y w/\AVRel w M L H S (sliceA P t x lo hi mx).2 y:=by
 unfold sliceA at h ⊢
 split at h
 · rename_i s ht
   cases rm
   split at h
   · rename_i l hh hl hr
     obtain ⟨h0,h1,h2⟩:=h
     have hp:=pv_inv hx
     cases hp
     refine ⟨.string ⟨((s.take hh.toNat).drop l.toNat).toArray⟩,?_,.pv _ _ (.str _)⟩
     unfold Instr.sliceAt
     simp only [Sem.run_bind,run_underlying ht,Result.andThen_ok]
     unfold Instr.slice
     have hsz:(⟨s.toArray⟩:ByteArray).size=s.length:=by simp [ByteArray.size]
     have hb:=run_sliceBounds (P:=P) (w:=w) (M:=M) (L:=L) (H:=H) (S:=S) false hl hr rl rh h0 h1 h2 (Nat.le_refl _)
     simp only [Sem.run_bind,run_underlying ht,Result.andThen_ok,Option.isSome_none,Bool.false_eq_true,if_false,hsz,hb,Sem.run_pure]
     rw [Lib.extract_eq]
     simp [List.drop_take]
   · exact h.elim
 · rename_i e es ht
   cases rm
   split at h
   · rename_i l hh hl hr
     obtain ⟨h0,h1,h2,hsz,hww⟩:=h
     obtain ⟨a,cap,k,b,o,val,rfl,g2,g3,g4,g5,g6,g7⟩:=sl_inv hx
     obtain ⟨sz,hsz⟩:=Option.isSome_iff_exists.1 hsz
     have hb:=run_sliceBounds (P:=P) (w:=w) (M:=M) (L:=L) (H:=H) (S:=S) true hl hr rl rh h0 h1 h2 g2
     unfold Instr.sliceAt
     simp only [Sem.run_bind,run_underlying ht,Result.andThen_ok]
     unfold Instr.slice
     simp only [Sem.run_bind,run_underlying ht,Result.andThen_ok,hb,run_szOf hsz,Sem.run_pure]
     refine ⟨_,rfl,.pv _ _ ?_⟩
     have hlen:((es.take hh.toNat).drop l.toNat).length=hh.toNat-l.toNat:=by simp;omega
     have hrel:PVRel w M (.sl ((es.take hh.toNat).drop l.toNat)) (.slice (if cap=l.toNat then a else a.map fun x=>x.add (l.toNat * sz)) ((es.take hh.toNat).drop l.toNat).length (cap-l.toNat)):=by
      refine .sl _ _ _ k b (o+l.toNat * k) (fun i j=>val (l.toNat+i) j) (by omega) (by omega) (fun e he=>g4 e (List.mem_of_mem_take (List.mem_of_mem_drop he))) (fun hne=>?_) (fun i e j c he hc=>?_) (fun i e j c he hc=>?_)
      · have hlt:l.toNat<hh.toNat:=by
          have:=List.length_pos_iff.2 hne
          omega
        have hne':es≠[]:=by intro e;subst e;simp at hne
        rw [if_neg (by omega),g5 hne']
        have hk:sz=k:=by
         obtain ⟨p,hp⟩:=List.exists_mem_of_ne_nil _ hne'
         have h1:=hww p hp
         rw [g4 p hp,hsz] at h1
         exact Option.some.inj h1
        simp [Addr.add_lit,hk]
      · rw [List.getElem?_drop,List.getElem?_take] at he
        split at he
        · have:=g6 _ e j c he hc
          rw [Nat.add_assoc o,<- Nat.add_mul];exact this
        · cases he
      · rw [List.getElem?_drop,List.getElem?_take] at he
        split at he
        · exact g7 _ e j c he hc
        · cases he
     rw [hlen] at hrel
     exact hrel
   · exact h.elim
 · rename_i e ht
   cases rm
   split at h
   · rename_i l hh hl hr
     obtain ⟨rfl,rfl,hsz⟩:=h
     cases hx
     obtain ⟨sz,hsz⟩:=Option.isSome_iff_exists.1 hsz
     have hb:=run_sliceBounds (P:=P) (w:=w) (M:=M) (L:=L) (H:=H) (S:=S) (len:=0) (cap:=0) true hl hr rl rh (by omega) (by omega) (by omega) (Nat.le_refl _)
     unfold Instr.sliceAt
     simp only [Sem.run_bind,run_underlying ht,Result.andThen_ok]
     unfold Instr.slice
     simp only [Sem.run_bind,run_underlying ht,Result.andThen_ok,hb,run_szOf hsz,Sem.run_pure]
     exact ⟨_,rfl,.pv _ _ (.sl [] none 0 0 0 0 (fun _ _=>undef) (by simp) (by simp [maxLen]) (by simp) (by simp) (by simp) (by simp))⟩
   · exact h.elim
 · rename_i e key n ht
   cases rm
   split at h
   · split at h
     · rename_i hh hr
       obtain ⟨h0,h2,hsz⟩:=h
       obtain ⟨sz,hsz⟩:=Option.isSome_iff_exists.1 hsz
       rcases rs_inv hx with ⟨k,g1,g2,rfl,rfl⟩ | ⟨k,es,b,cap,g1,g2,g3,rfl⟩
       · have hb:=run_sliceBounds (P:=P) (w:=w) (M:=M) (L:=L) (H:=H) (S:=S) (len:=0) (cap:=0) (l:=0) true rfl hr rl rh (by omega) h0 h2 (Nat.le_refl _)
         have e0:hh=0:=by omega
         subst e0
         unfold Instr.sliceAt
         simp only [Sem.run_bind,run_underlying ht,Result.andThen_ok]
         unfold Instr.slice
         simp only [Sem.run_bind,run_underlying ht,Result.andThen_ok,hb,run_szOf hsz,Sem.run_pure]
         exact ⟨_,rfl,.rsN key k g1 g2⟩
       · have hbk:=hB key _ g1
         simp only [BRel,g2] at hbk
         obtain ⟨hk0,hw0,arr,et,f1,f2,f3,f4,f5⟩:=hbk
         have hb:=run_sliceBounds (P:=P) (w:=w) (M:=M) (L:=L) (H:=H) (S:=S) (len:=n) (cap:=cap) (l:=0) true rfl hr rl rh (by omega) h0 h2 (by omega)
         unfold Instr.sliceAt
         simp only [Sem.run_bind,run_underlying ht,Result.andThen_ok]
         unfold Instr.slice
         simp only [Sem.run_bind,run_underlying ht,Result.andThen_ok,hb,run_szOf hsz,Sem.run_pure]
         refine ⟨_,rfl,?_⟩
         have:=AVRel.rs (w:=w) (M:=M) (S:=S) key hh.toNat k es b cap g1 g2 (by omega)
         simpa [Addr.add_lit] using this
     · exact h.elim
   · split at h
     · rename_i l hh sz hl hr hsz
       obtain ⟨h0,h1,h2,hn⟩:=h
       rcases rs_inv hx with ⟨k,g1,g2,rfl,rfl⟩ | ⟨k,es,b,cap,g1,g2,g3,rfl⟩
       · omega
       · have hbk:=hB key _ g1
         simp only [BRel,g2] at hbk
         obtain ⟨hk0,hw0,arr,et,f1,f2,f3,f4,f5⟩:=hbk
         have hb:=run_sliceBounds (P:=P) (w:=w) (M:=M) (L:=L) (H:=H) (S:=S) (len:=n) (cap:=cap) true hl hr rl rh h0 h1 h2 (by omega)
         unfold Instr.sliceAt
         simp only [Sem.run_bind,run_underlying ht,Result.andThen_ok]
         unfold Instr.slice
         simp only [Sem.run_bind,run_underlying ht,Result.andThen_ok,hb,run_szOf hsz,Sem.run_pure]
         refine ⟨_,rfl,?_⟩
         refine .rv key l.toNat hh.toNat sz k es b cap (cap-l.toNat) _ g1 g2 (by omega) (by omega) (by omega) (by omega) (fun hlt=>?_)
         rw [if_neg (by omega)]
         simp [Addr.add_lit]
     · exact h.elim
 · exact h.elim
theorem isStrD_eq {d:Option TypeDesc} (h:isStrD d=true):d=some .string:=by
 unfold isStrD at h;split at h <;> simp_all
theorem isSliceD_eq {d:Option TypeDesc} (h:isSliceD d=true):∃ e,d=some (.slice e):=by
 unfold isSliceD at h;split at h <;> simp_all
theorem len_slice {t e ty:TypeId} {a:Option Addr} {n c:Nat} (he:P.underlying t=some (.slice e)):(Builtin.len_ #[t] ty #[.slice a n c]).run P w=.ok (.int .i64 n) w:=by
 simp [Builtin.len_,run_underlying he,goInt]
theorem len_string {t ty:TypeId} {s:ByteArray} (he:P.underlying t=some .string):(Builtin.len_ #[t] ty #[.string s]).run P w=.ok (.int .i64 s.size) w:=by
 simp [Builtin.len_,run_underlying he,goInt]
theorem lenA_run {t:TypeId} {v:AV} {x:Value} {ty:TypeId} (h:(lenA (P.underlying t) H v).1) (hx:AVRel w M L H S v x):
 ∃ y,(Builtin.len_ #[t] ty #[x]).run P w=.ok y w/\AVRel w M L H S (lenA (P.underlying t) H v).2 y:=by
 unfold lenA at h ⊢
 split at h
 · rename_i s
   have hp:=pv_inv hx
   cases hp
   refine ⟨_,len_string (isStrD_eq h),.pv _ _ ?_⟩
   have:(⟨s.toArray⟩:ByteArray).size=s.length:=by simp [ByteArray.size]
   rw [this];exact .int _ _
 · rename_i es
   obtain ⟨a,cap,k,b,o,val,rfl,g2,g3,g4,g5,g6,g7⟩:=sl_inv hx
   obtain ⟨e,he⟩:=isSliceD_eq h
   exact ⟨_,len_slice he,.pv _ _ (.int _ _)⟩
 · cases hx
   obtain ⟨e,he⟩:=isSliceD_eq h
   exact ⟨_,len_slice he,.pv _ _ (.int _ _)⟩
 · rename_i key hi
   split at h
   · obtain ⟨e,he⟩:=isSliceD_eq h
     rcases rs_inv hx with ⟨k2,g1,g2,g3,rfl⟩ | ⟨k2,es2,b,cap,g1,g2,g3,rfl⟩
     · subst g3
       exact ⟨_,len_slice he,.pv _ _ (.int _ _)⟩
     · exact ⟨_,len_slice he,.pv _ _ (.int _ _)⟩
   · exact h.elim
 · rename_i key lo hi
   split at h
   · obtain ⟨e,he⟩:=isSliceD_eq h
     obtain ⟨k2,es2,b,cap,cap',a,g1,g2,g3,g4,g5,g6,g7,rfl⟩:=rv_inv hx
     exact ⟨_,len_slice he,.pv _ _ (.int _ _)⟩
   · exact h.elim
 · exact h.elim
inductive LRel (w:World) (M:Nat->Prop) (L:Locs) (H:AHeap) (S:(List PV->Prop × PV)->Value->Prop):List AV->List Value->Prop where
 | nil:LRel w M L H S [] []
 | cons (v:AV) (x:Value) (vs:List AV) (xs:List Value):AVRel w M L H S v x->LRel w M L H S vs xs->LRel w M L H S (v::vs) (x::xs)
theorem LRel.of_ops {ρ:Nat->AV} {a:Act} (he:∀ s,AVRel w M L H S (ρ s) (a.tmps.getD s undef)):∀ (l:List Operand),allC ρ l->LRel w M L H S (l.map (Go.AM.ox ρ)) (l.map a.eval)
 | [],_=>.nil
 | x::r,h=>.cons _ _ _ _ (ox_rel he x h.1) (LRel.of_ops he r h.2)
theorem LRel.length {vs:List AV} {xs:List Value} (h:LRel w M L H S vs xs):vs.length=xs.length:=by
 induction h with
 | nil=>rfl
 | cons v x vs xs _ _ ih=>simp [ih]
theorem LRel.get {vs:List AV} {xs:List Value} (h:LRel w M L H S vs xs):∀ (i:Nat) (v:AV),vs[i]?=some v->∃ x,xs[i]?=some x/\AVRel w M L H S v x:=by
 induction h with
 | nil=>intro i v hv;simp at hv
 | cons v x vs xs h1 _ ih=>
   intro i u hu
   cases i with
   | zero=>simp at hu;subst hu;exact ⟨x,rfl,h1⟩
   | succ i=>simpa using ih i u (by simpa using hu)
theorem LRel.append {vs us:List AV} {xs ys:List Value} (h:LRel w M L H S vs xs) (k:LRel w M L H S us ys):LRel w M L H S (vs++us) (xs++ys):=by
 induction h with
 | nil=>exact k
 | cons v x vs xs h1 _ ih=>exact .cons _ _ _ _ h1 ih
theorem LRel.of_idx {vs:List AV}:∀ {xs:List Value},xs.length=vs.length->(∀ (i:Nat) (v:AV),vs[i]?=some v->AVRel w M L H S v (xs.getD i undef))->LRel w M L H S vs xs:=by
 induction vs with
 | nil=>intro xs hl _;cases xs with | nil=>exact .nil | cons=>simp at hl
 | cons v vs ih=>
   intro xs hl h
   cases xs with
   | nil=>simp at hl
   | cons x xs=>exact .cons _ _ _ _ (by simpa using h 0 v rfl) (ih (by simpa using hl) (fun i u hu=>by simpa using h (i+1) u (by simpa using hu)))
theorem foldI_run (pick:Int->Int->Int) (f:Value->Value->Sem Value) (hf:∀ k k' x y w,(f (.int k x) (.int k' y)).run P w=.ok (.int k (pick x y)) w):
 ∀ (l:List AV) (xs:List Value) (k:IntKind) (a:Int) (k':IntKind) (b:Int),foldI pick k a l=some (k',b)->LRel w M L H S l xs->
  (xs.foldlM f (.int k a)).run P w=.ok (.int k' b) w:=by
 intro l
 induction l with
 | nil=>
   intro xs k a k' b h hr
   cases hr
   simp only [foldI,Option.some.injEq,Prod.mk.injEq] at h
   obtain ⟨rfl,rfl⟩:=h
   simp
 | cons v l ih=>
   intro xs k a k' b h hr
   cases hr with
   | cons _ x _ xs h1 h2=>
     unfold foldI at h
     split at h
     · cases ‹_::_=[]›
     · rename_i heq
       simp only [List.cons.injEq] at heq
       obtain ⟨rfl,rfl⟩:=heq
       obtain rfl:=int_inv h1
       simp only [List.foldlM_cons,Sem.run_bind,hf,Result.andThen_ok]
       exact ih _ _ _ _ _ h h2
     · cases h
theorem min_run {ts:Array TypeId} {ty:TypeId} {l:List AV} {xs:List Value} (h:(minmaxA (fun a b=>if b<a then b else a) l).1) (hr:LRel w M L H S l xs):
 ∃ y,(Builtin.min_ ts ty xs.toArray).run P w=.ok y w/\AVRel w M L H S (minmaxA (fun a b=>if b<a then b else a) l).2 y:=by
 unfold minmaxA at h ⊢
 split at h
 · cases hr with
   | cons _ x _ xs h1 h2=>
     split at h
     · rename_i k a hf
       obtain rfl:=int_inv h1
       refine ⟨_,?_,.pv _ _ (.int k a)⟩
       unfold Builtin.min_
       exact foldI_run _ _ (fun k k' x y w=>rfl) _ _ _ _ _ _ hf h2
     · exact h.elim
 · exact h.elim
theorem max_run {ts:Array TypeId} {ty:TypeId} {l:List AV} {xs:List Value} (h:(minmaxA (fun a b=>if b>a then b else a) l).1) (hr:LRel w M L H S l xs):
 ∃ y,(Builtin.max_ ts ty xs.toArray).run P w=.ok y w/\AVRel w M L H S (minmaxA (fun a b=>if b>a then b else a) l).2 y:=by
 unfold minmaxA at h ⊢
 split at h
 · cases hr with
   | cons _ x _ xs h1 h2=>
     split at h
     · rename_i k a hf
       obtain rfl:=int_inv h1
       refine ⟨_,?_,.pv _ _ (.int k a)⟩
       unfold Builtin.max_
       exact foldI_run _ _ (fun k k' x y w=>rfl) _ _ _ _ _ _ hf h2
     · exact h.elim
 · exact h.elim
theorem ifaceA_run {t:TypeId} {v:AV} {x:Value} (h:(ifaceA P t v).1) (hx:AVRel w M L H S v x):∃ y,(Instr.makeInterface t x).run P w=.ok y w/\AVRel w M L H S (ifaceA P t v).2 y:=by
 unfold ifaceA at h ⊢
 split at h
 · have hp:=pv_inv hx
   refine ⟨.iface t x,?_,.pv _ _ (.iface _ _ _ hp)⟩
   unfold Instr.makeInterface
   cases hu:P.underlying t with
   | none=>simp [hu] at h
   | some d=>
     simp only [Sem.run_bind,run_underlying hu,Result.andThen_ok]
     rw [hu] at h
     cases d <;> first | rfl | exact h.elim
 · exact h.elim
theorem pvL_rel {l:List AV} {ps:List PV} {xs:List Value} (h:pvL l=some ps) (hr:LRel w M L H S l xs):xs.length=ps.length/\∀ i p,ps[i]?=some p->PVRel w M p (xs.getD i undef):=by
 induction hr generalizing ps with
 | nil=>simp only [pvL,Option.some.injEq] at h;subst h;simp
 | cons v x vs xs h1 _ ih=>
   cases v <;> simp only [pvL] at h <;> try (cases h;done)
   rename_i p
   obtain ⟨qs,hq,rfl⟩:=Option.map_eq_some_iff.1 h
   obtain ⟨i1,i2⟩:=ih hq
   refine ⟨by simp [i1],fun i q hi=>?_⟩
   cases i with
   | zero=>simp at hi;subst hi;exact pv_inv h1
   | succ i=>simpa using i2 i q (by simpa using hi)
theorem getD_toArray (xs:List Value) (i:Nat):xs.toArray.getD i undef=xs.getD i undef:=by
 simp [Array.getD_eq_getD_getElem?,List.getD_eq_getElem?_getD]
end
section
variable {w:World} {M:Nat->Prop} {L:Locs} {H:AHeap} {S:(List PV->Prop × PV)->Value->Prop} {P:Program}
def CRel (w:World) (M:Nat->Prop) (L:Locs) (H:AHeap) (S:(List PV->Prop × PV)->Value->Prop) (cs:List AV) (arr:Array Value):Prop:=
 arr.size=cs.length/\∀ (j:Nat) (c:AV),cs[j]?=some c->AVRel w M L H S c (arr.getD j undef)
def putA:Nat->List Value->Array Value->Array Value
 | _,[],arr=>arr
 | off,x::xs,arr=>putA (off+1) xs (arr.setIfInBounds off x)
theorem CRel.set {cs:List AV} {arr:Array Value} (h:CRel w M L H S cs arr) (i:Nat) {v:AV} {x:Value} (hv:AVRel w M L H S v x):CRel w M L H S (cs.set i v) (arr.setIfInBounds i x):=by
 obtain ⟨h1,h2⟩:=h
 refine ⟨by simp [h1],fun j c hc=>?_⟩
 rw [List.getElem?_set] at hc
 split at hc
 · rename_i e
   subst e
   split at hc
   · rename_i hlt
     simp only [Option.some.injEq] at hc
     subst hc
     have:(arr.setIfInBounds i x).getD i undef=x:=by simp [Array.getD_eq_getD_getElem?,h1,hlt]
     rw [this];exact hv
   · cases hc
 · rename_i e
   have:(arr.setIfInBounds i x).getD j undef=arr.getD j undef:=by
    simp only [Array.getD_eq_getD_getElem?]
    rw [Array.getElem?_setIfInBounds_ne e]
   rw [this];exact h2 j c hc
theorem CRel.put {vs:List AV} {xs:List Value} (hv:LRel w M L H S vs xs):∀ (off:Nat) {cs:List AV} {arr:Array Value},CRel w M L H S cs arr->CRel w M L H S (putL off vs cs) (putA off xs arr):=by
 induction hv with
 | nil=>intro off cs arr h;exact h
 | cons v x vs xs h1 _ ih=>intro off cs arr h;exact ih (off+1) (h.set off h1)
theorem fold_putA:∀ (xs:List Value) (k off:Nat) (arr:Array Value),((xs.zipIdx k).foldl (fun cs (cj:Value × Nat)=>cs.setIfInBounds (off+cj.2) cj.1) arr)=putA (off+k) xs arr
 | [],_,_,_=>rfl
 | x::xs,k,off,arr=>by
   simp only [List.zipIdx_cons,List.foldl_cons,putA]
   rw [fold_putA xs (k+1) off]
   rfl
theorem fold_cells (v:Value) (off:Nat) (arr:Array Value):(v.cells.zipIdx.foldl (fun cs (x:Value × Nat)=>match x with | (c,j)=>cs.setIfInBounds (off+j) c) arr)=putA off v.cells.toList arr:=by
 have:=fold_putA v.cells.toList 0 off arr
 simp only [Nat.add_zero] at this
 rw [<- this,<- Array.foldl_toList,Array.toList_zipIdx]
theorem fix_cells {x:Value} (h:x.oneCell'=true):x.cells=#[x]:=by
 cases x <;> first | rfl | (simp [Value.oneCell'] at h)
theorem cellsA_rel {v:AV} {x:Value} (h:(cellsA v).all AV.one=true) (hx:AVRel w M L H S v x):LRel w M L H S (cellsA v) x.cells.toList:=by
 unfold cellsA at h ⊢
 split at h
 · rename_i cs
   have hp:=pv_inv hx
   cases hp with
   | agg _ vs hs ho hr=>
     refine LRel.of_idx (by simp [Value.cells,hs]) (fun i c hc=>?_)
     rw [List.getElem?_map] at hc
     obtain ⟨p,hp,rfl⟩:=Option.map_eq_some_iff.1 hc
     have:=hr i p hp
     simp only [Value.cells]
     have e:vs.toList.getD i undef=vs.getD i undef:=by simp [List.getD_eq_getElem?_getD,Array.getD_eq_getD_getElem?]
     rw [e];exact .pv _ _ this
 · rename_i cs
   cases hx with
   | agg _ vs hs hr=>
     refine LRel.of_idx (by simp [Value.cells,hs]) (fun i c hc=>?_)
     simp only [Value.cells]
     have e:vs.toList.getD i undef=vs.getD i undef:=by simp [List.getD_eq_getElem?_getD,Array.getD_eq_getD_getElem?]
     rw [e];exact hr i c hc
 · rename_i h1 h2
   simp only [List.all_cons,List.all_nil,Bool.and_true] at h
   have:x.cells=#[x]:=by
    cases v <;> simp only [AV.one] at h <;> try (cases h;done)
    · rename_i p
      have hp:=pv_inv hx
      cases hp <;> first | rfl | simp [PV.one] at h
    all_goals (cases hx <;> first | rfl | (rename_i h1;exact fix_cells h1))
   rw [this]
   exact .cons _ _ _ _ hx .nil
theorem fillA_run {place:Nat->Option (Nat × Nat)} {pl:Nat->Option (Nat × Nat)} (hpl:∀ i x,place i=some x->pl i=some x):
 ∀ (parts:List (Nat × AV)) (xs:List (Nat × Value)) (cells cs:List AV) (arr:Array Value),fillA place cells parts=some cs->parts.all (fun x=>(cellsA x.2).all AV.one)=true->CRel w M L H S cells arr->
  xs.map (·.1)=parts.map (·.1)->LRel w M L H S (parts.map (·.2)) (xs.map (·.2))->∃ arr',Instr.fill pl arr xs=some arr'/\CRel w M L H S cs arr':=by
 intro parts
 induction parts with
 | nil=>
   intro xs cells cs arr h _ hc hm hr
   cases xs with
   | nil=>simp only [fillA,Option.some.injEq] at h;subst h;exact ⟨arr,rfl,hc⟩
   | cons=>simp at hm
 | cons p parts ih=>
   intro xs cells cs arr h ho hc hm hr
   obtain ⟨i,v⟩:=p
   cases xs with
   | nil=>simp at hm
   | cons y xs=>
     obtain ⟨i',x⟩:=y
     simp only [List.map_cons,List.cons.injEq] at hm
     obtain ⟨rfl,hm⟩:=hm
     simp only [List.map_cons] at hr
     cases hr with
     | cons _ _ _ _ h1 h2=>
       simp only [List.all_cons,Bool.and_eq_true] at ho
       simp only [fillA] at h
       split at h
       · cases h
       · next off size hplace=>
           split at h
           · rename_i hcond
             obtain ⟨hl,hb⟩:=hcond
             have hcr:=cellsA_rel ho.1 h1
             have hlen:x.cells.size=size:=by rw [<- Array.length_toList,<- hcr.length,hl]
             obtain ⟨arr',ha,hcr'⟩:=ih xs (putL off (cellsA v) cells) cs (putA off x.cells.toList arr) h ho.2 (CRel.put hcr off hc) hm h2
             refine ⟨arr',?_,hcr'⟩
             unfold Instr.fill
             rw [hpl _ _ hplace]
             have hsz:=hc.1
             have:(decide (x.cells.size≠size)||decide (off+x.cells.size>arr.size))=false:=by
              simp [hlen];omega
             simp only [this,Bool.false_eq_true,if_false]
             rw [fold_cells]
             exact ha
           · cases h
theorem run_zeroT {t:TypeId} {z:Value} (h:zeroT P t=some z) (w:World):(zeroValue t).run P w=.ok z w:=by
 unfold zeroT at h
 obtain ⟨i,hi,hz⟩:=Option.bind_eq_some_iff.1 h
 simp [zeroValue,typeInfo,hi,hz]
theorem run_mapM_places {fs:List Field} (h:fs.all (fun f=>(szOf P f.type).isSome)=true) (w:World):
 ∃ l:List (Nat × Nat),((fs.mapM fun f=>do pure (f.offset,<- sizeOf f.type):Sem (List (Nat × Nat)))).run P w=.ok l w/\∀ (i:Nat) x,fieldPlaces P fs i=some x->l[i]?=some x:=by
 induction fs with
 | nil=>exact ⟨[],rfl,fun i x hx=>by simp [fieldPlaces] at hx⟩
 | cons f fs ih=>
   simp only [List.all_cons,Bool.and_eq_true] at h
   obtain ⟨n,hn⟩:=Option.isSome_iff_exists.1 h.1
   obtain ⟨l,hl,hp⟩:=ih h.2
   refine ⟨(f.offset,n)::l,?_,fun i x hx=>?_⟩
   · simp only [List.mapM_cons,Sem.run_bind,run_szOf hn,Result.andThen_ok,Sem.run_pure,hl]
   · cases i with
     | zero=>simp only [fieldPlaces,List.getElem?_cons_zero,hn,Option.map_some,Option.some.injEq] at hx;simp [hx]
     | succ i=>simpa using hp i x (by simpa [fieldPlaces] using hx)
theorem packA_rel {cs:List AV} {arr:Array Value} (h:CRel w M L H S cs arr) (ho:∀ c,c∈cs->c.one=true):AVRel w M L H S (packA cs) (.agg arr):=by
 unfold packA
 split
 · rename_i ps hps
   have hr:LRel w M L H S cs arr.toList:=LRel.of_idx (by simp [h.1]) (fun i v hv=>by
    have e:arr.toList.getD i undef=arr.getD i undef:=by simp [List.getD_eq_getElem?_getD,Array.getD_eq_getD_getElem?]
    rw [e];exact h.2 i v hv)
   obtain ⟨h1,h2⟩:=pvL_rel hps hr
   refine .pv _ _ (.agg _ _ (by simpa using h1) (fun c hc=>?_) (fun i c hc=>?_))
   · have:∀ (l:List AV) (qs:List PV),pvL l=some qs->(∀ c,c∈l->c.one=true)->∀ q,q∈qs->q.one=true:=by
       intro l
       induction l with
       | nil=>intro qs hq _ q hm;simp only [pvL,Option.some.injEq] at hq;subst hq;simp at hm
       | cons v l ih=>
         intro qs hq ho q hm
         cases v <;> simp only [pvL] at hq <;> try (cases hq;done)
         obtain ⟨rs,hrs,rfl⟩:=Option.map_eq_some_iff.1 hq
         rcases List.mem_cons.1 hm with rfl | hm
         · exact ho _ List.mem_cons_self
         · exact ih rs hrs (fun c hc=>ho c (List.mem_cons_of_mem _ hc)) q hm
     exact this cs ps hps ho c hc
   · have e:arr.toList.getD i undef=arr.getD i undef:=by simp [List.getD_eq_getElem?_getD,Array.getD_eq_getD_getElem?]
     rw [<- e];exact h2 i c hc
 · exact .agg _ _ h.1 h.2
theorem mem_set {α:Type} {l:List α} {i:Nat} {a x:α} (h:x∈l.set i a):x=a\/x∈l:=by
 rcases List.mem_or_eq_of_mem_set h with h | h
 · exact .inr h
 · exact .inl h
theorem mem_putL {vs:List AV}:∀ {off:Nat} {cs:List AV} {x:AV},x∈putL off vs cs->x∈vs\/x∈cs:=by
 induction vs with
 | nil=>intro off cs x h;exact .inr h
 | cons v vs ih=>
   intro off cs x h
   rcases ih h with h | h
   · exact .inl (List.mem_cons_of_mem _ h)
   · rcases mem_set h with rfl | h
     · exact .inl List.mem_cons_self
     · exact .inr h
theorem fillA_mem {place:Nat->Option (Nat × Nat)}:∀ (parts:List (Nat × AV)) (cells cs:List AV),fillA place cells parts=some cs->parts.all (fun x=>(cellsA x.2).all AV.one)=true->
 (∀ c,c∈cells->c.one=true)->∀ c,c∈cs->c.one=true:=by
 intro parts
 induction parts with
 | nil=>intro cells cs h _ hc;simp only [fillA,Option.some.injEq] at h;subst h;exact hc
 | cons p parts ih=>
   intro cells cs h ho hc
   obtain ⟨i,v⟩:=p
   simp only [List.all_cons,Bool.and_eq_true] at ho
   simp only [fillA] at h
   split at h
   · cases h
   · next off size hplace=>
       split at h
       · refine ih _ _ h ho.2 (fun c hm=>?_)
         rcases mem_putL hm with hm | hm
         · exact List.all_eq_true.1 ho.1 c hm
         · exact hc c hm
       · cases h
theorem buildA_run {t:TypeId} {parts:List (Nat × AV)} {xs:List (Nat × Value)} (h:(buildA P t parts).1) (hm:xs.map (·.1)=parts.map (·.1)) (hr:LRel w M L H S (parts.map (·.2)) (xs.map (·.2))):
 ∃ y,(Instr.build t xs.toArray).run P w=.ok y w/\AVRel w M L H S (buildA P t parts).2 y:=by
 unfold buildA at h ⊢
 split at h
 · rename_i z hz
   split at h
   · rename_i fs hu
     split at h
     · rename_i cs hf
       obtain ⟨hsz,ho,hoz⟩:=h
       obtain ⟨l,hl,hpl⟩:=run_mapM_places hsz w
       have hz0:=cellsA_rel hoz (ofV_rel (w:=w) (M:=M) (L:=L) (H:=H) (S:=S) z)
       have hc0:CRel w M L H S (cellsA (ofV z)) z.cells:=⟨by rw [hz0.length];simp,fun j c hc=>by
        obtain ⟨x,hx,hr'⟩:=hz0.get j c hc
        have e:z.cells.getD j undef=x:=by
         rw [Array.getElem?_toList] at hx
         simp [Array.getD_eq_getD_getElem?,hx]
        rw [e];exact hr'⟩
       obtain ⟨arr,ha,hcr⟩:=fillA_run (pl:=(l.toArray[·]?)) (fun i x hx=>by simpa using hpl i x hx) parts xs _ cs z.cells hf ho hc0 hm hr
       refine ⟨.agg arr,?_,packA_rel hcr (fillA_mem _ _ _ hf ho (fun c hc=>List.all_eq_true.1 hoz c hc))⟩
       unfold Instr.build
       have hmap:(fs.mapM fun f=>do pure (f.offset,<- sizeOf f.type):Sem (Array (Nat × Nat))).run P w=.ok l.toArray w:=by
        rw [<- Array.toArray_toList (xs:=fs),List.mapM_toArray]
        simp only [Sem.run_map,hl,Result.andThen_ok]
       simp only [Sem.run_bind,run_zeroT hz,Result.andThen_ok,run_underlying hu,hmap,ha,Sem.run_pure]
     · exact h.elim
   · rename_i len e hu
     split at h
     · rename_i n hn
       split at h
       · rename_i cs hf
         obtain ⟨ho,hoz⟩:=h
         have hz0:=cellsA_rel hoz (ofV_rel (w:=w) (M:=M) (L:=L) (H:=H) (S:=S) z)
         have hc0:CRel w M L H S (cellsA (ofV z)) z.cells:=⟨by rw [hz0.length];simp,fun j c hc=>by
          obtain ⟨x,hx,hr'⟩:=hz0.get j c hc
          have e:z.cells.getD j undef=x:=by
           rw [Array.getElem?_toList] at hx
           simp [Array.getD_eq_getD_getElem?,hx]
          rw [e];exact hr'⟩
         obtain ⟨arr,ha,hcr⟩:=fillA_run (pl:=fun i=>some (i * n,n)) (fun i x hx=>hx) parts xs _ cs z.cells hf ho hc0 hm hr
         refine ⟨.agg arr,?_,packA_rel hcr (fillA_mem _ _ _ hf ho (fun c hc=>List.all_eq_true.1 hoz c hc))⟩
         unfold Instr.build
         simp only [Sem.run_bind,run_zeroT hz,Result.andThen_ok,run_underlying hu,run_szOf hn,ha,Sem.run_pure]
       · exact h.elim
     · exact h.elim
   · exact h.elim
 · exact h.elim
end
end Go.AM
