/-
  A part of a proof.
-/
import Derived.Test.YtkajgkbhkkgdbaaGreatDoorCM
import Derived.LaidLaws
import Derived.Shelf.Vars
import Derived.ChangeSlices
import Derived.Carry
import Derived.WideKeyArgs
set_option linter.unusedVariables false
namespace Go.AM
open Go Go.Proofs
def cellE (g:Nat) (w:World):Prop:=∃ ev,w.cell? ⟨g,0,none⟩=some ev/\(ev=.nilIface\/∃ te pe,ev=.iface te pe)
def cellI (g:Nat) (w:World):Prop:=∃ m,w.cell? ⟨g,0,none⟩=some (.int .i64 m)
theorem cell_same {w w':World} {g o:Nat} (h:w'.heap[g]?=w.heap[g]?):w'.cell? ⟨g,o,none⟩=w.cell? ⟨g,o,none⟩:=by
 unfold World.cell?
 rw [h]
noncomputable def globE (P:Program) (gs gr gm gt nG:Nat) (h:gs<nG/\gr<nG/\gm<nG/\gt<nG) (ht:P.globalNamed "internal/strconv.uint64pow10" = some gt):Glob where
 P:=P
 nG:=nG
 I:=fun w=>(cellE gs w/\cellE gr w)/\cellI gm w/\Lib.TabIs P w "internal/strconv.uint64pow10" .u64 Lib.pow10Tab
 stable:=fun w w' ⟨⟨h1,h2⟩,h3,h4⟩ hb hs=>by
  refine ⟨⟨?_,?_⟩,?_,?_⟩
  · obtain ⟨e,a,b⟩:=h1
    exact ⟨e,(cell_same (hb gs h.1)).trans a,b⟩
  · obtain ⟨e,a,b⟩:=h2
    exact ⟨e,(cell_same (hb gr h.2.1)).trans a,b⟩
  · obtain ⟨m,a⟩:=h3
    exact ⟨m,(cell_same (hb gm h.2.2.1)).trans a⟩
  · unfold Lib.TabIs World.var? at h4 ⊢
    rw [ht] at h4 ⊢
    simp only [Option.bind_some] at h4 ⊢
    rw [hb gt h.2.2.2]
    exact h4
theorem globE_size {P:Program} {gs gr gm gt nG:Nat} {h:gs<nG/\gr<nG/\gm<nG/\gt<nG} {ht:P.globalNamed "internal/strconv.uint64pow10" = some gt} {w:World} (hI:(globE P gs gr gm gt nG h ht).I w):
 gs<w.heap.size/\gr<w.heap.size/\gm<w.heap.size/\gt<w.heap.size:=by
 obtain ⟨⟨⟨_,a,_⟩,_,b,_⟩,⟨_,c⟩,d⟩:=hI
 refine ⟨block_lt_of_cell a,block_lt_of_cell b,block_lt_of_cell c,?_⟩
 unfold Lib.TabIs World.var? at d
 rw [ht] at d
 simp only [Option.bind_some] at d
 rcases Nat.lt_or_ge gt w.heap.size with h' | h'
 · exact h'
 · rw [Array.getElem?_eq_none h'] at d
   simp at d
theorem laid_at {P:Program} {w:World} {n:String} {d:DataW Unit}:∀ {laid:List (String × DataW Unit)} {ps:List MemPlace},DataW.LaidVars P w laid ps->(n,d)∈laid->
 ∃ g t cs fuel p,P.globalNamed n=some g/\(P.globals[g]?).map (·.type)=some t/\w.var? P n=some cs/\DataW.trod (fun _=>()) P w 0 (fun _=>true) false fuel t cs.toList=some (d,p)
 | [],_,_,hm=>by cases hm
 | (n',d')::r,ps,h,hm=>by
   obtain ⟨g,t,cs,fuel,p,q,h1,h2,h3,h4,h5,_⟩:=h
   rcases List.mem_cons.1 hm with e | hm
   · cases e
     exact ⟨g,t,cs,fuel,p,h1,h2,h3,h4⟩
   · exact laid_at h5 hm
theorem laid_iface {P:Program} {w:World} {laid:List (String × DataW Unit)} {n nm:String} {d:DataW Unit} {g:Nat} {t:TypeId} {ms:Array (String × TypeId)} (hL:laidMet P laid w) (hm:(n,.iface nm d)∈laid)
 (hg:P.globalNamed n=some g) (hty:(P.globals[g]?).map (·.type)=some t) (ht:P.underlying t=some (.interface ms)):cellE g w:=by
 obtain ⟨ps,hv,_⟩:=hL
 obtain ⟨g',t',cs,fuel,p,h1,h2,h3,h4⟩:=laid_at hv hm
 obtain rfl:=Option.some.inj (hg.symm.trans h1)
 obtain rfl:=Option.some.inj (hty.symm.trans h2)
 obtain ⟨_,u,v,hc,_⟩:=iface_of_trod ht h4
 refine ⟨.iface u v,?_,.inr ⟨u,v,rfl⟩⟩
 have:=World.var?_cell hg h3 0
 rw [this]
 rw [<- Array.getElem?_toList,hc]
 rfl
theorem laid_tab {P:Program} {w:World} {laid:List (String × DataW Unit)} {n:String} {k:IntKind} {zs:List Int} {g m:Nat} {t e:TypeId} (hL:laidMet P laid w) (hm:(n,Lib.tabData k zs)∈laid)
 (hg:P.globalNamed n=some g) (hty:(P.globals[g]?).map (·.type)=some t) (ht:P.underlying t=some (.array m e)) (he:P.underlying e=some (.int k)) (hce:P.cellsOf e=1) (hct:P.cellsOf t=m):Lib.TabIs P w n k zs:=by
 obtain ⟨ps,hv,_⟩:=hL
 obtain ⟨g',t',cs,fuel,p,h1,h2,h3,h4⟩:=laid_at hv hm
 obtain rfl:=Option.some.inj (hg.symm.trans h1)
 obtain rfl:=Option.some.inj (hty.symm.trans h2)
 unfold Lib.TabIs
 rw [h3,<- Lib.cells_of_tab ht he hce hct h4]
theorem Ext.below {W W':World} (h:Ext NoB W W'):RowKit.Below W.heap.size W W':=⟨h.os,h.tape,h.output,h.size,fun k hk=>h.block k hk id⟩
theorem ints_arg {H:Type} {enc:TypeId × Value->H} {P:Program} {W:World} {t e:TypeId} (ht:P.underlying t=some (.slice e)) (he:P.underlying e=some (.int .i64)) (hc:P.cellsOf e=1)
 {a0:Option Addr} {len cap:Nat} {d:DataW H} {p:List MemPlace} (h:DataW.Trod enc P W 0 (fun _=>true) true t (.slice a0 len cap) d p):
 ∃ es:List PV,PVRel W NoB (.sl es) (.slice a0 len cap)/\es.length<=9223372036854775807/\∀ x,x∈es->∃ n,x=.int .i64 n/\ -9223372036854775808<=n/\n<=9223372036854775807:=by
 obtain ⟨fuel,hf⟩:=h
 rcases ChangeShapes.open_ints ht he hc hf with ⟨hcs,hx⟩ | ⟨a,len',cap',zs,hcs,_,hl,hm,hz,hx,hcell,hwz⟩
 · simp [Value.cells] at hcs
   obtain ⟨rfl,rfl,rfl⟩:=hcs
   exact ⟨[],.sl [] none 0 0 0 0 (fun _ _=>undef) (by simp) (by simp [maxLen]) (by simp) (by simp) (by simp) (by simp),by simp,by simp⟩
 · simp [Value.cells] at hcs
   obtain ⟨rfl,rfl,rfl⟩:=hcs
   simp only [if_true] at hz
   have hlen:((zs.take len).map (PV.int .i64)).length=len:=by simp;omega
   have hml:len<=9223372036854775807:=by simp only [maxLen] at hm;omega
   refine ⟨(zs.take len).map (PV.int .i64),?_,by rw [hlen];exact hml,?_⟩
   · by_cases h0:len=0
     · subst h0
       simp only [List.take_zero,List.map_nil]
       exact .sl [] (some a) cap 0 0 0 (fun _ _=>undef) (by simp) hm (by simp) (by simp) (by simp) (by simp)
     · obtain ⟨b,off,rfl,hat⟩:=ints_at hcell (by omega)
       have:=PVRel.sl (w:=W) (M:=NoB) ((zs.take len).map (PV.int .i64)) (some ⟨b,off,none⟩) cap 1 b off (fun i _=>.int .i64 (zs.getD i 0)) (by rw [hlen];exact hl) hm
        (fun x hx=>by simp only [List.mem_map] at hx;obtain ⟨y,_,rfl⟩:=hx;rfl) (fun _=>rfl) ?_ ?_
       · rw [hlen] at this;exact this
       all_goals
        intro i x j c hx hcc
        simp only [List.getElem?_map,Option.map_eq_some_iff] at hx
        obtain ⟨y,hy,rfl⟩:=hx
        have hj:j=0:=by
         simp only [PV.cells] at hcc
         cases j with
         | zero=>rfl
         | succ j=>simp at hcc
        subst hj
        simp only [PV.cells,List.getElem?_cons_zero,Option.some.injEq] at hcc
        subst hcc
        have hi:i<len/\zs.getD i 0=y:=by
         rw [List.getElem?_take] at hy
         split at hy
         · rename_i hi
           exact ⟨hi,by simp [List.getD_eq_getElem?_getD,hy]⟩
         · cases hy
       · exact ⟨id,rfl,by rw [show off+i * 1+0=off+i by omega];exact hat i (by omega)⟩
       · rw [hi.2];exact .int _ _
   · intro x hx
     simp only [List.mem_map] at hx
     obtain ⟨y,hy,rfl⟩:=hx
     have:=hwz y (List.mem_of_mem_take hy)
     have hb: -9223372036854775808<=y/\y<=9223372036854775807:=by simpa [Lit.wf,IntKind.min,IntKind.max,IntKind.signed,IntKind.bits] using this
     exact ⟨y,rfl,hb.1,hb.2⟩
end Go.AM
