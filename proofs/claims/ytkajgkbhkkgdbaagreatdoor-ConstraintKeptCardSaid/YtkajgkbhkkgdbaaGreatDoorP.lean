/-
  A part of a proof.
-/
import Derived.Test.YtkajgkbhkkgdbaaGreatDoorP0
import Derived.Test.YtkajgkbhkkgdbaaGreatDoorCM
import Derived.RangeFuncBound
import Derived.RangeFuncLeaves
import Derived.Shelf.Abstract
import Derived.Shelf.RegionOpen
import Derived.OwnWalkIn
import Derived.TacticsInMore
import Derived.LoopIn
import Derived.RangeFuncBox
import Derived.Maps.AppendAt
namespace Go.AM
open Go Go.RowKit Go.Shelf Go.Proofs
attribute [local go_sem] Oper.semAt_some
end Go.AM
namespace Go.AM
open Go Go.RowKit Go.Shelf Go.Proofs
attribute [local go_sem] Oper.semAt_some
set_option maxHeartbeats 1000000
def seqW (w:World) (s sep:ByteArray):World:=((w.alloc (.cells #[.string s] 9)).alloc (.cells #[.string sep] 9)).alloc (.cells #[.int .i64 0] 3)
def seqV (w:World):Value:=.func (.func 172) #[] #[.pointer (some ⟨w.heap.size+1,0,none⟩),.pointer (some ⟨w.heap.size,0,none⟩),.pointer (some ⟨w.heap.size+1+1,0,none⟩)]
theorem splitSeq_in (F:Fence) (n:Nat) (h41:F.fn 165) (hro:F.round=none) (s sep:ByteArray) (w:World):
 CallsIn F n Tryz.prog 165 #[.string s,.string sep,.int .i64 0] w fun e w'=>e=.returned (seqV w)/\w'=seqW w s sep:=by
 refine callsIn_of_wp Tryz.func165 rfl h41 ?_ hro
 simp only [Tryz.ntmps165,List.size_toArray,List.length_cons,List.length_nil,Nat.reduceAdd,Nat.reduceSub,Array.replicate_succ,Array.replicate_zero,List.push_toArray,List.append_toArray,List.nil_append,List.cons_append]
 gi_wp2
 go_ret
 exact ⟨rfl,rfl⟩
theorem SplitSeq_in (F:Fence) (n:Nat) (h36:F.fn 151) (h41:F.fn 165) (hro:F.round=none) (hn:1<=n) (s sep:ByteArray) (w:World):
 CallsIn F n Tryz.prog 151 #[.string s,.string sep] w fun e w'=>e=.returned (seqV w)/\w'=seqW w s sep:=by
 refine callsIn_of_wp Tryz.func151 rfl h36 ?_ hro
 simp only [Tryz.ntmps151,List.size_toArray,List.length_cons,List.length_nil,Nat.reduceAdd,Nat.reduceSub,Array.replicate_succ,Array.replicate_zero,List.push_toArray,List.append_toArray,List.nil_append,List.cons_append]
 gi_wp2_with (gi_at_call 165;refine (splitSeq_in F (n-1) h41 hro _ _ _).mono ?_;rintro e w' ⟨rfl,rfl⟩)
 go_ret
 exact ⟨rfl,rfl⟩
end Go.AM
namespace Go.AM
open Go Go.RowKit Go.Shelf Go.Proofs
attribute [local go_sem] Oper.semAt_some
set_option maxHeartbeats 2000000
set_option maxRecDepth 100000
def cutW:List UInt8->List UInt8 × Option (List UInt8)
 | []=>([],none)
 | c::r=>if c=46 then ([],some r) else (c::(cutW r).1,(cutW r).2)
theorem cutW_none:∀ {l:List UInt8},(cutW l).2=none->(cutW l).1=l/\Lib.indexByte l 46= -1
 | [],_=>⟨rfl,rfl⟩
 | c::r,h=>by
   unfold cutW at h ⊢
   unfold Lib.indexByte
   split at h
   · cases h
   · rename_i hc
     have:=cutW_none (l:=r) h
     simp [hc,this.1,this.2]
theorem cutW_some:∀ {l r:List UInt8},(cutW l).2=some r->l=(cutW l).1++46::r/\Lib.indexByte l 46=((cutW l).1.length:Int)
 | [],r,h=>by cases h
 | c::t,r,h=>by
   unfold cutW at h ⊢
   unfold Lib.indexByte
   split at h
   · rename_i hc
     cases h
     simp [hc]
   · rename_i hc
     have:=cutW_some (l:=t) h
     refine ⟨?_,?_⟩
     · simp only [hc,if_false,List.cons_append];rw [<- this.1]
     · have h2:¬ (((cutW t).1.length:Int)= -1):=by omega
       simp [hc,this.2,h2]
def textB (l:List UInt8):ByteArray:=⟨l.toArray⟩
theorem textB_data (b:ByteArray):textB b.data.toList=b:=by
 cases b;simp [textB]
theorem cut_ex {l r:List UInt8} (h:(cutW l).2=some r):textB (cutW l).1=(textB l).extract 0 (cutW l).1.length/\textB r=(textB l).extract ((cutW l).1.length+1) l.length:=by
 obtain ⟨hw,_⟩:=cutW_some h
 generalize (cutW l).1=x at hw ⊢
 subst hw
 have hs:(textB (x++46::r)).size=(x++46::r).length:=by simp [textB,ByteArray.size]
 refine ⟨?_,?_⟩
 · rw [<- textB_data ((textB (x++46::r)).extract 0 x.length),Lib.extract_from_zero]
   simp [textB]
 · rw [<- textB_data ((textB (x++46::r)).extract (x.length+1) (x++46::r).length),<- hs,Lib.extract_to_end]
   simp [textB]
noncomputable def lenAt (b:Nat) (W:World):Nat:=match W.cell? ⟨b,0,none⟩ with | some (.string s)=>s.size | _=>0
theorem seq1_in {σ:Type} (n:Nat) (hn:1<=n) (l bs B:Nat) (hB:bs+2<B) (cur:σ->List UInt8) (I I':σ->World->Prop) (Ix:Code->σ->World->Prop) (Fin K:World->Prop) (Kx:Code->World->Prop)
 (hK:Two B K) (hbox:∀ s W,I s W\/I' s W->(cur s).length<=1000000000000/\Boxed W bs 9 (.string (textB (cur s)))/\Boxed W (bs+1) 9 (.string ⟨#[46]⟩)/\Boxed W (bs+1+1) 3 (.int .i64 0))
 (hstep:∀ s W r,I' s W->(cutW (cur s)).2=some r->∃ s',cur s'=r/\I s' (W.setCell ⟨bs,0,none⟩ (.string (textB r))))
 (hfin:∀ s W,I' s W->(cutW (cur s)).2=none->Fin W)
 (hY:∀ s W,I s W->K W->YieldAt Fence.wide (n-1) Tryz.prog l #[.string (textB (cutW (cur s)).1)] W fun e W'=>(e=.returned (.bool true)/\I' s W'/\K W')\/(e=.returned (.bool false)/\∃ c,Ix c s W'/\Kx c W'))
 (W:World) (s0:σ) (h0:I s0 W) (hK0:K W):
 CallsIn Fence.wide n Tryz.prog 172 #[.func (.yield l) #[] #[],.pointer (some ⟨bs+1,0,none⟩),.pointer (some ⟨bs,0,none⟩),.pointer (some ⟨bs+1+1,0,none⟩)] W
  fun e W'=>(∃ v,e=.returned v)/\((Fin W'/\K W')\/∃ c s,Ix c s W'/\Kx c W'):=by
 obtain ⟨_,b1,b2,b3⟩:=hbox s0 W (.inl h0)
 have c1:=b1.cell
 have c2:=b2.cell
 have c3:=b3.cell
 refine callsIn_of_wp Tryz.func172 rfl trivial ?_ rfl
 simp only [Tryz.ntmps172,List.size_toArray,List.length_cons,List.length_nil,Nat.reduceAdd,Nat.reduceSub,Array.replicate_succ,Array.replicate_zero,List.push_toArray,List.append_toArray,List.nil_append,List.cons_append]
 gi_wp2
 gi_loopw [] (fun wr=>∃ s,I s wr/\K wr) (fun wr=>lenAt bs wr)
 case atStart=>exact ⟨s0,h0,hK0⟩
 case round=>
  obtain ⟨s,hI,hKr⟩:=hrel
  obtain ⟨hlen,d1,d2,d3⟩:=hbox s wr (.inl hI)
  have e1:=d1.cell
  have e2:=d2.cell
  have e3:=d3.cell
  have hL:lenAt bs wr=(cur s).length:=by unfold lenAt;rw [e1];simp [textB,ByteArray.size]
  obtain ⟨fn,tmps,assign,body,hy,hR⟩:=hY s wr hI hKr
  cases hc:(cutW (cur s)).2 with
  | none=>
    obtain ⟨hw,hix⟩:=cutW_none hc
    have hix':Lib.indexByte (textB (cur s)).data.toList 46= -1:=by simpa [textB] using hix
    rw [hw] at hy
    gi_wp2_with (refine ⟨trivial,?_⟩;gi_at_call 174;refine (callsIn_wide.2 (Any.strings_Index_one lIndex (textB (cur s)) 46 _)).mono ?_;rintro e w' ⟨rfl,rfl⟩;rw [hix'])
    refine hR.mono ?_
    rintro e W3 (⟨rfl,hI3,hK3⟩ | ⟨rfl,c,hx⟩)
    · gi_wp2
      go_end0
      exact ⟨⟨_,rfl⟩,.inl ⟨hfin s W3 hI3 hc,hK3⟩⟩
    · gi_wp2
      go_end0
      exact ⟨⟨_,rfl⟩,.inr ⟨c,s,hx⟩⟩
  | some r=>
    obtain ⟨hw,hix⟩:=cutW_some hc
    have hix':Lib.indexByte (textB (cur s)).data.toList 46=((cutW (cur s)).1.length:Int):=by simpa [textB] using hix
    have hl2 : (cur s).length = (cutW (cur s)).1.length + 1 + r.length := by conv=>lhs;rw [hw]
                                                                             simp;omega
    obtain ⟨hex,hex2⟩:=cut_ex hc
    rw [hl2] at hex2
    rw [hex] at hy
    clear hw hix hex
    have hs1:(textB (cur s)).size=(cur s).length:=by simp [textB,ByteArray.size]
    gi_wp2_with (refine ⟨trivial,?_⟩;gi_at_call 174;refine (callsIn_wide.2 (Any.strings_Index_one lIndex (textB (cur s)) 46 _)).mono ?_;rintro e w' ⟨rfl,rfl⟩;rw [hix'])
    refine hR.mono ?_
    rintro e W3 (⟨rfl,hI3,hK3⟩ | ⟨rfl,c,hx⟩)
    · obtain ⟨_,d1,d2,d3⟩:=hbox s W3 (.inr hI3)
      have e1:=d1.cell
      have e2:=d2.cell
      have f1:=d1.frozen
      gi_wp2
      rw [<- hex2]
      obtain ⟨s',hs',hI'⟩:=hstep s W3 r hI3 hc
      refine ⟨⟨s',hI',hK _ _ hK3 (Below.heap_setCell _ _ _ _ (by simp only;omega)) (Below.heap_setCell _ _ _ _ (by simp only;omega))⟩,?_⟩
      have q:=(d1.set (.string (textB r))).cell
      rw [hL]
      unfold lenAt
      rw [q]
      simp only [textB,ByteArray.size,List.size_toArray]
      omega
    · gi_wp2
      refine bodyPost_ret (results_none rfl _ _ _) rfl ?_
      exact ⟨⟨_,rfl⟩,.inr ⟨c,s,hx⟩⟩
end Go.AM
namespace Go.AM
open Go Go.RowKit Go.Shelf Go.Proofs
attribute [local go_sem] Oper.semAt_some
set_option maxHeartbeats 2000000
set_option maxRecDepth 100000
def wordsOf:List UInt8->List (List UInt8)
 | []=>[[]]
 | c::r=>if c=46 then []::wordsOf r else (c::(wordsOf r).headD [])::(wordsOf r).tail
theorem wordsOf_cut:∀ l:List UInt8,wordsOf l=(cutW l).1::(match (cutW l).2 with | none=>[] | some r=>wordsOf r)
 | []=>rfl
 | c::r=>by
   rw [wordsOf,cutW]
   by_cases h:c=46
   · rw [if_pos h,if_pos h]
   · rw [if_neg h,if_neg h,wordsOf_cut r]
     rfl
def goW (w:List UInt8):Option Int:=
 match Lib.atoiAll w with
 | .ok v=>if 1<=v/\v<=99/\Lib.itoa v=w then some v else none
 | _=>none
def goP:List Int->List (List UInt8)->Option (List Int)
 | acc,[]=>some acc
 | acc,w::ws=>match goW w with | none=>none | some v=>goP (acc++[v]) ws
def partsR (s:List UInt8):List Int:=match goP [] (wordsOf s) with | none=>[] | some l=>if 4<l.length then [] else l
theorem _root_.Go.Boxed.below' {W W':World} {B:Nat} {t:TypeId} {v:Value} (h:Boxed W B t v) (hb:Below W.heap.size W W'):Boxed W' B t v:=(hb.block B h.lt).trans h
theorem _root_.Go.Boxed.put' {W:World} {B:Nat} {t:TypeId} {v:Value} (h:Boxed W B t v) {j:Nat} {o:Obj} (o':Obj) (ho:W.heap[j]?=some o) (hc:o.isCells=false):Boxed (W.putObj j o') B t v:=by
 refine (World.putObj_heap_other fun e=>?_).trans h
 subst e
 rw [show W.heap[B]?=_ from h] at ho
 cases ho
 cases hc
structure Core (w:World) (acc:List Int) (cur:List UInt8) (v:Value) (W:World):Prop where
 s:Boxed W (w.heap.size+2) 9 (.string (textB cur))
 sep:Boxed W (w.heap.size+3) 9 (.string ⟨#[46]⟩)
 save:Boxed W (w.heap.size+4) 3 (.int .i64 0)
 res:Boxed W w.heap.size 22 (.slice none 0 0)
 out:Boxed W (w.heap.size+1) 22 v
 row:W.ownsRow (w.heap.size+5) 3 1 v acc.length (acc.map (Value.int .i64))
 old:Below w.heap.size w W
 size:w.heap.size+5<=W.heap.size
theorem row_below {W W':World} {base:Nat} {e:TypeId} {z:Nat} {v:Value} {k:Nat} {xs:List Value} (h:W.ownsRow base e z v k xs) (hb:Below W.heap.size W W'):W'.ownsRow base e z v k xs:=by
 refine ⟨h.1,?_⟩
 rcases h.2 with h2 | ⟨g,cap,cur,h1,h2,h3,h4⟩
 · exact .inl h2
 · exact .inr ⟨g,cap,cur,h1,h2,(hb.block g (Array.getElem?_eq_some_iff.1 h3).1).trans h3,h4⟩
theorem Core.below {w:World} {acc:List Int} {cur:List UInt8} {v:Value} {W W':World} (h:Core w acc cur v W) (hb:Below W.heap.size W W'):Core w acc cur v W':=
 ⟨h.s.below' hb,h.sep.below' hb,h.save.below' hb,h.res.below' hb,h.out.below' hb,row_below h.row hb,h.old.trans (hb.mono (by have:=h.size;omega)),Nat.le_trans h.size hb.size⟩
theorem Core.put {w:World} {acc:List Int} {cur:List UInt8} {v:Value} {W:World} (h:Core w acc cur v W) {j:Nat} {o:Obj} (o':Obj) (hj:w.heap.size+5<=j) (ho:W.heap[j]?=some o) (hc:o.isCells=false):Core w acc cur v (W.putObj j o'):=
 ⟨h.s.put' o' ho hc,h.sep.put' o' ho hc,h.save.put' o' ho hc,h.res.put' o' ho hc,h.out.put' o' ho hc,ownsRow_putObj h.row o' ho hc,
   h.old.grown (grownBy_putObj' W j o') (by have:=h.size;omega) (fun k e=>by cases e;omega),by simpa using h.size⟩
theorem _root_.Go.Boxed.other' {W:World} {B b:Nat} {t:TypeId} {v:Value} (h:Boxed W B t v) (x:Value) (hne:B≠b):Boxed (W.setCell ⟨b,0,none⟩ x) B t v:=h.kept (grownBy_setCell' W b x) (fun e=>hne (Option.some.inj e))
theorem own_ge {W:World} {base:Nat} {e:TypeId} {z:Nat} {v:Value} {k:Nat} {xs:List Value} (h:W.ownsRow base e z v k xs):∀ g,v.ownBlock=some g->base<=g:=by
 intro g hg
 rcases h.2 with ⟨rfl,_⟩ | ⟨g',cap,cur,rfl,h2,_⟩
 · cases hg
 · cases hg;exact h2
theorem Core.setS {w:World} {acc:List Int} {cur:List UInt8} {v:Value} {W:World} (h:Core w acc cur v W) (r:List UInt8):Core w acc r v (W.setCell ⟨w.heap.size+2,0,none⟩ (.string (textB r))):=
 ⟨h.s.set _,h.sep.other' _ (by omega),h.save.other' _ (by omega),h.res.other' _ (by omega),h.out.other' _ (by omega),
   h.row.kept (grownBy_setCell' W _ _) (.inr (fun e=>by have:=own_ge h.row _ e;omega)),h.old.setCell (p:=⟨w.heap.size+2,0,none⟩) (by simp only;omega) _,Nat.le_trans h.size (grownBy_setCell' W _ _).size⟩
theorem Core.app {w:World} {acc:List Int} {cur:List UInt8} {v v':Value} {W w1:World} {tmp:Obj} {x:Int} (h:Core w acc cur v W)
 (hown:w1.ownsRow (w.heap.size+5) 3 1 v' (acc.length+1) (acc.map (Value.int .i64)++[Value.int .i64 x])) (hgrow:(W.alloc tmp).grownBy w1 v.ownBlock):
 Boxed w1 (w.heap.size+1) 22 v/\KeepsOthers W (w1.setCell ⟨w.heap.size+1,0,none⟩ v')/\Core w (acc++[x]) cur v' (w1.setCell ⟨w.heap.size+1,0,none⟩ v'):=by
 have ge:=own_ge h.row
 have kp:∀ {B:Nat} {t:TypeId} {u:Value},B<w.heap.size+5->Boxed W B t u->Boxed w1 B t u:=fun hB hb=>(hb.alloc tmp).kept hgrow (fun e=>by have:=ge _ e.symm;omega)
 have ge':=own_ge hown
 refine ⟨kp (by omega) h.out,?_,(kp (by omega) h.s).other' _ (by omega),(kp (by omega) h.sep).other' _ (by omega),(kp (by omega) h.save).other' _ (by omega),(kp (by omega) h.res).other' _ (by omega),(kp (by omega) h.out).set _,
  ?_,?_,?_⟩
 · refine ((KeepsOthers.alloc W tmp).trans (KeepsOthers.of_grownBy hgrow fun j o ej hj=>?_)).trans (KeepsOthers.setCell _ _ _)
   rcases (h.row.alloc tmp).2 with ⟨rfl,_⟩ | ⟨g,cap,cur',rfl,_,hgb,_⟩
   · simp [Value.ownBlock] at ej
   · obtain rfl:g=j:=by simpa [Value.ownBlock] using ej
     rw [hgb] at hj;cases hj;rfl
 · have:=hown.kept (grownBy_setCell' w1 (w.heap.size+1) v') (.inr (fun e=>by have:=ge' _ e;omega))
   simpa using this
 · exact ((h.old.alloc (by have:=h.size;omega) tmp).grown hgrow (by have:=h.size;simp;omega) (fun j ej=>by have:=ge j ej;omega)).setCell (p:=⟨w.heap.size+1,0,none⟩) (by simp only;omega) v'
 · exact Nat.le_trans h.size (Nat.le_trans (by simp) (Nat.le_trans hgrow.size (grownBy_setCell' w1 _ _).size))
theorem Core.keepsB {W W':World} (hb:Below W.heap.size W W'):KeepsOthers W W':=⟨hb.size,fun k _ hk _=>(hb.block k (Array.getElem?_eq_some_iff.1 hk).1).trans hk⟩
end Go.AM
