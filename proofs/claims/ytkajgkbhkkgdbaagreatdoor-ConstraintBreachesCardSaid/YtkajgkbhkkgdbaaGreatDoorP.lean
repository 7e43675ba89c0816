/-
  A part of a proof.
-/
import Derived.Test.YtkajgkbhkkgdbaaGreatDoorP0
import Derived.Test.YtkajgkbhkkgdbaaGreatDoorCM
import Derived.RangeFuncBound
import Derived.RangeFuncLeaves
import Derived.Shelf.Abstract
import Derived.Shelf.RegionOpen
import Derived.OwnWalkIn
import Derived.TacticsInMore
import Derived.LoopIn
import Derived.RangeFuncBox
import Derived.Maps.AppendAt
namespace Go.AM
open Go Go.RowKit Go.Shelf Go.Proofs
attribute [local go_sem] Oper.semAt_some
end Go.AM
namespace Go.AM
open Go Go.RowKit Go.Shelf Go.Proofs
attribute [local go_sem] Oper.semAt_some
set_option maxHeartbeats 1000000
def seqW (w:World) (s sep:ByteArray):World:=((w.alloc (.cells #[.string s] 9)).alloc (.cells #[.string sep] 9)).alloc (.cells #[.int .i64 0] 3)
def seqV (w:World):Value:=.func (.func 172) #[] #[.pointer (some ⟨w.heap.size+1,0,none⟩),.pointer (some ⟨w.heap.size,0,none⟩),.pointer (some ⟨w.heap.size+1+1,0,none⟩)]
theorem splitSeq_in (F:Fence) (n:Nat) (h41:F.fn 165) (hro:F.round=none) (s sep:ByteArray) (w:World):
    CallsIn F n Tryz.prog 165 #[.string s,.string sep,.int .i64 0] w fun e w'=>e=.returned (seqV w)/\w'=seqW w s sep:=by
  refine callsIn_of_wp Tryz.func165 rfl h41 ?_ hro
  simp only [Tryz.ntmps165,List.size_toArray,List.length_cons,List.length_nil,Nat.reduceAdd,Nat.reduceSub,Array.replicate_succ,Array.replicate_zero,List.push_toArray,List.append_toArray,List.nil_append,List.cons_append]
  gi_wp2
  go_ret
  exact ⟨rfl,rfl⟩
theorem SplitSeq_in (F:Fence) (n:Nat) (h36:F.fn 151) (h41:F.fn 165) (hro:F.round=none) (hn:1<=n) (s sep:ByteArray) (w:World):
    CallsIn F n Tryz.prog 151 #[.string s,.string sep] w fun e w'=>e=.returned (seqV w)/\w'=seqW w s sep:=by
  refine callsIn_of_wp Tryz.func151 rfl h36 ?_ hro
  simp only [Tryz.ntmps151,List.size_toArray,List.length_cons,List.length_nil,Nat.reduceAdd,Nat.reduceSub,Array.replicate_succ,Array.replicate_zero,List.push_toArray,List.append_toArray,List.nil_append,List.cons_append]
  gi_wp2_with (gi_at_call 165;refine (splitSeq_in F (n-1) h41 hro _ _ _).mono ?_;rintro e w' ⟨rfl,rfl⟩)
  go_ret
  exact ⟨rfl,rfl⟩
end Go.AM
namespace Go.AM
open Go Go.RowKit Go.Shelf Go.Proofs
attribute [local go_sem] Oper.semAt_some
set_option maxHeartbeats 2000000
set_option maxRecDepth 100000
def cutW:List UInt8->List UInt8 × Option (List UInt8)
  | []=>([],none)
  | c::r=>if c=46 then ([],some r) else (c::(cutW r).1,(cutW r).2)
theorem cutW_none:∀ {l:List UInt8},(cutW l).2=none->(cutW l).1=l/\Lib.indexByte l 46= -1
  | [],_=>⟨rfl,rfl⟩
  | c::r,h=>by
    unfold cutW at h ⊢
    unfold Lib.indexByte
    split at h
    · cases h
    · rename_i hc
      have:=cutW_none (l:=r) h
      simp [hc,this.1,this.2]
theorem cutW_some:∀ {l r:List UInt8},(cutW l).2=some r->l=(cutW l).1++46::r/\Lib.indexByte l 46=((cutW l).1.length:Int)
  | [],r,h=>by cases h
  | c::t,r,h=>by
    unfold cutW at h ⊢
    unfold Lib.indexByte
    split at h
    · rename_i hc
      cases h
      simp [hc]
    · rename_i hc
      have:=cutW_some (l:=t) h
      refine ⟨?_,?_⟩
      · simp only [hc,if_false,List.cons_append];rw [<- this.1]
      · have h2:¬ (((cutW t).1.length:Int)= -1):=by omega
        simp [hc,this.2,h2]
def textB (l:List UInt8):ByteArray:=⟨l.toArray⟩
theorem textB_data (b:ByteArray):textB b.data.toList=b:=by
  cases b;simp [textB]
theorem cut_ex {l r:List UInt8} (h:(cutW l).2=some r):textB (cutW l).1=(textB l).extract 0 (cutW l).1.length/\textB r=(textB l).extract ((cutW l).1.length+1) l.length:=by
  obtain ⟨hw,_⟩:=cutW_some h
  generalize (cutW l).1=x at hw ⊢
  subst hw
  have hs:(textB (x++46::r)).size=(x++46::r).length:=by simp [textB,ByteArray.size]
  refine ⟨?_,?_⟩
  · rw [<- textB_data ((textB (x++46::r)).extract 0 x.length),Lib.extract_from_zero]
    simp [textB]
  · rw [<- textB_data ((textB (x++46::r)).extract (x.length+1) (x++46::r).length),<- hs,Lib.extract_to_end]
    simp [textB]
noncomputable def lenAt (b:Nat) (W:World):Nat:=match W.cell? ⟨b,0,none⟩ with | some (.string s)=>s.size | _=>0
theorem seq1_in {σ:Type} (n:Nat) (hn:1<=n) (l bs B:Nat) (hB:bs+2<B) (cur:σ->List UInt8) (I I':σ->World->Prop) (Ix:Code->σ->World->Prop) (Fin K:World->Prop) (Kx:Code->World->Prop)
    (hK:Two B K) (hbox:∀ s W,I s W\/I' s W->(cur s).length<=1000000000000/\Boxed W bs 9 (.string (textB (cur s)))/\Boxed W (bs+1) 9 (.string ⟨#[46]⟩)/\Boxed W (bs+1+1) 3 (.int .i64 0))
    (hstep:∀ s W r,I' s W->(cutW (cur s)).2=some r->∃ s',cur s'=r/\I s' (W.setCell ⟨bs,0,none⟩ (.string (textB r))))
    (hfin:∀ s W,I' s W->(cutW (cur s)).2=none->Fin W)
    (hY:∀ s W,I s W->K W->YieldAt Fence.wide (n-1) Tryz.prog l #[.string (textB (cutW (cur s)).1)] W fun e W'=>(e=.returned (.bool true)/\I' s W'/\K W')\/(e=.returned (.bool false)/\∃ c,Ix c s W'/\Kx c W'))
    (W:World) (s0:σ) (h0:I s0 W) (hK0:K W):
    CallsIn Fence.wide n Tryz.prog 172 #[.func (.yield l) #[] #[],.pointer (some ⟨bs+1,0,none⟩),.pointer (some ⟨bs,0,none⟩),.pointer (some ⟨bs+1+1,0,none⟩)] W
      fun e W'=>(∃ v,e=.returned v)/\((Fin W'/\K W')\/∃ c s,Ix c s W'/\Kx c W'):=by
  obtain ⟨_,b1,b2,b3⟩:=hbox s0 W (.inl h0)
  have c1:=b1.cell
  have c2:=b2.cell
  have c3:=b3.cell
  refine callsIn_of_wp Tryz.func172 rfl trivial ?_ rfl
  simp only [Tryz.ntmps172,List.size_toArray,List.length_cons,List.length_nil,Nat.reduceAdd,Nat.reduceSub,Array.replicate_succ,Array.replicate_zero,List.push_toArray,List.append_toArray,List.nil_append,List.cons_append]
  gi_wp2
  gi_loopw [] (fun wr=>∃ s,I s wr/\K wr) (fun wr=>lenAt bs wr)
  case atStart=>exact ⟨s0,h0,hK0⟩
  case round=>
    obtain ⟨s,hI,hKr⟩:=hrel
    obtain ⟨hlen,d1,d2,d3⟩:=hbox s wr (.inl hI)
    have e1:=d1.cell
    have e2:=d2.cell
    have e3:=d3.cell
    have hL:lenAt bs wr=(cur s).length:=by unfold lenAt;rw [e1];simp [textB,ByteArray.size]
    obtain ⟨fn,tmps,assign,body,hy,hR⟩:=hY s wr hI hKr
    cases hc:(cutW (cur s)).2 with
    | none=>
      obtain ⟨hw,hix⟩:=cutW_none hc
      have hix':Lib.indexByte (textB (cur s)).data.toList 46= -1:=by simpa [textB] using hix
      rw [hw] at hy
      gi_wp2_with (refine ⟨trivial,?_⟩;gi_at_call 174;refine (callsIn_wide.2 (Any.strings_Index_one lIndex (textB (cur s)) 46 _)).mono ?_;rintro e w' ⟨rfl,rfl⟩;rw [hix'])
      refine hR.mono ?_
      rintro e W3 (⟨rfl,hI3,hK3⟩ | ⟨rfl,c,hx⟩)
      · gi_wp2
        go_end0
        exact ⟨⟨_,rfl⟩,.inl ⟨hfin s W3 hI3 hc,hK3⟩⟩
      · gi_wp2
        go_end0
        exact ⟨⟨_,rfl⟩,.inr ⟨c,s,hx⟩⟩
    | some r=>
      obtain ⟨hw,hix⟩:=cutW_some hc
      have hix':Lib.indexByte (textB (cur s)).data.toList 46=((cutW (cur s)).1.length:Int):=by simpa [textB] using hix
      have hl2 : (cur s).length = (cutW (cur s)).1.length + 1 + r.length := by conv=>lhs;rw [hw]
                                                                               simp;omega
      obtain ⟨hex,hex2⟩:=cut_ex hc
      rw [hl2] at hex2
      rw [hex] at hy
      clear hw hix hex
      have hs1:(textB (cur s)).size=(cur s).length:=by simp [textB,ByteArray.size]
      gi_wp2_with (refine ⟨trivial,?_⟩;gi_at_call 174;refine (callsIn_wide.2 (Any.strings_Index_one lIndex (textB (cur s)) 46 _)).mono ?_;rintro e w' ⟨rfl,rfl⟩;rw [hix'])
      refine hR.mono ?_
      rintro e W3 (⟨rfl,hI3,hK3⟩ | ⟨rfl,c,hx⟩)
      · obtain ⟨_,d1,d2,d3⟩:=hbox s W3 (.inr hI3)
        have e1:=d1.cell
        have e2:=d2.cell
        have f1:=d1.frozen
        gi_wp2
        rw [<- hex2]
        obtain ⟨s',hs',hI'⟩:=hstep s W3 r hI3 hc
        refine ⟨⟨s',hI',hK _ _ hK3 (Below.heap_setCell _ _ _ _ (by simp only;omega)) (Below.heap_setCell _ _ _ _ (by simp only;omega))⟩,?_⟩
        have q:=(d1.set (.string (textB r))).cell
        rw [hL]
        unfold lenAt
        rw [q]
        simp only [textB,ByteArray.size,List.size_toArray]
        omega
      · gi_wp2
        refine bodyPost_ret (results_none rfl _ _ _) rfl ?_
        exact ⟨⟨_,rfl⟩,.inr ⟨c,s,hx⟩⟩
end Go.AM
