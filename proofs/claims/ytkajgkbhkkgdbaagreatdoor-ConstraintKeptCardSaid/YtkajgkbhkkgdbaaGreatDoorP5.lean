/-
  A part of a proof.
-/
import Derived.Test.YtkajgkbhkkgdbaaGreatDoorP
import Derived.Test.YtkajgkbhkkgdbaaGreatDoorZZ
set_option linter.unusedVariables false
namespace Go.AM
open Go Go.RowKit Go.Shelf Go.Proofs
attribute [local go_sem] Oper.semAt_some
set_option maxHeartbeats 4000000
set_option maxRecDepth 100000
theorem Core.setR {w:World} {acc:List Int} {cur:List UInt8} {v:Value} {W:World} (h:Core w acc cur v W):Core w acc cur v (W.setCell ⟨w.heap.size,0,none⟩ (.slice none 0 0)):=
 ⟨h.s.other' _ (by omega),h.sep.other' _ (by omega),h.save.other' _ (by omega),h.res.set _,h.out.other' _ (by omega),
   h.row.kept (grownBy_setCell' W _ _) (.inr (fun e=>by have:=own_ge h.row _ e;omega)),h.old.setCell (p:=⟨w.heap.size,0,none⟩) (Nat.le_refl _) _,Nat.le_trans h.size (grownBy_setCell' W _ _).size⟩
theorem goP_cons (acc:List Int) (x:List UInt8) (ws:List (List UInt8)):goP acc (x::ws)=match goW x with | none=>none | some v=>goP (acc++[v]) ws:=by
 conv=>lhs;unfold goP
 rfl
theorem goP_nil (acc:List Int):goP acc []=some acc:=by unfold goP;rfl
theorem info3:(Tryz.prog.info? 3).map (fun i=>(i.zero,i.size,i.bytes))=some (some (.int .i64 0),1,8):=by kernel_rfl
theorem partsC_calls (s:List UInt8) (hs:s.length<=1000000000000) (w:World)
 (h1:∃ ev,w.cell? ⟨lAtoi_ren.g 15,0,none⟩=some ev/\(ev=.nilIface\/∃ te pe,ev=.iface te pe)) (h2:∃ ev,w.cell? ⟨lAtoi_ren.g 16,0,none⟩=some ev/\(ev=.nilIface\/∃ te pe,ev=.iface te pe)):
 Calls Tryz.prog 121 #[.string (textB s)] w fun e w'=>∃ v,e=.returned v/\w'.ownsRow (w.heap.size+5) 3 1 v (partsR s).length ((partsR s).map (Value.int .i64))/\Below w.heap.size w w':=by
 obtain ⟨ev1,hv1,he1⟩:=h1
 obtain ⟨ev2,hv2,he2⟩:=h2
 obtain ⟨i0,hi,hz0,hz1,hz2⟩:=info_parts info3
 refine (callsIn_wide (n:=8)).1 ?_
 refine callsIn_of_wp_marks Tryz.func121 rfl trivial ?_ rfl
 simp only [Tryz.ntmps121,List.size_toArray,List.length_cons,List.length_nil,Nat.reduceAdd,Nat.reduceSub,Array.replicate_succ,Array.replicate_zero,List.push_toArray,List.append_toArray,List.nil_append,List.cons_append]
 gi_wp2_with (refine ⟨trivial,?_⟩;gi_at_call 151;refine (SplitSeq_in Fence.wide _ trivial trivial rfl (by omega) _ _ _).mono ?_;rintro e w' ⟨rfl,rfl⟩)
 obtain ⟨W0,hW0⟩:∃ W0,seqW ((w.alloc (Obj.cells #[Value.slice none 0 0] 22)).alloc (Obj.cells #[Value.slice none 0 0] 22)) (textB s) ⟨#[46]⟩=W0:=⟨_,rfl⟩
 have hsz:W0.heap.size=w.heap.size+5:=by rw [<- hW0];simp [seqW]
 have hC0:Core w [] s (.slice none 0 0) W0:=by
  rw [<- hW0]
  unfold seqW
  have k1:=Boxed.new w 22 (.slice none 0 0)
  have k2:=Boxed.new (w.alloc (.cells #[.slice none 0 0] 22)) 22 (.slice none 0 0)
  have k3:=Boxed.new ((w.alloc (.cells #[.slice none 0 0] 22)).alloc (.cells #[.slice none 0 0] 22)) 9 (.string (textB s))
  have k4:=Boxed.new (((w.alloc (.cells #[.slice none 0 0] 22)).alloc (.cells #[.slice none 0 0] 22)).alloc (.cells #[.string (textB s)] 9)) 9 (.string ⟨#[46]⟩)
  have k5:=Boxed.new ((((w.alloc (.cells #[.slice none 0 0] 22)).alloc (.cells #[.slice none 0 0] 22)).alloc (.cells #[.string (textB s)] 9)).alloc (.cells #[.string ⟨#[46]⟩] 9)) 3 (.int .i64 0)
  simp only [World.size_alloc] at k2 k3 k4 k5
  exact ⟨(k3.alloc _).alloc _,k4.alloc _,k5,(((k1.alloc _).alloc _).alloc _).alloc _,((k2.alloc _).alloc _).alloc _,World.ownsRow_nil _ _ _ _,
   (((((Below.refl _ w).alloc (Nat.le_refl _) _).alloc (by simp) _).alloc (by simp;omega) _).alloc (by simp;omega) _).alloc (by simp;omega) _,by simp⟩
 have hseq:seqV ((w.alloc (Obj.cells #[Value.slice none 0 0] 22)).alloc (Obj.cells #[Value.slice none 0 0] 22))=.func (.func 172) #[] #[.pointer (some ⟨w.heap.size+3,0,none⟩),.pointer (some ⟨w.heap.size+2,0,none⟩),.pointer (some ⟨w.heap.size+4,0,none⟩)]:=by simp [seqV]
 rw [hW0,hseq]
 clear hW0 hseq
 refine range_keeps (σ:=List Int × List UInt8) rfl (by omega) (gf:=172) (lb:=#[.pointer (some ⟨w.heap.size+3,0,none⟩),.pointer (some ⟨w.heap.size+2,0,none⟩),.pointer (some ⟨w.heap.size+4,0,none⟩)]) rfl trivial (enters_of Tryz.func172 (by kernel_rfl) rfl)
  (fun x=>#[.string (textB (cutW x.2).1)]) (fun _=>rfl)
  (fun W=>Core w [] s (.slice none 0 0) W)
  (fun x W=>(∃ v,Core w x.1 x.2 v W)/\goP x.1 (wordsOf x.2)=goP [] (wordsOf s)/\x.1.length+x.2.length<=s.length)
  (fun x W=>∃ k,goW (cutW x.2).1=some k/\(∃ v,Core w (x.1++[k]) x.2 v W)/\goP x.1 (wordsOf x.2)=goP [] (wordsOf s)/\x.1.length+x.2.length<=s.length)
  (fun c x W=>c=.ret/\goP [] (wordsOf s)=none/\∃ acc v,Core w acc x.2 v W)
  (fun W=>∃ acc cur v,Core w acc cur v W/\goP [] (wordsOf s)=some acc/\acc.length<=s.length+1)
  (fun x W j o o' h hj ho hc=>⟨h.1.imp fun v hv=>hv.put o' (by omega) ho hc,h.2⟩)
  (fun x W j o o' h hj ho hc=>h.imp fun k hk=>⟨hk.1,hk.2.1.imp fun v hv=>hv.put o' (by omega) ho hc,hk.2.2⟩)
  (fun c x W j o o' h hj ho hc=>⟨h.1,h.2.1,h.2.2.imp fun acc ha=>ha.imp fun v hv=>hv.put o' (by omega) ho hc⟩)
  (fun W j o o' h hj ho hc=>by obtain ⟨acc,cur,v,hv,h2⟩:=h;exact ⟨acc,cur,v,hv.put o' (by omega) ho hc,h2⟩)
  (fun o o'=>(hC0.below ((Below.refl _ _).alloc (Nat.le_refl _) o)).below ((Below.refl _ _).alloc (Nat.le_refl _) o'))
  (fun x=>{ tmps:=#[.string (textB s),undef,.pointer (some ⟨w.heap.size,0,none⟩),.pointer (some ⟨w.heap.size+1,0,none⟩),.string (textB (cutW x.2).1),undef,undef,.string (textB s),
      .func (.func 172) #[] #[.pointer (some ⟨w.heap.size+3,0,none⟩),.pointer (some ⟨w.heap.size+2,0,none⟩),.pointer (some ⟨w.heap.size+4,0,none⟩)],.string (textB (cutW x.2).1),
      undef,undef,undef,undef,undef,undef,undef,undef,undef,undef,undef,undef,undef,undef,undef,undef,undef,undef,undef,undef,undef,undef,undef,undef,undef,undef,undef,undef,undef],defers:=[] })
  ?assign ?body ?iter ?done ?stop
 case assign=>
  intro l x W K hK
  gi_wp2
  exact hK
 case iter=>
  intro l K Kx tK tKx hY W h0 hK _
  have:=seq1_in (σ:=List Int × List UInt8) (8-1) (by omega) l (w.heap.size+2) W0.heap.size (by omega) (fun x=>x.2)
   (fun x W=>(∃ v,Core w x.1 x.2 v W)/\goP x.1 (wordsOf x.2)=goP [] (wordsOf s)/\x.1.length+x.2.length<=s.length)
   (fun x W=>∃ k,goW (cutW x.2).1=some k/\(∃ v,Core w (x.1++[k]) x.2 v W)/\goP x.1 (wordsOf x.2)=goP [] (wordsOf s)/\x.1.length+x.2.length<=s.length)
   (fun c x W=>c=.ret/\goP [] (wordsOf s)=none/\∃ acc v,Core w acc x.2 v W)
   (fun W=>∃ acc cur v,Core w acc cur v W/\goP [] (wordsOf s)=some acc/\acc.length<=s.length+1)
   K Kx tK ?_ ?_ ?_ hY W ([],s) ⟨⟨_,h0⟩,rfl,by simp⟩ hK
  · exact this
  · intro x W h
    have hc:x.1.length+x.2.length<=s.length/\∃ acc v,Core w acc x.2 v W:=by
     rcases h with ⟨⟨v,hv⟩,_,hl⟩ | ⟨k,_,⟨v,hv⟩,_,hl⟩
     · exact ⟨hl,_,_,hv⟩
     · exact ⟨hl,_,_,hv⟩
    obtain ⟨hl,acc,v,hv⟩:=hc
    exact ⟨by omega,hv.s,hv.sep,hv.save⟩
  · rintro x W r ⟨k,hk,⟨v,hv⟩,hg,hl⟩ hc
    refine ⟨(x.1++[k],r),rfl,⟨v,hv.setS r⟩,?_,?_⟩
    · rw [<- hg,wordsOf_cut x.2,hc,goP_cons,hk]
    · have:=(cutW_some hc).1
      have h9:=congrArg List.length this
      simp only [List.length_append,List.length_cons,List.length_nil] at h9 ⊢
      omega
  · rintro x W ⟨k,hk,⟨v,hv⟩,hg,hl⟩ hc
    refine ⟨x.1++[k],x.2,v,hv,?_,?_⟩
    · rw [<- hg,wordsOf_cut x.2,hc,goP_cons,hk];exact goP_nil _
    · simp only [List.length_append,List.length_cons,List.length_nil];omega
 case body=>
  rintro l ⟨acc,cur⟩ W ⟨⟨v,hv⟩,hg,hl⟩
  simp only at hv hg hl ⊢
  have hcr:=hv.res.cell
  have hfr:=hv.res.frozen
  have hcl:(cutW cur).1.length<=cur.length:=by
   cases h9:(cutW cur).2 with
   | none=>rw [(cutW_none h9).1];exact Nat.le_refl _
   | some r=>have:=congrArg List.length (cutW_some h9).1;simp only [List.length_append,List.length_cons] at this;omega
  have hwl:(textB (cutW cur).1).size<=281474976710656:=by simp only [textB,ByteArray.size,List.size_toArray];omega
  have hwd:(textB (cutW cur).1).data.toList=(cutW cur).1:=by simp [textB]
  have hv1':W.cell? ⟨lAtoi_ren.g 15,0,none⟩=some ev1:=by
   have:=World.block_lt_of_cell? _ _ hv1
   exact (hv.old.cell (p:=⟨lAtoi_ren.g 15,0,none⟩) this).trans hv1
  have hv2':W.cell? ⟨lAtoi_ren.g 16,0,none⟩=some ev2:=by
   have:=World.block_lt_of_cell? _ _ hv2
   exact (hv.old.cell (p:=⟨lAtoi_ren.g 16,0,none⟩) this).trans hv2
  have bad:goW (cutW cur).1=none->goP [] (wordsOf s)=none:=fun h=>by rw [<- hg,wordsOf_cut cur,goP_cons,h]
  rcases ha:Lib.atoiAll (cutW cur).1 with m | _ | _
  · have hA:∀ W:World,Calls Tryz.prog 152 #[.string (textB (cutW cur).1)] W fun e W'=>e=.returned (.tuple #[.int .i64 m,.nilIface])/\Below W.heap.size W W':=fun W=>by
      refine (Any.strconv_Atoi_ok lAtoi (textB (cutW cur).1) (by omega) m (by rw [hwd];exact ha) W).mono ?_
      rintro e w' ⟨rfl,hw⟩
      refine ⟨rfl,?_⟩
      rcases hw with rfl | ⟨t,rfl⟩
      · exact .refl _ _
      · exact Lib.bytesWorld_below _ _ _
    rcases Int.lt_or_le m 1 with hm | hm
    · have hb:goW (cutW cur).1=none:=by unfold goW;rw [ha];simp only;rw [if_neg (by omega)]
      gi_wp2_with (refine ⟨trivial,?_⟩;gi_at_call 152;refine (CallsIn.inRound l (callsIn_wide.2 (hA W))).mono ?_;rintro e w' ⟨rfl,hbb⟩;have hcr:=(hv.below hbb).res.cell;have hfr:=(hv.below hbb).res.frozen)
      refine ⟨trivial,?_⟩
      gi_wp2
      exact ⟨(Core.keepsB hbb).trans (KeepsOthers.setCell _ _ _),rfl,bad hb,_,_,(hv.below hbb).setR⟩
    · rcases Int.lt_or_le 99 m with hm2 | hm2
      · have hb:goW (cutW cur).1=none:=by unfold goW;rw [ha];simp only;rw [if_neg (by omega)]
        gi_wp2_with (refine ⟨trivial,?_⟩;gi_at_call 152;refine (CallsIn.inRound l (callsIn_wide.2 (hA W))).mono ?_;rintro e w' ⟨rfl,hbb⟩;have hcr:=(hv.below hbb).res.cell;have hfr:=(hv.below hbb).res.frozen)
        refine ⟨trivial,?_⟩
        gi_wp2
        exact ⟨(Core.keepsB hbb).trans (KeepsOthers.setCell _ _ _),rfl,bad hb,_,_,(hv.below hbb).setR⟩
      · obtain ⟨k,rfl⟩:=Int.eq_ofNat_of_zero_le (show 0<=m by omega)
        have hit:Lib.itoa (k:Int)=Lib.decDigits k:=by unfold Lib.itoa;rw [if_neg (by omega)];rfl
        gi_wp2_with (first
         | (refine ⟨trivial,?_⟩;gi_at_call 152;refine (CallsIn.inRound l (callsIn_wide.2 (hA W))).mono ?_;rintro e w' ⟨rfl,hbb⟩;have hv:=hv.below hbb;have hcr:=hv.res.cell;have hfr:=hv.res.frozen;have hco:=hv.out.cell;have hrow:=hv.row;have hsz':=hv.size)
         | (refine ⟨trivial,?_⟩;gi_at_call 125;refine (CallsIn.inRound l (callsIn_wide.2 (Any.strconv_Itoa_small lItoa0 k (by omega) _))).mono ?_;rintro e w' ⟨rfl,rfl⟩)
         | (gi_at_builtin;refine wpListIn_append_own _ rfl _ _ 22 rfl (w.heap.size+5) 3 i0 (.int .i64 0) 1 8 Tryz.underlying22 hi hz0 hz1 hz2 rfl (by decide) _ _ _ rfl (hrow.alloc _) ⟨World.heap _ |>.size,0,none⟩ 1 1 [.int .i64 (k:Int)] rfl rfl (cell_one_new _ _ _) (by simp [Value.oneCell']) (by simp only [maxLen];omega) (by omega) (by simp;omega) ?_;intro v' w1 hown' hgrow _;obtain ⟨g',cap',rfl⟩:=ownsRow_succ hown';obtain ⟨ho1,ho2,ho3⟩:=hv.app hown' hgrow;have hc1:=ho1.cell;have hf1:=ho1.frozen))
        · have hx:¬ Lib.itoa (k:Int)=(cutW cur).1:=by
            have h9:(((k:Int)<1\/99<(k:Int))\/(!(Lib.decDigits k == (textB (cutW cur).1).toList))=true):=by assumption
            rcases h9 with h9 | h9
            · omega
            · rw [ByteArray.toList_eq,hwd] at h9
              rw [hit]
              intro e
              rw [e] at h9
              simp at h9
          have hb:goW (cutW cur).1=none:=by unfold goW;rw [ha];simp only;rw [if_neg (fun h=>hx h.2.2)]
          exact ⟨(Core.keepsB hbb).trans (KeepsOthers.setCell _ _ _),rfl,bad hb,_,_,hv.setR⟩
        · have hx:Lib.itoa (k:Int)=(cutW cur).1:=by
            have h9:((1<=(k:Int)/\(k:Int)<=99)/\(!(Lib.decDigits k == (textB (cutW cur).1).toList))=false):=by assumption
            have h9:=h9.2
            rw [ByteArray.toList_eq,hwd] at h9
            rw [hit]
            simpa using h9
          exact ⟨(Core.keepsB hbb).trans ho2,k,by unfold goW;rw [ha];simp only;rw [if_pos ⟨hm,hm2,hx⟩],⟨_,ho3⟩,hg,hl⟩
  · have hb:goW (cutW cur).1=none:=by unfold goW;rw [ha]
    gi_wp2_with (refine ⟨trivial,?_⟩;gi_at_call 152;refine (CallsIn.inRound l (callsIn_wide.2 (Any.strconv_Atoi_syntax lAtoi (textB (cutW cur).1) hwl (by rw [hwd];exact ha) ev1 W hv1' he1))).mono ?_;rintro e w' ⟨N,rfl,_,_,hbb⟩;have hcr:=(hv.below hbb).res.cell;have hfr:=(hv.below hbb).res.frozen)
    refine ⟨trivial,?_⟩
    gi_wp2
    exact ⟨(Core.keepsB hbb).trans (KeepsOthers.setCell _ _ _),rfl,bad hb,_,_,(hv.below hbb).setR⟩
  · have hb:goW (cutW cur).1=none:=by unfold goW;rw [ha]
    gi_wp2_with (refine ⟨trivial,?_⟩;gi_at_call 152;refine (CallsIn.inRound l (callsIn_wide.2 (Any.strconv_Atoi_range lAtoi (textB (cutW cur).1) hwl (by rw [hwd];exact ha) ev2 W hv2' he2))).mono ?_;rintro e w' ⟨N,rfl,_,_,hbb⟩;have hcr:=(hv.below hbb).res.cell;have hfr:=(hv.below hbb).res.frozen)
    refine ⟨trivial,?_⟩
    gi_wp2
    exact ⟨(Core.keepsB hbb).trans (KeepsOthers.setCell _ _ _),rfl,bad hb,_,_,(hv.below hbb).setR⟩
 case done=>
  rintro D W rfl ⟨acc,cur,v,hv,hg,hl⟩ hK
  have hcr:=hv.res.cell
  have hfr:=hv.res.frozen
  have hco:=hv.out.cell
  have fin:∀ u:Value,W.ownsRow (w.heap.size+5) 3 1 u (partsR s).length ((partsR s).map (Value.int .i64))->
   ∃ w1,(Instr.takeDeferred W0.heap.size).run Tryz.prog (W.setCell ⟨w.heap.size,0,none⟩ u)=.ok [] w1/\w1.cell? ⟨w.heap.size,0,none⟩=some u/\w1.ownsRow (w.heap.size+5) 3 1 u (partsR s).length ((partsR s).map (Value.int .i64))/\Below w.heap.size w w1:=by
   intro u hu
   have hK':=(KeepsOthers.setCell W ⟨w.heap.size,0,none⟩ u).same W0.heap.size _ hK rfl
   refine ⟨_,run_takeDeferred hK',?_,?_,?_⟩
   · exact cell_kept (World.cell?_setCell_same' W ⟨w.heap.size,0,none⟩ u (by rw [hcr];rfl)) (grownBy_putObj' _ W0.heap.size (.deferred none)) (fun r e=>by cases e;exact ⟨_,hK',rfl⟩)
   · exact ownsRow_putObj (hu.kept (grownBy_setCell' W _ _) (.inr (fun e=>by have:=own_ge hu _ e;omega))) _ hK' rfl
   · exact (hv.old.setCell (p:=⟨w.heap.size,0,none⟩) (Nat.le_refl _) u).grown (grownBy_putObj' _ W0.heap.size (.deferred none)) (by have:=hv.size;have:=(grownBy_setCell' W w.heap.size u).size;omega) (fun k e=>by cases e;omega)
  rcases hv.row.2 with ⟨rfl,h0⟩ | ⟨g,cap,cur',rfl,hb,hgb,hrest⟩
  · have e0:acc=[]:=List.length_eq_zero_iff.1 h0
    have hp:partsR s=[]:=by unfold partsR;rw [hg,e0];rfl
    gi_wp2
    obtain ⟨w1,g1,g2,g3,g4⟩:=fin _ (by rw [hp];exact World.ownsRow_nil W (w.heap.size+5) 3 1)
    refine ⟨by simp,.inl ⟨_,_,rfl,g1,.slice none 0 0,?_,_,rfl,g3,g4⟩⟩
    simp [results,Tryz.f121,go_sem,g2]
  · have hrow:=hv.row
    gi_wp2
    · have h4 : 4 < acc.length := by have h9:4<(acc.length:Int):=by assumption
                                     omega
      have hp:partsR s=[]:=by unfold partsR;rw [hg];exact if_pos h4
      obtain ⟨w1,g1,g2,g3,g4⟩:=fin _ (by rw [hp];exact World.ownsRow_nil W (w.heap.size+5) 3 1)
      refine ⟨by simp,.inl ⟨_,_,rfl,g1,.slice none 0 0,?_,_,rfl,g3,g4⟩⟩
      simp [results,Tryz.f121,go_sem,g2]
    · have h4 : ¬ 4 < acc.length := by have h9:(acc.length:Int)<=4:=by assumption
                                       omega
      have hp:partsR s=acc:=by unfold partsR;rw [hg];exact if_neg h4
      obtain ⟨w1,g1,g2,g3,g4⟩:=fin _ (by rw [hp];exact hrow)
      refine ⟨by simp,.inl ⟨_,_,rfl,g1,.slice (some ⟨g,0,none⟩) acc.length cap,?_,_,rfl,g3,g4⟩⟩
      simp [results,Tryz.f121,go_sem,g2]
 case stop=>
  rintro D c x W rfl ⟨rfl,hg,acc,v,hv⟩ hK
  have hp:partsR s=[]:=by unfold partsR;rw [hg]
  have hcr:=hv.res.cell
  gi_wp2
  refine ⟨by simp,.inl ⟨_,_,rfl,run_takeDeferred hK,?_⟩⟩
  have hc5:=cell_kept hcr (grownBy_putObj' _ W0.heap.size (.deferred none)) (fun r e=>by cases e;exact ⟨_,hK,rfl⟩)
  refine ⟨.slice none 0 0,?_,_,rfl,?_,?_⟩
  · simp [results,Tryz.f121,go_sem,hc5]
  · rw [hp];exact World.ownsRow_nil _ _ _ _
  · exact hv.old.grown (grownBy_putObj' _ W0.heap.size (.deferred none)) (by have:=hv.size;omega) (fun k e=>by cases e;omega)
end Go.AM
