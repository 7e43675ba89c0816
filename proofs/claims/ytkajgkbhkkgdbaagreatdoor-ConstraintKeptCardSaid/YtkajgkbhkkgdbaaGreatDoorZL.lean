/-
  A part of a proof.
-/
import Derived.Test.YtkajgkbhkkgdbaaGreatDoorZ2
set_option linter.unusedSimpArgs false
set_option linter.unusedVariables false
namespace Go.AM
open Go Go.Proofs Go.IntWalk
attribute [local go_sem] List.take_nil List.take_succ_cons allI_cons allI_nil arg1 arg2 false_or intV memI_cons memI_nil nS ne_eq not_false_eq_true okN okP_eq okR on_ls_eq on_ps_eq or_false pickS plan0 preC_eq preCd_eq preLf_eq preN_eq preP_eq preR_eq slV strV Θ1 Θ2 Θ3 Θ4 Θ5 Θ6 Θ7 Θ8
set_option maxRecDepth 100000
set_option maxHeartbeats 4000000
theorem lvC_str {tr:List PV} {top:List UInt8} (h:treeP tr):∀ e,e∈(lvC (tr.map hCode) top).map PV.str->∃ c,e=.str c/\c.length<=100:=by
 intro e he
 obtain ⟨c,hc,rfl⟩:=List.mem_map.1 he
 obtain ⟨x,hx,rfl⟩:=List.mem_map.1 ((List.mem_filter.1 hc).1)
 obtain ⟨c,n,rfl,hl⟩:=h.2 x hx
 exact ⟨c,rfl,hl⟩
def moC (fi ye:Int) (tr la lb lc:List PV) (d e f:AV):List AV:=[.pv (.int .i64 fi),.pv (.int .i64 ye),.pv (.sl tr),.pv (.sl la),.pv (.sl lb),.pv (.sl lc),d,e,f,.nils]
def isE3q (x:PV):Prop:=∃ s c p,x=.agg [.str s,.str c,.int .i64 p]/\s.length<=100/\c.length<=100
def isC7q (x:PV):Prop:=∃ c y am k d s l,x=.agg [.str c,.int .i64 y,.int .i64 am,.int .i64 k,.int .i64 d,.str s,.int .i64 l]/\c.length<=100/\s.length<=100
def isR4q (x:PV):Prop:=∃ n s c p,x=.agg [.int .i64 n,.str s,.str c,.int .i64 p]/\s.length<=100/\c.length<=100
def preMo (fs:List AV):Prop:=∃ fi ye tr la lb lc,fs=moC fi ye tr la lb lc .nils .nils .nils/\(0<=fi/\fi<=95)/\(1<=ye/\ye<=3)/\okTree tr
def postMo (fs gs:List AV):Prop:=∃ fi ye tr la lb lc d e f,fs=moC fi ye tr la lb lc .nils .nils .nils/\gs=moC fi ye tr la lb lc (.pv (.sl d)) (.pv (.sl e)) (.pv (.sl f))/\
 (d.length<=101/\∀ x,x∈d->isE3q x)/\(e.length<=3/\∀ x,x∈e->isC7q x)/\(f.length<=3/\∀ x,x∈f->isR4q x)
def planM:Plan:={ keep:=fun _=>none,cut:=fun _=>false,stop:=fun i=>i == 3||i == 6||i == 8||i == 11||i == 18 }
def moH (fi ye:Int) (tr la lb lc:List PV) (d e f:AV) (R:AHeap):AHeap:=(9000,.obj Tp)::(9001,.cells (moC fi ye tr la lb lc d e f))::R
theorem k_moreE_39 {args:List PV}:Z5 39 args=rlvS args:=rfl
theorem k_moreE_79 {args:List PV}:Z5 79 args=rhasLS args:=rfl
noncomputable abbrev Cmo:Ctx:=cxQ Tryz.prog Z5 Θ8 noΨ [74] [9000,9001] 222
theorem M5_N {args:List PV}:Z5 16 args=(False,default):=rfl
theorem w_moreE:ESound GG 42 (psiW Tp preMo postMo):=by
 refine ESound.of_wr (C:=Cmo) Tryz.func42 rfl rfl rfl rfl rfl (Fit.all (G:=GG) hZ5 hΘ8 hnoΨ mixed) (by decide) (fun fs hfl h=>?_)
 obtain ⟨fi,ye,tr,la,lb,lc,rfl,hf,hy,ht,hne⟩:=h
 have h100:=ht.1
 have hlp:=List.length_pos_iff.2 hne
 have tk:∀ l:List PV,l.take l.length=l:=fun l=>List.take_length
 refine wpc_sound (T:=planM) _ _ _ ?_
 simp only [k_moreE_39,rlvS,Nat.reduceBEq,moC,planM,go_sem,↓reduceIte,reduceCtorEq,Nat.reduceEqDiff,Nat.reduceLT,Nat.reduceAdd,Nat.reduceLeDiff]
 refine ⟨⟨ht.isH,by omega⟩,?_⟩
 have hlm:=lvC_str (top:=[57]) ht
 obtain ⟨ls,hls⟩:∃ ls,lvC (tr.map hCode) [57]=ls:=⟨_,rfl⟩
 rw [hls] at hlm ⊢
 obtain ⟨lv,hlv⟩:∃ lv,ls.map PV.str=lv:=⟨_,rfl⟩
 have hln:ls.length=lv.length:=by rw [<- hlv,List.length_map]
 rw [hlv] at hlm
 have hll:lv.length<=100:=by
  rw [<- hln,<- hls]
  exact Nat.le_trans (List.length_filter_le _ _) (by rw [List.length_map];exact ht.1)
 rw [hlv]
 refine AWp.adoptC (b:=9001) (i:=6) (κ:=8006) (k:=3) rfl rfl rfl (by decide) ?_
 refine AWp.adoptC (b:=9001) (i:=7) (κ:=8007) (k:=7) rfl rfl rfl (by decide) ?_
 refine AWp.adoptC (b:=9001) (i:=8) (κ:=8008) (k:=4) rfl rfl rfl (by decide) ?_
 refine AWp.loop (T:=planM) (α:=Nat × List PV) (fun y=>([(0,.ptr 9000 0),(1,.ptr 9001 0),(13,.pv (.sl lv)),(14,.pv (.int .i64 lv.length)),(15,.pv (.int .i64 y.1))],moH fi ye tr la lb lc (.rs 8006 y.2.length) (.rs 8007 0) (.rs 8008 0) [(8006,.row 3 y.2),(8007,.row 7 []),(8008,.row 4 [])])) (fun y=>y.1<=lv.length/\y.2.length<=y.1/\∀ x,x∈y.2->isE3q x) (fun y=>lv.length-y.1)
  ⟨(0,[]),⟨Nat.zero_le _,Nat.zero_le _,by simp⟩,⟨by simp [fitR,look],by simp [fitH,hget,hset,moC,moH],rfl,rfl,rfl⟩⟩ ?_
 rintro ⟨k,ld⟩ ⟨g1,g2,g3⟩
 simp only at g1 g2 g3
 have hk1:IntKind.i64.wrap ((k:Int)+1)=((k+1:Nat):Int):=by rw [i64_in _ (by omega)];omega
 by_cases klt:k<lv.length
 · have c0:decide ((k:Int)<(lv.length:Int))=true:=by simp;omega
   obtain ⟨s,hs,hsl⟩:=getD_str hlm klt
   simp (config:={maxSteps:=1000000}) only [c0,hs,Nat.reduceBEq,moC,moH,planM,go_sem,↓reduceIte,reduceCtorEq,Nat.reduceEqDiff,Nat.reduceLT,Nat.reduceLeDiff]
   refine ⟨⟨by omega,by omega⟩,?_⟩
   refine AWp.seqc (T:=plan0) ?_
   simp (config:={maxSteps:=1000000}) only [go_sem,↓reduceIte,reduceCtorEq,Nat.reduceEqDiff,Nat.reduceLT,↓all_qVz,Int.reduceLE]
   intro x0 h0
   rw [Stop_eq]
   simp (config:={maxSteps:=1000000}) only [go_sem,↓reduceIte,Nat.reduceLT]
   refine AWp.condB (t:=x0 == 0) rfl (fun c5=>?_) (fun c5=>?_)
   · refine AWp.perm0 [1,2,3,4,5,6,7,8,9,10,11,12,13,14,15,16,17,0,18,19,20] (by kernel_rfl) rfl ?_
     simp (config:={maxSteps:=1000000}) only [hk1,opsOf,List.filterMap_cons,List.filterMap_nil,List.getElem?_toArray,List.getElem?_cons_succ,List.getElem?_cons_zero,tk,Nat.reduceBEq,go_sem,↓reduceIte,reduceCtorEq,Nat.reduceEqDiff,Nat.reduceLT,↓all_qVz,Int.reduceLE,Nat.reduceAdd,Nat.reduceLeDiff,Nat.reduceMul]
     refine ⟨ht,fun s2 hs2=>?_⟩
     rw [Stop_eq]
     simp (config:={maxSteps:=1000000}) only [hk1,List.getElem?_cons_succ,List.getElem?_cons_zero,tk,Nat.reduceBEq,go_sem,↓reduceIte,reduceCtorEq,Nat.reduceEqDiff,Nat.reduceLT,↓all_qVz,Int.reduceLE,Nat.reduceAdd,Nat.reduceLeDiff,Nat.reduceMul]
     intro p hp
     rw [Stop_eq]
     simp (config:={maxSteps:=1000000}) only [hk1,List.getElem?_cons_succ,List.getElem?_cons_zero,tk,Nat.reduceBEq,go_sem,↓reduceIte,reduceCtorEq,Nat.reduceEqDiff,Nat.reduceLT,Nat.reduceAdd,Nat.reduceLeDiff,Nat.reduceMul]
     refine ⟨rfl,fun e he=>(by simp only [List.mem_singleton] at he;subst he;rfl),Nat.le_refl _,by omega,by simp only [maxLen];omega,(k+1,ld++[.agg [.str s,.str s2,.int .i64 p]]),⟨by simp only;omega,by simp only [List.length_append,List.length_cons,List.length_nil];omega,fun e he=>?_⟩,by simp only;omega,⟨by simp [fitR,look],by simp [fitH,hget],rfl,rfl,rfl⟩⟩
     rcases List.mem_append.1 he with he | he
     · exact g3 e he
     · rw [List.mem_singleton] at he;exact ⟨_,_,_,he,hsl,hs2.1⟩
   · refine wpc_sound (T:=plan0) _ _ _ ?_
     simp (config:={maxSteps:=1000000}) only [hk1,go_sem,↓reduceIte,reduceCtorEq,Nat.reduceEqDiff,Nat.reduceLT]
     exact ⟨(k+1,ld),⟨by simp only;omega,by simp only;omega,g3⟩,by simp only;omega,⟨by simp [fitR,look],by simp [fitH,hget],rfl,rfl,rfl⟩⟩
 · have c0:decide ((k:Int)<(lv.length:Int))=false:=by simp;omega
   simp (config:={maxSteps:=1000000}) only [c0,Nat.reduceBEq,moC,moH,planM,go_sem,↓reduceIte,reduceCtorEq,Nat.reduceEqDiff,Nat.reduceLT]
   have hl101:ld.length<=100:=by omega
   clear g1 g2 hk1 klt c0
   refine AWp.freezeC (T:=planM) 8006 3 (α:=Unit) (fun _=>ld) (fun _=>([(0,.ptr 9000 0),(1,.ptr 9001 0)],moH fi ye tr la lb lc (.pv (.sl ld)) (.rs 8007 0) (.rs 8008 0) [(8007,.row 7 []),(8008,.row 4 [])])) (fun _=>True) ⟨(),trivial,⟨by simp [hget],rfl,by simp [fitF,look],by simp [fitHF,hget,frzC,moC,moH],rfl,rfl,rfl⟩⟩ ?_
   intro _ _
   refine AWp.join (c:=?c1) (Q:=?Q1) (T:=plan0) (C:=Cmo) (fun z:List PV=>([(0,.ptr 9000 0),(1,.ptr 9001 0)],moH fi ye tr la lb lc (.pv (.sl z)) (.rs 8007 0) (.rs 8008 0) [(8007,.row 7 []),(8008,.row 4 [])])) (fun z=>z.length<=101/\∀ x,x∈z->isE3q x) (fun key=>?main) ?rest
   case main=>
    cases ld with
    | nil=>
      have dF:decide False=false:=rfl
      have g0:([]:List PV).getD 0 (.bool false)=.bool false:=rfl
      have g1:[PV.bool false].getD 0 (.bool false)=.bool false:=rfl
      obtain ⟨q0,b0,hb0⟩:∃ q b,binT Tryz.prog BinOp.neq 9 true (AV.pv (PV.bool false)) (AV.pv (PV.str [57]))=(q,.pv (.bool b)):=⟨_,_,by simp only [binT,Tryz.underlying9,binA];rfl⟩
      simp only [Nat.reduceBEq,moC,moH,planM,go_sem,↓reduceIte]
      refine AWp.seqc (T:=plan0) ?_
      simp (config:={maxSteps:=1000000}) only [dF,g0,g1,hb0,M5_N,PV_default,go_sem,↓reduceIte,reduceCtorEq,Nat.reduceEqDiff,Nat.reduceLT,Int.reduceLT,Nat.reduceAdd,Nat.reduceLeDiff,ev_callG,gcallK_b,callGc_false]
      refine AWp.condB (t:=false) rfl (fun h=>by cases h) (fun _=>?_)
      refine wpc_sound (T:=plan0) _ _ _ ?_
      simp only [Nat.reduceBEq,go_sem,↓reduceIte]
      refine key [] _ ⟨by simp,by simp⟩ ?_
      exact ⟨by simp [fitR,look],by simp [fitH,hget,moC,moH],rfl,rfl,rfl⟩
    | cons x r=>
      have dT:decide ((0:Int)<(((x::r).length:Nat):Int))=true:=by simp
      obtain ⟨sx,cx,px,rfl,hsx,hcx⟩:=g3 x List.mem_cons_self
      have g0:((PV.agg [.str sx,.str cx,.int .i64 px])::r).getD 0 default=.agg [.str sx,.str cx,.int .i64 px]:=rfl
      obtain ⟨rr,hrr⟩:∃ rr,(PV.agg [.str sx,.str cx,.int .i64 px])::r=rr:=⟨_,rfl⟩
      rw [hrr] at dT g0 g3 hl101 ⊢
      have hpos:0<rr.length:=by rw [<- hrr];simp
      simp only [Nat.reduceBEq,moC,moH,planM,go_sem,↓reduceIte]
      refine AWp.seqc (T:=plan0) ?_
      cases h57:(sx == [57]) with
      | true=>
        simp (config:={maxSteps:=1000000}) only [dT,g0,h57,Bool.not_true,go_sem,↓reduceIte,reduceCtorEq,Nat.reduceEqDiff,Nat.reduceLT,Nat.reduceAdd,Nat.reduceLeDiff,ev_callG,gcallK_b,callGc_false]
        simp (config:={maxSteps:=1000000}) only [M5_N,PV_default,go_sem,Nat.reduceLT]
        refine ⟨by omega,?_⟩
        refine AWp.condB (t:=false) rfl (fun h=>by cases h) (fun _=>?_)
        refine wpc_sound (T:=plan0) _ _ _ ?_
        simp only [Nat.reduceBEq,go_sem,↓reduceIte]
        refine key rr _ ⟨by omega,g3⟩ ?_
        exact ⟨by simp [fitR,look],by simp [fitH,hget,moC,moH],rfl,rfl,rfl⟩
      | false=>
        simp (config:={maxSteps:=1000000}) only [dT,g0,h57,Bool.not_false,go_sem,↓reduceIte,reduceCtorEq,Nat.reduceEqDiff,Nat.reduceLT,↓all_qVz',Int.reduceLE,Nat.reduceAdd,Nat.reduceLeDiff,ev_callG,gcallK_b,callGc_true]
        refine ⟨by omega,fun x0 h0=>?_⟩
        rw [Stop_eq]
        simp (config:={maxSteps:=1000000}) only [go_sem,↓reduceIte,reduceCtorEq,Nat.reduceEqDiff,Nat.reduceLT]
        refine AWp.condB (t:=x0 == 0) rfl (fun c5=>?_) (fun c5=>?_)
        · refine AWp.perm0 [1,2,3,4,5,6,7,8,9,11,12,13,14,10,15,0,16,17,18] (by kernel_rfl) rfl ?_
          simp (config:={maxSteps:=1000000}) only [opsOf,List.filterMap_cons,List.filterMap_nil,List.getElem?_toArray,List.getElem?_cons_succ,List.getElem?_cons_zero,ev_rowlit,Nat.reduceBEq,go_sem,↓reduceIte,reduceCtorEq,Nat.reduceEqDiff,Nat.reduceLT,↓all_qVz,Int.reduceLE,Nat.reduceAdd,Nat.reduceLeDiff,Nat.reduceMul]
          refine ⟨ht,fun s2 hs2=>?_⟩
          rw [Stop_eq]
          simp (config:={maxSteps:=1000000}) only [List.getElem?_cons_succ,List.getElem?_cons_zero,ev_rowlit,go_sem,↓reduceIte,reduceCtorEq,Nat.reduceEqDiff,Nat.reduceLT,↓all_qVz,Int.reduceLE,Nat.reduceAdd,Nat.reduceLeDiff,Nat.reduceMul]
          intro p hp
          rw [Stop_eq]
          simp (config:={maxSteps:=1000000}) only [List.getElem?_cons_succ,List.getElem?_cons_zero,ev_rowlit,go_sem,↓reduceIte,reduceCtorEq,Nat.reduceEqDiff,Nat.reduceLT,Nat.reduceAdd,Nat.reduceLeDiff,Nat.reduceMul]
          have hw:(PV.agg [.str [57],.str s2,.int .i64 p]::rr).take (1+rr.length)=PV.agg [.str [57],.str s2,.int .i64 p]::rr:=List.take_of_length_le (by simp;omega)
          have hg4:∀ x,x∈PV.agg [.str [57],.str s2,.int .i64 p]::rr->isE3q x:=fun x hx=>by
           rcases List.mem_cons.1 hx with rfl | hx
           · exact ⟨_,_,_,rfl,by simp,hs2.1⟩
           · exact g3 x hx
          have hg5:(PV.agg [.str [57],.str s2,.int .i64 p]::rr).length<=101:=by simp only [List.length_cons];omega
          refine ⟨rfl,fun e he=>by obtain ⟨_,_,_,rfl,_⟩:=g3 e he;rfl,by omega,by simp only [maxLen];omega,?_⟩
          refine AWp.freezeC (T:=planM) 74 3 (α:=Unit) (fun _=>PV.agg [.str [57],.str s2,.int .i64 p]::rr) (fun _=>([(0,.ptr 9000 0),(1,.ptr 9001 0)],moH fi ye tr la lb lc (.pv (.sl (PV.agg [.str [57],.str s2,.int .i64 p]::rr))) (.rs 8007 0) (.rs 8008 0) [(8007,.row 7 []),(8008,.row 4 [])])) (fun _=>True) ⟨(),trivial,⟨by simp [hget],rfl,by simp [fitF,look],by (simp [fitHF,hget,frzC,moC,moH,hw];omega),rfl,rfl,rfl⟩⟩ ?_
          intro _ _
          generalize PV.agg [.str [57],.str s2,.int .i64 p]::rr=nn at hg4 hg5 ⊢
          simp only [Nat.reduceBEq,moC,moH,planM,go_sem,↓reduceIte]
          refine key nn _ ⟨hg5,hg4⟩ ?_
          exact ⟨by simp [fitR,look],by simp [fitH,hget,moC,moH],rfl,rfl,rfl⟩
        · refine wpc_sound (T:=plan0) _ _ _ ?_
          simp (config:={maxSteps:=1000000}) only [Nat.reduceBEq,go_sem,↓reduceIte]
          refine key rr _ ⟨by omega,g3⟩ ?_
          exact ⟨by simp [fitR,look],by simp [fitH,hget,moC,moH],rfl,rfl,rfl⟩
   case rest=>
    clear g3 hl101
    rintro ld ⟨hl1,hl2⟩
    simp (config:={maxSteps:=1000000}) only [moC,moH,go_sem,↓reduceIte,Nat.reduceEqDiff,Nat.reduceLT,↓all_qVz,Int.reduceLE]
    intro n hn
    rw [Stop_eq]
    simp (config:={maxSteps:=1000000}) only [go_sem,↓reduceIte,Nat.reduceLT]
    refine AWp.loop (T:=planM) (α:=Int × List PV) (fun y=>([(0,.ptr 9000 0),(1,.ptr 9001 0),(6,.pv (.int .i64 y.1))],moH fi ye tr la lb lc (.pv (.sl ld)) (.rs 8007 y.2.length) (.rs 8008 0) [(8007,.row 7 y.2),(8008,.row 4 [])])) (fun y=>(0<=y.1/\y.1<=3)/\(y.2.length:Int)+y.1<=3/\∀ x,x∈y.2->isC7q x) (fun y=>y.1.toNat)
     ⟨(n,[]),⟨by simp only;omega,by simp;omega,by simp⟩,⟨by simp [fitR,look],by simp [fitH,hget,moC,moH],rfl,rfl,rfl⟩⟩ ?_
    rintro ⟨i,le⟩ ⟨⟨g1,g2⟩,g3,g4⟩
    simp only at g1 g2 g3 g4
    have hi1:IntKind.i64.wrap (i-1)=i-1:=i64_in _ (by omega)
    by_cases hlt:0<i
    · have c0:decide (0<i)=true:=by simp;exact hlt
      simp (config:={maxSteps:=1000000}) only [c0,Nat.reduceBEq,moC,moH,planM,go_sem,↓reduceIte,reduceCtorEq,Nat.reduceEqDiff,Nat.reduceLT]
      refine AWp.seqc (T:=plan0) ?_
      simp (config:={maxSteps:=1000000}) only [Nat.reduceBEq,go_sem,↓reduceIte,reduceCtorEq,Nat.reduceEqDiff,Nat.reduceLT,↓all_qVz,Int.reduceLE,Nat.reduceAdd,Nat.reduceLeDiff,Nat.reduceMul]
      refine ⟨by kernel_rfl,ht,fun s2 hs2=>?_⟩
      rw [Stop_eq]
      simp (config:={maxSteps:=1000000}) only [Nat.reduceBEq,go_sem,↓reduceIte,reduceCtorEq,Nat.reduceEqDiff,Nat.reduceLT,↓all_qVz,Int.reduceLE,Nat.reduceAdd,Nat.reduceLeDiff,Nat.reduceMul]
      refine ⟨⟨by omega,by omega⟩,fun k2 hk2=>?_⟩
      rw [Stop_eq]
      simp (config:={maxSteps:=1000000}) only [Nat.reduceBEq,go_sem,↓reduceIte,reduceCtorEq,Nat.reduceEqDiff,Nat.reduceLT,↓all_qVz,Int.reduceLE,Nat.reduceAdd,Nat.reduceLeDiff,Nat.reduceMul]
      intro m hm
      rw [Stop_eq]
      simp (config:={maxSteps:=1000000}) only [Nat.reduceBEq,go_sem,↓reduceIte,reduceCtorEq,Nat.reduceEqDiff,Nat.reduceLT,↓all_qVz,Int.reduceLE,Nat.reduceAdd,Nat.reduceLeDiff,Nat.reduceMul]
      refine ⟨⟨by unfold okAm at hm;omega,by unfold okAm at hm;omega⟩,fun q hq=>?_⟩
      rw [Stop_eq]
      simp (config:={maxSteps:=1000000}) only [go_sem,↓reduceIte,reduceCtorEq,Nat.reduceEqDiff,Nat.reduceLT,↓all_qVz,Int.reduceLE,Nat.reduceAdd,Nat.reduceLeDiff]
      intro d hd
      rw [Stop_eq]
      simp (config:={maxSteps:=1000000}) only [go_sem,↓reduceIte,Nat.reduceEqDiff,Nat.reduceLT,Nat.reduceAdd,Nat.reduceLeDiff]
      refine AWp.seqc (T:=plan0) ?_
      simp (config:={maxSteps:=1000000}) only [go_sem,↓reduceIte,reduceCtorEq,Nat.reduceEqDiff,Nat.reduceLT,↓all_qVz,Int.reduceLE,Nat.reduceAdd,Nat.reduceLeDiff]
      intro x0 h0
      rw [Stop_eq]
      simp (config:={maxSteps:=1000000}) only [go_sem,↓reduceIte,reduceCtorEq,Nat.reduceEqDiff,Nat.reduceLT,↓all_qVz,Int.reduceLE,Nat.reduceAdd,Nat.reduceLeDiff]
      refine ⟨fun c5=>?_,fun c5=>?_⟩
      · intro x3 h3
        rw [Stop_eq]
        simp (config:={maxSteps:=1000000}) only [go_sem,↓reduceIte,reduceCtorEq,Nat.reduceEqDiff,Nat.reduceLT,Nat.reduceAdd,Nat.reduceLeDiff]
        refine AWp.perm0 [1,2,3,4,5,6,7,0,8,9,10] (by kernel_rfl) rfl ?_
        simp (config:={maxSteps:=1000000}) only [hi1,opsOf,List.filterMap_cons,List.filterMap_nil,List.getElem?_toArray,List.getElem?_cons_succ,List.getElem?_cons_zero,tk,Nat.reduceBEq,go_sem,↓reduceIte,reduceCtorEq,Nat.reduceEqDiff,Nat.reduceLT,Nat.reduceAdd,Nat.reduceLeDiff,Nat.reduceMul]
        refine ⟨fun c hc=>by
         simp only [List.mem_cons,List.not_mem_nil,or_false] at hc
         rcases hc with rfl | rfl | rfl | rfl | rfl | rfl | rfl <;> exact ⟨rfl,by simp [frzOk]⟩,rfl,fun e he=>(by simp only [List.mem_singleton] at he;subst he;rfl),Nat.le_refl _,by omega,by simp only [maxLen];omega,(i-1,le++[.agg [.str s2,.int .i64 (IntKind.i64.wrap (fi+k2)),.int .i64 q,.int .i64 2,.int .i64 0,.str [57],.int .i64 x3]]),⟨by simp only;omega,by simp only [List.length_append,List.length_cons,List.length_nil];omega,fun e he=>?_⟩,by simp only;omega,⟨by simp [fitR,look],by simp [fitH,hget],rfl,rfl,rfl⟩⟩
        rcases List.mem_append.1 he with he | he
        · exact g4 e he
        · rw [List.mem_singleton] at he;exact ⟨_,_,_,_,_,_,_,he,hs2.1,by simp⟩
      · refine AWp.perm0 [1,2,3,4,5,6,7,0,8,9,10] (by kernel_rfl) rfl ?_
        simp (config:={maxSteps:=1000000}) only [hi1,opsOf,List.filterMap_cons,List.filterMap_nil,List.getElem?_toArray,List.getElem?_cons_succ,List.getElem?_cons_zero,tk,Nat.reduceBEq,go_sem,↓reduceIte,reduceCtorEq,Nat.reduceEqDiff,Nat.reduceLT,Nat.reduceAdd,Nat.reduceLeDiff,Nat.reduceMul]
        refine ⟨fun c hc=>by
         simp only [List.mem_cons,List.not_mem_nil,or_false] at hc
         rcases hc with rfl | rfl | rfl | rfl | rfl | rfl | rfl <;> exact ⟨rfl,by simp [frzOk]⟩,rfl,fun e he=>(by simp only [List.mem_singleton] at he;subst he;rfl),Nat.le_refl _,by omega,by simp only [maxLen];omega,(i-1,le++[.agg [.str s2,.int .i64 (IntKind.i64.wrap (fi+k2)),.int .i64 q,.int .i64 1,.int .i64 (IntKind.i64.wrap (IntKind.i64.wrap (360 * fi)+d)),.str [],.int .i64 0]]),⟨by simp only;omega,by simp only [List.length_append,List.length_cons,List.length_nil];omega,fun e he=>?_⟩,by simp only;omega,⟨by simp [fitR,look],by simp [fitH,hget],rfl,rfl,rfl⟩⟩
        rcases List.mem_append.1 he with he | he
        · exact g4 e he
        · rw [List.mem_singleton] at he;exact ⟨_,_,_,_,_,_,_,he,hs2.1,by simp⟩
    · have c0:decide (0<i)=false:=by simp;omega
      simp (config:={maxSteps:=1000000}) only [c0,Nat.reduceBEq,moC,moH,planM,go_sem,↓reduceIte,reduceCtorEq,Nat.reduceEqDiff,Nat.reduceLT]
      have hle:le.length<=3:=by omega
      clear g1 g2 g3 hi1 hlt c0
      refine AWp.loop (T:=planM) (α:=Int × Nat × List PV) (fun y=>([(0,.ptr 9000 0),(1,.ptr 9001 0),(8,.pv (.int .i64 y.1))],moH fi ye tr la lb lc (.pv (.sl ld)) (.rs 8007 le.length) (.rs 8008 y.2.1) [(8007,.row 7 le),(8008,.row 4 y.2.2)])) (fun y=>(1<=y.1/\y.1<=4)/\(y.2.1:Int)<y.1/\y.2.1<=y.2.2.length/\∀ x,x∈y.2.2.take y.2.1->isR4q x) (fun y=>(4-y.1).toNat)
       ⟨(1,0,[]),⟨by simp,by simp,by simp,by simp⟩,⟨by simp [fitR,look],by simp [fitH,hget,moC,moH],rfl,rfl,rfl⟩⟩ ?_
      rintro ⟨i,n,lf⟩ ⟨⟨g1,g2⟩,g3,g5,g6⟩
      simp only at g1 g2 g3 g5 g6
      have hi1:IntKind.i64.wrap (i+1)=i+1:=i64_in _ (by omega)
      simp (config:={maxSteps:=1000000}) only [Nat.reduceBEq,moC,moH,planM,go_sem,↓reduceIte,reduceCtorEq,Nat.reduceEqDiff,Nat.reduceLT,↓all_qVz,Int.reduceLE]
      intro x0 h0
      rw [Stop_eq]
      simp (config:={maxSteps:=1000000}) only [Nat.reduceBEq,go_sem,↓reduceIte,Nat.reduceEqDiff,Nat.reduceLT]
      refine ⟨fun c5=>?_,fun c5=>?_⟩
      · have hlt:i<=x0:=by simpa using c5
        refine AWp.perm (T:=plan0) [1,2,3,4,5,6,7,8,9,10,11,12,13,14,15,16,17,18,19,20,21,22,23,0,24,25,26] (by kernel_rfl) rfl ?_
        simp (config:={maxSteps:=1000000}) only [opsOf,List.filterMap_cons,List.filterMap_nil,List.getElem?_toArray,List.getElem?_cons_succ,List.getElem?_cons_zero,tk,k_moreE_79,rhasLS,Nat.reduceBEq,rhasLS,go_sem,↓reduceIte,reduceCtorEq,Nat.reduceEqDiff,Nat.reduceLT,↓all_qVz,Int.reduceLE,Nat.reduceAdd,Nat.reduceLeDiff,Nat.reduceMul]
        refine ⟨⟨ht,hne⟩,fun s1 hs1=>?_⟩
        rw [Stop_eq]
        simp (config:={maxSteps:=1000000}) only [List.getElem?_toArray,List.getElem?_cons_succ,List.getElem?_cons_zero,tk,k_moreE_79,rhasLS,Nat.reduceBEq,rhasLS,go_sem,↓reduceIte,reduceCtorEq,Nat.reduceEqDiff,Nat.reduceLT,↓all_qVz,Int.reduceLE,Nat.reduceAdd,Nat.reduceLeDiff,Nat.reduceMul]
        refine ⟨⟨ht,hne⟩,fun s2 hs2=>?_⟩
        rw [Stop_eq]
        simp (config:={maxSteps:=1000000}) only [List.getElem?_toArray,List.getElem?_cons_succ,List.getElem?_cons_zero,tk,k_moreE_79,rhasLS,Nat.reduceBEq,rhasLS,go_sem,↓reduceIte,reduceCtorEq,Nat.reduceEqDiff,Nat.reduceLT,↓all_qVz,Int.reduceLE,Nat.reduceAdd,Nat.reduceLeDiff,Nat.reduceMul]
        intro p hp
        have w1:IntKind.i64.wrap (((n+1:Nat):Int)-1)=(n:Int):=by rw [i64_in _ (by omega)];omega
        have w2:((n:Int)).toNat=n:=Int.toNat_natCast n
        have w3:(lf.take n++[PV.agg [.int .i64 i,.str s1,.str s2,.int .i64 p]]).getD n default=.agg [.int .i64 i,.str s1,.str s2,.int .i64 p]:=by
         have:(lf.take n).length=n:=by rw [List.length_take];omega
         simp [List.getD_eq_getElem?_getD,this]
        have w4:(lf.take n++[PV.agg [.int .i64 i,.str s1,.str s2,.int .i64 p]]).take (n+1)=lf.take n++[.agg [.int .i64 i,.str s1,.str s2,.int .i64 p]]:=List.take_of_length_le (by simp;omega)
        have w5:(lf.take n++[PV.agg [.int .i64 i,.str s1,.str s2,.int .i64 p]]).take n=lf.take n:=by
         have:(lf.take n).length=n:=by rw [List.length_take];omega
         rw [List.take_append_of_le_length (by omega),List.take_of_length_le (by omega)]
        have w6:(lf.take n++[PV.agg [.int .i64 i,.str s1,.str s2,.int .i64 p]]).length=n+1:=by simp;omega
        have w7:∀ x,x∈lf.take n++[PV.agg [.int .i64 i,.str s1,.str s2,.int .i64 p]]->isR4q x:=fun x hx=>by
         rcases List.mem_append.1 hx with hx | hx
         · exact g6 x hx
         · rw [List.mem_singleton] at hx;exact ⟨_,_,_,_,hx,hs1,hs2⟩
        rw [Stop_eq]
        simp (config:={maxSteps:=1000000}) only [List.getElem?_toArray,List.getElem?_cons_succ,List.getElem?_cons_zero,tk,k_moreE_79,rhasLS,Nat.reduceBEq,rhasLS,go_sem,↓reduceIte,reduceCtorEq,Nat.reduceEqDiff,Nat.reduceLT,Nat.reduceAdd,Nat.reduceLeDiff,Nat.reduceMul]
        rw [w1,w2,w3,w4]
        generalize lf.take n++[PV.agg [.int .i64 i,.str s1,.str s2,.int .i64 p]]=R at w3 w4 w5 w6 w7 ⊢
        obtain ⟨B1,hB1⟩:∃ b,hasF (lawO (PV.agg [.int .i64 fi,.int .i64 ye,.sl tr,.sl la,.sl lb,.sl lc,.sl ld,.sl le,.sl R,.sl []])) s1=b:=⟨_,rfl⟩
        obtain ⟨B2,hB2⟩:∃ b,hasF (lawO (PV.agg [.int .i64 fi,.int .i64 ye,.sl tr,.sl la,.sl lb,.sl lc,.sl ld,.sl le,.sl R,.sl []])) s2=b:=⟨_,rfl⟩
        simp (config:={maxSteps:=1000000}) only [hi1,w1,w2,w3,w4,hB1,hB2,List.getElem?_toArray,List.getElem?_cons_succ,List.getElem?_cons_zero,tk,k_moreE_79,rhasLS,rhasLS,go_sem,↓reduceIte,reduceCtorEq,Nat.reduceEqDiff,Nat.reduceLT,Nat.reduceAdd,Nat.reduceLeDiff,ev_callG]
        have hcs:∀ c,c∈[AV.pv (.int .i64 fi),.pv (.int .i64 ye),.pv (.sl tr),.pv (.sl la),.pv (.sl lb),.pv (.sl lc),.pv (.sl ld),.rs 8007 le.length,.rs 8008 (n+1),.nils]->c.one=true/\frzOk [(8008,.row 4 R),(9000,.obj Tp),(9001,.cells [.pv (.int .i64 fi),.pv (.int .i64 ye),.pv (.sl tr),.pv (.sl la),.pv (.sl lb),.pv (.sl lc),.pv (.sl ld),.rs 8007 le.length,.rs 8008 (n+1),.nils]),(8007,.row 7 le),(8008,.row 4 lf)] 3 c:=fun c hc=>by
         simp only [List.mem_cons,List.not_mem_nil,or_false] at hc
         rcases hc with rfl | rfl | rfl | rfl | rfl | rfl | rfl | rfl | rfl | rfl <;> exact ⟨rfl,by (simp [frzOk,hget];try omega)⟩
        have hL:∃ L:Law,PV.agg [.int .i64 fi,.int .i64 ye,.sl tr,.sl la,.sl lb,.sl lc,.sl ld,.sl le,.sl R,.sl []]=L.v/\(∀ e,e∈L.tree->isH e)/\L.tree.length<=1000000:=⟨⟨fi,ye,tr,la,lb,lc,ld,le,R,[]⟩,rfl,ht.isH,by simp only;omega⟩
        refine ⟨rfl,fun e he=>(by simp only [List.mem_singleton] at he;subst he;rfl),g5,by omega,by simp only [maxLen];omega,by kernel_rfl,by omega,by omega,⟨hcs,hL⟩,fun _=>by omega,fun _=>by omega,fun _=>⟨hcs,hL⟩,fun h=>by simpa using h,fun _=>⟨by kernel_rfl,by omega,(i+1,n,R),⟨by simp only;omega,by simp only;omega,by simp only;omega,by simp only;rw [w5];exact g6⟩,by simp only;omega,⟨by simp [fitR,look],by simp [fitH,hget],rfl,rfl,rfl⟩⟩,fun _=>⟨(i+1,n+1,R),⟨by simp only;omega,by simp only;omega,by simp only;omega,by simp only;rw [w4];exact w7⟩,by simp only;omega,⟨by simp [fitR,look],by simp [fitH,hget],rfl,rfl,rfl⟩⟩⟩
      · refine ⟨rfl,_,rfl,by rfl,fun c hc=>?_,fi,ye,tr,la,lb,lc,ld,le,lf.take n,rfl,?_,⟨hl1,hl2⟩,⟨hle,g4⟩,⟨by rw [List.length_take];omega,g6⟩⟩
        · simp only [List.mem_cons,List.not_mem_nil,or_false] at hc
          rcases hc with rfl | rfl | rfl | rfl | rfl | rfl | rfl | rfl | rfl | rfl <;> exact ⟨rfl,by (simp [frzOk,hget,delW,hdel];try omega)⟩
        · simp [cellW,frz,hget,delW,hdel,moC]
end Go.AM
namespace Go.AM
open Go Go.Proofs Go.IntWalk
attribute [local go_sem] List.take_nil List.take_succ_cons allI_cons allI_nil arg1 arg2 false_or memI_cons memI_nil nS ne_eq not_false_eq_true okN okP_eq okR on_ls_eq on_p_eq pickS plan0 preC_eq preCd_eq preLf_eq preN_eq preP_eq preR_eq preTr_eq qP_1 qS_1 slV strV Θ1 Θ2 Θ3 Θ4 Θ5 Θ6 Θ7 Θ8 Θ9 ΘY
set_option maxRecDepth 100000
set_option maxHeartbeats 4000000
noncomputable def ΨM (g:FuncId):Option ESpec:=putΨ noΨ 42 (psiW Tp preMo postMo) g
theorem hΨM:ETab GG ΨM:=hnoΨ.put w_moreE psiW_mono
def planL:Plan:={ keep:=fun _=>none,cut:=fun _=>false,stop:=fun i=>i == 23 }
def yrsO (L:Law):Prop:=∀ x,x∈L.a\/x∈L.b\/x∈L.c->∃ s y m,x=.agg [.str s,.int .i64 y,.int .i64 m]/\ -1<=y/\y<=1000
def okLM (_:List PV) (L:Law):Prop:=LawS L/\validF L=0/\yrsO L
def preNo (args:List PV):Prop:=args=[]
noncomputable def lawMQ:QSpec:=qV Tp preNo Law.v okLM
theorem SX_ord:SX.Pairwise (fun a b=>cmpC a b<0):=by decide +kernel
theorem treeC.ord {L:List (List UInt8)} (h:treeC L):L.Pairwise (fun a b=>cmpC a b<0):=by
 rw [h.1];exact SX_ord.filter _
theorem treeC.len {L:List (List UInt8)} (h:treeC L):L.length<=45:=by
 rw [h.1];exact Nat.le_trans (List.length_filter_le _ _) (by decide)
theorem nm5_ok:∀ n,n∈nm5->nmF n=true/\n.length<=100:=by decide +kernel
theorem fstG_ok {l:List PV} (h:∀ i,i<l.length->hdF l i=0):∀ k i,i+k<=l.length->fstG l k i=(0,0)
 | 0,_,_=>rfl
 | k+1,i,hi=>by
   unfold fstG
   rw [h i (by omega)]
   exact fstG_ok h k (i+1) (by omega)
theorem tree_len {l:List PV} (h:treeC (l.map hCode)):l.length<=45:=by
 have:=h.len
 rwa [List.length_map] at this
theorem hCode_getD {l:List PV} {i:Nat} (h:i<l.length):hCode (l.getD i default)∈l.map hCode:=List.mem_map.2 ⟨_,getD_mem h,rfl⟩
theorem tree_valid {l:List PV} (h:treeC (l.map hCode)) (hn:nameP l):(fstF l).2=0:=by
 have h45:=tree_len h
 have hd:∀ i,i<l.length->hdF l i=0:=by
  intro i hi
  have hm:=hCode_getD hi
  have hs:=h.sx hm
  obtain ⟨c,n,he,_,hn5⟩:=hn _ (getD_mem hi)
  have hc:hCode (l.getD i default)=c:=by rw [he];rfl
  have hnm:hName (l.getD i default)=n:=by rw [he];rfl
  unfold hdF
  rw [hc] at hm hs ⊢
  rw [hnm,(SX_par c hs).1,(nm5_ok n hn5).1]
  simp only [Bool.not_true,cond_false]
  have ho:(decide ((0:Int)<(i:Int))&&decide (0<=cmpC (hCode (l.getD (i-1) default)) c))=false:=by
   cases i with
   | zero=>rfl
   | succ j=>
     have h1:=h.ord
     rw [List.pairwise_map] at h1
     have h2:=pw_getD h1 (show j<j+1 by omega) hi
     rw [hc] at h2
     have h3:decide (0<=cmpC (hCode (l.getD j default)) c)=false:=decide_eq_false (by omega)
     show (_&&decide (0<=cmpC (hCode (l.getD j default)) c))=false
     rw [h3,Bool.and_false]
  rw [ho,cond_false,(SX_par c hs).2]
  have hp:(!(parF c == [])&&!(l.any (fun e=>hCode e == parF c)))=false:=by
   rcases h.2 c hm with hp | hp
   · rw [hp];rfl
   · obtain ⟨e,he2,he3⟩:=List.mem_map.1 hp
     have:l.any (fun e=>hCode e == parF c)=true:=List.any_eq_true.2 ⟨e,he2,by simp [he3]⟩
     rw [this];simp
  rw [hp,cond_false]
 unfold fstF
 have c0:decide ((60:Int)<(l.length:Int))=false:=by simp;omega
 rw [c0,cond_false,fstG_ok hd l.length 0 (by omega)]
theorem nameP.isHn {l:List PV} (hn:nameP l):∀ e,e∈l->isHn e:=fun e he=>by
 obtain ⟨c,n,rfl,hc,h5⟩:=hn e he
 have:=(nm5_ok n h5).2
 exact ⟨c,n,rfl,by omega,by omega⟩
theorem yearsE_of {L:Law} (h1:0<=L.first/\L.first<=95) (h2:1<=L.years/\L.years<=3) (h3:(fstF L.tree).2=0) (h4:limitE L=false):yearsE L=0:=by
 have hw:IntKind.i64.wrap (L.first+L.years)=L.first+L.years:=i64_in _ (by omega)
 have a1:amg L.first 0 99=true:=by simp only [amg,Bool.and_eq_true,decide_eq_true_eq];omega
 have a2:amg L.years 1 4=true:=by simp only [amg,Bool.and_eq_true,decide_eq_true_eq];omega
 have a3:decide ((100:Int)<L.first+L.years)=false:=decide_eq_false (by omega)
 unfold yearsE
 rw [a1,a2,hw,a3,h3,h4];rfl
theorem bare_valid {fi ye:Int} {tr:List PV} (h1:0<=fi/\fi<=95) (h2:1<=ye/\ye<=3) (ht:treeC (tr.map hCode)) (hn:nameP tr):okLM [] ⟨fi,ye,tr,[],[],[],[],[],[],[]⟩:=by
 have hl:=tree_len ht
 refine ⟨⟨hn.isHn,by simp only;omega,by simp,by simp,by simp,by simp,by simp,by simp,by simp,by simp,by simp,by simp,by simp,by simp,by simp,by simp⟩,?_,fun x hx=>by simp at hx⟩
 have hy:yearsE ⟨fi,ye,tr,[],[],[],[],[],[],[]⟩=0:=yearsE_of h1 h2 (tree_valid ht hn) rfl
 unfold validF
 rw [hy]
 have hs:∀ lv:List (List UInt8),sharesG lv []=0:=fun lv=>by
  unfold sharesG
  have:lv.any (fun s=>decide ((100:Int)<shG s [] 0))=false:=by
   rw [List.any_eq_false]
   intro x _
   simp [shG]
  rw [this];rfl
 simp only [sharesE,hs,eachF_nil,amE_nil]
 rfl
def tree0:List PV:=[hV [49] [97],hV [57] [97]]
theorem tree0_ok:treeC (tree0.map hCode)/\nameP tree0:=
 ⟨⟨by decide +kernel,by decide +kernel⟩,fun e he=>by simp only [tree0,List.mem_cons,List.not_mem_nil,or_false] at he;rcases he with rfl | rfl <;> exact ⟨_,_,rfl,by decide,by decide⟩⟩
def isL3q (x:PV):Prop:=∃ s y m,x=.agg [.str s,.int .i64 y,.int .i64 m]/\s.length<=100/\ -1<=y/\y<=1000
theorem isL3q.w {x:PV} (h:isL3q x):isL3 x:=by obtain ⟨s,y,m,rfl,hs,_⟩:=h;exact ⟨s,y,m,rfl,by omega⟩
theorem isL3q.y {x:PV} (h:isL3q x):∃ s y m,x=.agg [.str s,.int .i64 y,.int .i64 m]/\ -1<=y/\y<=1000:=by obtain ⟨s,y,m,rfl,hs,h1,h2⟩:=h;exact ⟨s,y,m,rfl,h1,h2⟩
theorem add3 {l:List PV} {s:List UInt8} {y m:Int} (h:∀ x,x∈l->isL3q x) (hs:s.length<=100) (hy: -1<=y/\y<=1000:=by omega):∀ x,x∈l++[PV.agg [.str s,.int .i64 y,.int .i64 m]]->isL3q x:=fun x hx=>by
 rcases List.mem_append.1 hx with hx | hx
 · exact h x hx
 · rw [List.mem_singleton] at hx;exact ⟨_,_,_,hx,hs,hy⟩
theorem yrs_at {f:Int} {n j:Nat} (hf:0<=f/\f<=95) (hn:n<=3) (h:j<n+1):∃ y,((yrsF f n).map intV).getD j default=.int .i64 y/\ -1<=y/\y<=1000:=by
 have hl:=yrsF_len f n
 have hm:=getD_mem (l:=(yrsF f n).map intV) (i:=j) (by omega)
 obtain ⟨y,hm2,hy⟩:=List.mem_map.1 hm
 refine ⟨y,hy.symm,?_⟩
 unfold yrsF at hm2
 rcases List.mem_cons.1 hm2 with e | hm2
 · omega
 · obtain ⟨i,hi,e⟩:=List.mem_map.1 hm2
   have:=List.mem_range.1 hi
   omega
def lwC (fi ye:Int) (tr:List PV) (a b c:AV):List AV:=[.pv (.int .i64 fi),.pv (.int .i64 ye),.pv (.sl tr),a,b,c,.nils,.nils,.nils,.nils]
def lwH (C3:List AV) (R:AHeap):AHeap:=(9000,.obj Tp)::(2,.cells [.pv (.int .i64 0),.pv (.int .i64 0),.nils,.nils,.nils,.nils,.nils,.nils,.nils,.nils])::(3,.cells C3)::R
theorem loadC_eqL {C:Ctx} {ρ:Nat->AV} {H:AHeap} {t κ o:Nat}:loadC C ⟨ρ,H⟩ t (.ptr κ o)=loadA C.P H t (.ptr κ o):=rfl
def lw2 (fi ye:Int) (tr la lb lc ld le lf:List PV) (g:AV):List AV:=[.pv (.int .i64 fi),.pv (.int .i64 ye),.pv (.sl tr),.pv (.sl la),.pv (.sl lb),.pv (.sl lc),.pv (.sl ld),.pv (.sl le),.pv (.sl lf),g]
def lwI (C3:List AV) (R:AHeap):AHeap:=(3,.cells C3)::(9000,.obj Tp)::(2,.cells [.pv (.int .i64 0),.pv (.int .i64 0),.nils,.nils,.nils,.nils,.nils,.nils,.nils,.nils])::R
def isA3q (x:PV):Prop:=∃ d n ch,x=.agg [.int .i64 d,.int .i64 n,.sl ch]/\(∀ y,y∈ch->isX4q y)/\ch.length<=3
theorem isE3q.w {x:PV} (h:isE3q x):isE3 x:=by obtain ⟨s,c,p,rfl,h1,h2⟩:=h;exact ⟨s,c,p,rfl,by omega,by omega⟩
theorem isC7q.w {x:PV} (h:isC7q x):isC7 x:=by obtain ⟨c,y,am,k,d,s,l,rfl,h1,h2⟩:=h;exact ⟨c,y,am,k,d,s,l,rfl,by omega,by omega⟩
theorem isR4q.w {x:PV} (h:isR4q x):isR4 x:=by obtain ⟨c,y,am,k,rfl,h1,h2⟩:=h;exact ⟨c,y,am,k,rfl,by omega,by omega⟩
theorem isX4q.w {x:PV} (h:isX4q x):isX4 x:=by obtain ⟨c,y,am,k,rfl,h1⟩:=h;exact ⟨c,y,am,k,rfl,by omega⟩
theorem isA3q.w {x:PV} (h:isA3q x):isA3 x:=by obtain ⟨d,n,ch,rfl,h1,h2⟩:=h;exact ⟨d,n,ch,rfl,fun y hy=>(h1 y hy).w,by omega⟩
theorem addA {l:List PV} {d n:Int} {ch:List PV} (h:∀ x,x∈l->isA3q x) (h1:ch.length<=3/\∀ y,y∈ch->isX4q y):∀ x,x∈l++[PV.agg [.int .i64 d,.int .i64 n,.sl ch]]->isA3q x:=fun x hx=>by
 rcases List.mem_append.1 hx with hx | hx
 · exact h x hx
 · rw [List.mem_singleton] at hx;exact ⟨_,_,_,hx,h1.2,h1.1⟩
theorem k_lawMQ_39 {args:List PV}:Z5 39 args=rlvS args:=rfl
theorem k_lawMQ_44 {args:List PV}:Z5 44 args=rvalidLS args:=rfl
theorem w_lawMQ:QSound GG 8 lawMQ:=by
 unfold lawMQ
 refine QSound.of_wpcV (C:=cxQ Tryz.prog Z5 Θ9 ΨM [] [9000] 142) 9000 Tryz.func8 rfl rfl rfl (Fit.all (G:=GG) hZ5 hΘ9 hΨM mixed) rfl (fun args h=>?_) (fun args h=>?_)
 · exact ⟨_,bare_valid (fi:=0) (ye:=1) (by omega) (by omega) tree0_ok.1 tree0_ok.2⟩
 · obtain rfl:=h
   refine ⟨by simp [cxQ],?_⟩
   have tk:∀ l:List PV,l.take l.length=l:=fun l=>List.take_length
   refine wpc_sound (T:=planL) _ _ _ ?_
   simp (config:={maxSteps:=1000000}) only [k_lawMQ_39,rlvS,or_false,intV,Nat.reduceBEq,ΨM,planL,Tryz.f8,go_sem,↓reduceIte,reduceCtorEq,Nat.reduceEqDiff,Nat.reduceLT,↓all_qV,Int.reduceLE,Nat.reduceAdd,Nat.reduceLeDiff,Nat.reduceMul]
   intro fi hfi ye hye tr htr
   obtain ⟨ht,h9,hc9,htc,hnm,h49⟩:=htr
   have hf:0<=fi/\fi<=95:=by omega
   have h100:=ht.1
   have h45:=tree_len htc
   have hne:tr≠[]:=by obtain ⟨e,he,_⟩:=h9;exact List.ne_nil_of_mem he
   have hlp:=List.length_pos_iff.2 hne
   have hwy:IntKind.i64.wrap (fi+ye)=fi+ye:=i64_in _ (by omega)
   refine ⟨⟨ht.isH,by omega⟩,?_⟩
   have hlm:=lvC_str (top:=[]) ht
   obtain ⟨ls,hls⟩:∃ ls,lvC (tr.map hCode) []=ls:=⟨_,rfl⟩
   rw [hls] at hlm ⊢
   obtain ⟨lv,hlv⟩:∃ lv,ls.map PV.str=lv:=⟨_,rfl⟩
   have hln:ls.length=lv.length:=by rw [<- hlv,List.length_map]
   rw [hlv] at hlm
   have hll:lv.length<=45:=by
    rw [<- hln,<- hls]
    exact Nat.le_trans (List.length_filter_le _ _) (by rw [List.length_map];exact h45)
   rw [hlv]
   refine AWp.adoptC (b:=3) (i:=3) (κ:=8003) (k:=3) rfl rfl rfl (by decide) ?_
   refine AWp.adoptC (b:=3) (i:=4) (κ:=8004) (k:=3) rfl rfl rfl (by decide) ?_
   refine AWp.adoptC (b:=3) (i:=5) (κ:=8005) (k:=3) rfl rfl rfl (by decide) ?_
   refine AWp.loop (T:=planL) (α:=Nat × List PV) (fun y=>([(0,.ptr 9000 0),(2,.ptr 2 0),(3,.ptr 3 0),(24,.pv (.sl lv)),(25,.pv (.int .i64 lv.length)),(26,.pv (.int .i64 y.1))],lwH (lwC fi ye tr (.rs 8003 y.2.length) (.rs 8004 0) (.rs 8005 0)) [(8003,.row 3 y.2),(8004,.row 3 []),(8005,.row 3 [])])) (fun y=>y.1<=lv.length/\y.2.length<=3 * y.1/\∀ x,x∈y.2->isL3q x) (fun y=>lv.length-y.1)
    ⟨(0,[]),⟨Nat.zero_le _,Nat.zero_le _,by simp⟩,⟨by simp [fitR,look],by simp [fitH,hget,hset,lwH,lwC],rfl,rfl,rfl⟩⟩ ?_
   rintro ⟨k,la⟩ ⟨g1,g2,g3⟩
   simp only at g1 g2 g3
   have hk1:IntKind.i64.wrap ((k:Int)+1)=((k+1:Nat):Int):=by rw [i64_in _ (by omega)];omega
   by_cases klt:k<lv.length
   · have c0:decide ((k:Int)<(lv.length:Int))=true:=by simp;omega
     obtain ⟨s,hs,hsl⟩:=getD_str hlm klt
     simp (config:={maxSteps:=1000000}) only [c0,hs,Nat.reduceBEq,planL,lwH,lwC,go_sem,↓reduceIte,reduceCtorEq,Nat.reduceEqDiff,Nat.reduceLT,Nat.reduceAdd,Nat.reduceLeDiff]
     refine ⟨⟨by omega,by omega⟩,?_⟩
     refine AWp.loop (T:=planL) (α:=Int × List PV) (fun y=>([(0,.ptr 9000 0),(2,.ptr 2 0),(3,.ptr 3 0),(5,.pv (.str s)),(6,.pv (.int .i64 y.1)),(24,.pv (.sl lv)),(25,.pv (.int .i64 lv.length)),(26,.pv (.int .i64 k))],lwH (lwC fi ye tr (.rs 8003 y.2.length) (.rs 8004 0) (.rs 8005 0)) [(8003,.row 3 y.2),(8004,.row 3 []),(8005,.row 3 [])])) (fun y=>(fi<=y.1/\y.1<=fi+ye)/\(y.2.length:Int)<=3 * k+(y.1-fi)/\∀ x,x∈y.2->isL3q x) (fun y=>(fi+ye-y.1).toNat)
      ⟨(fi,la),⟨by simp only;omega,by simp only;omega,g3⟩,⟨by simp [fitR,look],by simp [fitH,hget,lwH,lwC],rfl,rfl,rfl⟩⟩ ?_
     rintro ⟨y,lb⟩ ⟨⟨f1,f2⟩,f3,f4⟩
     simp only at f1 f2 f3 f4
     have hy1:IntKind.i64.wrap (y+1)=y+1:=i64_in _ (by omega)
     by_cases ylt:y<fi+ye
     · have c1:decide (y<fi+ye)=true:=by simp;omega
       simp (config:={maxSteps:=1000000}) only [c1,hwy,hy1,tk,intV,Nat.reduceBEq,ΨM,planL,lwH,lwC,go_sem,↓reduceIte,reduceCtorEq,Nat.reduceEqDiff,Nat.reduceLT,↓all_qVz,Int.reduceLE,Nat.reduceAdd,Nat.reduceLeDiff,Nat.reduceMul]
       intro x0 h0
       rw [Stop_eq]
       simp (config:={maxSteps:=1000000}) only [hy1,tk,intV,ΨM,go_sem,↓reduceIte,reduceCtorEq,Nat.reduceEqDiff,Nat.reduceLT,↓all_qVz,Nat.reduceAdd,Nat.reduceLeDiff,Nat.reduceMul]
       refine ⟨fun c5=>⟨by kernel_rfl,fun m hm=>?_⟩,fun c5=>?_⟩
       · skip
         rw [Stop_eq]
         simp (config:={maxSteps:=1000000}) only [hy1,tk,go_sem,↓reduceIte,reduceCtorEq,Nat.reduceEqDiff,Nat.reduceLT,Nat.reduceAdd,Nat.reduceLeDiff,Nat.reduceMul]
         refine ⟨rfl,fun e he=>(by simp only [List.mem_singleton] at he;subst he;rfl),Nat.le_refl _,by omega,by simp only [maxLen];omega,(y+1,lb++[.agg [.str s,.int .i64 y,.int .i64 m]]),⟨by simp only;omega,by simp only [List.length_append,List.length_cons,List.length_nil];omega,add3 f4 hsl⟩,by simp only;omega,⟨by simp [fitR,look],by simp [fitH,hget],rfl,rfl,rfl⟩⟩
       · exact ⟨(y+1,lb),⟨by simp only;omega,by simp only;omega,f4⟩,by simp only;omega,⟨by simp [fitR,look],by simp [fitH,hget],rfl,rfl,rfl⟩⟩
     · have c1:decide (y<fi+ye)=false:=by simp;omega
       simp (config:={maxSteps:=1000000}) only [c1,hwy,hk1,tk,intV,Nat.reduceBEq,ΨM,planL,lwH,lwC,go_sem,↓reduceIte,reduceCtorEq,Nat.reduceEqDiff,Nat.reduceLT,↓all_qVz,Int.reduceLE,Nat.reduceAdd,Nat.reduceLeDiff,Nat.reduceMul]
       exact ⟨(k+1,lb),⟨by simp only;omega,by simp only;omega,f4⟩,by simp only;omega,⟨by simp [fitR,look],by simp [fitH,hget],rfl,rfl,rfl⟩⟩
   · have c0:decide ((k:Int)<(lv.length:Int))=false:=by simp;omega
     simp (config:={maxSteps:=1000000}) only [c0,Nat.reduceBEq,planL,lwH,lwC,go_sem,↓reduceIte,reduceCtorEq,Nat.reduceEqDiff,Nat.reduceLT,Nat.reduceAdd,Nat.reduceLeDiff]
     have hla:la.length<=135:=by omega
     clear g1 g2 hk1 klt c0
     obtain ⟨n,rfl⟩:=Int.eq_ofNat_of_zero_le (show 0<=ye by omega)
     refine AWp.loop (T:=planL) (α:=Nat × List PV × List PV) (fun y=>([(0,.ptr 9000 0),(2,.ptr 2 0),(3,.ptr 3 0),(56,.pv (.sl tr)),(57,.pv (.int .i64 tr.length)),(58,.pv (.int .i64 y.1))],lwH (lwC fi n tr (.rs 8003 la.length) (.rs 8004 y.2.1.length) (.rs 8005 y.2.2.length)) [(8003,.row 3 la),(8004,.row 3 y.2.1),(8005,.row 3 y.2.2)])) (fun y=>y.1<=tr.length/\y.2.1.length<=4 * y.1/\y.2.2.length<=4 * y.1/\(∀ x,x∈y.2.1->isL3q x)/\∀ x,x∈y.2.2->isL3q x) (fun y=>tr.length-y.1)
      ⟨(0,[],[]),⟨Nat.zero_le _,Nat.zero_le _,Nat.zero_le _,by simp,by simp⟩,⟨by simp [fitR,look],by simp [fitH,hget,lwH,lwC],rfl,rfl,rfl⟩⟩ ?_
     rintro ⟨j,lb,lc⟩ ⟨g1,g2,g4,g5,g6⟩
     simp only at g1 g2 g4 g5 g6
     have hj1:IntKind.i64.wrap ((j:Int)+1)=((j+1:Nat):Int):=by rw [i64_in _ (by omega)];omega
     by_cases jlt:j<tr.length
     · have c0:decide ((j:Int)<(tr.length:Int))=true:=by simp;omega
       obtain ⟨s,nm,hs,hsl⟩:=getD_tree ht jlt
       simp (config:={maxSteps:=1000000}) only [c0,hs,tk,↓all_qP,shP,shY,preY,valY,Nat.reduceBEq,ΨM,planL,lwH,lwC,go_sem,↓reduceIte,reduceCtorEq,Nat.reduceEqDiff,Nat.reduceLT,Nat.reduceAdd,Nat.reduceLeDiff]
       refine ⟨⟨by omega,by omega⟩,⟨hf,by omega,by omega⟩,?_⟩
       have hyl:=yrsF_len fi n
       obtain ⟨ys,hys⟩:∃ ys,(yrsF fi n).map intV=ys:=⟨_,rfl⟩
       have hya:∀ k,k<n+1->∃ y,ys.getD k default=.int .i64 y/\ -1<=y/\y<=1000:=fun k hk=>by rw [<- hys];exact yrs_at hf (by omega) hk
       rw [hys] at hyl ⊢
       refine AWp.loop (T:=planL) (α:=Nat × List PV × List PV) (fun y=>([(0,.ptr 9000 0),(2,.ptr 2 0),(3,.ptr 3 0),(8,.ptr 8 0),(56,.pv (.sl tr)),(57,.pv (.int .i64 tr.length)),(58,.pv (.int .i64 j)),(63,.pv (.sl ys)),(64,.pv (.int .i64 ys.length)),(65,.pv (.int .i64 y.1))],lwH (lwC fi n tr (.rs 8003 la.length) (.rs 8004 y.2.1.length) (.rs 8005 y.2.2.length)) [(8003,.row 3 la),(8004,.row 3 y.2.1),(8005,.row 3 y.2.2),(8,.cells [.pv (.str s),.pv (.str nm)])])) (fun y=>y.1<=n+1/\y.2.1.length<=4 * j+y.1/\y.2.2.length<=4 * j+y.1/\(∀ x,x∈y.2.1->isL3q x)/\∀ x,x∈y.2.2->isL3q x) (fun y=>n+1-y.1)
        ⟨(0,lb,lc),⟨Nat.zero_le _,by simp only;omega,by simp only;omega,g5,g6⟩,⟨by simp [fitR,look],by simp [fitH,hget,lwH,lwC],rfl,rfl,rfl⟩⟩ ?_
       rintro ⟨k,lb2,lc2⟩ ⟨f1,f2,f3,f4,f5⟩
       simp only at f1 f2 f3 f4 f5
       have hk1:IntKind.i64.wrap ((k:Int)+1)=((k+1:Nat):Int):=by rw [i64_in _ (by omega)];omega
       by_cases klt:k<n+1
       · have c1:decide ((k:Int)<(ys.length:Int))=true:=by simp;omega
         obtain ⟨y,hy,hyb⟩:=hya k klt
         simp (config:={maxSteps:=1000000}) only [c1,hy,tk,intV,Nat.reduceBEq,ΨM,planL,lwH,lwC,go_sem,↓reduceIte,reduceCtorEq,Nat.reduceEqDiff,Nat.reduceLT,↓all_qVz,Int.reduceLE,Nat.reduceAdd,Nat.reduceLeDiff,Nat.reduceMul]
         refine ⟨⟨by omega,by omega⟩,fun x0 h0=>?_⟩
         rw [Stop_eq]
         simp (config:={maxSteps:=1000000}) only [hk1,tk,intV,Nat.reduceBEq,ΨM,go_sem,↓reduceIte,reduceCtorEq,Nat.reduceEqDiff,Nat.reduceLT,↓all_qVz,Int.reduceLE,Nat.reduceAdd,Nat.reduceLeDiff,Nat.reduceMul]
         refine ⟨fun c5=>?_,fun c5=>?_⟩
         · refine ⟨by kernel_rfl,fun am ham=>?_⟩
           have ham:0<=am/\am<=1000000000000:=ham
           rw [Stop_eq]
           simp (config:={maxSteps:=1000000}) only [hk1,tk,or_false,intV,Nat.reduceBEq,ΨM,go_sem,↓reduceIte,reduceCtorEq,Nat.reduceEqDiff,Nat.reduceLT,↓all_qVz,Int.reduceLE,Nat.reduceAdd,Nat.reduceLeDiff,Nat.reduceMul]
           refine ⟨⟨by omega,by omega⟩,fun m hm=>?_⟩
           rw [Stop_eq]
           simp (config:={maxSteps:=1000000}) only [hk1,tk,intV,Nat.reduceBEq,ΨM,go_sem,↓reduceIte,reduceCtorEq,Nat.reduceEqDiff,Nat.reduceLT,↓all_qVz,Int.reduceLE,Nat.reduceAdd,Nat.reduceLeDiff,Nat.reduceMul]
           refine ⟨rfl,fun e he=>(by simp only [List.mem_singleton] at he;subst he;rfl),Nat.le_refl _,by omega,by simp only [maxLen];omega,fun x1 h1=>?_⟩
           rw [Stop_eq]
           simp (config:={maxSteps:=1000000}) only [hk1,tk,intV,ΨM,go_sem,↓reduceIte,reduceCtorEq,Nat.reduceEqDiff,Nat.reduceLT,↓all_qVz,Int.reduceLE,Nat.reduceAdd,Nat.reduceLeDiff,Nat.reduceMul]
           refine ⟨fun c6=>⟨by kernel_rfl,fun m2 hm2=>?_⟩,fun c6=>?_⟩
           · skip
             rw [Stop_eq]
             simp (config:={maxSteps:=1000000}) only [hk1,tk,go_sem,↓reduceIte,reduceCtorEq,Nat.reduceEqDiff,Nat.reduceLT,Nat.reduceAdd,Nat.reduceLeDiff,Nat.reduceMul]
             refine ⟨rfl,fun e he=>(by simp only [List.mem_singleton] at he;subst he;rfl),Nat.le_refl _,by omega,by simp only [maxLen];omega,(k+1,lb2++[.agg [.str s,.int .i64 y,.int .i64 m]],lc2++[.agg [.str s,.int .i64 y,.int .i64 m2]]),⟨by simp only;omega,by simp only [List.length_append,List.length_cons,List.length_nil];omega,by simp only [List.length_append,List.length_cons,List.length_nil];omega,add3 f4 hsl,add3 f5 hsl⟩,by simp only;omega,⟨by simp [fitR,look],by simp [fitH,hget],rfl,rfl,rfl⟩⟩
           · skip
             exact ⟨(k+1,lb2++[.agg [.str s,.int .i64 y,.int .i64 m]],lc2),⟨by simp only;omega,by simp only [List.length_append,List.length_cons,List.length_nil];omega,by simp only [];omega,add3 f4 hsl,f5⟩,by simp only;omega,⟨by simp [fitR,look],by simp [fitH,hget],rfl,rfl,rfl⟩⟩
         · intro x1 h1
           rw [Stop_eq]
           simp (config:={maxSteps:=1000000}) only [hk1,tk,intV,ΨM,go_sem,↓reduceIte,reduceCtorEq,Nat.reduceEqDiff,Nat.reduceLT,↓all_qVz,Int.reduceLE,Nat.reduceAdd,Nat.reduceLeDiff,Nat.reduceMul]
           refine ⟨fun c6=>⟨by kernel_rfl,fun m2 hm2=>?_⟩,fun c6=>?_⟩
           · skip
             rw [Stop_eq]
             simp (config:={maxSteps:=1000000}) only [hk1,tk,go_sem,↓reduceIte,reduceCtorEq,Nat.reduceEqDiff,Nat.reduceLT,Nat.reduceAdd,Nat.reduceLeDiff,Nat.reduceMul]
             refine ⟨rfl,fun e he=>(by simp only [List.mem_singleton] at he;subst he;rfl),Nat.le_refl _,by omega,by simp only [maxLen];omega,(k+1,lb2,lc2++[.agg [.str s,.int .i64 y,.int .i64 m2]]),⟨by simp only;omega,by simp only [];omega,by simp only [List.length_append,List.length_cons,List.length_nil];omega,f4,add3 f5 hsl⟩,by simp only;omega,⟨by simp [fitR,look],by simp [fitH,hget],rfl,rfl,rfl⟩⟩
           · skip
             exact ⟨(k+1,lb2,lc2),⟨by simp only;omega,by simp only [];omega,by simp only [];omega,f4,f5⟩,by simp only;omega,⟨by simp [fitR,look],by simp [fitH,hget],rfl,rfl,rfl⟩⟩
       · have c1:decide ((k:Int)<(ys.length:Int))=false:=by simp;omega
         simp (config:={maxSteps:=1000000}) only [c1,hj1,tk,intV,Nat.reduceBEq,ΨM,planL,lwH,lwC,go_sem,↓reduceIte,reduceCtorEq,Nat.reduceEqDiff,Nat.reduceLT,↓all_qVz,Int.reduceLE,Nat.reduceAdd,Nat.reduceLeDiff,Nat.reduceMul]
         exact ⟨(j+1,lb2,lc2),⟨by simp only;omega,by simp only;omega,by simp only;omega,f4,f5⟩,by simp only;omega,⟨by simp [fitR,look],by simp [fitH,hget],rfl,rfl,rfl⟩⟩
     · have c0:decide ((j:Int)<(tr.length:Int))=false:=by simp;omega
       simp (config:={maxSteps:=1000000}) only [c0,tk,↓all_qP,shP,shY,preY,valY,Nat.reduceBEq,ΨM,planL,lwH,lwC,go_sem,↓reduceIte,reduceCtorEq,Nat.reduceEqDiff,Nat.reduceLT,Nat.reduceAdd,Nat.reduceLeDiff]
       have hlb:lb.length<=180:=by omega
       have hga:=g3
       have hgb:=g5
       have hgc:=g6
       have hlc:lc.length<=180:=by omega
       clear g1 g2 g4 hj1 jlt c0
       refine AWp.freezeC (T:=planL) 8003 3 (α:=Unit) (fun _=>la) (fun _=>([(0,.ptr 9000 0),(2,.ptr 2 0),(3,.ptr 3 0)],lwH (lwC fi n tr (.pv (.sl la)) (.rs 8004 lb.length) (.rs 8005 lc.length)) [(8004,.row 3 lb),(8005,.row 3 lc)])) (fun _=>True) ⟨(),trivial,⟨by simp [hget],rfl,by simp [fitF,look],by simp [fitHF,hget,frzC,lwC,lwH],rfl,rfl,rfl⟩⟩ ?_
       intro _ _
       refine AWp.freezeC (T:=planL) 8004 3 (α:=Unit) (fun _=>lb) (fun _=>([(0,.ptr 9000 0),(2,.ptr 2 0),(3,.ptr 3 0)],lwH (lwC fi n tr (.pv (.sl la)) (.pv (.sl lb)) (.rs 8005 lc.length)) [(8005,.row 3 lc)])) (fun _=>True) ⟨(),trivial,⟨by simp [hget,lwH],rfl,by simp [fitF,look],by simp [fitHF,hget,frzC,lwC,lwH],rfl,rfl,rfl⟩⟩ ?_
       intro _ _
       refine AWp.freezeC (T:=planL) 8005 3 (α:=Unit) (fun _=>lc) (fun _=>([(0,.ptr 9000 0),(2,.ptr 2 0),(3,.ptr 3 0)],lwH (lwC fi n tr (.pv (.sl la)) (.pv (.sl lb)) (.pv (.sl lc))) [])) (fun _=>True) ⟨(),trivial,⟨by simp [hget,lwH],rfl,by simp [fitF,look],by simp [fitHF,hget,frzC,lwC,lwH],rfl,rfl,rfl⟩⟩ ?_
       intro _ _
       refine wpc_sound (T:=plan0) _ _ _ ?_
       simp (config:={maxSteps:=1000000}) only [intV,ΨM,lwH,lwC,go_sem,↓reduceIte,reduceCtorEq,Nat.reduceEqDiff,Nat.reduceLT,↓all_qVz,Int.reduceLE,Nat.reduceAdd,Nat.reduceLeDiff]
       refine ⟨9000,3,_,rfl,rfl,rfl,rfl,⟨fi,n,tr,la,lb,lc,rfl,hf,⟨by omega,by omega⟩,ht,hne⟩,?_⟩
       rintro gs ⟨fi',ye',tr',la',lb',lc',ld,le,lf,e1,rfl,⟨d1,d2⟩,⟨e2,e3⟩,⟨r1,r2⟩⟩
       simp only [moC,List.cons.injEq,AV.pv.injEq,PV.int.injEq,PV.sl.injEq,true_and,and_true] at e1
       obtain ⟨rfl,rfl,rfl,rfl,rfl,rfl⟩:=e1
       simp (config:={maxSteps:=1000000}) only [moC,go_sem,↓reduceIte,reduceCtorEq,Nat.reduceEqDiff,Nat.reduceLT,Int.reduceLE,Nat.reduceAdd,Nat.reduceLeDiff]
       refine ⟨by kernel_rfl,?_⟩
       rintro _ ⟨_,rfl,c,rfl,hc⟩
       have hc:0<=c/\c<4:=hc
       generalize IntKind.i64.wrap (360 * fi)=d0
       refine AWp.adoptC (b:=3) (i:=9) (κ:=8009) (k:=3) rfl rfl rfl (by decide) ?_
       refine AWp.loop (T:=planL) (α:=Int × Int × Int × List PV) (fun y=>([(0,.ptr 9000 0),(2,.ptr 2 0),(3,.ptr 3 0),(11,.pv (.int .i64 y.1)),(12,.pv (.int .i64 y.2.1)),(13,.pv (.int .i64 y.2.2.1))],lwI (lw2 fi n tr la lb lc ld le lf (.rs 8009 y.2.2.2.length)) [(8009,.row 3 y.2.2.2)])) (fun y=>(0<=y.2.2.1/\y.2.2.1<=3)/\(y.2.2.2.length:Int)+y.2.2.1<=3/\∀ x,x∈y.2.2.2->isA3q x) (fun y=>y.2.2.1.toNat)
        ⟨(0,d0,c,[]),⟨by simp only;omega,by simp;omega,by simp⟩,⟨by simp [fitR,look,intV],by simp [fitH,hget,hset,lwI,lw2],rfl,rfl,rfl⟩⟩ ?_
       rintro ⟨i,d,c,lg⟩ ⟨⟨g1,g2⟩,g3,g4⟩
       simp only at g1 g2 g3 g4
       have hc1:IntKind.i64.wrap (c-1)=c-1:=i64_in _ (by omega)
       by_cases clt:0<c
       · have c0:decide (0<c)=true:=by simp;omega
         simp (config:={maxSteps:=1000000}) only [c0,tk,k_lawMQ_44,rvalidLS,shP,preY,↓all_qS,shC,shO,preCh,okCh,or_false,intV,Nat.reduceBEq,ΨM,planL,lwI,lw2,loadC_eqL,go_sem,↓reduceIte,reduceCtorEq,Nat.reduceEqDiff,Nat.reduceLT,↓all_qVz,Int.reduceLE,Nat.reduceAdd,Nat.reduceLeDiff,Nat.reduceMul]
         intro x2 h2
         rw [Stop_eq]
         simp (config:={maxSteps:=1000000}) only [tk,shP,preY,↓all_qS,shC,shO,preCh,okCh,Nat.reduceBEq,ΨM,go_sem,↓reduceIte,reduceCtorEq,Nat.reduceEqDiff,Nat.reduceLT,Nat.reduceAdd,Nat.reduceLeDiff,Nat.reduceMul]
         refine ⟨by kernel_rfl,⟨⟨hf,by omega,by omega⟩,ht,hne⟩,fun ch hch=>?_⟩
         rw [Stop_eq]
         simp (config:={maxSteps:=1000000}) only [hc1,tk,go_sem,↓reduceIte,reduceCtorEq,Nat.reduceEqDiff,Nat.reduceLT,Nat.reduceAdd,Nat.reduceLeDiff,Nat.reduceMul]
         refine ⟨rfl,fun e he=>(by simp only [List.mem_singleton] at he;subst he;rfl),Nat.le_refl _,by omega,by simp only [maxLen];omega,(IntKind.i64.wrap (i+1),IntKind.i64.wrap (d+x2),c-1,lg++[.agg [.int .i64 (IntKind.i64.wrap (d+x2)),.int .i64 (IntKind.i64.wrap (i+1)),.sl ch]]),⟨by simp only;omega,by simp only [List.length_append,List.length_cons,List.length_nil];omega,addA g4 hch⟩,by simp only;omega,⟨by simp [fitR,look],by simp [fitH,hget],rfl,rfl,rfl⟩⟩
       · have c0:decide (0<c)=false:=by simp;omega
         have hS:LawS ⟨fi,n,tr,la,lb,lc,ld,le,lf,lg⟩:=⟨hnm.isHn,by simp only;omega,fun x hx=>(hga x hx).w,by simp only;omega,fun x hx=>(hgb x hx).w,by simp only;omega,fun x hx=>(hgc x hx).w,by simp only;omega,fun x hx=>(d2 x hx).w,by simp only;omega,fun x hx=>(e3 x hx).w,by simp only;omega,fun x hx=>(r2 x hx).w,by simp only;omega,fun x hx=>(g4 x hx).w,by simp only;omega⟩
         simp (config:={maxSteps:=1000000}) only [c0,tk,k_lawMQ_44,rvalidLS,shP,preY,↓all_qS,shC,shO,preCh,okCh,or_false,intV,Nat.reduceBEq,ΨM,planL,lwI,lw2,loadC_eqL,go_sem,↓reduceIte,reduceCtorEq,Nat.reduceEqDiff,Nat.reduceLT,↓all_qVz,Int.reduceLE,Nat.reduceAdd,Nat.reduceLeDiff,Nat.reduceMul]
         refine ⟨⟨fun c hc=>?_,⟨_,rfl,hS⟩⟩,fun hv=>?_,fun hv=>?_⟩
         · simp only [List.mem_cons,List.not_mem_nil,or_false] at hc
           rcases hc with rfl | rfl | rfl | rfl | rfl | rfl | rfl | rfl | rfl | rfl <;> exact ⟨rfl,by (simp [frzOk,hget];try omega)⟩
         · skip
           exact ⟨by simp [frzOk],⟨fi,n,tr,[],[],[],[],[],[],[]⟩,rfl,bare_valid hf (by omega) htc hnm⟩
         · skip
           exact ⟨by simp [frzOk,hget],⟨fi,n,tr,la,lb,lc,ld,le,lf,lg⟩,rfl,hS,bne_eq_false_iff_eq.1 hv,fun x hx=>hx.elim (fun h=>(hga x h).y) (fun h=>h.elim (fun h=>(hgb x h).y) (fun h=>(hgc x h).y))⟩
noncomputable def ΘL (g:FuncId):Option QSpec:=putΘ Θ9 8 (qV Tp preNo Law.v okLM) g
theorem hΘL:QTab GG ΘL:=hΘ9.put w_lawMQ
end Go.AM
