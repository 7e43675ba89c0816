/-
  A part of a proof.
-/
import Derived.Test.YtkajgkbhkkgdbaaGreatDoorY8c
import Derived.Test.YtkajgkbhkkgdbaaGreatDoorNJ
import Derived.Test.YtkajgkbhkkgdbaaGreatDoorUM
set_option linter.unusedSimpArgs false
set_option linter.unusedVariables false
namespace Go.AM
open Go Go.Proofs Go.IntWalk
attribute [local go_sem] callGc_false callGc_true ev_callG gcallK_b gcallK_w plan0
set_option maxRecDepth 100000
set_option maxHeartbeats 2000000
def preC (args:List PV):Prop:=args=[]
theorem preC_eq:preC []=True:=propext ⟨fun _=>trivial,fun _=>rfl⟩
def okC (_:List PV) (s:List UInt8):Prop:=s.length<=100
def shortP:PV->Bool
 | .str x=>decide (x.length<=100)
 | _=>false
theorem strs_at {ws:List PV} {j:Nat} (h:ws.all shortP=true) (hj:j<ws.length):∃ x,ws.getD j default=.str x/\x.length<=100:=by
 have hm:=getD_mem hj
 have:=List.all_eq_true.1 h _ hm
 revert this
 cases ws.getD j default with
 | str x=>exact fun h=>⟨x,rfl,by simpa [shortP] using h⟩
 | _=>intro h;cases h
def badL:List PV:=[PV.str [],PV.str [48],PV.str [48,49],PV.str [49,46],PV.str [46,49],PV.str [49,46,46,50],PV.str [49,48,48],PV.str [49,46,50,46,51,46,52,46,53],PV.str [120],PV.str [49,32],PV.str [57,57,46,57,57,46,57,57,46,57,57],PV.str [52]]
noncomputable def badQ:QSpec:=qV Tp preC strV okC
theorem w_badQ:QSound GG 55 badQ:=by
 unfold badQ
 refine QSound.of_wpcV (C:=cxQ Tryz.prog Φ0 Θ5 noΨ [] [9000] 8) 9000 Tryz.func55 rfl rfl rfl (Fit.all (G:=GG) hΦ0 hΘ5 hnoΨ mixed) rfl (fun args h=>?_) (fun args h=>?_)
 · obtain rfl:=h
   exact ⟨[],by show ([]:List UInt8).length<=100;simp⟩
 · obtain rfl:=h
   refine ⟨by simp [cxQ],?_⟩
   refine wpc_sound (T:=plan0) _ _ _ ?_
   simp only [Θ5,Θ4,Θ3,Θ2,Θ1,preN_eq,okN,arg1,intV,strV,Tryz.f55,go_sem,↓reduceIte,reduceCtorEq,Nat.reduceEqDiff,Nat.reduceLT,↓all_qV,Int.reduceLE,Nat.reduceAdd,Nat.reduceLeDiff,Nat.reduceMul]
   intro n hn
   obtain ⟨j,rfl⟩:=Int.eq_ofNat_of_zero_le hn.1
   obtain ⟨x,hx,hxl⟩:=strs_at (ws:=badL) (j:=j) (by decide +kernel) (by show j<12;omega)
   simp only [badL] at hx
   rw [Int.toNat_natCast,hx]
   exact ⟨⟨hn.1,hn.2,rfl⟩,Nat.le_refl _,x,rfl,hxl⟩
noncomputable def Θ6 (g:FuncId):Option QSpec:=putΘ Θ5 55 (qV Tp preC strV okC) g
theorem hΘ6:QTab GG Θ6:=hΘ5.put w_badQ
def preCd (args:List PV):Prop:=∃ l,args=[.sl l]/\treeP l/\l≠[]
theorem preCd_eq {l:List PV}:preCd [.sl l]=(treeP l/\l≠[]):=propext ⟨fun ⟨l',e,h⟩=>by simp only [List.cons.injEq,PV.sl.injEq,and_true] at e;subst e;exact h,fun h=>⟨l,rfl,h⟩⟩
noncomputable def codeQ:QSpec:=qV Tp preCd strV okC
theorem w_codeQ:QSound GG 70 codeQ:=by
 unfold codeQ
 refine QSound.of_wpcV (C:=cxQ Tryz.prog Φ0 Θ6 noΨ [] [9000] 23) 9000 Tryz.func70 rfl rfl rfl (Fit.all (G:=GG) hΦ0 hΘ6 hnoΨ mixed) rfl (fun args h=>?_) (fun args h=>?_)
 · exact ⟨[],by show ([]:List UInt8).length<=100;simp⟩
 · obtain ⟨l,rfl,hl,hne⟩:=h
   have hl1:=hl.1
   refine ⟨by simp [cxQ],?_⟩
   refine wpc_sound (T:=plan0) _ _ _ ?_
   have h0:l.length≠0:=fun h=>hne (List.eq_nil_of_length_eq_zero h)
   have c0:((l.length:Int) == 0)=false:=by simpa using h0
   simp only [Θ6,Θ5,Θ4,Θ3,Θ2,Θ1,preN_eq,okN,arg1,ne_eq,not_false_eq_true,intV,preC_eq,c0,strV,Tryz.f70,go_sem,↓reduceIte,reduceCtorEq,Nat.reduceEqDiff,Nat.reduceLT,↓all_qV,Int.reduceLE]
   intro n hn
   refine ⟨fun _ x hx=>⟨x,rfl,hx⟩,fun _=>⟨⟨by omega,by omega⟩,fun k hk=>?_⟩⟩
   obtain ⟨j,rfl⟩:=Int.eq_ofNat_of_zero_le hk.1
   obtain ⟨c,nm,he,hc⟩:=hl.2 _ (getD_mem (show j<l.length by omega))
   have he3:l.getD j default=.agg [.str c,.str nm]:=he
   rw [Int.toNat_natCast,he3]
   exact ⟨⟨hk.1,hk.2,rfl⟩,by show 1<=2;decide,c,rfl,hc⟩
noncomputable def Θ7 (g:FuncId):Option QSpec:=putΘ Θ6 70 (qV Tp preCd strV okC) g
theorem hΘ7:QTab GG Θ7:=hΘ6.put w_codeQ
def okAm (_:List PV) (n:Int):Prop:=0<=n/\n<=1000000000000
noncomputable def amtQ:QSpec:=qV Tp preC intV okAm
theorem w_amtQ:QSound GG 40 amtQ:=by
 unfold amtQ
 refine QSound.of_wpcV (C:=cxQ Tryz.prog Φ0 Θ7 noΨ [] [9000] 12) 9000 Tryz.func40 rfl rfl rfl (Fit.all (G:=GG) hΦ0 hΘ7 hnoΨ mixed) rfl (fun args h=>?_) (fun args h=>?_)
 · exact ⟨0,by unfold okAm;omega⟩
 · obtain rfl:=h
   refine ⟨by simp [cxQ],?_⟩
   refine wpc_sound (T:=plan0) _ _ _ ?_
   simp only [Θ7,Θ6,Θ5,Θ4,Θ3,Θ2,Θ1,preN_eq,preP_eq,okP_eq,allI_nil,allI_cons,memI_nil,memI_cons,or_false,okN,arg1,ne_eq,not_false_eq_true,intV,Tryz.f40,go_sem,↓reduceIte,reduceCtorEq,Nat.reduceEqDiff,Nat.reduceLT,↓all_qV,Int.reduceLE,Nat.reduceAdd,Nat.reduceLeDiff,Nat.reduceMul]
   intro a ha b hb c hc
   exact ⟨⟨⟨by omega,by omega⟩,⟨by omega,by omega⟩,by omega,by omega⟩,fun x hx=>⟨x,rfl,by unfold okAm;omega⟩⟩
noncomputable def Θ8 (g:FuncId):Option QSpec:=putΘ Θ7 40 (qV Tp preC intV okAm) g
theorem hΘ8:QTab GG Θ8:=hΘ7.put w_amtQ
def yrsF (first:Int) (n:Nat):List Int:= -1::(List.range n).map (fun i:Nat=>first+(i:Int))
def shY:List AV->Option (Int × Int)
 | [.agg [.pv (.int .i64 f),.pv (.int .i64 y),a,b,c,d,e,g,h,i]]=>if [a,b,c,d,e,g,h,i].all AV.one then some (f,y) else none
 | _=>none
def initY (x:Int × Int):List AV:=[.agg [.pv (.int .i64 x.1),.pv (.int .i64 x.2),.top,.top,.top,.top,.top,.top,.top,.top]]
theorem wkY (args:List AV) (x:Int × Int) (h:shY args=some x):wkL args (initY x):=by
 unfold shY at h
 split at h
 · split at h
   · rename_i ha
     simp only [Option.some.injEq] at h
     subst h
     simp only [List.all_cons,List.all_nil,Bool.and_true,Bool.and_eq_true] at ha
     obtain ⟨h1,h2,h3,h4,h5,h6,h7,h8⟩:=ha
     exact ⟨⟨rfl,rfl,h1,h2,h3,h4,h5,h6,h7,h8,trivial⟩,trivial⟩
   · cases h
 · cases h
def preY (x:Int × Int):Prop:=(0<=x.1/\x.1<=95)/\(1<=x.2/\x.2<=3)
def valY (x:Int × Int):PV:=.sl ((yrsF x.1 x.2.toNat).map intV)
theorem yrsF_succ (f:Int) (k:Nat):(yrsF f (k+1)).map intV=(yrsF f k).map intV++[.int .i64 (f+(k:Int))]:=by
 unfold yrsF
 rw [List.range_succ,List.map_append];simp [intV]
theorem yrsF_len (f:Int) (k:Nat):((yrsF f k).map intV).length=k+1:=by simp [yrsF]
theorem w_yearsMS:QSound GG 41 (qP shY preY valY):=by
 refine QSound.of_topP (C:=cxP Tryz.prog Ξ0 [5] 22) (T:=plan0) initY Tryz.func41 rfl rfl rfl (Fit.pure (G:=GG) hΞ0 mixed) wkY (fun x hp=>?_)
 obtain ⟨fi,ye⟩:=x
 obtain ⟨hf,hy⟩:=hp
 simp only at hf hy
 refine ⟨by simp [cxP,initY],fun u hu=>?_⟩
 rw [show flL u 0 (initY (fi,ye))=[.agg [.pv (.int .i64 fi),.pv (.int .i64 ye),.fix (u 0 2),.fix (u 0 3),.fix (u 0 4),.fix (u 0 5),.fix (u 0 6),.fix (u 0 7),.fix (u 0 8),.fix (u 0 9)]] from rfl]
 have hw:IntKind.i64.wrap (fi+ye)=fi+ye:=i64_in _ (by omega)
 obtain ⟨n,rfl⟩:=Int.eq_ofNat_of_zero_le (show 0<=ye by omega)
 simp only [argV,valY,Int.toNat_natCast,ev_rowlit,Tryz.f41,go_sem,↓reduceIte,reduceCtorEq,Nat.reduceEqDiff,Nat.reduceLT,Nat.reduceAdd,Nat.reduceLeDiff,Nat.reduceMul,PV.one,AV.one]
 refine AWp.loop (T:=plan0) (α:=Nat) (fun k=>([(1,.ptr 1 0),(3,.rs 5 (k+1)),(4,.pv (.int .i64 (fi+(k:Int))))],[(1,.cells [.pv (.int .i64 fi),.pv (.int .i64 n),.fix (u 0 2),.fix (u 0 3),.fix (u 0 4),.fix (u 0 5),.fix (u 0 6),.fix (u 0 7),.fix (u 0 8),.fix (u 0 9)]),(5,.row 1 ((yrsF fi k).map intV))])) (fun k=>k<=n) (fun k=>n-k)
  ⟨0,Nat.zero_le _,⟨by simp [fitR,look],by simp [fitH,hget,yrsF,intV],rfl,rfl,rfl⟩⟩ ?_
 intro k hk
 have hl:=yrsF_len fi k
 have h1:IntKind.i64.wrap (fi+(k:Int)+1)=fi+((k+1:Nat):Int):=by rw [i64_in _ (by omega)];omega
 by_cases hlt:k<n
 · have c0:decide (fi+(k:Int)<fi+(n:Int))=true:=by simp;omega
   have q19:(!(19 == 5))=true:=rfl
   simp only [c0,h1,hw,hl,q19,go_sem,↓reduceIte,reduceCtorEq,Nat.reduceEqDiff,Nat.reduceLT,Nat.reduceAdd,Nat.reduceLeDiff,Nat.reduceMul,List.forall_mem_cons,List.not_mem_nil,PV.one]
   refine ⟨rfl,Nat.le_refl _,by omega,by simp only [maxLen];omega,k+1,by omega,by omega,⟨by simp [fitR,look],?_,rfl,rfl,rfl⟩⟩
   rw [yrsF_succ,List.take_of_length_le (by omega)]
   simp [fitH,hget]
 · have c0:decide (fi+(k:Int)<fi+(n:Int))=false:=by simp;omega
   simp only [c0,h1,hw,hl,go_sem,↓reduceIte,reduceCtorEq,Nat.reduceEqDiff,Nat.reduceLT,Nat.reduceAdd,Nat.reduceLeDiff,Nat.reduceMul,List.forall_mem_cons,List.not_mem_nil,PV.one]
   have e:k=n:=by omega
   subst e
   rw [List.take_of_length_le (by omega)]
   exact ⟨Nat.le_refl _,rfl⟩
noncomputable def ΘY (g:FuncId):Option QSpec:=putΘ Θ8 41 (qP shY preY valY) g
theorem hΘY:QTab GG ΘY:=hΘ8.put w_yearsMS
theorem yrs_pre {f:Int} {n:Nat} (hf:0<=f/\f<=95) (hn:n<=3):preP [.sl ((yrsF f n).map intV)]:=by
 rw [preP_eq]
 refine ⟨by simp [yrsF],by rw [yrsF_len];omega,fun e he=>?_⟩
 obtain ⟨x,hx,rfl⟩:=List.mem_map.1 he
 have: -1<=x/\x<=1000:=by
  unfold yrsF at hx
  rcases List.mem_cons.1 hx with rfl | hx
  · omega
  · obtain ⟨i,hi,rfl⟩:=List.mem_map.1 hx
    have:=List.mem_range.1 hi
    omega
 exact ⟨x,rfl,by omega,by omega⟩
theorem PV_default:(default:PV)=.bool false:=rfl
theorem M1_N {args:List PV}:Ξ0 16 args=(False,default):=rfl
def okTree (tr:List PV):Prop:=treeP tr/\tr≠[]
def shC:List AV->Option (Int × Int × List PV)
 | [.agg [.pv (.int .i64 f),.pv (.int .i64 y),.pv (.sl tr),b,c,d,e,g,h,i]]=>if [b,c,d,e,g,h,i].all AV.one then some (f,y,tr) else none
 | _=>none
def initC (x:Int × Int × List PV):List AV:=[.agg [.pv (.int .i64 x.1),.pv (.int .i64 x.2.1),.pv (.sl x.2.2),.top,.top,.top,.top,.top,.top,.top]]
theorem wkC (args:List AV) (x:Int × Int × List PV) (h:shC args=some x):wkL args (initC x):=by
 unfold shC at h
 split at h
 · split at h
   · rename_i ha
     simp only [Option.some.injEq] at h
     subst h
     simp only [List.all_cons,List.all_nil,Bool.and_true,Bool.and_eq_true] at ha
     obtain ⟨h1,h2,h3,h4,h5,h6,h7⟩:=ha
     exact ⟨⟨rfl,rfl,rfl,h1,h2,h3,h4,h5,h6,h7,trivial⟩,trivial⟩
   · cases h
 · cases h
def preCh (x:Int × Int × List PV):Prop:=preY (x.1,x.2.1)/\okTree x.2.2
def isX4q (e:PV):Prop:=∃ k c y m,e=.agg [.int .i64 k,.str c,.int .i64 y,.int .i64 m]/\c.length<=100
def okCh (_:Int × Int × List PV) (es:List PV):Prop:=es.length<=3/\∀ e,e∈es->isX4q e
def planC:Plan:={ keep:=fun _=>none,cut:=fun _=>false,stop:=fun i=>i == 7 }
theorem at_c {ρ:Nat->AV} {a b:Nat} (h1:ρ 45=.ptr 3 a) (h2:ρ 52=.ptr 7 b):AtK [(45,3),(52,7)] ρ:=by
 intro p hp
 simp only [List.mem_cons,List.not_mem_nil,or_false] at hp
 rcases hp with rfl | rfl
 · exact ⟨a,h1⟩
 · exact ⟨b,h2⟩
theorem w_changesQ:QSound GG 43 (qS Tp shC preCh slV okCh):=by
 refine QSound.of_top (C:=cxQ Tryz.prog Ξ0 ΘY noΨ [] [9000] 74) initC 9000 Tryz.func43 rfl rfl rfl (Fit.all (G:=GG) hΞ0 hΘY hnoΨ mixed) rfl wkC (fun x hx=>?_) (fun x hx=>?_)
 · exact ⟨[],by unfold okCh;simp⟩
 · obtain ⟨fi,ye,tr⟩:=x
   obtain ⟨⟨hf,hy⟩,ht,hne⟩:=hx
   simp only at hf hy ht hne
   have h100:=ht.1
   have hlp:=List.length_pos_iff.2 hne
   refine ⟨by simp [cxQ,initC],fun u hu=>?_⟩
   rw [show flL u 0 (initC (fi,ye,tr))=[.agg [.pv (.int .i64 fi),.pv (.int .i64 ye),.pv (.sl tr),.fix (u 0 3),.fix (u 0 4),.fix (u 0 5),.fix (u 0 6),.fix (u 0 7),.fix (u 0 8),.fix (u 0 9)]] from rfl]
   refine wpc_sound (T:=planC) _ _ _ ?_
   simp only [argV,Nat.reduceBEq,slV,Tryz.f43,planC,go_sem,↓reduceIte,reduceCtorEq,Nat.reduceEqDiff,Nat.reduceLT]
   refine AWp.adoptS (s:=5) (κ:=8000) (k:=4) (by simp [look]) rfl (by decide) ?_
   refine AWp.loop (T:=planC) (α:=Int × List PV) (fun z=>([(0,.ptr 9000 0),(3,.ptr 3 0),(5,.rs 8000 z.2.length),(6,.pv (.int .i64 z.1))],[(9000,.obj Tp),(8000,.row 4 z.2),(3,.cells [.pv (.int .i64 fi),.pv (.int .i64 ye),.pv (.sl tr),.fix (u 0 3),.fix (u 0 4),.fix (u 0 5),.fix (u 0 6),.fix (u 0 7),.fix (u 0 8),.fix (u 0 9)])])) (fun z=>(1<=z.1/\z.1<=4)/\(z.2.length:Int)<z.1/\∀ e,e∈z.2->isX4q e) (fun z=>(4-z.1).toNat)
    ⟨(1,[]),⟨by decide,by simp,by simp⟩,⟨by simp [fitR,look,upd],by simp [fitH,hget,hset],rfl,rfl,rfl⟩⟩ ?_
   rintro ⟨i,es⟩ ⟨⟨g1,g2⟩,g3,g4⟩
   simp only at g1 g2 g3 g4
   have hi1:IntKind.i64.wrap (i+1)=i+1:=i64_in _ (by omega)
   have tk:es.take es.length=es:=List.take_length
   by_cases hlt:i<=3
   · have c0:decide (i<=3)=true:=by simp;exact hlt
     simp (config:={maxSteps:=1000000}) only [c0,tk,true_and,ΘY,Θ8,Θ7,Θ6,Θ5,Θ4,Θ3,Θ2,Θ1,preN_eq,okN,arg1,intV,Nat.reduceBEq,planC,go_sem,↓reduceIte,reduceCtorEq,Nat.reduceEqDiff,Nat.reduceLT,↓all_qVz,Int.reduceLE]
     intro x0 h0
     rw [Stop_eq]
     simp (config:={maxSteps:=1000000}) only [hi1,true_and,qP_1,↓all_qP,shP,shY,preY,valY,ΘY,Θ8,Θ7,Θ6,Θ5,Θ4,Θ3,Θ2,Θ1,preN_eq,preP_eq,okP_eq,okN,arg1,ne_eq,not_false_eq_true,intV,Nat.reduceBEq,preC_eq,List.take_succ_cons,List.take_nil,go_sem,↓reduceIte,reduceCtorEq,Nat.reduceEqDiff,Nat.reduceLT,↓all_qVz,Nat.reduceAdd,Nat.reduceLeDiff]
     refine ⟨fun h1=>⟨(i+1,es),⟨⟨by simp only;omega,by simp only;omega⟩,by simp only;omega,g4⟩,by simp only;omega,⟨by simp [fitR,look],by simp [fitH,hget],rfl,rfl,rfl⟩⟩,fun h1=>⟨by kernel_rfl,⟨by omega,by omega⟩,fun k hk=>?_⟩⟩
     obtain ⟨j,rfl⟩:=Int.eq_ofNat_of_zero_le hk.1
     obtain ⟨s,nm,hs,hsl⟩:=getD_tree ht (show j<tr.length by omega)
     rw [Stop_eq]
     simp (config:={maxSteps:=1000000}) only [hs,true_and,qP_1,↓all_qP,shP,shY,preY,valY,ΘY,Θ8,Θ7,Θ6,Θ5,Θ4,Θ3,preP_eq,okP_eq,ne_eq,not_false_eq_true,intV,preC_eq,List.take_succ_cons,List.take_nil,go_sem,↓reduceIte,reduceCtorEq,Nat.reduceEqDiff,Nat.reduceLT,↓all_qVz,Nat.reduceAdd,Nat.reduceLeDiff]
     refine ⟨hk,⟨hf,hy⟩,Eq.mp preP_eq (yrs_pre hf (show ye.toNat<=3 by omega)),fun y _=>?_⟩
     rw [Stop_eq]
     simp (config:={maxSteps:=1000000}) only [true_and,ΘY,Θ8,intV,preC_eq,go_sem,↓reduceIte,reduceCtorEq,Nat.reduceEqDiff,Nat.reduceLT,↓all_qVz,Nat.reduceAdd,Nat.reduceLeDiff]
     intro m hm
     have hx1:∀ (c:List UInt8) (y m:Int),c.length<=100->∀ e,e∈es++[PV.agg [.int .i64 i,.str c,.int .i64 y,.int .i64 m]]->isX4q e:=fun c y m hc e he=>by
      rcases List.mem_append.1 he with he | he
      · exact g4 e he
      · rw [List.mem_singleton] at he;exact ⟨_,_,_,_,he,hc⟩
     have e11:((1:Int) == 1)=true:=rfl
     have e12:((1:Int) == 2)=false:=rfl
     have e13:((1:Int) == 3)=false:=rfl
     have e21:((2:Int) == 1)=false:=rfl
     have e22:((2:Int) == 2)=true:=rfl
     have e23:((2:Int) == 3)=false:=rfl
     have e31:((3:Int) == 1)=false:=rfl
     have e32:((3:Int) == 2)=false:=rfl
     have e33:((3:Int) == 3)=true:=rfl
     obtain rfl | rfl | rfl:i=1\/i=2\/i=3:=by omega
     · skip
       rw [Stop_eq]
       simp (config:={maxSteps:=1000000}) only [true_and,go_sem,↓reduceIte,Nat.reduceEqDiff,Nat.reduceLT,Nat.reduceAdd,Nat.reduceLeDiff]
       refine AWp.seqc (T:=plan0) ?_
       simp (config:={maxSteps:=1000000}) only [e11,go_sem,↓reduceIte,reduceCtorEq,Nat.reduceEqDiff,Nat.reduceLT]
       refine AWp.condB (t:=true) rfl (fun _=>?_) (fun h=>by cases h)
       refine AWp.permT0 [(45,3),(52,7)] [0,1,2,3,4,11,5,6,7,8,9,10,12,13,14] [46] (by kernel_rfl) rfl ?_
       simp (config:={maxSteps:=1000000}) only [opsOf,List.filterMap_cons,List.filterMap_nil,List.getElem?_toArray,List.getElem?_cons_succ,List.getElem?_cons_zero,stepsT_nil,stepsT_cons,KT_ap,ann,List.contains_cons,List.contains_nil,Nat.reduceBEq,Bool.or_false,Bool.or_true,Bool.false_eq_true,false_implies,forall_const,tk,hi1,true_and,ΘY,Θ8,Θ7,Θ6,Θ5,Θ4,Θ3,Θ2,Θ1,preN_eq,okN,arg1,ne_eq,not_false_eq_true,intV,Nat.reduceBEq,strV,preLf_eq,go_sem,↓reduceIte,reduceCtorEq,Nat.reduceEqDiff,Nat.reduceLT,↓all_qVz,Nat.reduceAdd,Nat.reduceLeDiff,Nat.reduceMul]
       refine ⟨ht,fun s2 hs2=>?_⟩
       rw [Stop_eq]
       simp (config:={maxSteps:=1000000}) only [stepsT_nil,stepsT_cons,KT_ap,ann,List.contains_cons,List.contains_nil,Nat.reduceBEq,Bool.or_false,Bool.or_true,Bool.false_eq_true,false_implies,forall_const,M1_N,PV_default,tk,hi1,true_and,ΘY,Θ8,Θ7,Θ6,Θ5,Θ4,Θ3,Θ2,Θ1,preN_eq,or_false,okN,arg1,ne_eq,not_false_eq_true,intV,Nat.reduceBEq,List.take_succ_cons,List.take_nil,go_sem,↓reduceIte,reduceCtorEq,Nat.reduceEqDiff,Nat.reduceLT,↓all_qVz,Nat.reduceAdd,Nat.reduceLeDiff,Nat.reduceMul]
       refine ⟨at_c rfl rfl,⟨by omega,by omega⟩,fun k2 hk2=>?_⟩
       rw [Stop_eq]
       simp (config:={maxSteps:=1000000}) only [stepsT_nil,stepsT_cons,KT_ap,ann,List.contains_cons,List.contains_nil,Nat.reduceBEq,Bool.or_false,Bool.or_true,Bool.false_eq_true,false_implies,tk,hi1,true_and,ne_eq,not_false_eq_true,Nat.reduceBEq,List.take_succ_cons,List.take_nil,go_sem,↓reduceIte,reduceCtorEq,Nat.reduceEqDiff,Nat.reduceLT,Nat.reduceAdd,Nat.reduceLeDiff,Nat.reduceMul]
       refine ⟨fun c hc=>by
        simp only [List.mem_cons,List.not_mem_nil,or_false] at hc
        rcases hc with rfl | rfl | rfl | rfl <;> exact ⟨rfl,by simp [frzOk]⟩,rfl,fun e he=>by rw [List.mem_singleton] at he;subst he;rfl,Nat.le_refl _,by omega,by simp only [maxLen];omega,(1+1,es++[.agg [.int .i64 1,.str s2,.int .i64 (IntKind.i64.wrap (fi+k2)),.int .i64 (m)]]),⟨⟨by simp only;omega,by simp only;omega⟩,by simp only [List.length_append,List.length_cons,List.length_nil];omega,hx1 _ _ _ hs2.1⟩,by simp only;omega,⟨by simp [fitR,look],by simp [fitH,hget],rfl,rfl,rfl⟩⟩
     · skip
       rw [Stop_eq]
       simp (config:={maxSteps:=1000000}) only [true_and,go_sem,↓reduceIte,Nat.reduceEqDiff,Nat.reduceLT,Nat.reduceAdd,Nat.reduceLeDiff]
       refine wpc_sound (T:=plan0) _ _ _ ?_
       simp (config:={maxSteps:=1000000}) only [M1_N,PV_default,e21,e22,e23,tk,hi1,true_and,ΘY,Θ8,Θ7,Θ6,Θ5,Θ4,Θ3,Θ2,Θ1,preN_eq,or_false,okN,arg1,ne_eq,not_false_eq_true,intV,strV,preLf_eq,List.take_succ_cons,List.take_nil,go_sem,↓reduceIte,reduceCtorEq,Nat.reduceEqDiff,Nat.reduceLT,↓all_qVz,↓all_qVz',Int.reduceLE,Nat.reduceAdd,Nat.reduceLeDiff,Nat.reduceMul]
       intro x2 hx2
       rw [Stop_eq]
       simp (config:={maxSteps:=1000000}) only [M1_N,PV_default,e23,tk,hi1,true_and,ΘY,Θ8,Θ7,Θ6,Θ5,Θ4,Θ3,Θ2,Θ1,preN_eq,or_false,okN,arg1,ne_eq,not_false_eq_true,intV,List.take_succ_cons,List.take_nil,go_sem,↓reduceIte,reduceCtorEq,Nat.reduceEqDiff,Nat.reduceLT,↓all_qVz,Int.reduceLE,Nat.reduceAdd,Nat.reduceLeDiff,Nat.reduceMul]
       refine ⟨fun g5=>?_,fun g5=>?_⟩
       · skip
         refine ⟨fun c hc=>by
          simp only [List.mem_cons,List.not_mem_nil,or_false] at hc
          rcases hc with rfl | rfl | rfl | rfl <;> exact ⟨rfl,by simp [frzOk]⟩,rfl,fun e he=>by rw [List.mem_singleton] at he;subst he;rfl,Nat.le_refl _,by omega,by simp only [maxLen];omega,(2+1,es++[.agg [.int .i64 2,.str s,.int .i64 (y),.int .i64 (-1)]]),⟨⟨by simp only;omega,by simp only;omega⟩,by simp only [List.length_append,List.length_cons,List.length_nil];omega,hx1 _ _ _ hsl⟩,by simp only;omega,⟨by simp [fitR,look],by simp [fitH,hget],rfl,rfl,rfl⟩⟩
       · skip
         refine ⟨fun c hc=>by
          simp only [List.mem_cons,List.not_mem_nil,or_false] at hc
          rcases hc with rfl | rfl | rfl | rfl <;> exact ⟨rfl,by simp [frzOk]⟩,rfl,fun e he=>by rw [List.mem_singleton] at he;subst he;rfl,Nat.le_refl _,by omega,by simp only [maxLen];omega,(2+1,es++[.agg [.int .i64 2,.str s,.int .i64 (y),.int .i64 (m)]]),⟨⟨by simp only;omega,by simp only;omega⟩,by simp only [List.length_append,List.length_cons,List.length_nil];omega,hx1 _ _ _ hsl⟩,by simp only;omega,⟨by simp [fitR,look],by simp [fitH,hget],rfl,rfl,rfl⟩⟩
     · skip
       rw [Stop_eq]
       simp (config:={maxSteps:=1000000}) only [true_and,go_sem,↓reduceIte,Nat.reduceEqDiff,Nat.reduceLT,Nat.reduceAdd,Nat.reduceLeDiff]
       refine wpc_sound (T:=plan0) _ _ _ ?_
       simp (config:={maxSteps:=1000000}) only [M1_N,PV_default,e31,e32,e33,tk,hi1,true_and,ΘY,Θ8,Θ7,Θ6,Θ5,Θ4,Θ3,Θ2,Θ1,preN_eq,or_false,okN,arg1,ne_eq,not_false_eq_true,intV,strV,preLf_eq,List.take_succ_cons,List.take_nil,go_sem,↓reduceIte,reduceCtorEq,Nat.reduceEqDiff,Nat.reduceLT,↓all_qVz,Int.reduceLE,Nat.reduceAdd,Nat.reduceLeDiff,Nat.reduceMul]
       intro x3 hx3
       rw [Stop_eq]
       simp (config:={maxSteps:=1000000}) only [tk,hi1,true_and,ne_eq,not_false_eq_true,List.take_succ_cons,List.take_nil,go_sem,↓reduceIte,reduceCtorEq,Nat.reduceEqDiff,Nat.reduceLT,Nat.reduceAdd,Nat.reduceLeDiff,Nat.reduceMul]
       refine ⟨fun c hc=>by
        simp only [List.mem_cons,List.not_mem_nil,or_false] at hc
        rcases hc with rfl | rfl | rfl | rfl <;> exact ⟨rfl,by simp [frzOk]⟩,rfl,fun e he=>by rw [List.mem_singleton] at he;subst he;rfl,Nat.le_refl _,by omega,by simp only [maxLen];omega,(3+1,es++[.agg [.int .i64 3,.str s,.int .i64 (y),.int .i64 (x3)]]),⟨⟨by simp only;omega,by simp only;omega⟩,by simp only [List.length_append,List.length_cons,List.length_nil];omega,hx1 _ _ _ hsl⟩,by simp only;omega,⟨by simp [fitR,look],by simp [fitH,hget],rfl,rfl,rfl⟩⟩
   · have c0:decide (i<=3)=false:=by simp;omega
     simp (config:={maxSteps:=1000000}) only [c0,tk,hi1,true_and,qP_1,↓all_qP,shP,shY,preY,valY,ΘY,Θ8,Θ7,Θ6,Θ5,Θ4,Θ3,Θ2,Θ1,preN_eq,preP_eq,okP_eq,okN,arg1,ne_eq,not_false_eq_true,intV,Nat.reduceBEq,preC_eq,List.take_succ_cons,List.take_nil,planC,go_sem,↓reduceIte,reduceCtorEq,Nat.reduceEqDiff,Nat.reduceLT,↓all_qV,Int.reduceLE,Nat.reduceAdd,Nat.reduceLeDiff]
     exact ⟨Nat.le_refl _,es,rfl,by omega,g4⟩
noncomputable def Θ9 (g:FuncId):Option QSpec:=putΘ ΘY 43 (qS Tp shC preCh slV okCh) g
theorem hΘ9:QTab GG Θ9:=hΘY.put w_changesQ
end Go.AM
