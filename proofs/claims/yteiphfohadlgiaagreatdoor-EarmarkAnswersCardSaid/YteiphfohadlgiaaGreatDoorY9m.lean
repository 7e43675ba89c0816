/-
  A part of a proof.
-/
import Derived.Test.YteiphfohadlgiaaGreatDoorY7e
import Derived.Test.YteiphfohadlgiaaGreatDoorPN
set_option linter.unusedSimpArgs false
set_option linter.unusedVariables false
namespace Go.AM
open Go Go.Proofs Go.IntWalk
attribute [local go_sem] List.take_nil List.take_succ_cons allI_cons allI_nil arg1 arg2 callGc_false callGc_true ev_callG false_or gcallK_b gcallK_w intV memI_cons memI_nil nS ne_eq not_false_eq_true okN okP_eq okR or_false pickS plan0 preN_eq preP_eq preR_eq slV strV Θ1 Θ2 Θ3 Θ4 Θ5 Θ6 Θ7 Θ8
set_option maxRecDepth 100000
set_option maxHeartbeats 4000000
theorem nm5_len:∀ n,n∈nm5->n.length<=100:=by decide +kernel
theorem LawK.t45 {l:Law} (h:LawK l):l.tree.length<=45:=by
  have:=h.tc.len
  rwa [List.length_map] at this
theorem Law.ok.k {l:Law} (h:l.ok):LawK l:=h.2.2.2.2.2.2.2.2.2
theorem Law.ok.lf {l:Law} (h:l.ok) {s:List UInt8} {top:List UInt8} (hs:PV.str s∈leavesF l.tree top):s.length<=100:=by
  obtain ⟨c,e,hc⟩:=leavesF_mem h.2.2.1 _ hs
  injection e with e
  rw [e];exact hc
theorem Law.ok.cd {l:Law} (h:l.ok) {s:List UInt8} (hs:s∈l.tree.map hCode):s.length<=100:=by
  obtain ⟨e,he,rfl⟩:=List.mem_map.1 hs
  obtain ⟨c,n,e1,hc⟩:=h.2.2.1.2 e he
  rw [e1];exact hc
theorem bnd_isL3 {l:Law} (h:l.ok) {b:List PV} (hb:BndI l.tree l.first l.tree.length b):∀ x,x∈b->isL3 x:=fun x hx=>by
  obtain ⟨s,y,m,rfl,h1,h2,j,hj,hj2,h3⟩:=hb.2 x hx
  have hm:hCode (l.tree.getD j default)∈l.tree.map hCode:=List.mem_map.2 ⟨_,getD_mem hj2,rfl⟩
  rw [h3] at hm
  have:=h.cd hm
  exact ⟨s,y,m,rfl,by omega⟩
structure LawM (l:Law):Prop where
  s:LawS l
  fi:0<=l.first/\l.first<=12
  ye:1<=l.years/\l.years<=3
  tr:l.tree≠[]
  tl:l.tree.length<=45
  tq:∀ e,e∈l.tree->∃ c n,e=hV c n/\c.length<=100/\n.length<=100
  tp:treeP l.tree
  al:l.a.length<=1000
  bl:l.b.length<=1000
  cl:l.c.length<=1000
  dl:l.d.length<=1000
  el:l.e.length<=1000
  fl:l.f.length<=1000
  gl:l.g.length<=1000
theorem Law.ok.M {l:Law} (h:l.ok):LawM l:=by
  have hk:=h.k
  have h45:=hk.t45
  have hl9:(leavesF l.tree [57]).length<=100:=Nat.le_trans leavesF_len h.2.2.1.1
  have n1:=hk.na
  have n2:=hk.nb
  have n3:=hk.nc
  have n4:=hk.nd
  have n5:=hk.nf
  have n6:=hk.co.1
  have hgl:l.g.length<=1:=by
    rcases hk.am with e | ⟨d,c,m,e,_⟩ <;> rw [e] <;> simp
  have htq:∀ e,e∈l.tree->∃ c n,e=hV c n/\c.length<=100/\n.length<=100:=fun e he=>by
    obtain ⟨c,n,e1,h1,h2⟩:=hk.nm e he
    exact ⟨c,n,e1,h1,nm5_len n h2⟩
  have hS:LawS l:=by
    refine ⟨fun e he=>?_,by omega,fun x hx=>?_,by omega,bnd_isL3 h hk.ce,by omega,bnd_isL3 h hk.fl,by omega,fun x hx=>?_,by omega,fun x hx=>?_,by omega,fun x hx=>?_,by omega,fun x hx=>?_,by omega⟩
    · obtain ⟨c,n,e1,h1,h2⟩:=htq e he
      exact ⟨c,n,e1,by omega,by omega⟩
    · obtain ⟨s,y,m,e,h1,h2,h3⟩:=hk.ln.2 x hx
      have hs:PV.str s∈leavesF l.tree []:=by
        rcases h3 with ⟨j,hj,hs⟩ | ⟨hs,_⟩
        · rw [<- hs];exact getD_mem hj
        · rw [List.getD_eq_getElem?_getD,List.getElem?_eq_none (Nat.le_refl _)] at hs
          cases hs
      have:=h.lf hs
      exact ⟨s,y,m,e,by omega⟩
    · obtain ⟨s,c,p,e,h1,h2,j,hj,hj2,h3⟩:=hk.ea.2 x hx
      have hm:=getD_mem hj2
      rw [h3] at hm
      have a:=h.lf hm
      have b:=h.lf h2
      exact ⟨s,c,p,e,by omega,by omega⟩
    · obtain ⟨c,y,am,k,d,s,z,e,h1,h2,h3,h4⟩:=hk.co.2 x hx
      have a:=h.lf h1
      refine ⟨c,y,am,k,d,s,z,e,by omega,?_⟩
      rcases h4 with ⟨a1,a2,a3,a4⟩ | ⟨a1,a2,a3,a4⟩ <;> subst a3 <;> simp
    · obtain ⟨n,s,c,p,e,h1,h2,h3,h4⟩:=hk.ru.2 x hx
      have a:=h.cd h2
      have b:=h.cd h3
      exact ⟨n,s,c,p,e,by omega,by omega⟩
    · rcases hk.am with e | ⟨d,c,m,e,h1,h2,h3⟩
      · rw [e] at hx;cases hx
      · rw [e,List.mem_singleton] at hx
        have a:=h.lf h2
        refine ⟨_,_,_,hx,fun y hy=>?_,by simp⟩
        rw [List.mem_singleton] at hy
        exact ⟨_,_,_,_,hy,by omega⟩
  obtain ⟨h1,h2,h3,⟨e9,he9,_⟩,h5,_⟩:=h
  exact ⟨hS,h1,h2,(fun e=>by rw [e] at he9;cases he9),h45,htq,h3,by omega,by omega,by omega,by omega,by omega,by omega,by omega⟩
def preC (args:List PV):Prop:=args=[]
theorem preC_eq:preC []=True:=propext ⟨fun _=>trivial,fun _=>rfl⟩
def okC (_:List PV) (s:List UInt8):Prop:=s.length<=100
def shortP:PV->Bool
  | .str x=>decide (x.length<=100)
  | _=>false
theorem strs_at {ws:List PV} {j:Nat} (h:ws.all shortP=true) (hj:j<ws.length):∃ x,ws.getD j default=.str x/\x.length<=100:=by
  have hm:=getD_mem hj
  have:=List.all_eq_true.1 h _ hm
  revert this
  cases ws.getD j default with
  | str x=>exact fun h=>⟨x,rfl,by simpa [shortP] using h⟩
  | _=>intro h;cases h
def badL:List PV:=[PV.str [],PV.str [48],PV.str [48,49],PV.str [49,46],PV.str [46,49],PV.str [49,46,46,50],PV.str [49,48,48],PV.str [49,46,50,46,51,46,52,46,53],PV.str [120],PV.str [49,32],PV.str [57,57,46,57,57,46,57,57,46,57,57],PV.str [52]]
noncomputable def badQ:QSpec:=qV Tp preC strV okC
theorem w_badQ:QSound GG 26 badQ:=by
  unfold badQ
  refine QSound.of_wpcV (C:=cxQ Tryz.prog Φ0 Θ8 noΨ [] [9000] 8) 9000 Tryz.func26 rfl rfl rfl (Fit.all (G:=GG) hΦ0 hΘ8 hnoΨ mixed) rfl (fun args h=>?_) (fun args h=>?_)
  · obtain rfl:=h
    exact ⟨[],by show ([]:List UInt8).length<=100;simp⟩
  · obtain rfl:=h
    refine ⟨by simp [cxQ],?_⟩
    refine wpc_sound (T:=plan0) _ _ _ ?_
    simp only [Nat.reduceBEq,preC_eq,Tryz.f26,go_sem,↓reduceIte,reduceCtorEq,Nat.reduceEqDiff,Nat.reduceLT,↓all_qV,Int.reduceToNat,Int.reduceLT,Int.reduceLE,Nat.reduceAdd,Nat.reduceLeDiff,Nat.reduceMul]
    intro n hn
    obtain ⟨j,rfl⟩:=Int.eq_ofNat_of_zero_le hn.1
    obtain ⟨x,hx,hxl⟩:=strs_at (ws:=badL) (j:=j) (by decide +kernel) (by show j<12;omega)
    simp only [badL] at hx
    rw [Int.toNat_natCast,hx]
    exact ⟨⟨hn.1,hn.2,rfl⟩,Nat.le_refl _,x,rfl,hxl⟩
noncomputable def Θ9 (g:FuncId):Option QSpec:=putΘ Θ8 26 (qV Tp preC strV okC) g
theorem hΘ9:QTab GG Θ9:=hΘ8.put w_badQ
noncomputable def M0 (g:FuncId):PSpec:=(putΦ Ξ0 43 codeS) g
theorem hM0:TabSound GG M0:=(hΞ0.put w_codeS)
def isHq (e:PV):Prop:=∃ c n,e=hV c n/\c.length<=200/\n.length<=200
def okBt (_:List PV) (es:List PV):Prop:=es.length<=101/\∀ e,e∈es->isHq e
def preBt (args:List PV):Prop:=∃ l,args=[.sl l]/\(l.length<=60/\∀ e,e∈l->isHq e)/\l≠[]
theorem preBt_eq {l:List PV}:preBt [.sl l]=((l.length<=60/\∀ e,e∈l->isHq e)/\l≠[]):=propext ⟨fun ⟨l',e,h⟩=>by simp only [List.cons.injEq,PV.sl.injEq,and_true] at e;subst e;exact h,fun h=>⟨l,rfl,h⟩⟩
theorem take_set_ok {l:List PV} {j:Nat} {e:PV} {args:List PV} (hl:l.length<=60) (hq:∀ e,e∈l->isHq e) (he:isHq e):okBt args (List.take l.length (l.set j e)):=by
  rw [List.take_of_length_le (by simp)]
  refine ⟨by rw [List.length_set];omega,fun x hx=>?_⟩
  rcases List.mem_or_eq_of_mem_set hx with h | h
  · exact hq x h
  · rw [h];exact he
theorem getD_set_ne {l:List PV} {i j:Nat} {e:PV} (h:i≠j):(l.set i e).getD j default=l.getD j default:=by
  simp [List.getD_eq_getElem?_getD,List.getElem?_set,h]
theorem code1 (i:Int):(codeF [i]).length<=3:=by
  unfold codeF
  rw [if_neg (by simp)]
  have:=codeG_len true [] [i]
  simpa using this
def badN:List PV:=[PV.str [],PV.str [32,120],PV.str [120,32],PV.str [120,10],PV.str [97,98,99,100,101,102,103,104,105,106,107,108,109,110,111,112,113,114,115,116,117,118,119,120,121,122,97,98,99,100,101,102,103,104,105,106,107,108,109,110,111,112,113]]
noncomputable def bentQ:QSpec:=qV Tp preBt slV okBt
theorem k_bentQ_43 {args:List PV}:M0 43 args=codeS args:=rfl
theorem w_bentQ:QSound GG 28 bentQ:=by
  unfold bentQ
  refine QSound.of_wpcV (C:=cxQ Tryz.prog M0 Θ9 noΨ [8] [9000] 94) 9000 Tryz.func28 rfl rfl rfl (Fit.all (G:=GG) hM0 hΘ9 hnoΨ mixed) rfl (fun args h=>?_) (fun args h=>?_)
  · exact ⟨[],by unfold okBt;simp⟩
  · obtain ⟨l,rfl,⟨hl,hq⟩,hne⟩:=h
    refine ⟨by simp [cxQ],?_⟩
    refine wpc_sound (T:=plan0) _ _ _ ?_
    have h0:l.length≠0:=fun h=>hne (List.eq_nil_of_length_eq_zero h)
    have c0:((l.length:Int) == 0)=false:=by simpa using h0
    have tkl:l.take l.length=l:=List.take_length
    have hflat:∀ e:PV,e∈l->e.cells.length=2:=fun e he=>by obtain ⟨c,n,rfl,_⟩:=hq e he;rfl
    simp (config:={maxSteps:=1000000}) only [c0,tkl,ev_rowlit0,Θ9,Nat.reduceBEq,preC_eq,k_bentQ_43,codeS,on_l_eq,Tryz.f28,go_sem,↓reduceIte,reduceCtorEq,Nat.reduceEqDiff,Nat.reduceLT,↓all_qV,Int.reduceToNat,Int.reduceLT,Int.reduceLE,Nat.reduceAdd,Nat.reduceLeDiff,Nat.reduceMul]
    refine ⟨rfl,hflat,by omega,by simp only [maxLen];omega,⟨by omega,by omega⟩,fun n hn m hm=>?_⟩
    obtain ⟨j,rfl⟩:=Int.eq_ofNat_of_zero_le hn.1
    have hj:j<l.length:=by omega
    obtain ⟨c,nm,he,hc,hnm⟩:=hq _ (getD_mem hj)
    have he3:l.getD j default=.agg [.str c,.str nm]:=he
    have w1:IntKind.i64.wrap ((j:Int)+1)=((j+1:Nat):Int):=by rw [i64_in _ (by omega)];omega
    simp only [Int.toNat_natCast,he3,w1]
    refine ⟨fun _ bc hbc=>⟨⟨by omega,by omega⟩,hj,by simp,_,rfl,take_set_ok hl hq ⟨bc,nm,rfl,by have:bc.length<=100:=hbc;omega,hnm⟩⟩,fun _=>⟨fun _ w hw=>?_,fun _=>⟨fun _=>⟨by kernel_rfl,⟨by omega,by omega⟩,⟨by omega,by omega,by omega⟩,rfl,fun e he=>hflat e (List.mem_of_mem_drop he),by omega,?_,?_,?_,_,rfl,?_⟩,fun _=>⟨fun _=>?_,fun _=>⟨fun _=>⟨fun h5=>?_,fun _=>⟨Nat.le_refl _,l,rfl,by omega,hq⟩⟩,fun _=>?_⟩⟩⟩⟩⟩
    · obtain ⟨i,rfl⟩:=Int.eq_ofNat_of_zero_le hw.1
      obtain ⟨x,hx,hxl⟩:=strs_at (ws:=badN) (j:=i) (by decide +kernel) (by show i<5;omega)
      simp only [badN] at hx
      simp only [Int.toNat_natCast,hx]
      exact ⟨⟨hw.1,hw.2,rfl⟩,Nat.le_refl _,⟨by omega,by omega⟩,rfl,hj,rfl,by simp,_,rfl,take_set_ok hl hq ⟨c,x,rfl,hc,by omega⟩⟩
    · rw [List.length_drop];omega
    · rw [List.length_drop];simp only [maxLen];omega
    · rw [List.length_append,List.length_take,List.length_drop];omega
    · refine ⟨?_,fun e he=>?_⟩
      · rw [List.length_take,List.length_append,List.length_take,List.length_drop];omega
      · rcases List.mem_append.1 (List.mem_of_mem_take he) with h | h
        · exact hq e (List.mem_of_mem_take h)
        · exact hq e (List.mem_of_mem_drop h)
    · refine ⟨⟨by omega,by omega⟩,⟨hj,by show 2<=2;decide⟩,⟨rfl,rfl⟩,rfl,fun e he=>by rw [List.mem_singleton] at he;subst he;rfl,Nat.le_refl _,by omega,by simp only [maxLen];omega,by simp,_,rfl,?_,fun e he=>?_⟩
      · rw [List.length_take,List.length_append];simp only [List.length_cons,List.length_nil];omega
      · rcases List.mem_append.1 (List.mem_of_mem_take he) with h | h
        · exact hq e h
        · rw [List.mem_singleton] at h;subst h;exact ⟨c,nm,rfl,hc,hnm⟩
    · have h0j:0<j:=by simp only [decide_eq_true_eq] at h5;omega
      obtain ⟨c',nm',he',hc',hnm'⟩:=hq _ (getD_mem (show j-1<l.length by omega))
      have he4:l.getD (j-1) default=.agg [.str c',.str nm']:=he'
      have w2:IntKind.i64.wrap ((j:Int)-1)=((j-1:Nat):Int):=by rw [i64_in _ (by omega)];omega
      have g4:∀ X,(l.set j X).getD (j-1) default=.agg [.str c',.str nm']:=fun X=>by rw [getD_set_ne (by omega),he4]
      simp only [w2,Int.toNat_natCast,he4,g4]
      refine ⟨by kernel_rfl,⟨by omega,by omega⟩,⟨by omega,by show 2<=2;decide⟩,⟨by omega,by omega⟩,⟨by omega,by show 2<=2;decide⟩,⟨by omega,by omega⟩,rfl,hj,rfl,⟨by omega,by omega⟩,rfl,by rw [List.length_set];omega,rfl,by simp,_,rfl,?_⟩
      have hl2:(l.set j (hV c' nm')).length<=60:=by rw [List.length_set];exact hl
      have hq2:∀ e,e∈l.set j (hV c' nm')->isHq e:=fun e he=>by
        rcases List.mem_or_eq_of_mem_set he with h | h
        · exact hq e h
        · rw [h];exact ⟨c',nm',rfl,hc',hnm'⟩
      have:=take_set_ok (args:=[.sl l]) (j:=j-1) hl2 hq2 (e:=hV c nm) ⟨c,nm,rfl,hc,hnm⟩
      rw [List.length_set] at this
      exact this
    · refine AWp.loop (T:=plan0) (α:=Nat × List PV) (fun z=>([(0,.ptr 9000 0),(5,.rs 8 z.2.length),(7,.pv (.int .i64 z.1))],[(8,.row 2 z.2),(9000,.obj Tp)])) (fun z=>z.2.length<=61/\z.1+l.length=z.2.length+1/\∀ e,e∈z.2->isHq e) (fun z=>61-z.2.length)
        ⟨(1,l),⟨by simp only;omega,by simp only;omega,hq⟩,⟨by simp [fitR,look],by simp [fitH,hget],rfl,rfl,rfl⟩⟩ ?_
      rintro ⟨i,es⟩ ⟨g1,g2,g3⟩
      simp only at g1 g2 g3
      have hi1:IntKind.i64.wrap ((i:Int)+1)=((i+1:Nat):Int):=by rw [i64_in _ (by omega)];omega
      have tk:es.take es.length=es:=List.take_length
      by_cases hlt:es.length<=60
      · have c1:decide ((es.length:Int)<=60)=true:=by simp;omega
        have k1:=code1 (i:Int)
        have hall:allI [PV.int .i64 (i:Int)]:=⟨[(i:Int)],rfl⟩
        have hno:nOf (.int .i64 i)=i:=rfl
        simp (config:={maxSteps:=1000000}) only [c1,hi1,tk,hno,Θ9,Nat.reduceBEq,preC_eq,k_bentQ_43,codeS,on_l_eq,List.map_cons,List.map_nil,go_sem,↓reduceIte,reduceCtorEq,Nat.reduceEqDiff,Nat.reduceLT,↓all_qV,Int.reduceToNat,Int.reduceLT,Int.reduceLE,Nat.reduceAdd,Nat.reduceLeDiff,Nat.reduceMul]
        refine ⟨hall,by omega,rfl,fun e he=>by rw [List.mem_singleton] at he;subst he;rfl,Nat.le_refl _,by omega,by simp only [maxLen];omega,(i+1,es++[hV (57::57::46::codeF [(i:Int)]) [120]]),⟨by simp only [List.length_append,List.length_cons,List.length_nil];omega,by simp only [List.length_append,List.length_cons,List.length_nil];omega,fun e he=>?_⟩,by simp only [List.length_append,List.length_cons,List.length_nil];omega,⟨by simp [fitR,look],by simp [fitH,hget,hV],rfl,rfl,rfl⟩⟩
        rcases List.mem_append.1 he with h | h
        · exact g3 e h
        · rw [List.mem_singleton] at h
          exact ⟨_,_,h,by simp only [List.length_cons];omega,by simp⟩
      · have c1:decide ((es.length:Int)<=60)=false:=by simp;omega
        simp (config:={maxSteps:=1000000}) only [c1,tk,Θ9,Nat.reduceBEq,preC_eq,k_bentQ_43,codeS,on_l_eq,go_sem,↓reduceIte,reduceCtorEq,Nat.reduceEqDiff,Nat.reduceLT,↓all_qV,Int.reduceToNat,Int.reduceLT,Int.reduceLE,Nat.reduceAdd,Nat.reduceLeDiff,Nat.reduceMul]
        exact ⟨Nat.le_refl _,es,rfl,by omega,g3⟩
noncomputable def ΘA (g:FuncId):Option QSpec:=putΘ Θ9 28 (qV Tp preBt slV okBt) g
theorem hΘA:QTab GG ΘA:=hΘ9.put w_bentQ
def preTx (args:List PV):Prop:=∃ l:List PV,args=[.sl l]/\l≠[]/\l.length<=100/\∀ e,e∈l->∃ s,e=.str s/\s.length<=1000
theorem preTx_eq {l:List PV}:preTx [.sl l]=(l≠[]/\l.length<=100/\∀ e,e∈l->∃ s,e=.str s/\s.length<=1000):=propext ⟨fun ⟨l',e,h⟩=>by simp only [List.cons.injEq,PV.sl.injEq,and_true] at e;subst e;exact h,fun h=>⟨l,rfl,h⟩⟩
def okTx (_:List PV) (s:List UInt8):Prop:=s.length<=1000
noncomputable def textQ:QSpec:=qV Tp preTx strV okTx
theorem w_textQ:QSound GG 29 textQ:=by
  unfold textQ
  refine QSound.of_wpcV (C:=cxQ Tryz.prog Φ0 ΘA noΨ [] [9000] 12) 9000 Tryz.func29 rfl rfl rfl (Fit.all (G:=GG) hΦ0 hΘA hnoΨ mixed) rfl (fun args h=>?_) (fun args h=>?_)
  · exact ⟨[],by unfold okTx;simp⟩
  · obtain ⟨l,rfl,hne,hl,hs⟩:=h
    refine ⟨by simp [cxQ],?_⟩
    refine wpc_sound (T:=plan0) _ _ _ ?_
    have h0:l.length≠0:=fun h=>hne (List.eq_nil_of_length_eq_zero h)
    simp only [ΘA,Θ9,Nat.reduceBEq,preC_eq,Tryz.f29,go_sem,↓reduceIte,reduceCtorEq,Nat.reduceEqDiff,Nat.reduceLT,↓all_qV,Int.reduceToNat,Int.reduceLT,Int.reduceLE,Nat.reduceAdd,Nat.reduceLeDiff,Nat.reduceMul]
    refine ⟨⟨by omega,by omega⟩,fun n hn=>?_⟩
    obtain ⟨j,rfl⟩:=Int.eq_ofNat_of_zero_le hn.1
    obtain ⟨s,he,h9⟩:=hs _ (getD_mem (show j<l.length by omega))
    rw [Int.toNat_natCast,he]
    exact ⟨⟨hn.1,hn.2,rfl⟩,Nat.le_refl _,s,rfl,h9⟩
noncomputable def ΘB (g:FuncId):Option QSpec:=putΘ ΘA 29 (qV Tp preTx strV okTx) g
theorem hΘB:QTab GG ΘB:=hΘA.put w_textQ
end Go.AM
