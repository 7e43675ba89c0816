/-
  A part of a proof.
-/
import Derived.Test.YtkajgkbhkkgdbaaGreatDoorYA
import Derived.Test.YtkajgkbhkkgdbaaGreatDoorZ1
set_option linter.unusedSimpArgs false
set_option linter.unusedVariables false
namespace Go.AM
open Go Go.Proofs Go.IntWalk
set_option maxRecDepth 100000
set_option maxHeartbeats 1000000
noncomputable def Y0 (g:FuncId):PSpec:=(putΦ (putΦ (putΦ (putΦ Ξ0 76 goodS) 78 parentS) 77 underS) 69 compareS) g
theorem hY0:TabSound GG Y0:=((((hΞ0.put w_goodS).put w_parentS).put w_underS).put w_compareS)
def totB (n:Int):Bool:=decide (-1000000000000000<=n)&&decide (n<=1000000000000000)
noncomputable def rnameS:PSpec:=on_s (fun s=>s.length<=4611686018427387904) (fun s=>.bool (nmF s))
theorem w_rnameS:PSound GG 155 rnameS:=by
 refine PSound.of_wpc (C:=cxP Tryz.prog Y0 [] 41) (T:=plan0) Tryz.func155 rfl rfl rfl (Fit.pure (G:=GG) hY0 mixed) (fun args h=>?_)
 unfold rnameS at h
 obtain ⟨s,rfl,hp⟩:=on_s_inv h
 refine ⟨by simp [cxP],?_⟩
 simp only [rnameS,on_s_eq,Tryz.f155,argL,plan0]
 rw [nmF_eq]
 have w1:IntKind.i64.wrap ((s.length:Int)-1)=(s.length:Int)-1:=i64_in _ (by omega)
 have w2:((s.length:Int)-1).toNat=s.length-1:=by omega
 simp only [w1,w2,indexA,true_and,go_sem,↓reduceIte,reduceCtorEq,Nat.reduceEqDiff,Nat.reduceLT]
 generalize hC:(decide ((s.length:Int)<1)||decide (40<(s.length:Int))||((s.getD 0 0).toNat:Int) == 32||((s.getD (s.length-1) 0).toNat:Int) == 32)=C
 refine ⟨fun h=>?_,fun h=>?_,fun h=>?_,fun h=>?_⟩
 · simp only [Bool.not_eq_true',Bool.or_eq_false_iff,decide_eq_false_iff_not] at h;omega
 · simp only [Bool.not_eq_true',Bool.or_eq_false_iff,decide_eq_false_iff_not] at h;omega
 · rw [h];rfl
 rw [h,Bool.not_false,Bool.true_and]
 refine AWp.loop (T:=plan0) (α:=Nat) (fun i=>([(0,.pv (.str s)),(3,.pv (.int .i64 i))],[])) (fun i=>i<=s.length/\(s.take i).all nmB=true) (fun i=>s.length-i)
  ⟨0,⟨Nat.zero_le _,rfl⟩,⟨by simp [fitR,look],trivial,rfl,rfl,rfl⟩⟩ ?_
 rintro i ⟨h1,h2⟩
 have hi1:IntKind.i64.wrap ((i:Int)+1)=((i+1:Nat):Int):=by rw [i64_in _ (by omega)];omega
 by_cases hlt:i<s.length
 · have c0:decide ((i:Int)<(s.length:Int))=true:=by simp;omega
   have htk:s.take (i+1)=s.take i++[s.getD i 0]:=by rw [List.take_add_one];simp [List.getElem?_eq_getElem hlt,List.getD_eq_getElem?_getD]
   have hm:s.getD i 0∈s:=by rw [List.getD_eq_getElem?_getD,List.getElem?_eq_getElem hlt];exact List.getElem_mem _
   simp only [c0,hi1,indexA,Int.toNat_natCast,plan0,go_sem,↓reduceIte,reduceCtorEq,Nat.reduceEqDiff,Nat.reduceLT]
   generalize s.getD i 0=b at htk hm ⊢
   have hb:nmB b= !(decide ((b.toNat:Int)<32)||decide ((126:Int)<(b.toNat:Int))):=rfl
   refine ⟨⟨by omega,by omega⟩,fun _=>⟨by omega,by omega⟩,fun h9=>?_,fun h9=>⟨i+1,⟨by omega,?_⟩,by omega,⟨by simp [fitR,look],trivial,rfl,rfl,rfl⟩⟩⟩
   · have:s.all nmB=false:=List.all_eq_false.2 ⟨b,hm,by rw [hb,h9];simp⟩
     rw [this]
   · rw [htk,List.all_append,h2,List.all_cons,hb,h9];rfl
 · have c0:decide ((i:Int)<(s.length:Int))=false:=by simp;omega
   rw [List.take_of_length_le (by omega)] at h2
   simp only [c0,plan0,go_sem,↓reduceIte,reduceCtorEq,Nat.reduceEqDiff,Nat.reduceLT]
   rw [h2]
noncomputable def rhasS:PSpec:=on_ls (fun es _=>(∀ e,e∈es->isH e)/\es.length<=4611686018427387904) (fun es c=>.bool (es.any (fun e=>hCode e == c)))
theorem w_rhasS:PSound GG 126 rhasS:=by
 refine PSound.of_wpc (C:=cxP Tryz.prog Y0 [] 18) (T:=plan0) Tryz.func126 rfl rfl rfl (Fit.pure (G:=GG) hY0 mixed) (fun args h=>?_)
 unfold rhasS at h
 obtain ⟨l,code,rfl,hp⟩:=on_ls_inv h
 refine ⟨by simp [cxP],?_⟩
 simp only [rhasS,on_ls_eq,Tryz.f126,argL,plan0]
 obtain ⟨hl,hn⟩:=hp
 simp only [go_sem,↓reduceIte,reduceCtorEq,Nat.reduceLT]
 refine AWp.loop (T:=plan0) (α:=Nat) (fun i=>([(1,.pv (.str code)),(7,.pv (.sl l)),(8,.pv (.int .i64 l.length)),(9,.pv (.int .i64 i))],[])) (fun i=>i<=l.length/\(l.take i).any (fun e=>hCode e == code)=false) (fun i=>l.length-i)
  ⟨0,⟨Nat.zero_le _,rfl⟩,⟨by simp [fitR,look],trivial,rfl,rfl,rfl⟩⟩ ?_
 rintro i ⟨h1,h2⟩
 have hi1:IntKind.i64.wrap ((i:Int)+1)=((i+1:Nat):Int):=by rw [i64_in _ (by omega)];omega
 by_cases hlt:i<l.length
 · have c0:decide ((i:Int)<(l.length:Int))=true:=by simp;omega
   have hm:=getD_mem hlt
   have htk:=take_succ_getD hlt
   obtain ⟨c,nm,he,hc⟩:=hl _ hm
   have he3:l.getD i default=.agg [.str c,.str nm]:=he
   rw [he3] at hm htk
   simp only [c0,he3,hi1,List.take_succ_cons,List.take_nil,plan0,go_sem,↓reduceIte,reduceCtorEq,Nat.reduceEqDiff,Nat.reduceLT,Nat.reduceAdd,Nat.reduceLeDiff]
   refine ⟨⟨by omega,by omega⟩,fun h9=>?_,fun h9=>⟨i+1,⟨by omega,?_⟩,by omega,⟨by simp [fitR,look],trivial,rfl,rfl,rfl⟩⟩⟩
   · have:l.any (fun e=>hCode e == code)=true:=List.any_eq_true.2 ⟨_,hm,h9⟩
     rw [this]
   · rw [htk,List.any_append,h2]
     show (false||((c == code)||false))=false
     rw [h9];rfl
 · have c0:decide ((i:Int)<(l.length:Int))=false:=by simp;omega
   rw [List.take_of_length_le (by omega)] at h2
   simp only [c0,h2,plan0,go_sem,↓reduceIte,reduceCtorEq,Nat.reduceEqDiff,Nat.reduceLT,Nat.reduceAdd,Nat.reduceLeDiff]
noncomputable def Y1 (g:FuncId):PSpec:=(putΦ (putΦ Y0 155 rnameS) 126 rhasS) g
theorem hY1:TabSound GG Y1:=((hY0.put w_rnameS).put w_rhasS)
noncomputable def rtotS:PSpec:=on_i (fun _=>True) (fun n=>.bool (totB n))
theorem w_rtotS:PSound GG 146 rtotS:=by
 refine PSound.of_wpc (C:=cxP Tryz.prog Y1 [] 9) (T:=plan0) Tryz.func146 rfl rfl rfl (Fit.pure (G:=GG) hY1 mixed) (fun args h=>?_)
 unfold rtotS at h
 obtain ⟨n,rfl,hp⟩:=on_i_inv h
 refine ⟨by simp [cxP],?_⟩
 simp only [rtotS,on_i_eq,Tryz.f146,argL,plan0]
 simp only [go_sem,↓reduceIte,reduceCtorEq,Nat.reduceEqDiff,Nat.reduceLT]
 rfl
noncomputable def Y2 (g:FuncId):PSpec:=(putΦ Y1 146 rtotS) g
theorem hY2:TabSound GG Y2:=(hY1.put w_rtotS)
def addF (a b:Int):Int × Int:=bif !totB a||!totB b||!totB (IntKind.i64.wrap (a+b)) then (0,2) else (IntKind.i64.wrap (a+b),0)
noncomputable def addS:PSpec:=on_ii (fun _ _=>True) (fun a b=>.tup [.int .i64 (addF a b).1,.int .i64 (addF a b).2])
theorem k_addS_146 {args:List PV}:Y2 146 args=rtotS args:=rfl
theorem w_addS:PSound GG 109 addS:=by
 refine PSound.of_wpc (C:=cxP Tryz.prog Y2 [] 24) (T:=plan0) Tryz.func109 rfl rfl rfl (Fit.pure (G:=GG) hY2 mixed) (fun args h=>?_)
 unfold addS at h
 obtain ⟨a,b,rfl,hp⟩:=on_ii_inv h
 refine ⟨by simp [cxP],?_⟩
 simp only [addS,on_ii_eq,Tryz.f109,argL,plan0]
 unfold addF
 simp only [k_addS_146,rtotS,on_i_eq,go_sem,↓reduceIte,reduceCtorEq,Nat.reduceEqDiff,Nat.reduceLT,ev_callG]
 refine ⟨fun h=>by simpa using h,fun h=>by rw [h];rfl,fun h=>by rw [h];rfl⟩
theorem pI_partsR (s:List UInt8):pI s=partsR s:=by
 unfold pI
 rw [parts_partsR,List.map_map]
 exact (List.map_congr_left (fun x _=>rfl)).trans (List.map_id _)
theorem cmpF_C (a b:List UInt8):cmpF a b=cmpC a b:=by
 unfold cmpF cmpC cmpS
 rw [pI_partsR,pI_partsR]
 generalize partsR a=p
 generalize partsR b=q
 have h:∀ n:Nat,(((n:Int)+1) == 0)=false:=fun n=>by simp;omega
 cases p <;> cases q <;> simp [cmpL,h]
theorem good_code (s:List UInt8):goodF 0 1 s=isCode s:=gd_code s
noncomputable def Y4 (g:FuncId):PSpec:=(putΦ Y2 109 addS) g
theorem hY4:TabSound GG Y4:=(hY2.put w_addS)
noncomputable def rfstS:PSpec:=on_l (fun l=>(∀ e,e∈l->isHn e)/\l.length<=1000000000000) (fun l=>.tup [.int .i64 (fstF l).1,.int .i64 (fstF l).2])
theorem k_rfstS_69 {args:List PV}:Y4 69 args=compareS args:=rfl
theorem k_rfstS_76 {args:List PV}:Y4 76 args=goodS args:=rfl
theorem k_rfstS_78 {args:List PV}:Y4 78 args=parentS args:=rfl
theorem k_rfstS_126 {args:List PV}:Y4 126 args=rhasS args:=rfl
theorem k_rfstS_155 {args:List PV}:Y4 155 args=rnameS args:=rfl
theorem w_rfstS:PSound GG 127 rfstS:=by
 refine PSound.of_wpc (C:=cxP Tryz.prog Y4 [] 63) (T:=plan0) Tryz.func127 rfl rfl rfl (Fit.pure (G:=GG) hY4 mixed) (fun args h=>?_)
 unfold rfstS at h
 obtain ⟨l,rfl,hp⟩:=on_l_inv h
 refine ⟨by simp [cxP],?_⟩
 simp only [rfstS,on_l_eq,Tryz.f127,argL,plan0]
 obtain ⟨hl,hn⟩:=hp
 have hH:∀ e,e∈l->isH e:=fun e he=>(hl e he).isH
 simp only [go_sem,↓reduceIte,reduceCtorEq,Nat.reduceEqDiff,Nat.reduceLT]
 unfold fstF
 refine ⟨fun h=>by rw [h];rfl,fun h=>?_⟩
 have hsm:l.length<=60:=by simp only [decide_eq_false_iff_not] at h;omega
 rw [h,cond_false]
 refine AWp.loop (T:=plan0) (α:=Nat) (fun i=>([(0,.pv (.sl l)),(9,.pv (.sl l)),(10,.pv (.int .i64 l.length)),(11,.pv (.int .i64 i))],[])) (fun i=>i<=l.length/\fstG l (l.length-i) i=fstG l l.length 0) (fun i=>l.length-i)
  ⟨0,⟨Nat.zero_le _,rfl⟩,⟨by simp [fitR,look],trivial,rfl,rfl,rfl⟩⟩ ?_
 rintro i ⟨h1,h2⟩
 have hi1:IntKind.i64.wrap ((i:Int)+1)=((i+1:Nat):Int):=by rw [i64_in _ (by omega)];omega
 have hwi:IntKind.i64.wrap ((i:Int)-1)=(i:Int)-1:=i64_in _ (by omega)
 by_cases hlt:i<l.length
 · have c0:decide ((i:Int)<(l.length:Int))=true:=by simp;omega
   rw [show l.length-i=(l.length-(i+1))+1 by omega,fstG] at h2
   obtain ⟨c,n,he,hc,hnl⟩:=hl _ (getD_mem hlt)
   have he3:l.getD i default=.agg [.str c,.str n]:=he
   have hpl:=parC_len c
   have hd:hdF l i=(bif !isCode c then 5 else bif !nmF n then 4 else bif decide ((0:Int)<(i:Int))&&decide (0<=cmpC (hCode (l.getD (i-1) default)) c) then 8 else
    bif !(parC c == [])&&!(l.any (fun e=>hCode e == parC c)) then 6 else 0):=by
    unfold hdF
    rw [he3];rfl
   have hnx:hdF l i=0->fstG l (l.length-(i+1)) (i+1)=fstG l l.length 0:=fun hz=>by rw [hz] at h2;exact h2
   have hst:∀ k:Int,hdF l i=k->k≠0->fstG l l.length 0=(((i+1:Nat):Int),k):=fun k hk h0=>by
    rw [hk] at h2
    rw [<- h2]
    have:(k != 0)=true:=by simpa using h0
    rw [this,cond_true]
   obtain ⟨j,hj⟩:∃ j,(i:Int)-1=j:=⟨_,rfl⟩
   have hpv:0<i->∃ c' n',l.getD (i-1) default=.agg [.str c',.str n']/\c'.length<=1000000000000:=fun h0=>by
    obtain ⟨c',n',he',hc',_⟩:=hl _ (getD_mem (show i-1<l.length by omega))
    exact ⟨c',n',he',hc'⟩
   by_cases h0:0<i
   · obtain ⟨c',n',he',hc'⟩:=hpv h0
     have w2:decide ((0:Int)<(i:Int))=true:=decide_eq_true (by omega)
     have w3:((i:Int)-1).toNat=i-1:=by omega
     have hcd:hCode (.agg [.str c',.str n'])=c':=rfl
     rw [he',hcd,w2] at hd
     simp only [c0,he3,he',hi1,hwi,w2,w3,cmpF_C,par_code,good_code,List.take_succ_cons,List.take_nil,k_rfstS_69,compareS,on_ss_eq,k_rfstS_76,goodS,on_s_eq,k_rfstS_78,parentS,k_rfstS_126,rhasS,on_ls_eq,k_rfstS_155,rnameS,plan0,go_sem,↓reduceIte,reduceCtorEq,Nat.reduceEqDiff,Nat.reduceLT,Nat.reduceAdd,Nat.reduceLeDiff]
     refine ⟨⟨by omega,by omega⟩,by omega,fun g1=>?_,fun g1=>⟨by omega,fun g2=>?_,fun g2=>⟨by kernel_rfl,?_⟩⟩⟩
     · rw [g1] at hd;rw [hst 5 hd (by decide)]
     · rw [g1,g2] at hd;rw [hst 4 hd (by decide)]
     rw [g1,g2] at hd
     refine ⟨⟨by omega,by omega⟩,⟨by omega,by omega⟩,fun g3=>?_,fun g3=>⟨by omega,fun _=>by omega,fun _=>⟨hH,by omega⟩,fun g4=>?_,fun g4=>⟨i+1,⟨by omega,?_⟩,by omega,⟨by simp [fitR,look],trivial,rfl,rfl,rfl⟩⟩⟩⟩
     · rw [g3] at hd;rw [hst 8 hd (by decide)]
     · rw [g3,g4] at hd;rw [hst 6 hd (by decide)]
     · rw [g3,g4] at hd;exact hnx hd
   · have hi0:i=0:=by omega
     subst hi0
     have w2:decide ((0:Int)<((0:Nat):Int))=false:=by decide
     rw [w2] at hd
     have w1:IntKind.i64.wrap (0-1)= -1:=by decide
     have w4:IntKind.i64.wrap (0+1)=1:=by decide
     have c0:decide ((0:Int)<(l.length:Int))=true:=by simp;omega
     have w3:Int.toNat (-1)=0:=rfl
     simp only [c0,he3,w1,w4,w3,decide_false,cmpF_C,par_code,good_code,List.take_succ_cons,List.take_nil,k_rfstS_69,compareS,on_ss_eq,k_rfstS_76,goodS,on_s_eq,k_rfstS_78,parentS,k_rfstS_126,rhasS,on_ls_eq,k_rfstS_155,rnameS,plan0,go_sem,↓reduceIte,reduceCtorEq,Nat.reduceEqDiff,Nat.reduceLT,Int.reduceLT,Int.reduceLE,Nat.reduceAdd,Nat.reduceLeDiff]
     refine ⟨by omega,by omega,fun g1=>?_,fun g1=>⟨by omega,fun g2=>?_,fun g2=>⟨by kernel_rfl,?_⟩⟩⟩
     · rw [g1] at hd;rw [hst 5 hd (by decide)];rfl
     · rw [g1,g2] at hd;rw [hst 4 hd (by decide)];rfl
     rw [g1,g2] at hd
     refine ⟨by omega,fun _=>by omega,fun _=>⟨hH,by omega⟩,fun g4=>?_,fun g4=>⟨1,⟨by omega,?_⟩,by omega,⟨by simp [fitR,look],trivial,rfl,rfl,rfl⟩⟩⟩
     · rw [g4] at hd;rw [hst 6 hd (by decide)];rfl
     · rw [g4] at hd;exact hnx hd
 · have c0:decide ((i:Int)<(l.length:Int))=false:=by simp;omega
   simp only [c0,plan0,go_sem,↓reduceIte,reduceCtorEq,Nat.reduceEqDiff,Nat.reduceLT,Nat.reduceAdd,Nat.reduceLeDiff]
   rw [show l.length-i=0 by omega,fstG] at h2
   rw [<- h2]
noncomputable def Y5 (g:FuncId):PSpec:=(putΦ Y4 127 rfstS) g
theorem hY5:TabSound GG Y5:=(hY4.put w_rfstS)
noncomputable def rvalS:PSpec:=on_l (fun l=>(∀ e,e∈l->isHn e)/\l.length<=1000000000000) (fun l=>.int .i64 (fstF l).2)
theorem k_rvalS_127 {args:List PV}:Y5 127 args=rfstS args:=rfl
theorem w_rvalS:PSound GG 80 rvalS:=by
 refine PSound.of_wpc (C:=cxP Tryz.prog Y5 [] 11) (T:=plan0) Tryz.func80 rfl rfl rfl (Fit.pure (G:=GG) hY5 mixed) (fun args h=>?_)
 unfold rvalS at h
 obtain ⟨l,rfl,hp⟩:=on_l_inv h
 refine ⟨by simp [cxP],?_⟩
 simp only [rvalS,on_l_eq,Tryz.f80,argL,plan0]
 simp only [k_rvalS_127,rfstS,on_l_eq,go_sem,↓reduceIte,reduceCtorEq,Nat.reduceEqDiff,Nat.reduceLT,Nat.reduceAdd]
 exact hp
theorem leavesF_eq (l:List PV) (top:List UInt8):leavesF l top=(lvC (l.map hCode) top).map PV.str:=by
 have h1:∀ e:PV,leafF l top e=(isCode (hCode e)&&(l.map hCode).all (fun x=>!(parC x == hCode e))&&(top == []||undC (hCode e) top)):=by
  intro e
  unfold leafF chl
  rw [gd_code,undF_code,List.all_map]
  have:(fun x=>!(parF (hCode x) == hCode e))=((fun x=>!(parC x == hCode e)) ∘ hCode):=by
   funext x;simp only [Function.comp,par_code]
  rw [this]
  cases isCode (hCode e) <;> simp [Bool.and_comm]
 unfold leavesF lvC
 rw [List.filter_map,List.map_map]
 have h2:leafF l top=((fun c=>isCode c&&(l.map hCode).all (fun x=>!(parC x == c))&&(top == []||undC c top)) ∘ hCode):=by
  funext e;exact h1 e
 rw [h2];rfl
noncomputable def rlvS:PSpec:=on_ls (fun l top=>(∀ e,e∈l->isH e)/\l.length<=1000000000000/\top.length<=1000000000000) (fun l top=>.sl ((lvC (l.map hCode) top).map PV.str))
theorem w_rlvS:PSound GG 39 rlvS:=by
 have:leavesS=rlvS:=by
  unfold leavesS rlvS
  congr 1
  funext l top
  rw [leavesF_eq]
 rw [<- this];exact w_leavesS
noncomputable def rptS:PSpec:=on_s (fun s=>s.length<=4611686018427387904) (fun s=>.sl ((partsR s).map intV))
theorem w_rptS:PSound GG 73 rptS:=by
 have:partsS=rptS:=by
  unfold partsS rptS
  congr 1
  funext s
  rw [parts_partsR]
 rw [<- this];exact w_partsS
noncomputable def rcmS:PSpec:=on_ss (fun a b=>a.length<=4611686018427387904/\b.length<=4611686018427387904) (fun a b=>.int .i64 (cmpC a b))
theorem w_rcmS:PSound GG 69 rcmS:=by
 have:compareS=rcmS:=by
  unfold compareS rcmS
  congr 1
  funext a b
  rw [cmpF_C]
 rw [<- this];exact w_compareS
noncomputable def runS:PSpec:=on_ss (fun a b=>a.length<=4611686018427387904/\b.length<=4611686018427387904) (fun a b=>.bool (undC a b))
theorem w_runS:PSound GG 77 runS:=by
 have:underS=runS:=by
  unfold underS runS
  congr 1
  funext a b
  rw [undF_code]
 rw [<- this];exact w_underS
end Go.AM
