/-
  A part of a proof.
-/
import Derived.Test.YtkajgkbhkkgdbaaGreatDoorY7c
set_option linter.unusedSimpArgs false
set_option linter.unusedVariables false
namespace Go.AM
open Go Go.Proofs Go.IntWalk
set_option maxRecDepth 100000
set_option maxHeartbeats 2000000
structure LawS (L:Law):Prop where
 tr:∀ e,e∈L.tree->isHn e
 tl:L.tree.length<=1000000
 a:∀ x,x∈L.a->isL3 x
 al:L.a.length<=1000000
 b:∀ x,x∈L.b->isL3 x
 bl:L.b.length<=1000000
 c:∀ x,x∈L.c->isL3 x
 cl:L.c.length<=1000000
 d:∀ x,x∈L.d->isE3 x
 dl:L.d.length<=1000000
 e:∀ x,x∈L.e->isC7 x
 el:L.e.length<=1000000
 f:∀ x,x∈L.f->isR4 x
 fl:L.f.length<=1000000
 g:∀ x,x∈L.g->isA3 x
 gl:L.g.length<=1000000
def isCkS (k:PV):Prop:=∃ L lv,k=ckV L lv/\LawS L/\lv.length<=1000000/\∀ s,s∈lv->s.length<=1000000000000
theorem isCkS.ck {k:PV} (h:isCkS k):isCk k:=by
 obtain ⟨L,lv,e,h1,h2,_⟩:=h
 exact ⟨L,lv,e,fun x hx=>(h1.tr x hx).isH,h1.tl,h2⟩
def shG (s:List UInt8):List PV->Int->Int
 | [],acc=>acc
 | x::r,acc=>shG s r (bif undC s (srcOf x) then IntKind.i64.wrap (acc+pctOf x) else acc)
def sharesG (lv:List (List UInt8)) (d:List PV):Int:=bif lv.any (fun s=>decide ((100:Int)<shG s d 0)) then 13 else 0
def sharesE (L:Law) (lv:List (List UInt8)):Int:=sharesG lv L.d
noncomputable def sharesCS:PSpec:=on_p isCkS (fun k=>.int .i64 (sharesE (chkL k) (chkLv k)))
theorem k_sharesCS_136 {args:List PV}:B9 136 args=underCS args:=rfl
theorem w_sharesCS:PSound GG 101 sharesCS:=by
 refine PSound.of_wpc (C:=cxP Tryz.prog B9 [] 35) (T:=plan0) Tryz.func101 rfl rfl rfl (Fit.pure (G:=GG) hB9 mixed) (fun args h=>?_)
 unfold sharesCS at h
 obtain ⟨k,rfl,hp⟩:=on_p_inv h
 refine ⟨by simp [cxP],?_⟩
 simp only [sharesCS,on_p_eq,Tryz.f101,argL,plan0]
 obtain ⟨⟨fi,ye,tr,la,lb,lc,ld,le,lf,lg⟩,lv,rfl,hS,hl,hls⟩:=hp
 have hd:=hS.d
 have hdl:=hS.dl
 simp only at hd hdl
 have hkv:chkLv (ckV ⟨fi,ye,tr,la,lb,lc,ld,le,lf,lg⟩ lv)=lv:=map_sOf lv
 have e:sharesE (chkL (ckV ⟨fi,ye,tr,la,lb,lc,ld,le,lf,lg⟩ lv)) (chkLv (ckV ⟨fi,ye,tr,la,lb,lc,ld,le,lf,lg⟩ lv))=sharesG lv ld:=by rw [hkv];rfl
 rw [e]
 simp only [ckV,chkV,List.length_map,go_sem,↓reduceIte,reduceCtorEq,Nat.reduceEqDiff,Nat.reduceLT,Nat.reduceAdd,Nat.reduceLeDiff]
 refine AWp.loop (T:=plan0) (α:=Nat) (fun i=>([(1,.ptr 1 0),(9,.pv (.sl (lv.map PV.str))),(10,.pv (.int .i64 lv.length)),(11,.pv (.int .i64 i))],[(1,.cells [.pv (.int .i64 fi),.pv (.int .i64 ye),.pv (.sl tr),.pv (.sl la),.pv (.sl lb),.pv (.sl lc),.pv (.sl ld),.pv (.sl le),.pv (.sl lf),.pv (.sl lg),.pv (.sl (lv.map PV.str))])])) (fun i=>i<=lv.length/\(lv.take i).any (fun s=>decide ((100:Int)<shG s ld 0))=false) (fun i=>lv.length-i)
  ⟨0,⟨Nat.zero_le _,rfl⟩,⟨by simp [fitR,look],by simp [fitH,hget],rfl,rfl,rfl⟩⟩ ?_
 rintro i ⟨h1,h2⟩
 have hi1:IntKind.i64.wrap ((i:Int)+1)=((i+1:Nat):Int):=by rw [i64_in _ (by omega)];omega
 by_cases hlt:i<lv.length
 · have c0:decide ((i:Int)<(lv.length:Int))=true:=by simp;omega
   have hg:=getD_strs hlt
   have hsm:lv.getD i []∈lv:=by rw [List.getD_eq_getElem?_getD,List.getElem?_eq_getElem hlt];exact List.getElem_mem _
   have hs1:=hls _ hsm
   have htk:lv.take (i+1)=lv.take i++[lv.getD i []]:=by rw [List.take_add_one];simp [List.getElem?_eq_getElem hlt,List.getD_eq_getElem?_getD]
   generalize lv.getD i []=s at hg hs1 hsm htk
   simp only [c0,hg,List.length_map,plan0,go_sem,↓reduceIte,reduceCtorEq,Nat.reduceEqDiff,Nat.reduceLT,Nat.reduceAdd,Nat.reduceLeDiff]
   refine ⟨by omega,?_⟩
   refine AWp.loop (T:=plan0) (α:=Nat × Int) (fun j=>([(1,.ptr 1 0),(4,.pv (.str s)),(5,.pv (.int .i64 j.2)),(9,.pv (.sl (lv.map PV.str))),(10,.pv (.int .i64 lv.length)),(11,.pv (.int .i64 i)),(17,.pv (.sl ld)),(18,.pv (.int .i64 ld.length)),(19,.pv (.int .i64 j.1))],[(1,.cells [.pv (.int .i64 fi),.pv (.int .i64 ye),.pv (.sl tr),.pv (.sl la),.pv (.sl lb),.pv (.sl lc),.pv (.sl ld),.pv (.sl le),.pv (.sl lf),.pv (.sl lg),.pv (.sl (lv.map PV.str))])])) (fun j=>j.1<=ld.length/\shG s ld 0=shG s (ld.drop j.1) j.2) (fun j=>ld.length-j.1)
    ⟨(0,0),⟨Nat.zero_le _,rfl⟩,⟨by simp [fitR,look],by simp [fitH,hget],rfl,rfl,rfl⟩⟩ ?_
   rintro ⟨j,acc⟩ ⟨g1,g2⟩
   simp only at g1 g2
   have hj1:IntKind.i64.wrap ((j:Int)+1)=((j+1:Nat):Int):=by rw [i64_in _ (by omega)];omega
   by_cases jlt:j<ld.length
   · have c1:decide ((j:Int)<(ld.length:Int))=true:=by simp;omega
     obtain ⟨t,c,p,he,ht,hc⟩:=hd _ (getD_mem jlt)
     have hdr:ld.drop j=ld.getD j default::ld.drop (j+1):=by rw [List.drop_eq_getElem_cons jlt];simp [List.getD_eq_getElem?_getD,jlt]
     rw [hdr,he,shG] at g2
     have e1:srcOf (.agg [.str t,.str c,.int .i64 p])=t:=rfl
     have e2:pctOf (.agg [.str t,.str c,.int .i64 p])=p:=rfl
     rw [e1,e2] at g2
     simp only [c1,he,hj1,List.take_succ_cons,List.take_nil,k_sharesCS_136,underCS,on_ss_eq,plan0,go_sem,↓reduceIte,reduceCtorEq,Nat.reduceEqDiff,Nat.reduceLT,Nat.reduceAdd,Nat.reduceLeDiff,PV.one,AV.one]
     and_intros
     all_goals try first | omega | trivial
     · intro hu
       rw [hu,cond_true] at g2
       exact ⟨(j+1,IntKind.i64.wrap (acc+p)),⟨by simp only;omega,g2⟩,by simp only;omega,⟨by simp [fitR,look],by simp [fitH,hget],rfl,rfl,rfl⟩⟩
     · intro hu
       rw [hu,cond_false] at g2
       exact ⟨(j+1,acc),⟨by simp only;omega,g2⟩,by simp only;omega,⟨by simp [fitR,look],by simp [fitH,hget],rfl,rfl,rfl⟩⟩
   · have c1:decide ((j:Int)<(ld.length:Int))=false:=by simp;omega
     rw [List.drop_eq_nil_of_le (by omega),shG] at g2
     simp only [c1,hi1,List.length_map,plan0,go_sem,↓reduceIte,reduceCtorEq,Nat.reduceEqDiff,Nat.reduceLT,Nat.reduceAdd,Nat.reduceLeDiff,PV.one,AV.one]
     refine ⟨fun h9=>?_,fun h9=>⟨i+1,⟨by omega,?_⟩,by omega,⟨by simp [fitR,look],by simp [fitH,hget],rfl,rfl,rfl⟩⟩⟩
     · have:lv.any (fun s=>decide ((100:Int)<shG s ld 0))=true:=List.any_eq_true.2 ⟨s,hsm,by rw [g2];exact h9⟩
       unfold sharesG
       rw [this];rfl
     · rw [htk,List.any_append,h2,List.any_cons,g2,h9];rfl
 · have c0:decide ((i:Int)<(lv.length:Int))=false:=by simp;omega
   rw [List.take_of_length_le (by omega)] at h2
   unfold sharesG
   rw [h2]
   simp only [c0,cond_false,List.length_map,plan0,go_sem,↓reduceIte,reduceCtorEq,Nat.reduceEqDiff,Nat.reduceLT,Nat.reduceAdd,Nat.reduceLeDiff]
def limitE (L:Law):Bool:=decide ((120:Int)<(L.a.length:Int))||decide ((60:Int)<(L.b.length:Int))||decide ((60:Int)<(L.c.length:Int))||decide ((20:Int)<(L.d.length:Int))||decide ((20:Int)<(L.e.length:Int))||decide ((20:Int)<(L.f.length:Int))||decide ((20:Int)<(L.g.length:Int))||L.g.any bigA
def yearsE (L:Law):Int:=bif (!amg L.first 0 99||!amg L.years 1 4||decide ((100:Int)<IntKind.i64.wrap (L.first+L.years))) then 2 else bif (fstF L.tree).2 != 0 then (fstF L.tree).2 else bif limitE L then 3 else 0
noncomputable def yearsCS:PSpec:=on_p isCkS (fun k=>.int .i64 (yearsE (chkL k)))
theorem k_yearsCS_130 {args:List PV}:B9 130 args=amongBS args:=rfl
theorem k_yearsCS_131 {args:List PV}:B9 131 args=validCS args:=rfl
theorem k_yearsCS_132 {args:List PV}:B9 132 args=largeS args:=rfl
theorem k_yearsCS_133 {args:List PV}:B9 133 args=cfaS args:=rfl
theorem w_yearsCS:PSound GG 88 yearsCS:=by
 refine PSound.of_wpc (C:=cxP Tryz.prog B9 [] 78) (T:=plan0) Tryz.func88 rfl rfl rfl (Fit.pure (G:=GG) hB9 mixed) (fun args h=>?_)
 unfold yearsCS at h
 obtain ⟨k,rfl,hp⟩:=on_p_inv h
 refine ⟨by simp [cxP],?_⟩
 simp only [yearsCS,on_p_eq,Tryz.f88,argL,plan0]
 obtain ⟨⟨fi,ye,tr,la,lb,lc,ld,le,lf,lg⟩,lv,rfl,hS,hl,hls⟩:=hp
 have ht:=hS.tr
 have htl:=hS.tl
 have hga:=hS.g
 have hgl:=hS.gl
 simp only at ht htl hga hgl
 have hkk:chkL (ckV ⟨fi,ye,tr,la,lb,lc,ld,le,lf,lg⟩ lv)=⟨fi,ye,tr,la,lb,lc,ld,le,lf,lg⟩:=rfl
 rw [hkk]
 unfold yearsE limitE
 dsimp only
 simp only [ckV,chkV,List.take_succ_cons,k_yearsCS_130,amongBS,on_iii_eq,k_yearsCS_131,validCS,on_l_eq,k_yearsCS_133,cfaS,on_lp_eq,go_sem,↓reduceIte,reduceCtorEq,Nat.reduceEqDiff,Nat.reduceLT,Nat.reduceAdd,Nat.reduceLeDiff,ev_callG,PV.one,AV.one]
 repeat' (first | (intro _) | (with_reducible refine And.intro ?_ ?_))
 all_goals try first
  | trivial | omega | assumption | rfl
  | (simp only [*,cond_true,cond_false];done)
  | (simp_all;done)
def amE (L:Law) (lv:List (List UInt8)):Option PV->List PV->Int
 | _,[]=>0
 | p,x::r=>bif (!amg (chK x) 0 35990||!amg (amdN x) 1 1000000) then 2 else bif bhF amdO p x then 8 else
   bif ((amdL x).length:Int) == 0 then 1 else bif eachF (changeE L lv) chaO none (amdL x) != 0 then eachF (changeE L lv) chaO none (amdL x) else amE L lv (some x) r
theorem amE_nil (L:Law) (lv:List (List UInt8)) (p:Option PV):amE L lv p []=0:=rfl
theorem amE_cons (L:Law) (lv:List (List UInt8)) (p:Option PV) (x:PV) (r:List PV):amE L lv p (x::r)=bif (!amg (chK x) 0 35990||!amg (amdN x) 1 1000000) then 2 else bif bhF amdO p x then 8 else
 bif ((amdL x).length:Int) == 0 then 1 else bif eachF (changeE L lv) chaO none (amdL x) != 0 then eachF (changeE L lv) chaO none (amdL x) else amE L lv (some x) r:=rfl
noncomputable def amendCS:PSpec:=on_p isCkS (fun k=>.int .i64 (amE (chkL k) (chkLv k) none (chkL k).g))
theorem k_amendCS_139 {args:List PV}:B9 139 args=dayBS args:=rfl
theorem k_amendCS_140 {args:List PV}:B9 140 args=numberBS args:=rfl
theorem k_amendCS_141 {args:List PV}:B9 141 args=amdsS args:=rfl
theorem k_amendCS_142 {args:List PV}:B9 142 args=eaXS args:=rfl
theorem k_amendCS_143 {args:List PV}:B9 143 args=changesS args:=rfl
theorem k_amendCS_144 {args:List PV}:B9 144 args=changeS args:=rfl
theorem w_amendCS:PSound GG 107 amendCS:=by
 refine PSound.of_wpc (C:=cxP Tryz.prog B9 [] 55) (T:=plan0) Tryz.func107 rfl rfl rfl (Fit.pure (G:=GG) hB9 mixed) (fun args h=>?_)
 unfold amendCS at h
 obtain ⟨k,rfl,hp⟩:=on_p_inv h
 refine ⟨by simp [cxP],?_⟩
 simp only [amendCS,on_p_eq,Tryz.f107,argL,plan0]
 have hck:=hp.ck
 obtain ⟨⟨fi,ye,tr,la,lb,lc,ld,le,lf,lg⟩,lv,rfl,hS,hl,hls⟩:=hp
 have hga:=hS.g
 have hgl:=hS.gl
 simp only at hga hgl
 have hkk:chkL (ckV ⟨fi,ye,tr,la,lb,lc,ld,le,lf,lg⟩ lv)=⟨fi,ye,tr,la,lb,lc,ld,le,lf,lg⟩:=rfl
 have hkv:chkLv (ckV ⟨fi,ye,tr,la,lb,lc,ld,le,lf,lg⟩ lv)=lv:=map_sOf lv
 rw [hkk,hkv]
 have hone:changeK (ckV ⟨fi,ye,tr,la,lb,lc,ld,le,lf,lg⟩ lv)=changeE ⟨fi,ye,tr,la,lb,lc,ld,le,lf,lg⟩ lv:=by unfold changeK;rw [hkk,hkv]
 simp only [ckV,chkV] at hck hone
 simp only [ckV,chkV,go_sem,↓reduceIte,reduceCtorEq,Nat.reduceEqDiff,Nat.reduceLT,Nat.reduceAdd,Nat.reduceLeDiff]
 obtain ⟨L,hL⟩:∃ L:Law,(⟨fi,ye,tr,la,lb,lc,ld,le,lf,lg⟩:Law)=L:=⟨_,rfl⟩
 rw [hL] at hone ⊢
 refine AWp.loop (T:=plan0) (α:=Nat) (fun i=>([(1,.ptr 1 0),(8,.pv (.sl lg)),(9,.pv (.int .i64 lg.length)),(10,.pv (.int .i64 i))],[(1,.cells [.pv (.int .i64 fi),.pv (.int .i64 ye),.pv (.sl tr),.pv (.sl la),.pv (.sl lb),.pv (.sl lc),.pv (.sl ld),.pv (.sl le),.pv (.sl lf),.pv (.sl lg),.pv (.sl (lv.map PV.str))])])) (fun i=>i<=lg.length/\amE L lv none lg=amE L lv (prevE lg i) (lg.drop i)) (fun i=>lg.length-i)
  ⟨0,⟨Nat.zero_le _,rfl⟩,⟨by simp [fitR,look],by simp [fitH,hget],rfl,rfl,rfl⟩⟩ ?_
 rintro i ⟨h1,h2⟩
 have hi1:IntKind.i64.wrap ((i:Int)+1)=((i+1:Nat):Int):=by rw [i64_in _ (by omega)];omega
 rw [h2]
 by_cases hlt:i<lg.length
 · have hgm:=getD_mem hlt
   have hsx:=hga _ hgm
   have hd:lg.drop i=lg.getD i default::lg.drop (i+1):=by rw [List.drop_eq_getElem_cons hlt];simp [List.getD_eq_getElem?_getD,hlt]
   obtain ⟨x,hg⟩:∃ x,lg.getD i default=x:=⟨_,rfl⟩
   have hpv:prevE lg (i+1)=some x:=by rw [<- hg];exact if_neg (by omega)
   rw [hg] at hsx hd
   rw [hd,amE_cons]
   rw [hd,amE_cons] at h2
   have hsx2:=hsx
   obtain ⟨d,n,ch,rfl,hx4,hchl⟩:=hsx
   have e1:chK (.agg [.int .i64 d,.int .i64 n,.sl ch])=d:=rfl
   have e2:amdN (.agg [.int .i64 d,.int .i64 n,.sl ch])=n:=rfl
   have e3:amdL (.agg [.int .i64 d,.int .i64 n,.sl ch])=ch:=rfl
   rw [e1,e2,e3] at h2 ⊢
   cases i with
   | zero=>
     have c0:decide ((0:Int)<(lg.length:Int))=true:=by simp;omega
     have w1:IntKind.i64.wrap (0-1)= -1:=by decide
     have w2:IntKind.i64.wrap (0+1)=1:=by decide
     have hp0:prevE lg 0=none:=rfl
     rw [hp0] at h2 ⊢
     simp only [c0,w1,w2,neg1',hg,hone,mvK,decide_false,makeFuncA,List.take_succ_cons,List.take_nil,k_amendCS_139,dayBS,on_i_eq,k_amendCS_140,numberBS,k_amendCS_141,amdsS,on_pp_eq,k_amendCS_142,eaXS,on_lpp_eq,plan0,go_sem,↓reduceIte,reduceCtorEq,Nat.reduceEqDiff,Nat.reduceLT,Int.reduceLT,Int.reduceLE,Nat.reduceAdd,Nat.reduceLeDiff,ev_callG,List.forall_mem_cons,List.not_mem_nil,PV.one,AV.one] at h2 ⊢
     have hb:bhF amdO none (.agg [.int .i64 d,.int .i64 n,.sl ch])=false:=rfl
     rw [hb]
     refine ⟨by omega,fun h=>by simpa using h,fun g1=>by rw [g1];rfl,fun g1=>⟨by kernel_rfl,fun g2=>by rw [g1,g2];rfl,fun g2=>⟨⟨⟨_,rfl,hck⟩,hx4,hchl⟩,fun g3=>by rw [g1,g2,g3];rfl,fun g3=>⟨1,⟨by omega,?_⟩,by omega,⟨by simp [fitR,look],by simp [fitH,hget],rfl,rfl,rfl⟩⟩⟩⟩⟩
     rw [g1,g2,g3]
     exact (congrArg (fun p=>amE L lv p (List.drop 1 lg)) hpv).symm
   | succ j=>
     have c0:decide (((j+1:Nat):Int)<(lg.length:Int))=true:=by simp;omega
     have c1:decide ((0:Int)<((j+1:Nat):Int))=true:=by simp
     have w1:IntKind.i64.wrap (((j+1:Nat):Int)-1)=(j:Int):=by rw [i64_in _ (by omega)];omega
     have hgj:=getD_mem (show j<lg.length by omega)
     have hsy:=hga _ hgj
     obtain ⟨z,hz⟩:∃ z,lg.getD j default=z:=⟨_,rfl⟩
     have hp0:prevE lg (j+1)=some z:=by rw [<- hz];rfl
     rw [hp0] at h2 ⊢
     rw [hz] at hsy
     have hsy2:=hsy
     obtain ⟨d',n',ch',rfl,hx4',hchl'⟩:=hsy
     simp only [c0,c1,w1,hg,hz,hi1,hone,mvK,makeFuncA,List.take_succ_cons,List.take_nil,k_amendCS_139,dayBS,on_i_eq,k_amendCS_140,numberBS,k_amendCS_141,amdsS,on_pp_eq,k_amendCS_142,eaXS,on_lpp_eq,plan0,go_sem,↓reduceIte,reduceCtorEq,Nat.reduceEqDiff,Nat.reduceLT,Nat.reduceAdd,Nat.reduceLeDiff,ev_callG,List.forall_mem_cons,List.not_mem_nil,PV.one,AV.one]
     have hb:bhF amdO (some (.agg [.int .i64 d',.int .i64 n',.sl ch'])) (.agg [.int .i64 d,.int .i64 n,.sl ch])=decide (0<=amdO (.agg [.int .i64 d',.int .i64 n',.sl ch']) (.agg [.int .i64 d,.int .i64 n,.sl ch])):=rfl
     rw [hb]
     refine ⟨⟨by omega,by omega⟩,fun h=>by simpa using h,fun g1=>by rw [g1];rfl,fun g1=>⟨by kernel_rfl,⟨by omega,by omega⟩,⟨hsy2,hsx2⟩,fun g4=>by rw [g1,g4];rfl,fun g4=>⟨fun g2=>by rw [g1,g4,g2];rfl,fun g2=>⟨⟨⟨_,rfl,hck⟩,hx4,hchl⟩,fun g3=>by rw [g1,g4,g2,g3];rfl,fun g3=>⟨j+1+1,⟨by omega,?_⟩,by omega,⟨by simp [fitR,look],by simp [fitH,hget],rfl,rfl,rfl⟩⟩⟩⟩⟩⟩
     rw [g1,g4,g2,g3]
     exact (congrArg (fun p=>amE L lv p (List.drop (j+1+1) lg)) hpv).symm
 · have c0:decide ((i:Int)<(lg.length:Int))=false:=by simp;omega
   rw [List.drop_eq_nil_of_le (by omega),amE_nil]
   simp only [c0,plan0,go_sem,↓reduceIte,reduceCtorEq,Nat.reduceEqDiff,Nat.reduceLT,Nat.reduceAdd,Nat.reduceLeDiff]
noncomputable def C0 (g:FuncId):PSpec:=(putΦ (putΦ (putΦ B9 101 sharesCS) 88 yearsCS) 107 amendCS) g
theorem hC0:TabSound GG C0:=(((hB9.put w_sharesCS).put w_yearsCS).put w_amendCS)
set_option maxHeartbeats 4000000
def on_pl (p:PV->List PV->Prop) (f:PV->List PV->PV):PSpec
 | [a0,.sl a1]=>(p a0 a1,f a0 a1)
 | _=>(False,default)
theorem on_pl_eq {p:PV->List PV->Prop} {f:PV->List PV->PV} {a0:PV} {a1:List PV}:on_pl p f [a0,.sl a1]=(p a0 a1,f a0 a1):=rfl
theorem on_pl_inv {p:PV->List PV->Prop} {f:PV->List PV->PV} {args:List PV} (h:(on_pl p f args).1):∃ a0:PV,∃ a1:List PV,args=[a0,.sl a1]/\p a0 a1:=by
 unfold on_pl at h
 split at h
 · exact ⟨_,_,rfl,h⟩
 · exact h.elim
def lvL (L:Law):List (List UInt8):=lvC (L.tree.map hCode) []
theorem lvL_mem {L:Law} {s:List UInt8} (h:s∈lvL L):s∈L.tree.map hCode:=(List.mem_filter.1 h).1
theorem lvL_len (L:Law):(lvL L).length<=L.tree.length:=by
 have:=List.length_filter_le (fun c=>isCode c&&(L.tree.map hCode).all (fun x=>!(parC x == c))&&([] == ([]:List UInt8)||undC c [])) (L.tree.map hCode)
 rw [List.length_map] at this
 exact this
theorem LawS.lvS {L:Law} (h:LawS L):(lvL L).length<=1000000/\∀ s,s∈lvL L->s.length<=1000000000000:=by
 refine ⟨Nat.le_trans (lvL_len L) h.tl,fun s hs=>?_⟩
 obtain ⟨e,he,rfl⟩:=List.mem_map.1 (lvL_mem hs)
 obtain ⟨c,n,e1,h1,_⟩:=h.tr e he
 rw [e1];exact h1
theorem LawS.ckS {L:Law} (h:LawS L):isCkS (ckV L (lvL L)):=⟨L,lvL L,rfl,h,h.lvS.1,h.lvS.2⟩
theorem LawS.ck0 {L:Law} (h:LawS L):isCkS (ckV L []):=⟨L,[],rfl,h,Nat.zero_le _,by simp⟩
theorem LawS.isH {L:Law} (h:LawS L):∀ e,e∈L.tree->isH e:=fun e he=>(h.tr e he).isH
def validF (L:Law):Int:=bif yearsE L != 0 then yearsE L else
 orF [eachF (lineE L (lvL L)) linO none L.a,eachF (boundE L) linO none L.b,eachF (boundE L) linO none L.c,eachF (earmarkE L (lvL L)) earO none L.d,sharesE L (lvL L),eachF (condE L (lvL L)) anyO none L.e,eachF (ruleE L) rulO none L.f,amE L (lvL L) none L.g]
noncomputable def validGS:PSpec:=on_p (fun l=>∃ L:Law,l=L.v/\LawS L) (fun l=>.int .i64 (validF (lawO l)))
theorem k_validGS_88 {args:List PV}:C0 88 args=yearsCS args:=rfl
theorem k_validGS_89 {args:List PV}:C0 89 args=lvS args:=rfl
theorem k_validGS_90 {args:List PV}:C0 90 args=anyS args:=rfl
theorem k_validGS_91 {args:List PV}:C0 91 args=orES args:=rfl
theorem k_validGS_92 {args:List PV}:C0 92 args=eaLS args:=rfl
theorem k_validGS_93 {args:List PV}:C0 93 args=linesS args:=rfl
theorem k_validGS_94 {args:List PV}:C0 94 args=lineS args:=rfl
theorem k_validGS_95 {args:List PV}:C0 95 args=eaBS args:=rfl
theorem k_validGS_96 {args:List PV}:C0 96 args=boundsS args:=rfl
theorem k_validGS_97 {args:List PV}:C0 97 args=boundS args:=rfl
theorem k_validGS_98 {args:List PV}:C0 98 args=eaES args:=rfl
theorem k_validGS_99 {args:List PV}:C0 99 args=earmarksS args:=rfl
theorem k_validGS_100 {args:List PV}:C0 100 args=earmarkS args:=rfl
theorem k_validGS_101 {args:List PV}:C0 101 args=sharesCS args:=rfl
theorem k_validGS_102 {args:List PV}:C0 102 args=eaCS args:=rfl
theorem k_validGS_103 {args:List PV}:C0 103 args=condCS args:=rfl
theorem k_validGS_104 {args:List PV}:C0 104 args=eaRS args:=rfl
theorem k_validGS_105 {args:List PV}:C0 105 args=rulesS args:=rfl
theorem k_validGS_106 {args:List PV}:C0 106 args=ruleCS args:=rfl
theorem k_validGS_107 {args:List PV}:C0 107 args=amendCS args:=rfl
theorem w_validGS:PSound GG 45 validGS:=by
 refine PSound.of_wpc (C:=cxP Tryz.prog C0 [] 54) (T:=plan0) Tryz.func45 rfl rfl rfl (Fit.pure (G:=GG) hC0 mixed) (fun args h=>?_)
 unfold validGS at h
 obtain ⟨x,rfl,hp⟩:=on_p_inv h
 refine ⟨by simp [cxP],?_⟩
 simp only [validGS,on_p_eq,Tryz.f45,argL,plan0]
 obtain ⟨L,rfl,hS⟩:=hp
 have hck:=hS.ckS.ck
 have hcs:=hS.ckS
 have hc0:=hS.ck0
 have hH:=hS.isH
 have htl:=hS.tl
 have h1:=hS.a
 have h2:=hS.al
 have h3:=hS.b
 have h4:=hS.bl
 have h5:=hS.c
 have h6:=hS.cl
 have h7:=hS.d
 have h8:=hS.dl
 have h9:=hS.e
 have h10:=hS.el
 have h11:=hS.f
 have h12:=hS.fl
 have hk1:chkL (ckV L (lvL L))=L:=rfl
 have hk2:chkLv (ckV L (lvL L))=lvL L:=map_sOf _
 have hk3:chkL (ckV L [])=L:=rfl
 have hl1:lineK (ckV L (lvL L))=lineE L (lvL L):=by unfold lineK;rw [hk1,hk2]
 have hl2:boundK (ckV L (lvL L))=boundE L:=by unfold boundK;rw [hk1]
 have hl3:earmarkK (ckV L (lvL L))=earmarkE L (lvL L):=by unfold earmarkK;rw [hk1,hk2]
 have hl4:cndK (ckV L (lvL L))=condE L (lvL L):=by unfold cndK;rw [hk1,hk2]
 have hl5:ruleK (ckV L (lvL L))=ruleE L:=by unfold ruleK;rw [hk1]
 rw [lawO_v]
 unfold validF
 have hlv:lvC (L.tree.map hCode) []=lvL L:=rfl
 clear hS
 generalize lvL L=lv at * 
 obtain ⟨L0,hL0⟩:∃ L0,L=L0:=⟨_,rfl⟩
 rw [hL0] at hk1 hk3 hl1 hl2 hl3 hl4 hl5 ⊢
 rw [<- hL0] at hk1 hk3 hl1 hl2 hl3 hl4 hl5
 obtain ⟨fi,ye,tr,la,lb,lc,ld,le,lf,lg⟩:=L
 simp only [ckV,chkV,List.map_nil] at hck hcs hc0 hH htl h1 h2 h3 h4 h5 h6 h7 h8 h9 h10 h11 h12 hlv hk1 hk2 hk3 hl1 hl2 hl3 hl4 hl5
 rw [<- hL0]
 simp only [Law.v,lawV,hlv,mvK,hk1,hk2,hk3,hl1,hl2,hl3,hl4,hl5,makeFuncA,List.length_cons,List.length_nil,List.take_succ_cons,List.take_nil,k_validGS_88,yearsCS,on_p_eq,k_validGS_89,lvS,on_ls_eq,k_validGS_91,orES,on_l_eq,k_validGS_92,eaLS,on_lpp_eq,k_validGS_95,eaBS,k_validGS_98,eaES,k_validGS_101,sharesCS,k_validGS_102,eaCS,k_validGS_104,eaRS,k_validGS_107,amendCS,go_sem,↓reduceIte,reduceCtorEq,Nat.reduceEqDiff,Nat.reduceLT,Nat.reduceAdd,Nat.reduceLeDiff,Nat.reduceMul,List.forall_mem_cons,List.not_mem_nil,PV.one,AV.one]
 obtain ⟨Y,hY⟩:∃ Y,yearsE ⟨fi,ye,tr,la,lb,lc,ld,le,lf,lg⟩=Y:=⟨_,rfl⟩
 rw [hY]
 refine ⟨hc0,fun g1=>by rw [g1];rfl,fun g1=>⟨⟨hH,by omega⟩,by kernel_rfl,?_⟩⟩
 rw [g1,cond_false]
 have hol:∀ a b c d e f g h:Int,∃ l:List Int,[PV.int .i64 a,.int .i64 b,.int .i64 c,.int .i64 d,.int .i64 e,.int .i64 f,.int .i64 g,.int .i64 h]=l.map intV/\l.length<=1000000000000:=fun a b c d e f g h=>⟨[a,b,c,d,e,f,g,h],rfl,by simp⟩
 repeat' (with_reducible refine And.intro ?_ ?_)
 all_goals try first
  | exact hol _ _ _ _ _ _ _ _ | exact hcs | exact ⟨_,rfl,hck⟩ | assumption | omega | rfl
end Go.AM
