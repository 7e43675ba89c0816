/-
  A part of a proof.
-/
import Derived.Test.YteiphfohadlgiaaGreatDoorXM
set_option linter.unusedSimpArgs false
set_option linter.unusedVariables false
namespace Go.AM
open Go Go.Proofs Go.IntWalk
attribute [local go_sem] List.take_nil List.take_succ_cons allI_cons allI_nil arg1 arg2 false_or intV memI_cons memI_nil ne_eq not_false_eq_true okN okP_eq okR on_ls_eq plan0 preLf_eq preN_eq preP_eq preR_eq slV strV Θ1 Θ2 Θ3 Θ4 Θ5 Φ14_leaves
set_option maxRecDepth 100000
set_option maxHeartbeats 8000000
theorem AWp.join {C:Ctx} {T:Plan} {c:Code} {Q:AX->ASt->Prop} {G:Prop} {α:Type} (I:α->List (Nat × AV) × AHeap) (P:α->Prop)
    (main:(∀ z st,P z->Fits C.pins (I z).1 (I z).2 st->AWp C c Q st)->G) (rest:∀ z,P z->wpc C T c Q ⟨look (I z).1,(I z).2⟩):G:=main (fun z _ hz h=>AWp.here I P ⟨z,hz,h⟩ rest)
def amV:Option (List PV)->AV
  | none=>.nils
  | some g=>.pv (.sl g)
theorem kill_amV {κ:Nat} {z:Option (List PV)}:AV.kill κ (amV z)=amV z:=by cases z <;> rfl
structure Law where
  first:Int
  years:Int
  tree:List PV
  a:List PV
  b:List PV
  c:List PV
  d:List PV
  e:List PV
  f:List PV
  g:List PV
def Law.v (l:Law):PV:=lawV l.first l.years l.tree l.a l.b l.c l.d l.e l.f l.g
structure LawK (l:Law):Prop where
  tc:treeC (l.tree.map hCode)
  nm:nameP l.tree
  yr:l.years<=2
  na:l.a.length<=2 * l.tree.length
  nb:l.b.length<=l.tree.length
  nc:l.c.length<=l.tree.length
  nd:l.d.length<=(leavesF l.tree [57]).length
  nf:l.f.length<=4
  ln:LinI (leavesF l.tree []) l.first l.years (leavesF l.tree []).length l.first l.a
  ce:BndI l.tree l.first l.tree.length l.b
  fl:BndI l.tree l.first l.tree.length l.c
  ea:EarI (leavesF l.tree [57]) (leavesF l.tree []) (leavesF l.tree [57]).length l.d
  co:l.e.length<=3/\∀ x,x∈l.e->ConP (leavesF l.tree []) l.first l.years x
  ru:RulI (l.tree.map hCode) 4 l.f
  am:AmdP (leavesF l.tree []) l.first l.g
theorem code_in {tree:List PV} {j:Nat} {s n:List UInt8} (hj:j<tree.length) (hs:tree.getD j default=.agg [.str s,.str n]):s∈tree.map hCode:=
  List.mem_map.2 ⟨tree.getD j default,getD_mem hj,by rw [hs];rfl⟩
theorem con_add {P:PV->Prop} {l:List PV} {x:PV} (h:∀ y,y∈l->P y) (hx:P x):∀ y,y∈l++[x]->P y:=fun y hy=>by
  rcases List.mem_append.1 hy with hy | hy
  · exact h y hy
  · rw [List.mem_singleton] at hy;subst hy;exact hx
def Law.ok (l:Law):Prop:=(0<=l.first/\l.first<=12)/\(1<=l.years/\l.years<=3)/\treeP l.tree/\nineP l.tree/\l.d.length<=1000/\(∀ x,x∈l.d->earP x)/\l.f.length<=1000/\(∀ x,x∈l.f->ruleP x)/\codes9 (l.tree.map hCode)/\LawK l
theorem Law.ok.P {l:Law} (h:l.ok):lawP l.v:=by
  obtain ⟨h1,h2,h3,h4,h5,h6,h7,h8,_⟩:=h
  exact ⟨_,_,_,_,_,_,_,_,_,_,rfl,⟨h1.1,by omega⟩,h2,h3,h4,h5,h6,h7,h8⟩
def preNo (args:List PV):Prop:=args=[]
def okLaw (_:List PV) (l:Law):Prop:=l.ok
def lawH (Z:List AV) (first years:Int) (tree a b c d e f:List PV) (z:AV):AHeap:=
  [(9000,.obj Tp),(2,.cells Z),(3,.cells [.pv (.int .i64 first),.pv (.int .i64 years),.pv (.sl tree),.rs 8003 a.length,.rs 8004 b.length,.rs 8005 c.length,.rs 8006 d.length,.rs 8007 e.length,.rs 8008 f.length,z]),
    (8003,.row 3 a),(8004,.row 3 b),(8005,.row 3 c),(8006,.row 3 d),(8007,.row 7 e),(8008,.row 4 f)]
theorem preTr_eq {n:Int}:preTr [.int .i64 n]=(0<=n/\n<=50):=propext ⟨fun ⟨k',e,h⟩=>by simp only [List.cons.injEq,PV.int.injEq,and_true,true_and] at e;subst e;exact h,fun h=>⟨n,rfl,h⟩⟩
def lawZ:List AV:=[.pv (.int .i64 0),.pv (.int .i64 0),.nils,.nils,.nils,.nils,.nils,.nils,.nils,.nils]
def planR:Plan:={ keep:=fun _=>none,cut:=fun _=>false,stop:=fun i=>i == 24 }
def planT:Plan:={ keep:=fun _=>none,cut:=fun _=>false,stop:=fun i=>i == 19 }
noncomputable def ruledS:QSpec:=qV Tp preNo Law.v okLaw
def tree0:List PV:=[hV [49] [97],hV [57] [97]]
theorem tree0_ok:treeP tree0/\nineP tree0/\codes9 (tree0.map hCode)/\treeC (tree0.map hCode)/\nameP tree0:=
  ⟨⟨by decide,fun e he=>by simp only [tree0,List.mem_cons,List.not_mem_nil,or_false] at he;rcases he with rfl | rfl <;> exact ⟨_,_,rfl,by decide⟩⟩,
    ⟨_,List.mem_cons_of_mem _ (List.mem_singleton.2 rfl),rfl⟩,⟨by decide,by decide⟩,⟨by decide +kernel,by decide +kernel⟩,
    fun e he=>by simp only [tree0,List.mem_cons,List.not_mem_nil,or_false] at he;rcases he with rfl | rfl <;> exact ⟨_,_,rfl,by decide,by decide⟩⟩
theorem LinI.nil' {lv:List PV} {first years yy:Int} {k:Nat}:LinI lv first years k yy []:=⟨List.Pairwise.nil,fun x hx=>by cases hx⟩
theorem BndI.nil' {tree:List PV} {first:Int} {k:Nat}:BndI tree first k []:=⟨List.Pairwise.nil,fun x hx=>by cases hx⟩
theorem EarI.nil' {lv9 lv:List PV} {k:Nat}:EarI lv9 lv k []:=⟨List.Pairwise.nil,fun x hx=>by cases hx⟩
def law00:Law:=⟨0,1,tree0,[],[],[],[],[],[],[]⟩
theorem law00_ok:law00.ok:=
  ⟨by simp [law00],by simp [law00],tree0_ok.1,tree0_ok.2.1,Nat.zero_le _,(by simp [law00]),Nat.zero_le _,(by simp [law00]),tree0_ok.2.2.1,
    ⟨tree0_ok.2.2.2.1,tree0_ok.2.2.2.2,by simp [law00],Nat.zero_le _,Nat.zero_le _,Nat.zero_le _,Nat.zero_le _,Nat.zero_le _,LinI.nil',BndI.nil',BndI.nil',EarI.nil',⟨by simp [law00],by simp [law00]⟩,RulI.nil,.inl rfl⟩⟩
def AmdZ (lv:List PV) (first:Int) (z:Option (List PV)):Prop:=∀ g,z=some g->AmdP lv first g
theorem getD_tree {l:List PV} (h:treeP l) {j:Nat} (hj:j<l.length):∃ c n,l.getD j default=.agg [.str c,.str n]/\c.length<=100:=by
  obtain ⟨c,n,e,hc⟩:=h.2 (l[j]'hj) (List.getElem_mem _)
  exact ⟨c,n,by simp [List.getD_eq_getElem?_getD,hj,e,hV],hc⟩
theorem w_ruledS:QSound GG 22 ruledS:=by
  unfold ruledS
  refine QSound.of_wpcV (C:=cxQ Tryz.prog Φ14 Θ5 noΨ [] [9000] 227) 9000 Tryz.func22 rfl rfl rfl (Fit.all (G:=GG) hΦ14 hΘ5 hnoΨ mixed) rfl (fun args h=>?_) (fun args h=>?_)
  · exact ⟨law00,law00_ok⟩
  · unfold preNo at h
    subst h
    refine ⟨by simp [cxQ],?_⟩
    refine wpc_sound (T:=planR) _ _ _ ?_
    simp (config:={maxSteps:=1000000}) only [or_false,Nat.reduceBEq,leavesS,preTr_eq,planR,planT,lawH,lawZ,kill_amV,Tryz.f22,go_sem,↓reduceIte,reduceCtorEq,Nat.reduceEqDiff,Nat.reduceLT,↓all_qV,Int.reduceToNat,Int.reduceLT,Int.reduceLE,Nat.reduceAdd,Nat.reduceLeDiff,Nat.reduceMul]
    intro first hfi years hye tree htr
    obtain ⟨ht,h9,hc9,htc,hnm,h49⟩:=htr
    have h100:=ht.1
    have htl:0<tree.length:=by obtain ⟨e,he,_⟩:=h9;exact List.length_pos_iff.2 (List.ne_nil_of_mem he)
    refine ⟨⟨ht.isH,by omega⟩,?_⟩
    have hf:0<=first/\first<=12:=by omega
    have hy:1<=years/\years<=2:=hye
    have hwy:IntKind.i64.wrap (first+years)=first+years:=i64_in _ (by omega)
    have hlm:=leavesF_mem (top:=[]) ht
    have hlt0:(leavesF tree []).length<=tree.length:=leavesF_len
    have hll:(leavesF tree []).length<=100:=Nat.le_trans leavesF_len ht.1
    have hlq:=leavesF_Q (top:=[]) htc
    have hLf:∀ s,okLf [.sl tree] s->PV.str s∈leavesF tree []:=fun s h=>leaf_in ht h49 h
    obtain ⟨lv,hlv⟩:∃ lv,leavesF tree []=lv:=⟨_,rfl⟩
    rw [hlv] at hlm hll hlq hLf hlt0 ⊢
    refine AWp.adoptC (b:=3) (i:=3) (κ:=8003) (k:=3) rfl rfl rfl (by decide) ?_
    refine AWp.adoptC (b:=3) (i:=4) (κ:=8004) (k:=3) rfl rfl rfl (by decide) ?_
    refine AWp.adoptC (b:=3) (i:=5) (κ:=8005) (k:=3) rfl rfl rfl (by decide) ?_
    refine AWp.adoptC (b:=3) (i:=6) (κ:=8006) (k:=3) rfl rfl rfl (by decide) ?_
    refine AWp.adoptC (b:=3) (i:=7) (κ:=8007) (k:=7) rfl rfl rfl (by decide) ?_
    refine AWp.adoptC (b:=3) (i:=8) (κ:=8008) (k:=4) rfl rfl rfl (by decide) ?_
    refine AWp.loop (T:=plan0) (α:=Nat × List PV) (fun y=>([(0,.ptr 9000 0),(2,.ptr 2 0),(3,.ptr 3 0),(24,.pv (.sl lv)),(25,.pv (.int .i64 lv.length)),(26,.pv (.int .i64 y.1))],lawH lawZ first years tree y.2 [] [] [] [] [] .nils)) (fun y=>y.1<=lv.length/\y.2.length<=2 * y.1/\LinI lv first years y.1 first y.2) (fun y=>lv.length-y.1)
      ⟨(0,[]),⟨Nat.zero_le _,Nat.zero_le _,LinI.nil⟩,⟨by simp [fitR,look],by simp [fitH,hget,hset,lawH,lawZ],rfl,rfl,rfl⟩⟩ ?_
    rintro ⟨k,la⟩ ⟨g1,g2,hI⟩
    simp only at g1 g2 hI
    have hk1:IntKind.i64.wrap ((k:Int)+1)=((k+1:Nat):Int):=by rw [i64_in _ (by omega)];omega
    by_cases klt:k<lv.length
    · have c0:decide ((k:Int)<(lv.length:Int))=true:=by simp;omega
      obtain ⟨s,hs,hsl⟩:=getD_str hlm klt
      simp (config:={maxSteps:=1000000}) only [c0,hs,or_false,Nat.reduceBEq,leavesS,preTr_eq,planR,planT,lawH,lawZ,kill_amV,go_sem,↓reduceIte,reduceCtorEq,Nat.reduceEqDiff,Nat.reduceLT,↓all_qV,Int.reduceToNat,Int.reduceLT,Int.reduceLE,Nat.reduceAdd,Nat.reduceLeDiff,Nat.reduceMul]
      refine ⟨by omega,?_⟩
      refine AWp.loop (T:=plan0) (α:=Int × List PV) (fun y=>([(0,.ptr 9000 0),(2,.ptr 2 0),(3,.ptr 3 0),(5,.pv (.str s)),(6,.pv (.int .i64 y.1)),(24,.pv (.sl lv)),(25,.pv (.int .i64 lv.length)),(26,.pv (.int .i64 k))],lawH lawZ first years tree y.2 [] [] [] [] [] .nils)) (fun y=>(first<=y.1/\y.1<=first+years)/\(y.2.length:Int)<=2 * k+(y.1-first)/\LinI lv first years k y.1 y.2) (fun y=>(first+years-y.1).toNat)
        ⟨(first,la),⟨⟨by simp only;omega,by simp only;omega⟩,by simp only;omega,hI⟩,⟨by simp [fitR,look],by simp [fitH,hget,hset,lawH,lawZ],rfl,rfl,rfl⟩⟩ ?_
      rintro ⟨y,lb⟩ ⟨⟨f1,f2⟩,f3,hJ⟩
      simp only at f1 f2 f3 hJ
      have hy1:IntKind.i64.wrap (y+1)=y+1:=i64_in _ (by omega)
      by_cases ylt:y<first+years
      · have c1:decide (y<first+years)=true:=by simp;omega
        simp (config:={maxSteps:=1000000}) only [c1,hwy,hy1,or_false,Nat.reduceBEq,leavesS,preTr_eq,planR,planT,lawH,lawZ,kill_amV,go_sem,↓reduceIte,reduceCtorEq,Nat.reduceEqDiff,Nat.reduceLT,↓all_qV,Int.reduceToNat,Int.reduceLT,Int.reduceLE,Nat.reduceAdd,Nat.reduceLeDiff,Nat.reduceMul]
        refine ⟨by kernel_rfl,fun x1 h1=>⟨by omega,fun x2 h2=>⟨rfl,fun e he=>(by simp only [List.mem_singleton] at he;subst he;rfl),Nat.le_refl _,by omega,by simp only [maxLen];omega,(y+1,lb++[.agg [.str s,.int .i64 y,.int .i64 x2]]),⟨⟨by simp only;omega,by simp only;omega⟩,by simp only [List.length_append,List.length_cons,List.length_nil];omega,hJ.add hlq klt hs ⟨f1,ylt⟩ (by omega)⟩,by simp only;omega,?_⟩⟩⟩
        rw [List.take_length]
        exact ⟨by simp [fitR,look],by simp [fitH,hget,hset,lawH,lawZ],rfl,rfl,rfl⟩
      · have c1:decide (y<first+years)=false:=by simp;omega
        simp (config:={maxSteps:=1000000}) only [c1,hwy,hk1,or_false,Nat.reduceBEq,leavesS,preTr_eq,planR,planT,lawH,lawZ,kill_amV,go_sem,↓reduceIte,reduceCtorEq,Nat.reduceEqDiff,Nat.reduceLT,↓all_qV,Int.reduceToNat,Int.reduceLT,Int.reduceLE,Nat.reduceAdd,Nat.reduceLeDiff,Nat.reduceMul]
        exact ⟨(k+1,lb),⟨by simp only;omega,by simp only;omega,hJ.next⟩,by simp only;omega,⟨by simp [fitR,look],by simp [fitH,hget,hset,lawH,lawZ],rfl,rfl,rfl⟩⟩
    · have c0:decide ((k:Int)<(lv.length:Int))=false:=by simp;omega
      have hla:la.length<=1000:=by omega
      have hla2:la.length<=2 * tree.length:=by omega
      have hLn:LinI lv first years lv.length first la:=by
        have e9:k=lv.length:=by omega
        rw [<- e9];exact hI
      simp (config:={maxSteps:=1000000}) only [c0,or_false,Nat.reduceBEq,leavesS,preTr_eq,planR,planT,lawH,lawZ,kill_amV,go_sem,↓reduceIte,reduceCtorEq,Nat.reduceEqDiff,Nat.reduceLT,↓all_qV,Int.reduceToNat,Int.reduceLT,Int.reduceLE,Nat.reduceAdd,Nat.reduceLeDiff,Nat.reduceMul]
      clear g1 g2 hk1
      refine AWp.loop (T:=plan0) (α:=Nat × List PV) (fun y=>([(0,.ptr 9000 0),(2,.ptr 2 0),(3,.ptr 3 0),(7,.pv (.int .i64 y.1))],lawH lawZ first years tree la [] [] [] [] y.2 .nils)) (fun y=>(1<=y.1/\y.1<=4/\y.2.length<=y.1)/\(∀ x,x∈y.2->ruleP x)/\RulI (tree.map hCode) y.1 y.2) (fun y=>4-y.1)
        ⟨(1,[]),⟨⟨by simp,by simp,by simp⟩,by simp,RulI.nil⟩,⟨by simp [fitR,look],by simp [fitH,hget,hset,lawH,lawZ],rfl,rfl,rfl⟩⟩ ?_
      rintro ⟨k,lf⟩ ⟨⟨g0,g1,g2⟩,hlf,hRu⟩
      simp only at g0 g1 g2 hlf hRu
      have hk1:IntKind.i64.wrap ((k:Int)+1)=((k+1:Nat):Int):=by rw [i64_in _ (by omega)];omega
      by_cases klt:k<4
      · have c0:decide ((k:Int)<4)=true:=by simp;omega
        simp (config:={maxSteps:=1000000}) only [c0,hk1,or_false,Nat.reduceBEq,leavesS,preTr_eq,planR,planT,lawH,lawZ,kill_amV,go_sem,↓reduceIte,reduceCtorEq,Nat.reduceEqDiff,Nat.reduceLT,↓all_qVz,↓all_qVz',Int.reduceToNat,Int.reduceLT,Int.reduceLE,Nat.reduceAdd,Nat.reduceLeDiff,Nat.reduceMul,ev_callG,gcallK_b,gcallK_w,callGc_true,callGc_false]
        refine ⟨by kernel_rfl,⟨by omega,by omega⟩,fun j1 h1=>?_⟩
        obtain ⟨j1,rfl⟩:=Int.eq_ofNat_of_zero_le h1.1
        have hj1:j1<tree.length:=by omega
        obtain ⟨s1,n1,hs1,hl1⟩:=getD_tree ht hj1
        rw [Stop_eq]
        simp (config:={maxSteps:=1000000}) only [hs1,or_false,Nat.reduceBEq,leavesS,preTr_eq,planR,planT,lawH,lawZ,kill_amV,go_sem,↓reduceIte,reduceCtorEq,Nat.reduceEqDiff,Nat.reduceLT,↓all_qVz,↓all_qVz',Int.reduceToNat,Int.reduceLT,Int.reduceLE,Nat.reduceAdd,Nat.reduceLeDiff,Nat.reduceMul,ev_callG,gcallK_b,gcallK_w,callGc_true,callGc_false]
        refine ⟨h1,⟨by omega,by omega⟩,fun j2 h2=>?_⟩
        obtain ⟨j2,rfl⟩:=Int.eq_ofNat_of_zero_le h2.1
        have hj2:j2<tree.length:=by omega
        obtain ⟨s2,n2,hs2,hl2⟩:=getD_tree ht hj2
        rw [Stop_eq]
        simp (config:={maxSteps:=1000000}) only [hs2,hk1,or_false,Nat.reduceBEq,leavesS,preTr_eq,planR,planT,lawH,lawZ,kill_amV,go_sem,↓reduceIte,reduceCtorEq,Nat.reduceEqDiff,Nat.reduceLT,↓all_qV,Int.reduceToNat,Int.reduceLT,Int.reduceLE,Nat.reduceAdd,Nat.reduceLeDiff,Nat.reduceMul]
        refine ⟨h2,fun x3 h3=>⟨rfl,fun e he=>(by simp only [List.mem_singleton] at he;subst he;rfl),Nat.le_refl _,by omega,by simp only [maxLen];omega,(k+1,lf++[.agg [.int .i64 k,.str s1,.str s2,.int .i64 x3]]),⟨⟨by simp only;omega,by simp only;omega,by simp only [List.length_append,List.length_cons,List.length_nil];omega⟩,(fun e he=>?_),RulI.add (k':=((k+1:Nat):Int)) hRu (by omega) (by omega) (code_in hj1 hs1) (code_in hj2 hs2) (by omega)⟩,by simp only;omega,?_⟩⟩
        · simp only [List.mem_append,List.mem_singleton] at he
          rcases he with he | rfl
          · exact hlf e he
          · exact ⟨_,_,_,_,rfl,hl1,hl2⟩
        · rw [List.take_length]
          exact ⟨by simp [fitR,look],by simp [fitH,hget,hset,lawH,lawZ],rfl,rfl,rfl⟩
      · have c0:decide ((k:Int)<4)=false:=by simp;omega
        have hlf4:lf.length<=1000:=by omega
        have hlf5:lf.length<=4:=by omega
        have hRu4:RulI (tree.map hCode) 4 lf:=by
          have e9:(k:Int)=4:=by omega
          rw [e9] at hRu;exact hRu
        simp (config:={maxSteps:=1000000}) only [c0,or_false,Nat.reduceBEq,leavesS,preTr_eq,planR,planT,lawH,lawZ,kill_amV,go_sem,↓reduceIte,reduceCtorEq,Nat.reduceEqDiff,Nat.reduceLT,↓all_qVz,↓all_qVz',Int.reduceToNat,Int.reduceLT,Int.reduceLE,Nat.reduceAdd,Nat.reduceLeDiff,Nat.reduceMul,ev_callG,gcallK_b,gcallK_w,callGc_true,callGc_false]
        clear g1 g2 hk1
        refine AWp.loop (T:=planT) (α:=Nat × List PV × List PV) (fun y=>([(0,.ptr 9000 0),(2,.ptr 2 0),(3,.ptr 3 0),(90,.pv (.sl tree)),(91,.pv (.int .i64 tree.length)),(92,.pv (.int .i64 y.1))],lawH lawZ first years tree la y.2.1 y.2.2 [] [] lf .nils)) (fun y=>y.1<=tree.length/\y.2.1.length<=y.1/\y.2.2.length<=y.1/\BndI tree first y.1 y.2.1/\BndI tree first y.1 y.2.2) (fun y=>tree.length-y.1)
          ⟨(0,[],[]),⟨Nat.zero_le _,Nat.zero_le _,Nat.zero_le _,BndI.nil,BndI.nil⟩,⟨by simp [fitR,look],by simp [fitH,hget,hset,lawH,lawZ],rfl,rfl,rfl⟩⟩ ?_
        rintro ⟨i,lb,lc⟩ ⟨g1,g2,g3,hBb,hBc⟩
        simp only at g1 g2 g3 hBb hBc
        have hi1:IntKind.i64.wrap ((i:Int)+1)=((i+1:Nat):Int):=by rw [i64_in _ (by omega)];omega
        by_cases ilt:i<tree.length
        · have c0:decide ((i:Int)<(tree.length:Int))=true:=by simp;omega
          obtain ⟨s1,n1,hs1,hl1⟩:=getD_tree ht ilt
          simp (config:={maxSteps:=1000000}) only [c0,hs1,hi1,or_false,Nat.reduceBEq,leavesS,preTr_eq,planR,planT,lawH,lawZ,kill_amV,go_sem,↓reduceIte,reduceCtorEq,Nat.reduceEqDiff,Nat.reduceLT,↓all_qV,Int.reduceToNat,Int.reduceLT,Int.reduceLE,Nat.reduceAdd,Nat.reduceLeDiff,Nat.reduceMul]
          refine AWp.join (c:=?c1) (Q:=?Q1) (T:=plan0) (C:=cxQ Tryz.prog Φ14 Θ5 noΨ [] [9000] 227) (fun z:List PV=>([(0,.ptr 9000 0),(2,.ptr 2 0),(3,.ptr 3 0),(9,.ptr 9 0),(90,.pv (.sl tree)),(91,.pv (.int .i64 tree.length)),(92,.pv (.int .i64 i))],((9,.cells [.pv (.str s1),.pv (.str n1)])::lawH lawZ first years tree la z lc [] [] lf .nils))) (fun z=>z.length<=i+1/\BndI tree first (i+1) z) (fun key=>?main) ?rest
          case main=>
            refine ⟨by omega,fun x hx=>⟨fun c5=>⟨by kernel_rfl,by omega,fun x2 h2 x3 h3=>⟨rfl,fun e he=>(by simp only [List.mem_singleton] at he;subst he;rfl),Nat.le_refl _,by omega,by simp only [maxLen];omega,?_⟩⟩,fun c5=>?_⟩⟩
            · refine key (lb++[.agg [.str s1,.int .i64 x2,.int .i64 x3]]) _ ⟨by simp only [List.length_append,List.length_cons,List.length_nil];omega,hBb.add htc ilt hs1 (by omega) (by omega)⟩ ?_
              rw [List.take_length];exact ⟨by simp [fitR,look],by simp [fitH,hget,hset,lawH,lawZ],rfl,rfl,rfl⟩
            · exact key lb _ ⟨by omega,hBb.mono⟩ ⟨by simp [fitR,look],by simp [fitH,hget,hset,lawH,lawZ],rfl,rfl,rfl⟩
          case rest=>
            rintro z ⟨hz,hBz⟩
            simp (config:={maxSteps:=1000000}) only [hi1,or_false,Nat.reduceBEq,leavesS,preTr_eq,planR,planT,lawH,lawZ,kill_amV,go_sem,↓reduceIte,reduceCtorEq,Nat.reduceEqDiff,Nat.reduceLT,↓all_qV,Int.reduceToNat,Int.reduceLT,Int.reduceLE,Nat.reduceAdd,Nat.reduceLeDiff,Nat.reduceMul]
            refine fun x4 h4=>⟨fun c7=>⟨by kernel_rfl,by omega,fun x5 h5 x6 h6=>⟨rfl,fun e he=>(by simp only [List.mem_singleton] at he;subst he;rfl),Nat.le_refl _,by omega,by simp only [maxLen];omega,?_⟩⟩,fun c7=>?_⟩
            · refine ⟨(i+1,z,lc++[.agg [.str s1,.int .i64 x5,.int .i64 x6]]),⟨by simp only;omega,by simp only;omega,by simp only [List.length_append,List.length_cons,List.length_nil];omega,hBz,hBc.add htc ilt hs1 (by omega) (by omega)⟩,by simp only;omega,?_⟩
              rw [List.take_length];exact ⟨by simp [fitR,look],by simp [fitH,hget,hset,lawH,lawZ],rfl,rfl,rfl⟩
            · exact ⟨(i+1,z,lc),⟨by simp only;omega,by simp only;omega,by simp only;omega,hBz,hBc.mono⟩,by simp only;omega,⟨by simp [fitR,look],by simp [fitH,hget,hset,lawH,lawZ],rfl,rfl,rfl⟩⟩
        · have c0:decide ((i:Int)<(tree.length:Int))=false:=by simp;omega
          have hlb:lb.length<=100:=by omega
          have hlb2:lb.length<=tree.length:=by omega
          have hlc2:lc.length<=tree.length:=by omega
          have e9:i=tree.length:=by omega
          rw [e9] at hBb hBc
          have hlc:lc.length<=100:=by omega
          simp (config:={maxSteps:=1000000}) only [c0,or_false,Nat.reduceBEq,leavesS,preTr_eq,planR,planT,lawH,lawZ,kill_amV,go_sem,↓reduceIte,reduceCtorEq,Nat.reduceEqDiff,Nat.reduceLT,↓all_qV,Int.reduceToNat,Int.reduceLT,Int.reduceLE,Nat.reduceAdd,Nat.reduceLeDiff,Nat.reduceMul]
          clear g1 g2 g3 hi1
          refine AWp.join (c:=?c2) (Q:=?Q2) (T:=plan0) (C:=cxQ Tryz.prog Φ14 Θ5 noΨ [] [9000] 227) (fun z:Option (List PV)=>([(0,.ptr 9000 0),(2,.ptr 2 0),(3,.ptr 3 0)],lawH lawZ first years tree la lb lc [] [] lf (amV z))) (fun z=>AmdZ lv first z) (fun key=>?main2) ?rest2
          case main2=>
            refine fun x hx=>⟨fun c5=>⟨by kernel_rfl,fun x1 h1=>⟨ht,fun x2 h2 x3 h3=>?_⟩⟩,fun c5=>?_⟩
            · refine key (some [.agg [.int .i64 (IntKind.i64.wrap (IntKind.i64.wrap (360 * first)+x1)),.int .i64 1,.sl [.agg [.int .i64 1,.str x2,.int .i64 first,.int .i64 x3]]]]) _ (fun g9 e8=>by
                injection e8 with e8
                subst e8
                exact .inr ⟨_,_,_,rfl,(by rw [i64_in (360 * first) (by omega),i64_in _ (by omega)];omega),hLf _ h2,(by omega)⟩) ?_
              exact ⟨by simp [fitR,look],by simp [fitH,hget,hset,lawH,lawZ,amV],rfl,rfl,rfl⟩
            · refine key none _ (fun g9 e8=>by cases e8) ?_
              exact ⟨by simp [fitR,look],by simp [fitH,hget,hset,lawH,lawZ,amV],rfl,rfl,rfl⟩
          case rest2=>
            intro z hz
            simp (config:={maxSteps:=1000000}) only [or_false,Nat.reduceBEq,leavesS,preTr_eq,planR,planT,lawH,lawZ,kill_amV,go_sem,↓reduceIte,reduceCtorEq,Nat.reduceEqDiff,Nat.reduceLT,↓all_qV,Int.reduceToNat,Int.reduceLT,Int.reduceLE,Nat.reduceAdd,Nat.reduceLeDiff,Nat.reduceMul]
            refine ⟨⟨ht.isH,by omega⟩,?_⟩
            have hlm:=leavesF_mem (top:=[57]) ht
            have hll:(leavesF tree [57]).length<=100:=Nat.le_trans leavesF_len ht.1
            have hq9:=leavesF_Q (top:=[57]) htc
            obtain ⟨lv9,hlv9⟩:∃ lv9,leavesF tree [57]=lv9:=⟨_,rfl⟩
            rw [hlv9] at hlm hll hq9 ⊢
            refine AWp.loop (T:=plan0) (α:=Nat × List PV) (fun y=>([(0,.ptr 9000 0),(2,.ptr 2 0),(3,.ptr 3 0),(160,.pv (.sl lv9)),(161,.pv (.int .i64 lv9.length)),(162,.pv (.int .i64 y.1))],lawH lawZ first years tree la lb lc y.2 [] lf (amV z))) (fun y=>(y.1<=lv9.length/\y.2.length<=y.1)/\(∀ x,x∈y.2->earP x)/\EarI lv9 lv y.1 y.2) (fun y=>lv9.length-y.1)
              ⟨(0,[]),⟨⟨Nat.zero_le _,Nat.zero_le _⟩,by simp,EarI.nil⟩,⟨by simp [fitR,look],by simp [fitH,hget,hset,lawH,lawZ],rfl,(by cases z <;> rfl),rfl⟩⟩ ?_
            rintro ⟨m,ld⟩ ⟨⟨g1,g2⟩,hld,hEa⟩
            simp only at g1 g2 hld hEa
            have hm1:IntKind.i64.wrap ((m:Int)+1)=((m+1:Nat):Int):=by rw [i64_in _ (by omega)];omega
            by_cases mlt:m<lv9.length
            · have c0:decide ((m:Int)<(lv9.length:Int))=true:=by simp;omega
              obtain ⟨s,hs,hsl⟩:=getD_str hlm mlt
              simp (config:={maxSteps:=1000000}) only [c0,hs,hm1,or_false,Nat.reduceBEq,leavesS,preTr_eq,planR,planT,lawH,lawZ,kill_amV,go_sem,↓reduceIte,reduceCtorEq,Nat.reduceEqDiff,Nat.reduceLT,↓all_qV,Int.reduceToNat,Int.reduceLT,Int.reduceLE,Nat.reduceAdd,Nat.reduceLeDiff,Nat.reduceMul]
              refine ⟨by omega,fun x1 h1=>⟨fun c5=>⟨by kernel_rfl,ht,fun x2 h2 x3 h3=>⟨rfl,fun e he=>(by simp only [List.mem_singleton] at he;subst he;rfl),Nat.le_refl _,by omega,by simp only [maxLen];omega,?_⟩⟩,fun c5=>?_⟩⟩
              · refine ⟨(m+1,ld++[.agg [.str s,.str x2,.int .i64 x3]]),⟨⟨by simp only;omega,by simp only [List.length_append,List.length_cons,List.length_nil];omega⟩,(fun e he=>?_),hEa.add hq9 mlt hs (hLf _ h2) (by omega)⟩,by simp only;omega,?_⟩
                · simp only [List.mem_append,List.mem_singleton] at he
                  rcases he with he | rfl
                  · exact hld e he
                  · exact ⟨_,_,_,rfl,hsl,by omega,by omega⟩
                · rw [List.take_length]
                  exact ⟨by simp [fitR,look],by simp [fitH,hget,hset,lawH,lawZ],rfl,(by cases z <;> rfl),rfl⟩
              · exact ⟨(m+1,ld),⟨⟨by simp only;omega,by simp only;omega⟩,hld,hEa.mono⟩,by simp only;omega,⟨by simp [fitR,look],by simp [fitH,hget,hset,lawH,lawZ],rfl,(by cases z <;> rfl),rfl⟩⟩
            · have c0:decide ((m:Int)<(lv9.length:Int))=false:=by simp;omega
              have hld2:ld.length<=1000:=by omega
              have hld3:ld.length<=lv9.length:=by omega
              have hEa9:EarI lv9 lv lv9.length ld:=by
                have e9:m=lv9.length:=by omega
                rw [<- e9];exact hEa
              simp (config:={maxSteps:=1000000}) only [c0,or_false,Nat.reduceBEq,leavesS,preTr_eq,planR,planT,lawH,lawZ,kill_amV,go_sem,↓reduceIte,reduceCtorEq,Nat.reduceEqDiff,Nat.reduceLT,↓all_qV,Int.reduceToNat,Int.reduceLT,Int.reduceLE,Nat.reduceAdd,Nat.reduceLeDiff,Nat.reduceMul]
              clear g1 g2 hm1
              intro n hn
              refine AWp.loop (T:=plan0) (α:=Int × List PV) (fun y=>([(0,.ptr 9000 0),(2,.ptr 2 0),(3,.ptr 3 0),(12,.pv (.int .i64 y.1))],lawH lawZ first years tree la lb lc ld y.2 lf (amV z))) (fun y=>(0<=y.1/\y.1<=3)/\(y.2.length:Int)+y.1<=3/\∀ x,x∈y.2->ConP lv first years x) (fun y=>y.1.toNat)
                ⟨(n,[]),⟨⟨by simp only;omega,by simp only;omega⟩,by simp;omega,by simp⟩,⟨by simp [fitR,look],by simp [fitH,hget,hset,lawH,lawZ],rfl,(by cases z <;> rfl),rfl⟩⟩ ?_
              rintro ⟨i2,le⟩ ⟨⟨g1,g2⟩,g3,hCo⟩
              simp only at g1 g2 g3 hCo
              have hi1:IntKind.i64.wrap (i2-1)=i2-1:=i64_in _ (by omega)
              by_cases ilt2:0<i2
              · have c1:decide (0<i2)=true:=by simp;exact ilt2
                simp (config:={maxSteps:=1000000}) only [c1,hi1,or_false,Nat.reduceBEq,leavesS,preTr_eq,planR,planT,lawH,lawZ,kill_amV,go_sem,↓reduceIte,reduceCtorEq,Nat.reduceEqDiff,Nat.reduceLT,↓all_qV,Int.reduceToNat,Int.reduceLT,Int.reduceLE,Nat.reduceAdd,Nat.reduceLeDiff,Nat.reduceMul]
                refine ⟨by kernel_rfl,ht,fun x hx=>⟨⟨by omega,by omega⟩,fun x1 h1 x2 h2 x3 h3 x4 h4=>⟨fun c5 x5 h5=>⟨fun c1 hc1=>?_,rfl,fun e he=>(by simp only [List.mem_singleton] at he;subst he;rfl),Nat.le_refl _,by omega,by simp only [maxLen];omega,(i2-1,le++[.agg [.str x,.int .i64 (IntKind.i64.wrap (first+x1)),.int .i64 x2,.int .i64 2,.int .i64 0,.str [57],.int .i64 x5]]),⟨⟨by simp only;omega,by simp only;omega⟩,by simp only [List.length_append,List.length_cons,List.length_nil];omega,con_add hCo ⟨_,_,_,_,_,_,_,rfl,hLf _ hx,(by rw [i64_in _ (by omega)];omega),by omega,.inr ⟨rfl,rfl,rfl,by omega⟩⟩⟩,by simp only;omega,?_⟩,fun c5=>⟨fun c1 hc1=>?_,rfl,fun e he=>(by simp only [List.mem_singleton] at he;subst he;rfl),Nat.le_refl _,by omega,by simp only [maxLen];omega,(i2-1,le++[.agg [.str x,.int .i64 (IntKind.i64.wrap (first+x1)),.int .i64 x2,.int .i64 1,.int .i64 (IntKind.i64.wrap (IntKind.i64.wrap (360 * first)+x3)),.str [],.int .i64 0]]),⟨⟨by simp only;omega,by simp only;omega⟩,by simp only [List.length_append,List.length_cons,List.length_nil];omega,con_add hCo ⟨_,_,_,_,_,_,_,rfl,hLf _ hx,(by rw [i64_in _ (by omega)];omega),by omega,.inl ⟨rfl,(by rw [i64_in (360 * first) (by omega),i64_in _ (by omega)];omega),rfl,rfl⟩⟩⟩,by simp only;omega,?_⟩⟩⟩⟩
                · simp only [List.mem_cons,List.not_mem_nil,or_false] at hc1
                  rcases hc1 with rfl | rfl | rfl | rfl | rfl | rfl | rfl <;> exact ⟨rfl,by simp [frzOk]⟩
                · rw [List.take_length];exact ⟨by simp [fitR,look],by simp [fitH,hget,hset,lawH,lawZ],rfl,(by cases z <;> rfl),rfl⟩
                · simp only [List.mem_cons,List.not_mem_nil,or_false] at hc1
                  rcases hc1 with rfl | rfl | rfl | rfl | rfl | rfl | rfl <;> exact ⟨rfl,by simp [frzOk]⟩
                · rw [List.take_length];exact ⟨by simp [fitR,look],by simp [fitH,hget,hset,lawH,lawZ],rfl,(by cases z <;> rfl),rfl⟩
              · have c1:decide (0<i2)=false:=by simp;omega
                have hK:∀ g,AmdP lv first g->LawK ⟨first,years,tree,la,lb,lc,ld,le,lf,g⟩:=fun g hg=>
                  ⟨htc,hnm,hy.2,hla2,hlb2,hlc2,(by rw [hlv9];exact hld3),hlf5,(by rw [hlv];exact hLn),hBb,hBc,(by rw [hlv,hlv9];exact hEa9),⟨(by simp only;omega),(by rw [hlv];exact hCo)⟩,hRu4,(by rw [hlv];exact hg)⟩
                cases z with
                | none=>
                  simp (config:={maxSteps:=1000000}) only [c1,amV,loadC_eq,or_false,Nat.reduceBEq,leavesS,preTr_eq,planR,planT,lawH,lawZ,kill_amV,go_sem,↓reduceIte,reduceCtorEq,Nat.reduceEqDiff,Nat.reduceLT,↓all_qV,Int.reduceToNat,Int.reduceLT,Int.reduceLE,Nat.reduceAdd,Nat.reduceLeDiff,Nat.reduceMul]
                  refine ⟨fun c2 hc2=>?_,⟨first,years,tree,la,lb,lc,ld,le,lf,[]⟩,?_,⟨hf,⟨hy.1,by simp only;omega⟩,ht,h9,hld2,hld,hlf4,hlf,hc9,hK _ (.inl rfl)⟩⟩
                  · simp only [List.mem_cons,List.not_mem_nil,or_false] at hc2
                    rcases hc2 with rfl | rfl | rfl | rfl | rfl | rfl | rfl | rfl | rfl | rfl <;> exact ⟨rfl,by simp [frzOk,hget]⟩
                  · simp only [List.take_length];rfl
                | some g=>
                  simp (config:={maxSteps:=1000000}) only [c1,amV,loadC_eq,or_false,Nat.reduceBEq,leavesS,preTr_eq,planR,planT,lawH,lawZ,kill_amV,go_sem,↓reduceIte,reduceCtorEq,Nat.reduceEqDiff,Nat.reduceLT,↓all_qV,Int.reduceToNat,Int.reduceLT,Int.reduceLE,Nat.reduceAdd,Nat.reduceLeDiff,Nat.reduceMul]
                  refine ⟨fun c2 hc2=>?_,⟨first,years,tree,la,lb,lc,ld,le,lf,g⟩,?_,⟨hf,⟨hy.1,by simp only;omega⟩,ht,h9,hld2,hld,hlf4,hlf,hc9,hK _ (hz g rfl)⟩⟩
                  · simp only [List.mem_cons,List.not_mem_nil,or_false] at hc2
                    rcases hc2 with rfl | rfl | rfl | rfl | rfl | rfl | rfl | rfl | rfl | rfl <;> exact ⟨rfl,by simp [frzOk,hget]⟩
                  · simp only [List.take_length];rfl
end Go.AM
