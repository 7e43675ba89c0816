/-
  A part of a proof.
-/
import Derived.Test.YteiphfohadlgiaaGreatDoorR3e
set_option linter.unusedSimpArgs false
set_option linter.unusedVariables false
namespace Go.AM
open Go Go.Proofs Go.IntWalk
set_option maxRecDepth 100000
set_option maxHeartbeats 1000000
theorem dotF_take (s:List UInt8):∀ k,k<=s.length->dotF s k=[]\/∃ j,j<k/\dotF s k=s.take j/\((s.getD j 0).toNat:Int)=46
  | 0,_=>.inl rfl
  | k+1,h=>by
    unfold dotF
    cases h1:(((s.getD k 0).toNat:Int) == 46) with
    | true=>exact .inr ⟨k,by omega,rfl,by simpa using h1⟩
    | false=>
      rcases dotF_take s k (by omega) with h2 | ⟨j,h2,h3,h4⟩
      · exact .inl h2
      · exact .inr ⟨j,by omega,h3,h4⟩
def cand (top c:List UInt8):Bool:=gd c&&(top == []||undF c top)
theorem cand_up {top c s:List UInt8} (hc:cand top c=true) (hp:parF s=c) (hne:c≠[]):cand top s=true/\c.length<s.length:=by
  unfold parF at hp
  cases hg:gd s with
  | false=>rw [hg] at hp;exact absurd hp.symm hne
  | true=>
    rw [hg,cond_true] at hp
    rcases dotF_take s s.length (Nat.le_refl _) with h | ⟨j,h1,h2,h3⟩
    · rw [h] at hp;exact absurd hp.symm hne
    · rw [h2] at hp
      have hcl:c.length=j:=by rw [<- hp,List.length_take];omega
      refine ⟨?_,by omega⟩
      unfold cand at hc ⊢
      rw [hg]
      simp only [Bool.and_eq_true,Bool.true_and] at hc ⊢
      obtain ⟨_,hc⟩:=hc
      by_cases ht:top=[]
      · subst ht;rfl
      · have ht2:(top == [])=false:=by simpa using ht
        rw [ht2,Bool.false_or] at hc ⊢
        unfold undF at hc ⊢
        cases h5:(!gd c||!gd top||decide ((c.length:Int)<top.length)||!(c.take top.length == top)) with
        | true=>rw [h5] at hc;cases hc
        | false=>
          rw [h5,cond_false] at hc
          simp only [Bool.or_eq_false_iff,Bool.not_eq_false',decide_eq_false_iff_not,beq_iff_eq] at h5
          obtain ⟨⟨⟨_,h6⟩,h7⟩,h8⟩:=h5
          have h9:s.take top.length=top:=by
            rw [<- hp,List.take_take] at h8
            rw [show min top.length j=top.length by omega] at h8
            exact h8
          have h10:(!gd s||!gd top||decide ((s.length:Int)<top.length)||!(s.take top.length == top))=false:=by
            rw [hg,h6,h9]
            have:¬ (s.length:Int)<top.length:=by omega
            simp [this]
          rw [h10,cond_false]
          simp only [Bool.or_eq_true,beq_iff_eq] at hc ⊢
          right
          by_cases h11:c.length=top.length
          · rw [<- h11,hcl];exact h3
          · rcases hc with hc | hc
            · omega
            · rw [<- hc,<- hp]
              have:top.length<j:=by omega
              simp only [List.getD_eq_getElem?_getD,List.getElem?_take,this,if_true]
theorem leaves_ne {l:List PV} {top:List UInt8} (hl:treeP l):∀ n (e:PV),e∈l->cand top (hCode e)=true->100-(hCode e).length<=n->leavesF l top≠[]
  | n,e,he,hc,hn=>by
    by_cases hch:chl (hCode e) l=true
    · have hm:e∈l.filter (leafF l top):=by
        rw [List.mem_filter]
        refine ⟨he,?_⟩
        unfold leafF
        unfold cand at hc
        rw [hc,hch];rfl
      unfold leavesF
      intro h
      rw [List.map_eq_nil_iff] at h
      rw [h] at hm
      cases hm
    · have hch:chl (hCode e) l=false:=by simpa using hch
      unfold chl at hch
      rw [List.all_eq_false] at hch
      obtain ⟨x,hx,hxp⟩:=hch
      have hxp:parF (hCode x)=hCode e:=by simpa using hxp
      have hne:hCode e≠[]:=by
        intro h
        unfold cand at hc
        rw [h] at hc
        have:gd []=false:=by decide
        rw [this] at hc;cases hc
      obtain ⟨h1,h2⟩:=cand_up hc hxp hne
      obtain ⟨c,nm,rfl,hcl⟩:=hl.2 x hx
      have h3:(hCode (hV c nm)).length<=100:=hcl
      cases n with
      | zero=>omega
      | succ n=>exact leaves_ne hl n _ hx h1 (by omega)
theorem leaves9 {l:List PV} (hl:treeP l) (h9:nineP l) (top:List UInt8) (ht:top=[]\/top=[57]):leavesF l top≠[]:=by
  obtain ⟨e,he,hc⟩:=h9
  refine leaves_ne hl 100 e he ?_ (by omega)
  rw [hc]
  rcases ht with rfl | rfl <;> decide
theorem isI_eq {n:Int}:isI (.int .i64 n)=(-9223372036854775808<=n/\n<=9223372036854775807):=propext ⟨fun ⟨m,e,h⟩=>by injection e with e1 e2;subst e2;exact h,fun h=>⟨n,rfl,h⟩⟩
theorem preP_eq {es:List PV}:preP [.sl es]=(es≠[]/\es.length<=1000000/\∀ e,e∈es->isI e):=
  propext ⟨fun ⟨es',e,h⟩=>by simp only [List.cons.injEq,PV.sl.injEq,and_true] at e;subst e;exact h,fun h=>⟨es,rfl,h⟩⟩
theorem okP_eq {es:List PV} {n:Int}:okP [.sl es] n=(intV n∈es):=
  propext ⟨fun ⟨es',e,h⟩=>by simp only [List.cons.injEq,PV.sl.injEq,and_true] at e;subst e;exact h,fun h=>⟨es,rfl,h⟩⟩
theorem preR_eq {a b:Int}:preR [.int .i64 a,.int .i64 b]=(-1000000000000000<=a/\a<=b/\b<=1000000000000000):=
  propext ⟨fun ⟨a',b',e,h⟩=>by simp only [List.cons.injEq,PV.int.injEq,and_true,true_and] at e;obtain ⟨rfl,rfl⟩:=e;exact h,fun h=>⟨a,b,rfl,h⟩⟩
theorem allI_nil:(∀ e,e∈([]:List PV)->isI e)=True:=by simp
theorem allI_cons {n:Int} {r:List PV}:(∀ e,e∈(.int .i64 n::r)->isI e)=((-9223372036854775808<=n/\n<=9223372036854775807)/\∀ e,e∈r->isI e):=by
  rw [<- isI_eq]
  exact propext ⟨fun h=>⟨h _ List.mem_cons_self,fun e he=>h e (List.mem_cons_of_mem _ he)⟩,fun h e he=>by
    rcases List.mem_cons.1 he with rfl | he
    · exact h.1
    · exact h.2 e he⟩
theorem memI_nil {n:Int}:(PV.int .i64 n∈([]:List PV))=False:=by simp
theorem memI_cons {n m:Int} {r:List PV}:(PV.int .i64 n∈(.int .i64 m::r))=(n=m\/PV.int .i64 n∈r):=by
  apply propext
  rw [List.mem_cons]
  simp
def lawV (first years:Int) (tree a b c d e f g:List PV):PV:=.agg [.int .i64 first,.int .i64 years,.sl tree,.sl a,.sl b,.sl c,.sl d,.sl e,.sl f,.sl g]
def earP (x:PV):Prop:=∃ s c p,x=earV s c p/\s.length<=100/\0<=p/\p<=100
def ruleP (x:PV):Prop:=∃ n s c p,x=.agg [.int .i64 n,.str s,.str c,.int .i64 p]/\s.length<=100/\c.length<=100
def lawP (p:PV):Prop:=∃ first years tree a b c d e f g,p=lawV first years tree a b c d e f g/\(0<=first/\first<=100)/\(1<=years/\years<=3)/\treeP tree/\nineP tree/\d.length<=1000/\(∀ x,x∈d->earP x)/\f.length<=1000/\∀ x,x∈f->ruleP x
def lawTree:PV->List PV
  | .agg (_::_::.sl t::_)=>t
  | _=>[]
def lawFirst:PV->Int
  | .agg (.int _ n::_)=>n
  | _=>0
def recQ (lv:List PV) (first:Int) (x:PV):Prop:=∃ n d c a,x=recV n d c a/\c.length<=100/\PV.str c∈lv/\(360 * first<=d/\d<=360 * first+1200)/\(-500<=a/\a<=2000/\a≠0)
def recP (l x:PV):Prop:=recQ (leavesF (lawTree l) [57]) (lawFirst l) x
theorem SX_ord:SX.Pairwise (fun a b=>cmpC a b<0):=by decide +kernel
theorem SX_self:∀ a,a∈SX->cmpC a a=0:=by decide +kernel
theorem treeC.ord {L:List (List UInt8)} (h:treeC L):L.Pairwise (fun a b=>cmpC a b<0):=by
  rw [h.1];exact SX_ord.filter _
theorem treeC.len {L:List (List UInt8)} (h:treeC L):L.length<=45:=by
  rw [h.1];exact Nat.le_trans (List.length_filter_le _ _) (by decide)
def lvLt (x y:PV):Prop:=cmpC (sOf x) (sOf y)<0
def lvQ (lv:List PV):Prop:=lv.Pairwise lvLt/\∀ x,x∈lv->∃ c,x=.str c/\c∈SX
theorem leavesF_code {l:List PV} {top:List UInt8} {x:PV} (hx:x∈leavesF l top):∃ c,x=.str c/\c∈l.map hCode:=by
  unfold leavesF at hx
  simp only [List.mem_map,List.mem_filter] at hx
  obtain ⟨e,⟨he,_⟩,rfl⟩:=hx
  exact ⟨_,rfl,List.mem_map.2 ⟨e,he,rfl⟩⟩
theorem leavesF_Q {l:List PV} {top:List UInt8} (h:treeC (l.map hCode)):lvQ (leavesF l top):=by
  refine ⟨?_,fun x hx=>?_⟩
  · unfold leavesF
    rw [List.pairwise_map]
    have h1:=h.ord
    rw [List.pairwise_map] at h1
    exact h1.filter _
  · obtain ⟨c,rfl,hc⟩:=leavesF_code hx
    exact ⟨c,rfl,h.sx hc⟩
theorem leavesF_sub {l:List PV} {top:List UInt8} {x:PV} (hx:x∈leavesF l top):x∈leavesF l []:=by
  unfold leavesF at hx ⊢
  simp only [List.mem_map,List.mem_filter] at hx ⊢
  obtain ⟨e,⟨he,hl⟩,rfl⟩:=hx
  refine ⟨e,⟨he,?_⟩,rfl⟩
  unfold leafF at hl ⊢
  simp only [Bool.and_eq_true] at hl ⊢
  exact ⟨⟨hl.1.1,rfl⟩,hl.2⟩
theorem leaf_one {l:List PV} (ht:treeP l) (h1:[49]∈l.map hCode):leavesF l [49]≠[]:=by
  obtain ⟨e,he,hc⟩:=List.mem_map.1 h1
  refine leaves_ne ht 100 e he ?_ (by omega)
  rw [hc];decide
theorem leaf_in {l:List PV} {s:List UInt8} (ht:treeP l) (h1:[49]∈l.map hCode) (h:okLf [.sl l] s):PV.str s∈leavesF l []:=by
  rcases List.mem_append.1 (h.2 l rfl (leaf_one ht h1)) with h | h <;> exact leavesF_sub h
theorem pw_getD {α:Type} [Inhabited α] {R:α->α->Prop} {l:List α} (h:l.Pairwise R) {i j:Nat} (hij:i<j) (hj:j<l.length):R (l.getD i default) (l.getD j default):=by
  have:=List.pairwise_iff_getElem.1 h i j (by omega) hj hij
  rwa [List.getD_eq_getElem?_getD,List.getD_eq_getElem?_getD,List.getElem?_eq_getElem (by omega),List.getElem?_eq_getElem hj]
theorem pw_snoc {α:Type} {R:α->α->Prop} {l:List α} {x:α} (h:l.Pairwise R) (h2:∀ y,y∈l->R y x):(l++[x]).Pairwise R:=
  List.pairwise_append.2 ⟨h,List.pairwise_singleton _ _,fun a ha b hb=>by rw [List.mem_singleton] at hb;subst hb;exact h2 a ha⟩
def orF:List Int->Int
  | []=>0
  | x::r=>bif x != 0 then x else orF r
def lCode:PV->List UInt8
  | .agg (.str c::_)=>c
  | _=>[]
def lYear:PV->Int
  | .agg [_,.int _ y,_]=>y
  | _=>0
def linO (x y:PV):Int:=orF [cmpC (lCode x) (lCode y),cmpI (lYear x) (lYear y)]
def linLt (x y:PV):Prop:=linO x y<0
theorem linO_code {a b:List UInt8} {y y' m m':Int} (h:cmpC a b<0):linLt (.agg [.str a,.int .i64 y,.int .i64 m]) (.agg [.str b,.int .i64 y',.int .i64 m']):=by
  have e:(cmpC a b != 0)=true:=by simp;omega
  show (bif cmpC a b != 0 then cmpC a b else _)<0
  rw [e];exact h
theorem linO_year {a:List UInt8} {y y' m m':Int} (h0:cmpC a a=0) (h:y<y'):linLt (.agg [.str a,.int .i64 y,.int .i64 m]) (.agg [.str a,.int .i64 y',.int .i64 m']):=by
  have e:(cmpC a a != 0)=false:=by rw [h0];rfl
  have e2:cmpI y y'= -1:=by unfold cmpI;simp [h]
  show (bif cmpC a a != 0 then cmpC a a else orF [cmpI y y'])<0
  rw [e,e2]
  show (-1:Int)<0
  decide
def LinI (lv:List PV) (first years:Int) (k:Nat) (yy:Int) (la:List PV):Prop:=
  la.Pairwise linLt/\∀ x,x∈la->∃ s y m,x=.agg [.str s,.int .i64 y,.int .i64 m]/\(first<=y/\y<first+years)/\(0<=m/\m<=5000)/\((∃ j,j<k/\lv.getD j default=.str s)\/(lv.getD k default=.str s/\y<yy))
theorem LinI.nil {lv:List PV} {first years:Int}:LinI lv first years 0 first []:=⟨List.Pairwise.nil,fun x hx=>by cases hx⟩
theorem LinI.add {lv:List PV} {first years y m:Int} {k:Nat} {s:List UInt8} {la:List PV} (hq:lvQ lv) (hk:k<lv.length) (hs:lv.getD k default=.str s) (h:LinI lv first years k y la)
    (hy:first<=y/\y<first+years) (hm:0<=m/\m<=5000):LinI lv first years k (y+1) (la++[.agg [.str s,.int .i64 y,.int .i64 m]]):=by
  refine ⟨pw_snoc h.1 fun x hx=>?_,fun x hx=>?_⟩
  · obtain ⟨s',y',m',rfl,_,_,hj⟩:=h.2 x hx
    rcases hj with ⟨j,hj,hjs⟩ | ⟨hks,hlt⟩
    · have:=pw_getD hq.1 hj hk
      rw [hjs,hs] at this
      exact linO_code this
    · rw [hs] at hks
      injection hks with hks
      subst hks
      obtain ⟨c,hc,hsx⟩:=hq.2 (.str s) (by rw [<- hs];exact getD_mem hk)
      injection hc with hc
      subst hc
      exact linO_year (SX_self _ hsx) hlt
  · rcases List.mem_append.1 hx with hx | hx
    · obtain ⟨s',y',m',e,h1,h2,hj⟩:=h.2 x hx
      exact ⟨s',y',m',e,h1,h2,hj.imp id (fun ⟨a,b⟩=>⟨a,by omega⟩)⟩
    · rw [List.mem_singleton] at hx
      exact ⟨s,y,m,hx,hy,hm,.inr ⟨hs,by omega⟩⟩
theorem LinI.next {lv:List PV} {first years yy:Int} {k:Nat} {la:List PV} (h:LinI lv first years k yy la):LinI lv first years (k+1) first la:=
  ⟨h.1,fun x hx=>by
    obtain ⟨s',y',m',e,h1,h2,hj⟩:=h.2 x hx
    refine ⟨s',y',m',e,h1,h2,.inl ?_⟩
    rcases hj with ⟨j,hj,hjs⟩ | ⟨hks,_⟩
    · exact ⟨j,by omega,hjs⟩
    · exact ⟨k,by omega,hks⟩⟩
def BndI (tree:List PV) (first:Int) (k:Nat) (la:List PV):Prop:=
  la.Pairwise linLt/\∀ x,x∈la->∃ s y m,x=.agg [.str s,.int .i64 y,.int .i64 m]/\(y= -1\/y=first)/\(0<=m/\m<=20000)/\∃ j,j<k/\j<tree.length/\hCode (tree.getD j default)=s
theorem BndI.nil {tree:List PV} {first:Int}:BndI tree first 0 []:=⟨List.Pairwise.nil,fun x hx=>by cases hx⟩
theorem BndI.add {tree:List PV} {first y m:Int} {k:Nat} {s n:List UInt8} {la:List PV} (ht:treeC (tree.map hCode)) (hk:k<tree.length) (hs:tree.getD k default=.agg [.str s,.str n]) (h:BndI tree first k la)
    (hy:y= -1\/y=first) (hm:0<=m/\m<=20000):BndI tree first (k+1) (la++[.agg [.str s,.int .i64 y,.int .i64 m]]):=by
  refine ⟨pw_snoc h.1 fun x hx=>?_,fun x hx=>?_⟩
  · obtain ⟨s',y',m',rfl,_,_,j,hj,hj2,hjs⟩:=h.2 x hx
    have h1:=ht.ord
    rw [List.pairwise_map] at h1
    have:=pw_getD h1 hj hk
    rw [hjs,hs] at this
    exact linO_code this
  · rcases List.mem_append.1 hx with hx | hx
    · obtain ⟨s',y',m',e,h1,h2,j,hj⟩:=h.2 x hx
      exact ⟨s',y',m',e,h1,h2,j,by omega,hj.2⟩
    · rw [List.mem_singleton] at hx
      exact ⟨s,y,m,hx,hy,hm,k,by omega,hk,by rw [hs];rfl⟩
theorem BndI.mono {tree:List PV} {first:Int} {k:Nat} {la:List PV} (h:BndI tree first k la):BndI tree first (k+1) la:=
  ⟨h.1,fun x hx=>by
    obtain ⟨s',y',m',e,h1,h2,j,hj⟩:=h.2 x hx
    exact ⟨s',y',m',e,h1,h2,j,by omega,hj.2⟩⟩
def earLt (x y:PV):Prop:=cmpC (srcOf x) (srcOf y)<0
def EarI (lv9 lv:List PV) (k:Nat) (la:List PV):Prop:=
  la.Pairwise earLt/\∀ x,x∈la->∃ s c p,x=.agg [.str s,.str c,.int .i64 p]/\(0<=p/\p<=50)/\PV.str c∈lv/\∃ j,j<k/\j<lv9.length/\lv9.getD j default=.str s
theorem EarI.nil {lv9 lv:List PV}:EarI lv9 lv 0 []:=⟨List.Pairwise.nil,fun x hx=>by cases hx⟩
theorem EarI.add {lv9 lv:List PV} {p:Int} {k:Nat} {s c:List UInt8} {la:List PV} (hq:lvQ lv9) (hk:k<lv9.length) (hs:lv9.getD k default=.str s) (h:EarI lv9 lv k la) (hc:PV.str c∈lv)
    (hp:0<=p/\p<=50):EarI lv9 lv (k+1) (la++[.agg [.str s,.str c,.int .i64 p]]):=by
  refine ⟨pw_snoc h.1 fun x hx=>?_,fun x hx=>?_⟩
  · obtain ⟨s',c',p',rfl,_,_,j,hj,hj2,hjs⟩:=h.2 x hx
    have:=pw_getD hq.1 hj hk
    rw [hjs,hs] at this
    exact this
  · rcases List.mem_append.1 hx with hx | hx
    · obtain ⟨s',c',p',e,h1,h2,j,hj⟩:=h.2 x hx
      exact ⟨s',c',p',e,h1,h2,j,by omega,hj.2⟩
    · rw [List.mem_singleton] at hx
      exact ⟨s,c,p,hx,hp,hc,k,by omega,hk,hs⟩
theorem EarI.mono {lv9 lv:List PV} {k:Nat} {la:List PV} (h:EarI lv9 lv k la):EarI lv9 lv (k+1) la:=
  ⟨h.1,fun x hx=>by
    obtain ⟨s',c',p',e,h1,h2,j,hj⟩:=h.2 x hx
    exact ⟨s',c',p',e,h1,h2,j,by omega,hj.2⟩⟩
def ConP (lv:List PV) (first years:Int) (x:PV):Prop:=
  ∃ c y am k d s l,x=.agg [.str c,.int .i64 y,.int .i64 am,.int .i64 k,.int .i64 d,.str s,.int .i64 l]/\PV.str c∈lv/\(first<=y/\y<first+years)/\(0<=am/\am<=200)/\
    ((k=1/\(0<=d/\d<=10000)/\s=[]/\l=0)\/(k=2/\d=0/\s=[57]/\(0<=l/\l<=1500)))
def ruN:PV->Int
  | .agg (.int _ n::_)=>n
  | _=>0
def RulI (L:List (List UInt8)) (k:Int) (la:List PV):Prop:=
  la.Pairwise (fun x y=>ruN x<ruN y)/\∀ x,x∈la->∃ n s c p,x=.agg [.int .i64 n,.str s,.str c,.int .i64 p]/\(1<=n/\n<k)/\s∈L/\c∈L/\(0<=p/\p<=100)
theorem RulI.nil {L:List (List UInt8)} {k:Int}:RulI L k []:=⟨List.Pairwise.nil,fun x hx=>by cases hx⟩
theorem RulI.add {L:List (List UInt8)} {k k' p:Int} {s c:List UInt8} {la:List PV} (h:RulI L k la) (hk:1<=k) (hk':k'=k+1) (hs:s∈L) (hc:c∈L) (hp:0<=p/\p<=100):
    RulI L k' (la++[.agg [.int .i64 k,.str s,.str c,.int .i64 p]]):=by
  refine ⟨pw_snoc h.1 fun x hx=>?_,fun x hx=>?_⟩
  · obtain ⟨n,s',c',p',rfl,h1,_⟩:=h.2 x hx
    exact h1.2
  · rcases List.mem_append.1 hx with hx | hx
    · obtain ⟨n,s',c',p',e,h1,h2⟩:=h.2 x hx
      exact ⟨n,s',c',p',e,by omega,h2⟩
    · rw [List.mem_singleton] at hx
      exact ⟨k,s,c,p,hx,by omega,hs,hc,hp⟩
def AmdP (lv:List PV) (first:Int) (g:List PV):Prop:=
  g=[]\/∃ d c m,g=[.agg [.int .i64 d,.int .i64 1,.sl [.agg [.int .i64 1,.str c,.int .i64 first,.int .i64 m]]]]/\(0<=d/\d<=10000)/\PV.str c∈lv/\(0<=m/\m<=5000)
def rNum:PV->Int
  | .agg (.int _ n::_)=>n
  | _=>0
def rDay:PV->Int
  | .agg [_,.int _ d,_,_]=>d
  | _=>0
def recLt (x y:PV):Prop:=rDay x<=rDay y/\rNum x<rNum y
def RecI (day:Int) (es:List PV):Prop:=es.Pairwise recLt/\∀ x,x∈es->rDay x<=day/\1<=rNum x/\rNum x<=es.length
theorem RecI.nil {day:Int}:RecI day []:=⟨List.Pairwise.nil,fun x hx=>by cases hx⟩
theorem RecI.add {day day' a:Int} {c:List UInt8} {es:List PV} (h:RecI day es) (hd:day<=day'):RecI day' (es++[recV ((es.length:Int)+1) day' c a]):=by
  refine ⟨pw_snoc h.1 fun x hx=>?_,fun x hx=>?_⟩
  · have:=h.2 x hx
    refine ⟨?_,?_⟩
    · show rDay x<=day';omega
    · show rNum x<(es.length:Int)+1;omega
  · rw [List.length_append,List.length_singleton]
    rcases List.mem_append.1 hx with hx | hx
    · have:=h.2 x hx
      omega
    · rw [List.mem_singleton] at hx
      subst hx
      refine ⟨Int.le_refl _,?_,?_⟩
      · show 1<=(es.length:Int)+1;omega
      · show (es.length:Int)+1<=((es.length+1:Nat):Int);omega
end Go.AM
namespace Go.AM
open Go Go.Proofs Go.IntWalk
attribute [local go_sem] plan0
set_option maxRecDepth 100000
set_option maxHeartbeats 1000000
def preRe (args:List PV):Prop:=∃ (l:PV) (n:Int),args=[l,.int .i64 n]/\lawP l/\0<=n/\n<=10
def okRe (args:List PV) (es:List PV):Prop:=es.length<=20/\(∀ x,x∈es->recP (args.getD 0 default) x)/\∃ day,RecI day es
noncomputable def receiptsS:QSpec:=qV Tp preRe slV okRe
theorem w_receiptsS:QSound GG 24 receiptsS:=by
  unfold receiptsS
  refine QSound.of_wpcV (C:=cxQ Tryz.prog Φ14 Θ5 noΨ [] [9000] 58) 9000 Tryz.func24 rfl rfl rfl (Fit.all (G:=GG) hΦ14 hΘ5 hnoΨ mixed) rfl (fun args h=>?_) (fun args h=>?_)
  · exact ⟨[],Nat.zero_le _,(fun x hx=>by cases hx),0,RecI.nil⟩
  · obtain ⟨l,n,rfl,⟨first,years,tree,a,b,c,d,e,f,g,rfl,hf,hy,ht,h9,_⟩,hn⟩:=h
    refine ⟨by simp [cxQ],?_⟩
    refine wpc_sound (T:=plan0) _ _ _ ?_
    have hw1:IntKind.i64.wrap (n+1)=n+1:=i64_in _ (by omega)
    simp only [hw1,lawV,Θ5,Θ4,Θ3,Θ2,Θ1,nS,preN_eq,okN,arg1,intV,Nat.reduceBEq,Φ14,Φ13,leavesS,on_ls_eq,List.take_succ_cons,List.take_nil,Tryz.f24,go_sem,↓reduceIte,reduceCtorEq,Nat.reduceEqDiff,Nat.reduceLT,↓all_qVs,Int.reduceToNat,Int.reduceLT,Int.reduceLE,Nat.reduceAdd,Nat.reduceLeDiff,Nat.reduceMul]
    refine ⟨⟨ht.isH,by have:=ht.1;omega⟩,⟨by omega,by omega⟩,fun x hx=>?_⟩
    simp only [Later_eq]
    have hlv:=leaves9 ht h9 [57] (.inr rfl)
    have hlm:=leavesF_mem (top:=[57]) ht
    have hll:(leavesF tree [57]).length<=100:=Nat.le_trans leavesF_len ht.1
    have hw2:IntKind.i64.wrap (360 * first)=360 * first:=i64_in _ (by omega)
    rw [hw2]
    obtain ⟨lv,hle⟩:∃ lv,leavesF tree [57]=lv:=⟨_,rfl⟩
    rw [hle] at hlv hlm hll ⊢
    have hlp:=List.length_pos_iff.2 hlv
    refine AWp.adoptS (s:=7) (κ:=8000) (k:=4) (by simp [look]) rfl (by decide) ?_
    refine AWp.loop (T:=plan0) (α:=Int × Int × List PV) (fun y=>([(0,.ptr 9000 0),(7,.rs 8000 y.2.2.length),(8,.pv (.int .i64 y.2.1)),(9,.pv (.sl lv)),(10,.pv (.int .i64 y.1))],[(9000,.obj Tp),(8000,.row 4 y.2.2)]))
      (fun y=>(0<=y.1/\y.1<=10)/\(360 * first<=y.2.1/\y.2.1+120 * y.1<=360 * first+1200)/\(y.2.2.length:Int)+y.1<=11/\(∀ e,e∈y.2.2->recQ lv first e)/\RecI y.2.1 y.2.2) (fun y=>y.1.toNat)
      ⟨(x,360 * first,[]),⟨⟨by omega,by omega⟩,⟨by simp only;omega,by simp only;omega⟩,by simp;omega,(fun e he=>(by cases he)),RecI.nil⟩,⟨by simp [fitR,look,upd],by simp [fitH,hget,hset],rfl,rfl,rfl⟩⟩ ?_
    rintro ⟨i,day,acc⟩ ⟨⟨g1,g2⟩,⟨g3,g4⟩,g5,g6,g7⟩
    simp only at g1 g2 g3 g4 g5 g6 g7
    have hi1:IntKind.i64.wrap (i-1)=i-1:=i64_in _ (by omega)
    have hal:IntKind.i64.wrap ((acc.length:Int)+1)=(acc.length:Int)+1:=i64_in _ (by omega)
    by_cases hlt:0<i
    · have c0:decide (0<i)=true:=by simp;exact hlt
      simp only [c0,Θ5,Θ4,Θ3,Θ2,Θ1,preN_eq,preP_eq,okP_eq,preR_eq,allI_nil,allI_cons,memI_nil,memI_cons,or_false,false_or,okN,okR,arg1,arg2,ne_eq,not_false_eq_true,intV,Nat.reduceBEq,go_sem,↓reduceIte,reduceCtorEq,Nat.reduceEqDiff,Nat.reduceLT,↓all_qVz,↓all_qVz',Int.reduceToNat,Int.reduceLT,Int.reduceLE,Nat.reduceAdd,Nat.reduceLeDiff,Nat.reduceMul,ev_callG,gcallK_b,gcallK_w,callGc_true,callGc_false]
      intro x hx
      rw [Stop_eq]
      simp only [Θ5,Θ4,Θ3,Θ2,Θ1,preN_eq,preP_eq,okP_eq,preR_eq,allI_nil,allI_cons,memI_nil,memI_cons,or_false,false_or,okN,okR,arg1,arg2,ne_eq,not_false_eq_true,intV,Nat.reduceBEq,go_sem,↓reduceIte,reduceCtorEq,Nat.reduceEqDiff,Nat.reduceLT,↓all_qVz,↓all_qVz',Int.reduceToNat,Int.reduceLT,Int.reduceLE,Nat.reduceAdd,Nat.reduceLeDiff,Nat.reduceMul,ev_callG,gcallK_b,gcallK_w,callGc_true,callGc_false]
      refine ⟨by omega,fun y hy=>?_⟩
      rw [Stop_eq]
      simp only [Θ5,Θ4,Θ3,Θ2,Θ1,preN_eq,preP_eq,okP_eq,preR_eq,allI_nil,allI_cons,memI_nil,memI_cons,or_false,false_or,okN,okR,arg1,arg2,ne_eq,not_false_eq_true,intV,Nat.reduceBEq,go_sem,↓reduceIte,reduceCtorEq,Nat.reduceEqDiff,Nat.reduceLT,↓all_qVz,↓all_qVz',Int.reduceToNat,Int.reduceLT,Int.reduceLE,Nat.reduceAdd,Nat.reduceLeDiff,Nat.reduceMul,ev_callG,gcallK_b,gcallK_w,callGc_true,callGc_false]
      refine ⟨by kernel_rfl,⟨by omega,by omega⟩,fun k hk=>?_⟩
      obtain ⟨j,rfl⟩:=Int.eq_ofNat_of_zero_le hk.1
      have hj:j<lv.length:=by omega
      obtain ⟨cc,hm,hcl,hcm⟩:∃ cc,lv.getD j default=.str cc/\cc.length<=100/\PV.str cc∈lv:=by
        obtain ⟨cc,e,h⟩:=hlm (lv[j]'hj) (List.getElem_mem _)
        exact ⟨cc,by simp [List.getD_eq_getElem?_getD,hj,e],h,by rw [<- e];exact List.getElem_mem _⟩
      rw [Stop_eq]
      simp only [hm,hi1,Θ5,Θ4,Θ3,Θ2,Θ1,preN_eq,preP_eq,okP_eq,preR_eq,allI_nil,allI_cons,memI_nil,memI_cons,or_false,false_or,okN,okR,arg1,arg2,ne_eq,not_false_eq_true,intV,Nat.reduceBEq,go_sem,↓reduceIte,reduceCtorEq,Nat.reduceEqDiff,Nat.reduceLT,↓all_qV,Int.reduceToNat,Int.reduceLT,Int.reduceLE,Nat.reduceAdd,Nat.reduceLeDiff,Nat.reduceMul]
      have b1:=i64_in (day+y) (by omega)
      refine ⟨hk,fun x1 h1 x2 h2 x3 h3=>?_⟩
      have b2:=i64_in (0-x3) (by omega)
      refine ⟨⟨by omega,by omega,by omega,by omega⟩,fun x4 h4=>⟨rfl,?_,Nat.le_refl _,by omega,by simp only [maxLen];omega,⟨i-1,day+y,acc++[recV (acc.length+1) (day+y) cc x4]⟩,?_,by simp only;omega,?_⟩⟩
      · intro e he
        simp only [List.mem_singleton] at he
        subst he;rfl
      · refine ⟨⟨by simp only;omega,by simp only;omega⟩,⟨by simp only;omega,by simp only;omega⟩,by simp only [List.length_append,List.length_cons,List.length_nil];omega,(fun e he=>?_),g7.add (show day<=day+y by omega)⟩
        simp only [List.mem_append,List.mem_singleton] at he
        rcases he with he | rfl
        · exact g6 e he
        · exact ⟨_,_,_,_,rfl,hcl,hcm,⟨by omega,by omega⟩,⟨by omega,by omega,by omega⟩⟩
      · refine ⟨?_,?_,rfl,rfl,rfl⟩
        · rw [b1];simp [fitR,look]
        · rw [b1,hal,List.take_length];simp [fitH,hget,recV]
    · have c0:decide (0<i)=false:=by simp;omega
      simp only [c0,Nat.reduceBEq,go_sem,↓reduceIte,reduceCtorEq,Nat.reduceEqDiff,Nat.reduceLT,↓all_qVs,Int.reduceToNat,Int.reduceLT,Int.reduceLE,Nat.reduceAdd,Nat.reduceLeDiff,Nat.reduceMul]
      rw [List.take_length]
      exact ⟨Nat.le_refl _,acc,rfl,⟨by omega,(by rw [<- hle] at g6;exact g6),day,g7⟩⟩
end Go.AM
