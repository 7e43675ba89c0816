/-
  A part of a proof.
-/
import Derived.Test.YteiphfohadlgiaaGreatDoorYF
import Derived.Test.YteiphfohadlgiaaGreatDoorY5c
set_option linter.unusedSimpArgs false
set_option linter.unusedVariables false
namespace Go.AM
open Go Go.Proofs Go.IntWalk
set_option maxRecDepth 100000
set_option maxHeartbeats 1000000
def msF:List Int->Int->Int × Int
  | [],acc=>(acc,0)
  | x::r,acc=>bif !totB x||!totB (IntKind.i64.wrap (acc+x)) then (0,2) else msF r (IntKind.i64.wrap (acc+x))
def shA (rs:List PV) (y d:Int):List PV->List Int->List Int × Int
  | [],acc=>(acc,0)
  | x::r,acc=>bif (shrF (pctOf x) (recF rs (srcOf x) y d)).2 != 0 then ([],(shrF (pctOf x) (recF rs (srcOf x) y d)).2) else shA rs y d r (acc++[(shrF (pctOf x) (recF rs (srcOf x) y d)).1])
def sharesF (L:Law) (rs:List PV) (y d:Int):List Int × Int:=bif chkF L rs != 0 then ([],chkF L rs) else shA rs y d L.d []
def ownF (c:List UInt8):List PV->List Int->List Int
  | [],_=>[]
  | _,[]=>[]
  | x::r,n::s=>bif earC x == c then n::ownF c r s else ownF c r s
def earnF (L:Law) (rs:List PV) (c:List UInt8) (y d:Int):Int × Int:=
  bif (sharesF L rs y d).2 != 0 then (0,(sharesF L rs y d).2) else msF (ownF c L.d (sharesF L rs y d).1) 0
def kidsF (L:Law) (rs:List PV) (y d:Int):List Int:=(chC (L.tree.map hCode) []).map (fun c=>recF rs c y d)
def restG (all sh:List Int):Int × Int:=bif (msF all 0).2 != 0 then (0,(msF all 0).2) else bif (msF sh 0).2 != 0 then (0,(msF sh 0).2) else msF [(msF all 0).1,IntKind.i64.wrap (0-(msF sh 0).1)] 0
def restF (L:Law) (rs:List PV) (y d:Int):Int × Int:=
  bif (sharesF L rs y d).2 != 0 then (0,(sharesF L rs y d).2) else restG (kidsF L rs y d) (sharesF L rs y d).1
def adF:List Int->Int->Int × Int
  | [],acc=>(acc,0)
  | x::r,acc=>bif (addF acc x).2 != 0 then (0,(addF acc x).2) else adF r (addF acc x).1
theorem totB_iff {n:Int}:totB n=true↔(-1000000000000000<=n/\n<=1000000000000000):=by unfold totB;simp
theorem adF_ms:∀ (l:List Int) (acc:Int),totB acc=true->adF l acc=msF l acc
  | [],_,_=>rfl
  | x::r,acc,h=>by
    rw [adF,msF]
    have e:addF acc x=bif !totB x||!totB (IntKind.i64.wrap (acc+x)) then (0,2) else (IntKind.i64.wrap (acc+x),0):=by
      unfold addF;rw [h];rfl
    rw [e]
    cases h1:(!totB x||!totB (IntKind.i64.wrap (acc+x))) with
    | true=>rfl
    | false=>
      rw [cond_false,cond_false]
      show (bif (0:Int) != 0 then _ else _)=_
      rw [bne_self_eq_false,cond_false]
      refine adF_ms r _ ?_
      rw [Bool.or_eq_false_iff] at h1
      simpa using h1.2
theorem msF_tot:∀ (l:List Int) (acc:Int),totB acc=true->totB (msF l acc).1=true
  | [],_,h=>h
  | x::r,acc,h=>by
    rw [msF]
    cases h1:(!totB x||!totB (IntKind.i64.wrap (acc+x))) with
    | true=>rfl
    | false=>
      rw [cond_false]
      rw [Bool.or_eq_false_iff] at h1
      exact msF_tot r _ (by simpa using h1.2)
theorem msF_good:∀ (l:List Int) (acc:Int),(∀ x,x∈l->0<=x)->0<=acc->acc+sumL l<=1000000000000000->msF l acc=(acc+sumL l,0)
  | [],acc,_,_,_=>by simp [msF,sumL]
  | x::r,acc,h,h0,h1=>by
    have hx:=h x (by simp)
    have hr:0<=sumL r:=by
      have:∀ l:List Int,(∀ x,x∈l->0<=x)->0<=sumL l:=by
        intro l
        induction l with
        | nil=>intro _;exact Int.le_refl _
        | cons a t ih=>intro h;have:=h a (by simp);have:=ih (fun x hx=>h x (by simp [hx]));rw [sumL];omega
      exact this r (fun x hx=>h x (by simp [hx]))
    rw [sumL] at h1 ⊢
    rw [msF]
    have hw:IntKind.i64.wrap (acc+x)=acc+x:=i64_in _ (by omega)
    have t1:totB x=true:=totB_iff.2 (by omega)
    have t2:totB (acc+x)=true:=totB_iff.2 (by omega)
    rw [hw,t1,t2]
    show msF r (acc+x)=_
    rw [msF_good r (acc+x) (fun x hx=>h x (by simp [hx])) (by omega) (by omega)]
    rw [Int.add_assoc]
def subF:List Int->Int->Int × Int
  | [],acc=>(acc,0)
  | x::r,acc=>bif (addF acc (IntKind.i64.wrap (0-x))).2 != 0 then (0,(addF acc (IntKind.i64.wrap (0-x))).2) else subF r (addF acc (IntKind.i64.wrap (0-x))).1
def restR (all sh:List Int):Int × Int:=bif (adF all 0).2 != 0 then (0,(adF all 0).2) else subF sh (adF all 0).1
theorem addF_ok {a b:Int} (ha:totB a=true) (hb:totB b=true):addF a b=bif !totB (a+b) then (0,2) else (a+b,0):=by
  have h1:=totB_iff.1 ha
  have h2:=totB_iff.1 hb
  unfold addF
  rw [ha,hb,i64_in _ (by omega)]
  rfl
theorem subF_all:∀ (l:List Int) (acc:Int),totB acc=true->(∀ x,x∈l->0<=x/\x<=1000000000000000)->subF l acc=bif !totB (acc-sumL l) then (0,2) else (acc-sumL l,0)
  | [],acc,h,_=>by
    have:acc-sumL []=acc:=by simp [sumL]
    rw [this,h];rfl
  | x::r,acc,h,hx=>by
    have h1:=hx x (by simp)
    have ha:=totB_iff.1 h
    have hr:0<=sumL r:=by
      have:∀ l:List Int,(∀ x,x∈l->0<=x/\x<=1000000000000000)->0<=sumL l:=by
        intro l
        induction l with
        | nil=>intro _;exact Int.le_refl _
        | cons a t ih=>intro h;have:=h a (by simp);have:=ih (fun x hx=>h x (by simp [hx]));rw [sumL];omega
      exact this r (fun x hy=>hx x (by simp [hy]))
    rw [subF,i64_in (0-x) (by omega),addF_ok h (totB_iff.2 (by omega)),sumL]
    cases ht:totB (acc+(0-x)) with
    | true=>
      show subF r (acc+(0-x))=_
      rw [subF_all r _ ht (fun y hy=>hx y (by simp [hy]))]
      have:acc+(0-x)-sumL r=acc-(x+sumL r):=by omega
      rw [this]
    | false=>
      have h9:totB (acc-(x+sumL r))=false:=by
        cases h8:totB (acc-(x+sumL r)) with
        | false=>rfl
        | true=>
          have:=totB_iff.1 h8
          have:totB (acc+(0-x))=true:=totB_iff.2 (by omega)
          rw [ht] at this;cases this
      rw [h9];rfl
theorem restR_eq {all sh:List Int} (h:∀ x,x∈sh->0<=x) (hs:sumL sh<=1000000000000000):restR all sh=restG all sh:=by
  have h0:totB 0=true:=by decide
  have hle:∀ l:List Int,(∀ x,x∈l->0<=x)->0<=sumL l/\∀ x,x∈l->x<=sumL l:=by
    intro l
    induction l with
    | nil=>intro _;exact ⟨Int.le_refl _,by simp⟩
    | cons a t ih=>
      intro h
      have h1:=h a (by simp)
      obtain ⟨h2,h3⟩:=ih (fun x hx=>h x (by simp [hx]))
      rw [sumL]
      refine ⟨by omega,fun x hx=>?_⟩
      simp only [List.mem_cons] at hx
      rcases hx with rfl | hx
      · omega
      · have:=h3 x hx;omega
  obtain ⟨hs0,hs1⟩:=hle sh h
  unfold restR restG
  rw [adF_ms all 0 h0]
  have ht:=msF_tot all 0 h0
  generalize msF all 0=m at ht ⊢
  obtain ⟨S,e⟩:=m
  simp only at ht ⊢
  cases he:e != 0 with
  | true=>rfl
  | false=>
    have hS:=totB_iff.1 ht
    rw [cond_false,cond_false,msF_good sh 0 h (Int.le_refl _) (by omega),subF_all sh S ht (fun x hx=>⟨h x hx,by have:=hs1 x hx;omega⟩)]
    show _=msF [S,IntKind.i64.wrap (0-(0+sumL sh))] 0
    have w1:IntKind.i64.wrap (0-(0+sumL sh))= - sumL sh:=by rw [i64_in _ (by omega)];omega
    have w2:IntKind.i64.wrap (0+S)=S:=by rw [i64_in _ (by omega)];omega
    have w3:IntKind.i64.wrap (S+ - sumL sh)=S-sumL sh:=by rw [i64_in _ (by omega)];omega
    have t1:totB (- sumL sh)=true:=totB_iff.2 (by omega)
    rw [w1,msF,w2,ht,msF,t1,w3,msF]
    simp only [Bool.not_true,Bool.false_or,cond_false]
def wtR:PV->Int
  | .agg [_,_,_,.int _ a]=>bif amt a then (if a<0 then -a else a) else 0
  | _=>0
def rCode:PV->List UInt8
  | .agg [_,_,.str c,_]=>c
  | _=>[]
theorem wtR_le (e:PV):0<=wtR e/\wtR e<=1000000000000:=by
  unfold wtR
  split
  · rename_i a
    cases h:amt a with
    | false=>simp
    | true=>
      unfold amt at h
      simp only [Bool.and_eq_true,decide_eq_true_eq] at h
      rw [cond_true]
      split <;> omega
  · simp
theorem cntR_wt {x:PV} (h:isR x) (src:List UInt8) (y d:Int):cntR src y d x<=if undC (rCode x) src=true then wtR x else 0:=by
  obtain ⟨n,dd,c,a,rfl,_⟩:=h
  have e1:rCode (recV n dd c a)=c:=rfl
  rw [e1]
  simp only [recV,cntR,wtR]
  cases h2:undC c src <;> cases h3:amt a <;> simp <;> (try split) <;> (try split) <;> omega
def PR (c:List UInt8) (es:List PV):Int:=sumL (es.map (fun e=>if undC c (srcOf e)=true then pctOf e else 0))
def HR (rs:List PV) (es:List PV):Int:=sumL (rs.map (fun x=>wtR x * PR (rCode x) es))
theorem HR_nil:∀ rs:List PV,HR rs []=0
  | []=>rfl
  | x::r=>by
    have:=HR_nil r
    unfold HR at this ⊢
    rw [List.map_cons,sumL,this]
    simp [PR,sumL]
theorem HR_cons (e:PV) (es:List PV):∀ rs:List PV,HR rs (e::es)=pctOf e * sumL (rs.map (fun x=>if undC (rCode x) (srcOf e)=true then wtR x else 0))+HR rs es
  | []=>by simp [HR,sumL]
  | x::r=>by
    have ih:=HR_cons e es r
    unfold HR at ih ⊢
    rw [List.map_cons,List.map_cons,List.map_cons,sumL,sumL,sumL,ih]
    have hP:PR (rCode x) (e::es)=(if undC (rCode x) (srcOf e)=true then pctOf e else 0)+PR (rCode x) es:=rfl
    rw [hP,Int.mul_add,Int.mul_add]
    cases undC (rCode x) (srcOf e) with
    | true=>rw [if_pos rfl,if_pos rfl,Int.mul_comm (wtR x) (pctOf e)];omega
    | false=>rw [if_neg (by decide),if_neg (by decide),Int.mul_zero,Int.mul_zero];omega
theorem rec_wt {src:List UInt8} {y d:Int}:∀ {rs:List PV},(∀ x,x∈rs->isR x)->sumL (rs.map (cntR src y d))<=sumL (rs.map (fun x=>if undC (rCode x) src=true then wtR x else 0))
  | [],_=>Int.le_refl _
  | x::r,h=>by
    have h1:=cntR_wt (h x (by simp)) src y d
    have h2:=rec_wt (src:=src) (y:=y) (d:=d) (rs:=r) (fun z hz=>h z (by simp [hz]))
    rw [List.map_cons,List.map_cons,sumL,sumL]
    omega
theorem wt_pos (src:List UInt8):∀ rs:List PV,0<=sumL (rs.map (fun x=>if undC (rCode x) src=true then wtR x else 0))
  | []=>Int.le_refl _
  | x::r=>by
    have h1:=(wtR_le x).1
    have h2:=wt_pos src r
    rw [List.map_cons,sumL]
    split <;> omega
theorem shares_le {rs:List PV} (hR:∀ x,x∈rs->isR x) (hl:rs.length<=1000) (y d:Int):∀ (es:List PV) (acc:List Int),(∀ e,e∈es->0<=pctOf e/\pctOf e<=100)->
    (shA rs y d es acc).2=0/\∃ l:List Int,(shA rs y d es acc).1=acc++l/\l.length=es.length/\(∀ x,x∈l->0<=x)/\100 * sumL l<=HR rs es
  | [],acc,_=>⟨rfl,[],by simp [shA],rfl,by simp,by rw [HR_nil];decide⟩
  | e::es,acc,h=>by
    have hp:=h e (by simp)
    have hb:=recF_le rs (srcOf e) y d
    have hrec:recF rs (srcOf e) y d<=sumL (rs.map (fun x=>if undC (rCode x) (srcOf e)=true then wtR x else 0)):=by
      unfold recF
      rw [List.take_of_length_le hl]
      exact rec_wt hR
    have hw:=wt_pos (srcOf e) rs
    have hq:shrF (pctOf e) (recF rs (srcOf e) y d)=((if recF rs (srcOf e) y d<0 then 0 else recF rs (srcOf e) y d) * pctOf e / 100,0):=by
      unfold shrF
      rw [if_neg]
      simp;omega
    rw [shA,hq]
    simp only [bne_self_eq_false,cond_false]
    obtain ⟨h1,l,h2,h3,h4,h5⟩:=shares_le hR hl y d es (acc++[(if recF rs (srcOf e) y d<0 then 0 else recF rs (srcOf e) y d) * pctOf e / 100]) (fun x hx=>h x (by simp [hx]))
    have hHR:=HR_cons e es rs
    generalize sumL (rs.map (fun x=>if undC (rCode x) (srcOf e)=true then wtR x else 0))=W at hrec hw hHR
    generalize hn:(if recF rs (srcOf e) y d<0 then 0 else recF rs (srcOf e) y d)=n at * 
    have hn0:0<=n/\n<=W:=by rw [<- hn];split <;> omega
    have hm0:0<=n * pctOf e:=Int.mul_nonneg hn0.1 hp.1
    have hm1:n * pctOf e<=pctOf e * W:=by rw [Int.mul_comm n];exact Int.mul_le_mul_of_nonneg_left hn0.2 hp.1
    refine ⟨h1,n * pctOf e / 100::l,?_,by simp [h3],?_,?_⟩
    · rw [h2];simp
    · intro x hx
      simp only [List.mem_cons] at hx
      rcases hx with rfl | hx
      · omega
      · exact h4 x hx
    · rw [sumL,hHR]
      generalize n * pctOf e=m at hm0 hm1
      generalize pctOf e * W=w at hm1
      omega
theorem HR_le {rs es:List PV} (h:∀ x,x∈rs->PR (rCode x) es<=100) (hn:∀ c,0<=PR c es):∀ {l:List PV},(∀ x,x∈l->x∈rs)->HR l es<=100000000000000 * (l.length:Int)
  | [],_=>by simp [HR,sumL]
  | x::r,hs=>by
    have ih:=HR_le h hn (l:=r) (fun z hz=>hs z (by simp [hz]))
    have h1:=h x (hs x (by simp))
    have h2:=hn (rCode x)
    have h3:=wtR_le x
    have h4:wtR x * PR (rCode x) es<=1000000000000 * 100:=Int.le_trans (Int.mul_le_mul_of_nonneg_left h1 h3.1) (Int.mul_le_mul_of_nonneg_right h3.2 (by decide))
    have e:HR (x::r) es=wtR x * PR (rCode x) es+HR r es:=rfl
    rw [e]
    simp only [List.length_cons]
    omega
set_option maxHeartbeats 2000000
def on_plsii (p:PV->List PV->List UInt8->Int->Int->Prop) (f:PV->List PV->List UInt8->Int->Int->PV):PSpec
  | [a0,.sl a1,.str a2,.int .i64 a3,.int .i64 a4]=>(p a0 a1 a2 a3 a4,f a0 a1 a2 a3 a4)
  | _=>(False,default)
theorem on_plsii_eq {p:PV->List PV->List UInt8->Int->Int->Prop} {f:PV->List PV->List UInt8->Int->Int->PV} {a0:PV} {a1:List PV} {a2:List UInt8} {a3:Int} {a4:Int}:on_plsii p f [a0,.sl a1,.str a2,.int .i64 a3,.int .i64 a4]=(p a0 a1 a2 a3 a4,f a0 a1 a2 a3 a4):=rfl
theorem on_plsii_inv {p:PV->List PV->List UInt8->Int->Int->Prop} {f:PV->List PV->List UInt8->Int->Int->PV} {args:List PV} (h:(on_plsii p f args).1):∃ a0:PV,∃ a1:List PV,∃ a2:List UInt8,∃ a3:Int,∃ a4:Int,args=[a0,.sl a1,.str a2,.int .i64 a3,.int .i64 a4]/\p a0 a1 a2 a3 a4:=by
  unfold on_plsii at h
  split at h
  · exact ⟨_,_,_,_,_,rfl,h⟩
  · exact h.elim
noncomputable def totS:PSpec:=on_i (fun _=>True) (fun n=>.bool (totB n))
theorem w_totS:PSound GG 47 totS:=by
  refine PSound.of_wpc (C:=cxP Tryz.prog C4 [] 9) (T:=plan0) Tryz.func47 rfl rfl rfl (Fit.pure (G:=GG) hC4 mixed) (fun args h=>?_)
  unfold totS at h
  obtain ⟨n,rfl,hp⟩:=on_i_inv h
  refine ⟨by simp [cxP],?_⟩
  simp only [totS,on_i_eq,Tryz.f47,argL,plan0]
  simp only [go_sem,↓reduceIte,reduceCtorEq,Nat.reduceEqDiff,Nat.reduceLT,↓all_qV,Int.reduceToNat,Int.reduceLT,Int.reduceLE,Nat.reduceAdd,Nat.reduceLeDiff,Nat.reduceMul]
  rfl
noncomputable def C5 (g:FuncId):PSpec:=(putΦ C4 47 totS) g
theorem hC5:TabSound GG C5:=(hC4.put w_totS)
noncomputable def msS:PSpec:=on_l (fun es=>allI es/\es.length<=4611686018427387904) (fun es=>.tup [.int .i64 (msF (es.map nOf) 0).1,.int .i64 (msF (es.map nOf) 0).2])
theorem map_nOf (l:List Int):(l.map intV).map nOf=l:=by simp [List.map_map,Function.comp_def,nOf,intV]
theorem k_msS_47 {args:List PV}:C5 47 args=totS args:=rfl
theorem w_msS:PSound GG 32 msS:=by
  refine PSound.of_wpc (C:=cxP Tryz.prog C5 [] 28) (T:=plan0) Tryz.func32 rfl rfl rfl (Fit.pure (G:=GG) hC5 mixed) (fun args h=>?_)
  unfold msS at h
  obtain ⟨es,rfl,hp⟩:=on_l_inv h
  refine ⟨by simp [cxP],?_⟩
  simp only [msS,on_l_eq,Tryz.f32,argL,plan0]
  obtain ⟨⟨l,rfl⟩,hn⟩:=hp
  simp only [List.length_map] at hn
  simp only [map_nOf,List.length_map,go_sem,↓reduceIte,reduceCtorEq,Nat.reduceEqDiff,Nat.reduceLT,↓all_qV,Int.reduceToNat,Int.reduceLT,Int.reduceLE,Nat.reduceAdd,Nat.reduceLeDiff,Nat.reduceMul]
  refine AWp.loop (T:=plan0) (α:=Nat × Int) (fun x=>([(4,.pv (.int .i64 x.2)),(7,.pv (.sl (l.map intV))),(8,.pv (.int .i64 l.length)),(9,.pv (.int .i64 x.1))],[])) (fun x=>x.1<=l.length/\msF (l.drop x.1) x.2=msF l 0) (fun x=>l.length-x.1)
    ⟨(0,0),⟨Nat.zero_le _,rfl⟩,⟨by simp [fitR,look],trivial,rfl,rfl,rfl⟩⟩ ?_
  rintro ⟨i,acc⟩ ⟨h1,h2⟩
  simp only at h1 h2
  have hi1:IntKind.i64.wrap ((i:Int)+1)=((i+1:Nat):Int):=by rw [i64_in _ (by omega)];omega
  by_cases hlt:i<l.length
  · have c0:decide ((i:Int)<(l.length:Int))=true:=by simp;omega
    have k1:=getD_intV hlt
    have d1:l.drop i=l.getD i 0::l.drop (i+1):=by rw [List.drop_eq_getElem_cons hlt];simp [List.getD_eq_getElem?_getD,hlt]
    rw [d1,msF] at h2
    generalize l.getD i 0=n at h2 k1
    simp only [c0,k1,hi1,List.length_map,k_msS_47,totS,on_i_eq,plan0,go_sem,↓reduceIte,reduceCtorEq,Nat.reduceEqDiff,Nat.reduceLT,↓all_qV,Int.reduceToNat,Int.reduceLT,Int.reduceLE,Nat.reduceAdd,Nat.reduceLeDiff,Nat.reduceMul]
    refine ⟨⟨by omega,by omega⟩,fun h9=>by simpa using h9,fun h9=>?_,fun h9=>⟨(i+1,IntKind.i64.wrap (acc+n)),⟨by simp only;omega,?_⟩,by simp only;omega,⟨by simp [fitR,look],trivial,rfl,rfl,rfl⟩⟩⟩
    · rw [h9,cond_true] at h2
      rw [<- h2]
    · rw [h9,cond_false] at h2
      exact h2
  · have c0:decide ((i:Int)<(l.length:Int))=false:=by simp;omega
    rw [List.drop_eq_nil_of_le (by omega),msF] at h2
    simp only [c0,plan0,go_sem,↓reduceIte,reduceCtorEq,Nat.reduceEqDiff,Nat.reduceLT,↓all_qV,Int.reduceToNat,Int.reduceLT,Int.reduceLE,Nat.reduceAdd,Nat.reduceLeDiff,Nat.reduceMul]
    rw [<- h2]
noncomputable def C6 (g:FuncId):PSpec:=(putΦ C5 32 msS) g
theorem hC6:TabSound GG C6:=(hC5.put w_msS)
noncomputable def maddS:PSpec:=on_ii (fun _ _=>True) (fun a b=>.tup [.int .i64 (msF [a,b] 0).1,.int .i64 (msF [a,b] 0).2])
theorem k_maddS_32 {args:List PV}:C6 32 args=msS args:=rfl
theorem w_maddS:PSound GG 38 maddS:=by
  refine PSound.of_wpc (C:=cxP Tryz.prog C6 [] 12) (T:=plan0) Tryz.func38 rfl rfl rfl (Fit.pure (G:=GG) hC6 mixed) (fun args h=>?_)
  unfold maddS at h
  obtain ⟨a,b,rfl,hp⟩:=on_ii_inv h
  refine ⟨by simp [cxP],?_⟩
  simp only [maddS,on_ii_eq,Tryz.f38,argL,plan0]
  have e:List.map nOf [PV.int .i64 a,.int .i64 b]=[a,b]:=rfl
  have hl:allI [PV.int .i64 a,.int .i64 b]:=⟨[a,b],rfl⟩
  simp only [e,nOf,List.map_cons,List.map_nil,List.length_cons,List.length_nil,k_maddS_32,msS,on_l_eq,go_sem,↓reduceIte,reduceCtorEq,Nat.reduceEqDiff,Nat.reduceLT,↓all_qV,Int.reduceToNat,Int.reduceLT,Int.reduceLE,Nat.reduceAdd,Nat.reduceLeDiff,Nat.reduceMul,ev_callG,gcallK_b,gcallK_w,callGc_true,callGc_false,List.forall_mem_cons,List.not_mem_nil,PV.one,AV.one]
  exact hl
noncomputable def C7 (g:FuncId):PSpec:=(putΦ C6 38 maddS) g
theorem hC7:TabSound GG C7:=(hC6.put w_maddS)
def factP (l:PV) (rs:List PV):Prop:=(∃ L:Law,l=L.v/\LawS L)/\(∀ x,x∈rs->isR x)/\rs.length<=1000000000
noncomputable def sharesES:PSpec:=on_plii (fun l rs _ _=>factP l rs) (fun l rs y d=>.tup [.sl ((sharesF (lawO l) rs y d).1.map intV),.int .i64 (sharesF (lawO l) rs y d).2])
theorem k_sharesES_18 {args:List PV}:C7 18 args=shareS args:=rfl
theorem k_sharesES_34 {args:List PV}:C7 34 args=checkS args:=rfl
theorem w_sharesES:PSound GG 13 sharesES:=by
  refine PSound.of_wpc (C:=cxP Tryz.prog C7 [] 46) (T:=plan0) Tryz.func13 rfl rfl rfl (Fit.pure (G:=GG) hC7 mixed) (fun args h=>?_)
  unfold sharesES at h
  obtain ⟨l,rs,yr,dd,rfl,hp⟩:=on_plii_inv h
  refine ⟨by simp [cxP],?_⟩
  simp only [sharesES,on_plii_eq,Tryz.f13,argL,plan0]
  obtain ⟨⟨⟨fi,ye,tr,la,lb,lc,ld,le,lf,lg⟩,rfl,hS⟩,hR,hrl⟩:=hp
  have hV:∃ L':Law,lawV fi ye tr la lb lc ld le lf lg=L'.v/\LawS L':=⟨_,rfl,hS⟩
  have hea:=hS.d
  have hdl:=hS.dl
  rw [lawO_v]
  have hvo:lawO (lawV fi ye tr la lb lc ld le lf lg)=⟨fi,ye,tr,la,lb,lc,ld,le,lf,lg⟩:=rfl
  unfold sharesF
  obtain ⟨V,hVf⟩:∃ V,chkF ⟨fi,ye,tr,la,lb,lc,ld,le,lf,lg⟩ rs=V:=⟨_,rfl⟩
  rw [hVf]
  clear hS
  simp only [lawV] at hV hvo hea hdl
  simp only [Law.v,lawV,hvo,hVf,List.take_succ_cons,List.take_nil,k_sharesES_18,shareS,on_plii_eq,k_sharesES_34,checkS,on_pl_eq,go_sem,↓reduceIte,reduceCtorEq,Nat.reduceEqDiff,Nat.reduceLT,↓all_qV,Int.reduceToNat,Int.reduceLT,Int.reduceLE,Nat.reduceAdd,Nat.reduceLeDiff,Nat.reduceMul,ev_callG,gcallK_b,gcallK_w,callGc_true,callGc_false,List.forall_mem_cons,List.not_mem_nil,PV.one,AV.one]
  refine ⟨⟨hV,hR,hrl⟩,fun g1=>by rw [g1];rfl,fun g1=>?_⟩
  rw [g1,cond_false]
  refine AWp.adoptS (s:=11) (κ:=8000) (k:=1) (by simp [look]) (by simp [hget]) (by decide) ?_
  refine AWp.loop (T:=plan0) (α:=Nat × List Int) (fun y=>([(1,.pv (.sl rs)),(2,.pv (.int .i64 yr)),(3,.pv (.int .i64 dd)),(4,.ptr 4 0),(11,.rs 8000 y.2.length),(23,.pv (.sl ld)),(24,.pv (.int .i64 ld.length)),(25,.pv (.int .i64 y.1))],[(4,.cells [.pv (.int .i64 fi),.pv (.int .i64 ye),.pv (.sl tr),.pv (.sl la),.pv (.sl lb),.pv (.sl lc),.pv (.sl ld),.pv (.sl le),.pv (.sl lf),.pv (.sl lg)]),(8000,.row 1 (y.2.map intV))]))
    (fun y=>y.1<=ld.length/\y.2.length<=y.1/\shA rs yr dd ld []=shA rs yr dd (ld.drop y.1) y.2) (fun y=>ld.length-y.1)
    ⟨(0,[]),⟨Nat.zero_le _,Nat.zero_le _,rfl⟩,⟨by simp [fitR,look,upd],by simp [fitH,hget,hset],rfl,rfl,rfl⟩⟩ ?_
  rintro ⟨i,acc⟩ ⟨h1,h3,h2⟩
  simp only at h1 h2 h3
  have hi1:IntKind.i64.wrap ((i:Int)+1)=((i+1:Nat):Int):=by rw [i64_in _ (by omega)];omega
  have tk:(acc.map intV).take acc.length=acc.map intV:=List.take_of_length_le (by simp)
  rw [h2]
  by_cases hlt:i<ld.length
  · have c0:decide ((i:Int)<(ld.length:Int))=true:=by simp;omega
    obtain ⟨s,c,p,he,hs,hc⟩:=hea _ (getD_mem hlt)
    have hdr:ld.drop i=ld.getD i default::ld.drop (i+1):=by rw [List.drop_eq_getElem_cons hlt];simp [List.getD_eq_getElem?_getD,hlt]
    have hE:∃ s1 c1 p1,PV.agg [.str s,.str c,.int .i64 p]=earV s1 c1 p1/\s1.length<=1000000000000:=⟨s,c,p,rfl,by omega⟩
    have ep:pctOf (.agg [.str s,.str c,.int .i64 p])=p:=rfl
    have es:srcOf (.agg [.str s,.str c,.int .i64 p])=s:=rfl
    rw [hdr,he,shA,ep,es]
    rw [hdr,he,shA,ep,es] at h2
    obtain ⟨⟨v,e⟩,hsh⟩:∃ r,shrF p (recF rs s yr dd)=r:=⟨_,rfl⟩
    rw [hsh] at h2 ⊢
    simp only at h2
    simp only [c0,he,hi1,ep,es,hsh,tk,List.length_map,List.take_succ_cons,List.take_nil,k_sharesES_18,shareS,on_plii_eq,k_sharesES_34,checkS,on_pl_eq,plan0,go_sem,↓reduceIte,reduceCtorEq,Nat.reduceEqDiff,Nat.reduceLT,↓all_qV,Int.reduceToNat,Int.reduceLT,Int.reduceLE,Nat.reduceAdd,Nat.reduceLeDiff,Nat.reduceMul,ev_callG,gcallK_b,gcallK_w,callGc_true,callGc_false,List.forall_mem_cons,List.not_mem_nil,PV.one,AV.one]
    refine ⟨⟨by omega,by omega⟩,⟨hE,hR,by omega⟩,fun g2=>by rw [g2];rfl,fun g2=>⟨rfl,Nat.le_refl _,by omega,by simp only [maxLen];omega,(i+1,acc++[v]),⟨by simp only;omega,by simp;omega,?_⟩,by simp only;omega,⟨by simp [fitR,look],by simp [fitH,hget,intV],rfl,rfl,rfl⟩⟩⟩
    rw [g2];rfl
  · have c0:decide ((i:Int)<(ld.length:Int))=false:=by simp;omega
    rw [List.drop_eq_nil_of_le (by omega),shA]
    simp only [c0,tk,List.length_map,plan0,go_sem,↓reduceIte,reduceCtorEq,Nat.reduceEqDiff,Nat.reduceLT,↓all_qV,Int.reduceToNat,Int.reduceLT,Int.reduceLE,Nat.reduceAdd,Nat.reduceLeDiff,Nat.reduceMul]
    exact Nat.le_refl _
noncomputable def C8 (g:FuncId):PSpec:=(putΦ C7 13 sharesES) g
theorem hC8:TabSound GG C8:=(hC7.put w_sharesES)
theorem shA_len (rs:List PV) (y d:Int):∀ (es:List PV) (acc:List Int),(shA rs y d es acc).2=0->(shA rs y d es acc).1.length=acc.length+es.length
  | [],acc,_=>by simp [shA]
  | x::r,acc,h=>by
    rw [shA] at h ⊢
    cases h1:(shrF (pctOf x) (recF rs (srcOf x) y d)).2 != 0 with
    | true=>
      rw [h1,cond_true] at h
      simp only at h
      rw [h] at h1
      cases h1
    | false=>
      rw [h1,cond_false] at h
      rw [cond_false,shA_len rs y d r _ h]
      simp only [List.length_append,List.length_cons,List.length_nil];omega
theorem sharesF_len {L:Law} {rs:List PV} {y d:Int} (h:(sharesF L rs y d).2=0):(sharesF L rs y d).1.length=L.d.length:=by
  unfold sharesF at h ⊢
  cases h1:chkF L rs != 0 with
  | true=>
    rw [h1,cond_true] at h
    simp only at h
    rw [h] at h1
    cases h1
  | false=>
    rw [h1,cond_false] at h
    rw [cond_false,shA_len rs y d _ _ h]
    simp
noncomputable def earnedS:PSpec:=on_plsii (fun l rs _ _ _=>factP l rs) (fun l rs c y d=>.tup [.int .i64 (earnF (lawO l) rs c y d).1,.int .i64 (earnF (lawO l) rs c y d).2])
theorem k_earnedS_13 {args:List PV}:C8 13 args=sharesES args:=rfl
theorem k_earnedS_32 {args:List PV}:C8 32 args=msS args:=rfl
theorem w_earnedS:PSound GG 11 earnedS:=by
  refine PSound.of_wpc (C:=cxP Tryz.prog C8 [] 52) (T:=plan0) Tryz.func11 rfl rfl rfl (Fit.pure (G:=GG) hC8 mixed) (fun args h=>?_)
  unfold earnedS at h
  obtain ⟨l,rs,code,yr,dd,rfl,hp⟩:=on_plsii_inv h
  refine ⟨by simp [cxP],?_⟩
  simp only [earnedS,on_plsii_eq,Tryz.f11,argL,plan0]
  have hp0:=hp
  obtain ⟨⟨⟨fi,ye,tr,la,lb,lc,ld,le,lf,lg⟩,rfl,hS⟩,hR,hrl⟩:=hp
  have hea:=hS.d
  have hdl:=hS.dl
  rw [lawO_v]
  have hvo:lawO (lawV fi ye tr la lb lc ld le lf lg)=⟨fi,ye,tr,la,lb,lc,ld,le,lf,lg⟩:=rfl
  unfold earnF
  have hlen:=sharesF_len (L:=⟨fi,ye,tr,la,lb,lc,ld,le,lf,lg⟩) (rs:=rs) (y:=yr) (d:=dd)
  obtain ⟨⟨sh,V⟩,hVf⟩:∃ V,sharesF ⟨fi,ye,tr,la,lb,lc,ld,le,lf,lg⟩ rs yr dd=V:=⟨_,rfl⟩
  rw [hVf] at hlen ⊢
  clear hS
  simp only [Law.v,lawV] at hp0 hvo hea hdl hlen
  simp only [Law.v,lawV,hvo,hVf,List.length_map,List.take_succ_cons,List.take_nil,k_earnedS_13,sharesES,on_plii_eq,k_earnedS_32,msS,on_l_eq,go_sem,↓reduceIte,reduceCtorEq,Nat.reduceEqDiff,Nat.reduceLT,↓all_qV,Int.reduceToNat,Int.reduceLT,Int.reduceLE,Nat.reduceAdd,Nat.reduceLeDiff,Nat.reduceMul,ev_callG,gcallK_b,gcallK_w,callGc_true,callGc_false,List.forall_mem_cons,List.not_mem_nil,PV.one,AV.one]
  refine ⟨hp0,fun g1=>by rw [g1];rfl,fun g1=>?_⟩
  rw [g1,cond_false]
  have hsl:=hlen (by simpa using g1)
  refine AWp.adoptS (s:=14) (κ:=8000) (k:=1) (by simp [look]) (by simp [hget]) (by decide) ?_
  refine AWp.loop (T:=plan0) (α:=Nat × List Int) (fun y=>([(2,.pv (.str code)),(5,.ptr 5 0),(12,.pv (.sl (sh.map intV))),(14,.rs 8000 y.2.length),(29,.pv (.sl ld)),(30,.pv (.int .i64 ld.length)),(31,.pv (.int .i64 y.1))],[(5,.cells [.pv (.int .i64 fi),.pv (.int .i64 ye),.pv (.sl tr),.pv (.sl la),.pv (.sl lb),.pv (.sl lc),.pv (.sl ld),.pv (.sl le),.pv (.sl lf),.pv (.sl lg)]),(8000,.row 1 (y.2.map intV))]))
    (fun y=>y.1<=ld.length/\y.2.length<=y.1/\ownF code ld sh=y.2++ownF code (ld.drop y.1) (sh.drop y.1)) (fun y=>ld.length-y.1)
    ⟨(0,[]),⟨Nat.zero_le _,Nat.zero_le _,rfl⟩,⟨by simp [fitR,look,upd],by simp [fitH,hget,hset],rfl,rfl,rfl⟩⟩ ?_
  rintro ⟨i,acc⟩ ⟨h1,h3,h2⟩
  simp only at h1 h2 h3
  have hi1:IntKind.i64.wrap ((i:Int)+1)=((i+1:Nat):Int):=by rw [i64_in _ (by omega)];omega
  have tk:(acc.map intV).take acc.length=acc.map intV:=List.take_of_length_le (by simp)
  by_cases hlt:i<ld.length
  · have c0:decide ((i:Int)<(ld.length:Int))=true:=by simp;omega
    obtain ⟨s,c,p,he,hs,hc⟩:=hea _ (getD_mem hlt)
    have hdr:ld.drop i=ld.getD i default::ld.drop (i+1):=by rw [List.drop_eq_getElem_cons hlt];simp [List.getD_eq_getElem?_getD,hlt]
    have hjlt:i<sh.length:=by omega
    have hds:sh.drop i=sh.getD i 0::sh.drop (i+1):=by rw [List.drop_eq_getElem_cons hjlt];simp [List.getD_eq_getElem?_getD,hjlt]
    have hgm:=getD_intV hjlt
    have hE:earC (.agg [.str s,.str c,.int .i64 p])=c:=rfl
    rw [hdr,hds,he,ownF,hE] at h2
    generalize sh.getD i 0=v at h2 hgm
    simp only [c0,he,hgm,hi1,tk,List.length_map,List.take_succ_cons,List.take_nil,k_earnedS_13,sharesES,on_plii_eq,k_earnedS_32,msS,on_l_eq,plan0,go_sem,↓reduceIte,reduceCtorEq,Nat.reduceEqDiff,Nat.reduceLT,↓all_qV,Int.reduceToNat,Int.reduceLT,Int.reduceLE,Nat.reduceAdd,Nat.reduceLeDiff,Nat.reduceMul,ev_callG,gcallK_b,gcallK_w,callGc_true,callGc_false,List.forall_mem_cons,List.not_mem_nil,PV.one,AV.one]
    refine ⟨⟨by omega,by omega⟩,fun h9=>⟨⟨by omega,by omega⟩,rfl,Nat.le_refl _,by omega,by simp only [maxLen];omega,(i+1,acc++[v]),⟨by simp only;omega,by simp;omega,?_⟩,by simp only;omega,⟨by simp [fitR,look],by simp [fitH,hget,intV],rfl,rfl,rfl⟩⟩,
      fun h9=>⟨(i+1,acc),⟨by simp only;omega,by simp only;omega,?_⟩,by simp only;omega,⟨by simp [fitR,look],by simp [fitH,hget],rfl,rfl,rfl⟩⟩⟩
    · rw [h2,h9,cond_true];simp
    · rw [h2,h9,cond_false]
  · have c0:decide ((i:Int)<(ld.length:Int))=false:=by simp;omega
    rw [List.drop_eq_nil_of_le (by omega),ownF,List.append_nil] at h2
    rw [h2]
    have hall:allI (acc.map intV):=⟨acc,rfl⟩
    simp only [c0,tk,map_nOf,List.length_map,k_earnedS_13,sharesES,on_plii_eq,k_earnedS_32,msS,on_l_eq,plan0,go_sem,↓reduceIte,reduceCtorEq,Nat.reduceEqDiff,Nat.reduceLT,↓all_qV,Int.reduceToNat,Int.reduceLT,Int.reduceLE,Nat.reduceAdd,Nat.reduceLeDiff,Nat.reduceMul,ev_callG,gcallK_b,gcallK_w,callGc_true,callGc_false,List.forall_mem_cons,List.not_mem_nil,PV.one,AV.one]
    first | exact ⟨⟨Nat.le_refl _,hall,by omega⟩,rfl⟩ | exact ⟨⟨Nat.le_refl _,hall⟩,by omega⟩ | exact ⟨Nat.le_refl _,hall,by omega⟩ | exact ⟨hall,by omega⟩
noncomputable def C9 (g:FuncId):PSpec:=(putΦ C8 11 earnedS) g
theorem hC9:TabSound GG C9:=(hC8.put w_earnedS)
noncomputable def restS:PSpec:=on_plii (fun l rs _ _=>factP l rs) (fun l rs y d=>.tup [.int .i64 (restF (lawO l) rs y d).1,.int .i64 (restF (lawO l) rs y d).2])
theorem k_restS_13 {args:List PV}:C9 13 args=sharesES args:=rfl
theorem k_restS_32 {args:List PV}:C9 32 args=msS args:=rfl
theorem k_restS_36 {args:List PV}:C9 36 args=chS args:=rfl
theorem k_restS_37 {args:List PV}:C9 37 args=receivedS args:=rfl
theorem k_restS_38 {args:List PV}:C9 38 args=maddS args:=rfl
theorem w_restS:PSound GG 15 restS:=by
  refine PSound.of_wpc (C:=cxP Tryz.prog C9 [] 67) (T:=plan0) Tryz.func15 rfl rfl rfl (Fit.pure (G:=GG) hC9 mixed) (fun args h=>?_)
  unfold restS at h
  obtain ⟨l,rs,yr,dd,rfl,hp⟩:=on_plii_inv h
  refine ⟨by simp [cxP],?_⟩
  simp only [restS,on_plii_eq,Tryz.f15,argL,plan0]
  have hp0:=hp
  obtain ⟨⟨⟨fi,ye,tr,la,lb,lc,ld,le,lf,lg⟩,rfl,hS⟩,hR,hrl⟩:=hp
  have hdl:=hS.dl
  have hH:=hS.isH
  have htl:=hS.tl
  have hkm:∀ c,c∈chC (tr.map hCode) []->c.length<=1000000000000:=fun c hc=>by
    obtain ⟨e,he,rfl⟩:=List.mem_map.1 (List.mem_filter.1 hc).1
    obtain ⟨c,n,e1,h1,_⟩:=hS.tr e he
    rw [e1];exact h1
  rw [lawO_v]
  have hvo:lawO (lawV fi ye tr la lb lc ld le lf lg)=⟨fi,ye,tr,la,lb,lc,ld,le,lf,lg⟩:=rfl
  unfold restF kidsF
  have hlen:=sharesF_len (L:=⟨fi,ye,tr,la,lb,lc,ld,le,lf,lg⟩) (rs:=rs) (y:=yr) (d:=dd)
  obtain ⟨⟨sh,V⟩,hVf⟩:∃ V,sharesF ⟨fi,ye,tr,la,lb,lc,ld,le,lf,lg⟩ rs yr dd=V:=⟨_,rfl⟩
  rw [hVf] at hlen ⊢
  clear hS
  have hchl:(chC (tr.map hCode) []).length<=1000000:=by
    have:(chC (tr.map hCode) []).length<=(tr.map hCode).length:=List.length_filter_le _ _
    rw [List.length_map] at this
    simp only at htl
    omega
  simp only [Law.v,lawV] at hp0 hvo hdl hlen hH htl
  obtain ⟨ch,hch⟩:∃ ch,chC (tr.map hCode) []=ch:=⟨_,rfl⟩
  rw [hch] at hchl hkm
  simp only [Law.v,lawV,hvo,hVf,hch,List.length_map,List.length_nil,List.take_succ_cons,List.take_nil,k_restS_13,sharesES,on_plii_eq,k_restS_32,msS,on_l_eq,k_restS_36,chS,on_ls_eq,k_restS_37,receivedS,on_lsii_eq,k_restS_38,maddS,on_ii_eq,go_sem,↓reduceIte,reduceCtorEq,Nat.reduceEqDiff,Nat.reduceLT,↓all_qV,Int.reduceToNat,Int.reduceLT,Int.reduceLE,Nat.reduceAdd,Nat.reduceLeDiff,Nat.reduceMul,ev_callG,gcallK_b,gcallK_w,callGc_true,callGc_false,List.forall_mem_cons,List.not_mem_nil,PV.one,AV.one]
  refine ⟨hp0,fun g1=>by rw [g1];rfl,fun g1=>⟨⟨hH,by omega⟩,?_⟩⟩
  rw [g1,cond_false]
  have hsl:=hlen (by simpa using g1)
  refine AWp.adoptS (s:=12) (κ:=8000) (k:=1) (by simp [look]) (by simp [hget]) (by decide) ?_
  refine AWp.loop (T:=plan0) (α:=Nat) (fun i=>([(1,.pv (.sl rs)),(2,.pv (.int .i64 yr)),(3,.pv (.int .i64 dd)),(10,.pv (.sl (sh.map intV))),(12,.rs 8000 i),(30,.pv (.sl (ch.map PV.str))),(31,.pv (.int .i64 ch.length)),(32,.pv (.int .i64 i))],[(8000,.row 1 (((ch.take i).map fun c=>recF rs c yr dd).map intV))]))
    (fun i=>i<=ch.length) (fun i=>ch.length-i)
    ⟨0,Nat.zero_le _,⟨by simp [fitR,look,upd],by simp [fitH,hget,hset],rfl,rfl,rfl⟩⟩ ?_
  intro i h1
  have hi1:IntKind.i64.wrap ((i:Int)+1)=((i+1:Nat):Int):=by rw [i64_in _ (by omega)];omega
  have tkl:(((ch.take i).map fun c=>recF rs c yr dd).map intV).length=i:=by rw [List.length_map,List.length_map,List.length_take];omega
  have tk:(((ch.take i).map fun c=>recF rs c yr dd).map intV).take i=((ch.take i).map fun c=>recF rs c yr dd).map intV:=List.take_of_length_le (by omega)
  by_cases hlt:i<ch.length
  · have c0:decide ((i:Int)<(ch.length:Int))=true:=by simp;omega
    have hg:=getD_strs hlt
    have hsm:ch.getD i []∈ch:=by rw [List.getD_eq_getElem?_getD,List.getElem?_eq_getElem hlt];exact List.getElem_mem _
    have hs1:=hkm _ hsm
    have htk:ch.take (i+1)=ch.take i++[ch.getD i []]:=by rw [List.take_add_one];simp [List.getElem?_eq_getElem hlt,List.getD_eq_getElem?_getD]
    generalize ch.getD i []=s at hg hs1 hsm htk
    simp only [c0,hg,hi1,tk,tkl,List.length_map,List.take_succ_cons,List.take_nil,k_restS_13,sharesES,on_plii_eq,k_restS_32,msS,on_l_eq,k_restS_36,chS,on_ls_eq,k_restS_37,receivedS,on_lsii_eq,k_restS_38,maddS,on_ii_eq,plan0,go_sem,↓reduceIte,reduceCtorEq,Nat.reduceEqDiff,Nat.reduceLT,↓all_qV,Int.reduceToNat,Int.reduceLT,Int.reduceLE,Nat.reduceAdd,Nat.reduceLeDiff,Nat.reduceMul,ev_callG,gcallK_b,gcallK_w,callGc_true,callGc_false,List.forall_mem_cons,List.not_mem_nil,PV.one,AV.one]
    refine ⟨by omega,⟨hR,by omega⟩,rfl,by omega,by omega,by simp only [maxLen];omega,i+1,by omega,by omega,⟨by simp [fitR,look],?_,rfl,rfl,rfl⟩⟩
    rw [htk,List.map_append,List.map_append]
    simp [fitH,hget,intV]
  · have c0:decide ((i:Int)<(ch.length:Int))=false:=by simp;omega
    have e1:ch.take i=ch:=List.take_of_length_le (by omega)
    rw [e1] at tk tkl ⊢
    have hall:allI ((ch.map fun c=>recF rs c yr dd).map intV):=⟨_,rfl⟩
    have hal2:allI (sh.map intV):=⟨_,rfl⟩
    unfold restG
    obtain ⟨⟨S,e⟩,hms⟩:∃ r,msF (ch.map fun c=>recF rs c yr dd) 0=r:=⟨_,rfl⟩
    obtain ⟨⟨G,e'⟩,hms2⟩:∃ r,msF sh 0=r:=⟨_,rfl⟩
    simp only [hms,hms2]
    simp only [c0,tk,tkl,map_nOf,hms,hms2,List.length_map,k_restS_13,sharesES,on_plii_eq,k_restS_32,msS,on_l_eq,k_restS_36,chS,on_ls_eq,k_restS_37,receivedS,on_lsii_eq,k_restS_38,maddS,on_ii_eq,plan0,go_sem,↓reduceIte,reduceCtorEq,Nat.reduceEqDiff,Nat.reduceLT,↓all_qV,Int.reduceToNat,Int.reduceLT,Int.reduceLE,Nat.reduceAdd,Nat.reduceLeDiff,Nat.reduceMul,ev_callG,gcallK_b,gcallK_w,callGc_true,callGc_false,List.forall_mem_cons,List.not_mem_nil,PV.one,AV.one]
    exact ⟨⟨Nat.le_refl _,hall,by omega⟩,fun g2=>by rw [g2];rfl,fun g2=>⟨⟨hal2,by omega⟩,fun g3=>by rw [g2,g3];rfl,fun g3=>by rw [g2,g3];rfl⟩⟩
end Go.AM
