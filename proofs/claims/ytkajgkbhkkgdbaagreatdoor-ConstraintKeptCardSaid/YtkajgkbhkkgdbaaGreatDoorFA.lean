/-
  A part of a proof.
-/
import Derived.Test.YtkajgkbhkkgdbaaGreatDoorZ6
set_option linter.unusedSimpArgs false
set_option linter.unusedVariables false
namespace Go.AM
open Go Go.Proofs Go.IntWalk
set_option maxRecDepth 100000
set_option maxHeartbeats 1000000
theorem up_par {s:List UInt8} (h:isCode s=true):upF s=parC s:=by unfold upF parC;rw [h,cond_true,dotF_ldot]
theorem words_nodot:∀ s:List UInt8,(∀ x,x∈s->x≠46)->wordsOf s=[s]
 | [],_=>rfl
 | c::r,h=>by
   rw [wordsOf,if_neg (h c List.mem_cons_self),words_nodot r (fun x hx=>h x (List.mem_cons_of_mem _ hx))]
   rfl
theorem ldot_spec (s:List UInt8):∀ k,k<=s.length->(ldot s 46 k= -1/\∀ x,x∈s.take k->x≠46)\/(∃ m,m<k/\ldot s 46 k=(m:Int)/\s.getD m 0=46/\∀ x,x∈(s.take k).drop (m+1)->x≠46)
 | 0,_=>.inl ⟨rfl,fun x hx=>by simp at hx⟩
 | k+1,h=>by
   have ht:s.take (k+1)=s.take k++[s.getD k 0]:=by
    rw [List.take_add_one]
    simp [List.getElem?_eq_getElem (show k<s.length by omega),List.getD_eq_getElem?_getD]
   unfold ldot
   by_cases h1:s.getD k 0=46
   · rw [h1,show ((((46:UInt8).toNat:Int)) == 46)=true from rfl,cond_true]
     refine .inr ⟨k,by omega,rfl,h1,fun x hx=>?_⟩
     rw [List.drop_eq_nil_of_le (by rw [List.length_take];omega)] at hx
     cases hx
   · have h2:(((s.getD k 0).toNat:Int) == 46)=false:=by
       simp only [beq_eq_false_iff_ne,ne_eq]
       intro h3
       exact h1 (byte_eq _ (n:=46) (by omega))
     rw [h2,cond_false]
     rcases ldot_spec s k (by omega) with ⟨h3,h4⟩ | ⟨m,h3,h4,h5,h6⟩
     · refine .inl ⟨h3,fun x hx=>?_⟩
       rw [ht] at hx
       rcases List.mem_append.1 hx with hx | hx
       · exact h4 x hx
       · rw [List.mem_singleton] at hx;rw [hx];exact h1
     · refine .inr ⟨m,by omega,h4,h5,fun x hx=>?_⟩
       rw [ht,List.drop_append_of_le_length (by rw [List.length_take];omega)] at hx
       rcases List.mem_append.1 hx with hx | hx
       · exact h6 x hx
       · rw [List.mem_singleton] at hx;rw [hx];exact h1
theorem up_words (s:List UInt8):(upF s=[]/\wordsOf s=[s])\/((upF s).length<s.length/\∃ r,wordsOf s=wordsOf (upF s)++[r]):=by
 rcases ldot_spec s s.length (Nat.le_refl _) with ⟨h1,h2⟩ | ⟨m,h1,h2,h3,h4⟩
 · left
   rw [List.take_length] at h2
   exact ⟨by unfold upF;rw [h1];rfl,words_nodot s h2⟩
 · right
   rw [List.take_length] at h4
   have hs:s=s.take m++46::s.drop (m+1):=by
    have e:=(List.take_append_drop m s).symm
    rw [List.drop_eq_getElem_cons h1] at e
    rw [List.getD_eq_getElem?_getD,List.getElem?_eq_getElem h1] at h3
    simp only [Option.getD_some] at h3
    rw [h3] at e
    exact e
   have hu:upF s=s.take m:=by unfold upF;rw [h2];rfl
   refine ⟨by rw [hu,List.length_take];omega,s.drop (m+1),?_⟩
   rw [hu]
   conv=>lhs;rw [hs]
   rw [words_dot,words_nodot _ h4]
theorem goP_map':∀ (l acc:List Int),(∀ v,v∈l->1<=v/\v<=99)->goP acc (l.map Lib.itoa)=some (acc++l)
 | [],acc,_=>by rw [List.map_nil,goP_nil,List.append_nil]
 | n::r,acc,h=>by
   rw [List.map_cons,goP_cons,goW_itoa' (h n List.mem_cons_self)]
   simp only
   rw [goP_map' r _ (fun v hv=>h v (List.mem_cons_of_mem _ hv))]
   simp
theorem partsR_nil:partsR []=[]:=by decide +kernel
theorem parts_inj {a b:List UInt8} (h:0<(partsR a).length) (e:partsR a=partsR b):a=b:=by
 have h2:0<(partsR b).length:=by rw [<- e];exact h
 rw [<- joinD_words a,<- joinD_words b,(parts_words h).1,(parts_words h2).1,e]
theorem up_parts {s:List UInt8} (h:isCode s=true):partsR (upF s)=(partsR s).dropLast/\(upF s=[]↔(partsR s).length=1)/\(upF s).length<s.length:=by
 have h0:=isCode_pos.1 h
 obtain ⟨hw,hv⟩:=parts_words h0
 have h4:=partsR_len s
 have hs:s≠[]:=fun e=>by rw [e,partsR_nil] at h0;simp at h0
 rcases up_words s with ⟨h1,h2⟩ | ⟨h1,r,h2⟩
 · have hl:(partsR s).length=1:=by
     have:=congrArg List.length h2
     rw [hw,List.length_map] at this
     exact this
   refine ⟨?_,⟨fun _=>hl,fun _=>h1⟩,by rw [h1];exact List.length_pos_iff.2 hs⟩
   rw [h1,partsR_nil]
   match hp:partsR s,hl with
   | [x],_=>rfl
 · have hd:wordsOf (upF s)=((partsR s).dropLast).map Lib.itoa:=by
     have:=congrArg List.dropLast h2
     rw [List.dropLast_concat,hw,<- List.map_dropLast] at this
     exact this.symm
   have hp:partsR (upF s)=(partsR s).dropLast:=by
    unfold partsR
    rw [hd,goP_map' _ _ (fun v hv'=>hv v (List.dropLast_subset _ hv'))]
    simp only [List.nil_append]
    rw [if_neg (by rw [List.length_dropLast];omega)]
    rfl
   have hl:2<=(partsR s).length:=by
    have:=congrArg List.length h2
    obtain ⟨w,ws,e⟩:=wordsOf_ne (upF s)
    rw [hw,List.length_map,e] at this
    simp at this
    omega
   refine ⟨hp,⟨fun e=>?_,fun e=>by omega⟩,h1⟩
   rw [e,partsR_nil] at hp
   have:=congrArg List.length hp
   rw [List.length_dropLast] at this
   simp at this
   omega
theorem undC_iff {a b:List UInt8} (hb:isCode b=true):undC a b=true↔((partsR b).length<=(partsR a).length/\(partsR a).take (partsR b).length=partsR b):=by
 have:=isCode_pos.1 hb
 unfold undC
 simp only [Bool.and_eq_true,decide_eq_true_eq,beq_iff_eq]
 exact ⟨fun ⟨⟨_,x⟩,y⟩=>⟨x,y⟩,fun ⟨x,y⟩=>⟨⟨this,x⟩,y⟩⟩
theorem undC_nil {b:List UInt8}:undC [] b=false:=by
 unfold undC
 rw [partsR_nil]
 cases hb:partsR b with
 | nil=>rfl
 | cons x r=>simp
theorem und_step {c e:List UInt8} (hc:isCode c=true) (he:isCode e=true):undC c e=(c == e||undC (upF c) e):=by
 obtain ⟨hp,_,_⟩:=up_parts hc
 have h0:=isCode_pos.1 hc
 rw [Bool.eq_iff_iff,Bool.or_eq_true,undC_iff he,undC_iff he,hp,List.length_dropLast,beq_iff_eq]
 constructor
 · rintro ⟨h1,h2⟩
   by_cases h3:(partsR e).length=(partsR c).length
   · left
     rw [h3,List.take_length] at h2
     exact parts_inj h0 h2
   · right
     refine ⟨by omega,?_⟩
     rw [List.dropLast_eq_take,List.take_take,Nat.min_eq_left (by omega)]
     exact h2
 · rintro (h | ⟨h1,h2⟩)
   · rw [h,List.take_length];exact ⟨Nat.le_refl _,rfl⟩
   · rw [List.dropLast_eq_take,List.take_take,Nat.min_eq_left (by omega)] at h2
     exact ⟨by omega,h2⟩
theorem und_up_self {c:List UInt8} (hc:isCode c=true):undC (upF c) c=false:=by
 obtain ⟨hp,_,_⟩:=up_parts hc
 have h0:=isCode_pos.1 hc
 rw [Bool.eq_false_iff,ne_eq,undC_iff hc,hp,List.length_dropLast]
 omega
theorem und_self {c:List UInt8} (hc:isCode c=true):undC c c=true:=by rw [und_step hc hc];simp
structure treeOK (L:List (List UInt8)):Prop where
 nd:L.Nodup
 code:∀ c,c∈L->isCode c=true
 par:∀ c,c∈L->upF c=[]\/upF c∈L
theorem cmpL_lt {p q r:List Int} (h1:cmpL p q<0) (h2:cmpL q r<0):cmpL p r<0:=by
 have n1:=cmpL_neg p q
 have n2:=cmpL_neg q r
 have n3:=cmpL_neg p r
 have l1:=cmpL_le p q r
 have l3:=cmpL_le r p q
 omega
theorem cmpL_self (p:List Int):cmpL p p=0:=by have:=cmpL_neg p p;omega
theorem valid_tree {l:List PV} (h:(fstF l).2=0):treeOK (l.map hCode):=by
 have hd:=(valid_hd h).2
 have hcode:∀ c,c∈l.map hCode->isCode c=true:=fun c hc=>valid_code h hc
 have hco:∀ j,j<l.length->isCode (hCode (l.getD j default))=true:=fun j hj=>hcode _ (List.mem_map.2 ⟨_,getD_mem hj,rfl⟩)
 have step:∀ j,0<j->j<l.length->cmpL (partsR (hCode (l.getD (j-1) default))) (partsR (hCode (l.getD j default)))<0:=by
  intro j h0 hj
  have h1:=hd j hj
  unfold hdF at h1
  obtain ⟨_,h1⟩:=bif0 h1 (fun _=>by decide)
  obtain ⟨_,h1⟩:=bif0 h1 (fun _=>by decide)
  obtain ⟨h2,_⟩:=bif0 h1 (fun _=>by decide)
  rw [cmpC_L (isCode_pos.1 (hco (j-1) (by omega)))] at h2
  simp only [Bool.and_eq_false_iff,decide_eq_false_iff_not] at h2
  omega
 have far:∀ d i,i+d+1<l.length->cmpL (partsR (hCode (l.getD i default))) (partsR (hCode (l.getD (i+d+1) default)))<0:=by
  intro d
  induction d with
  | zero=>intro i hi;exact step (i+1) (by omega) (by omega)
  | succ d ih=>
    intro i hi
    exact cmpL_lt (ih i (by omega)) (step (i+(d+1)+1) (by omega) (by omega))
 refine ⟨?_,hcode,fun c hc=>?_⟩
 · rw [List.nodup_iff_pairwise_ne,List.pairwise_iff_getElem]
   intro i j hi hj hij e
   rw [List.length_map] at hi hj
   obtain ⟨d,rfl⟩:=Nat.exists_eq_add_of_lt hij
   have:=far d i (by omega)
   simp only [List.getElem_map] at e
   rw [List.getD_eq_getElem?_getD,List.getElem?_eq_getElem hi,List.getD_eq_getElem?_getD,List.getElem?_eq_getElem hj] at this
   simp only [Option.getD_some] at this
   rw [e,cmpL_self] at this
   omega
 · obtain ⟨e,he,rfl⟩:=List.mem_map.1 hc
   obtain ⟨j,hj,e2⟩:=List.getElem_of_mem he
   have h1:=hd j hj
   have hg:l.getD j default=e:=by rw [List.getD_eq_getElem?_getD,List.getElem?_eq_getElem hj,e2];rfl
   unfold hdF at h1
   rw [hg] at h1
   obtain ⟨_,h1⟩:=bif0 h1 (fun _=>by decide)
   obtain ⟨_,h1⟩:=bif0 h1 (fun _=>by decide)
   obtain ⟨_,h1⟩:=bif0 h1 (fun _=>by decide)
   obtain ⟨h2,_⟩:=bif0 h1 (fun _=>by decide)
   rw [up_par (hcode _ hc)]
   simp only [Bool.and_eq_false_iff,Bool.not_eq_false',beq_iff_eq,List.any_eq_true] at h2
   rcases h2 with h2 | ⟨x,hx,h2⟩
   · exact .inl h2
   · exact .inr (h2 ▸ List.mem_map.2 ⟨x,hx,rfl⟩)
theorem sumF_add {α:Type} (f g:α->Int):∀ l:List α,sumL (l.map (fun e=>f e+g e))=sumL (l.map f)+sumL (l.map g)
 | []=>rfl
 | e::r=>by simp only [List.map_cons,sumL,sumF_add f g r];omega
theorem sumF_mul {α:Type} (a:Int) (f:α->Int):∀ l:List α,sumL (l.map (fun e=>a * f e))=a * sumL (l.map f)
 | []=>by simp [sumL]
 | e::r=>by simp only [List.map_cons,sumL,sumF_mul a f r,Int.mul_add]
theorem sumF_zero {α:Type} {f:α->Int}:∀ {l:List α},(∀ x,x∈l->f x=0)->sumL (l.map f)=0
 | [],_=>rfl
 | e::r,h=>by rw [List.map_cons,sumL,h e List.mem_cons_self,sumF_zero (fun x hx=>h x (List.mem_cons_of_mem _ hx))];rfl
theorem sumF_one {α:Type} [DecidableEq α] {c:α} {f:α->Int}:∀ {l:List α},l.Nodup->c∈l->(∀ x,x∈l->x≠c->f x=0)->sumL (l.map f)=f c
 | [],_,h,_=>by cases h
 | e::r,hn,hc,h=>by
   rw [List.nodup_cons] at hn
   rw [List.map_cons,sumL]
   by_cases he:e=c
   · subst he
     rw [sumF_zero (fun x hx=>h x (List.mem_cons_of_mem _ hx) (fun e=>hn.1 (e ▸ hx)))];omega
   · rcases List.mem_cons.1 hc with hc | hc
     · exact absurd hc.symm he
     · rw [h e List.mem_cons_self he,sumF_one hn.2 hc (fun x hx=>h x (List.mem_cons_of_mem _ hx))];omega
theorem sumF_flat {α β:Type} (f:β->Int) (g:α->List β):∀ l:List α,sumL ((l.flatMap g).map f)=sumL (l.map (fun a=>sumL ((g a).map f)))
 | []=>rfl
 | a::r=>by rw [List.flatMap_cons,List.map_append,sumL_append,List.map_cons,sumL,sumF_flat f g r]
theorem sumF_congr {α:Type} {f g:α->Int} {l:List α} (h:∀ x,x∈l->f x=g x):sumL (l.map f)=sumL (l.map g):=by rw [List.map_congr_left h]
theorem tele {L:List (List UInt8)} (hL:treeOK L) (g:List UInt8->Int):∀ n c,c.length<=n->(c=[]\/c∈L)->sumL (L.map (fun e=>if undC c e=true then g e-g (upF e) else 0))=g c-g []:=by
 intro n
 induction n with
 | zero=>
   intro c hn _
   have:c=[]:=List.eq_nil_of_length_eq_zero (by omega)
   subst this
   rw [sumF_zero (fun e he=>by rw [undC_nil];rfl)];omega
 | succ n ih=>
   intro c hn hc
   rcases hc with rfl | hc
   · rw [sumF_zero (fun e he=>by rw [undC_nil];rfl)];omega
   · have hcc:=hL.code c hc
     have hlt:=(up_parts hcc).2.2
     have hi:=ih (upF c) (by omega) (hL.par c hc)
     have e:∀ x,x∈L->(if undC c x=true then g x-g (upF x) else 0)=(if x=c then g x-g (upF x) else 0)+(if undC (upF c) x=true then g x-g (upF x) else 0):=by
      intro x hx
      rw [und_step hcc (hL.code x hx)]
      by_cases h1:x=c
      · subst h1
        rw [und_up_self hcc];simp
      · have:(c == x)=false:=by simp only [beq_eq_false_iff_ne,ne_eq];exact fun e=>h1 e.symm
        rw [this,if_neg h1,Bool.false_or];omega
     rw [sumF_congr e,sumF_add,hi,sumF_one hL.nd hc (fun x _ hx=>if_neg hx),if_pos rfl]
     omega
def aFr:PV->Int
 | .agg [_,_,_,.int _ f,_]=>f
 | _=>0
def aTo:PV->Int
 | .agg [_,_,_,_,.int _ t]=>t
 | _=>0
def dlt (p x:Int):Int:=if x=p then 1 else 0
def ownF (c:List UInt8) (y:Int):PV->Int
 | .agg [.str d,.int _ z,.int _ a]=>if d=c/\z=y then a else 0
 | _=>0
def vlF (c:List UInt8) (yr:Int) (e:PV):Int:=if pkF c yr e=true then amF e else 0
def fw1 (x:PV):PV->Int
 | .agg [.int _ k,.str c,.int _ y,_,_]=>if k=2 then ownF c y x else vlF c y x
 | _=>0
def fwA (ls:List PV) (a:PV):Int:=sumL (ls.map (fun x=>fw1 x a))
def balA (p:Int) (fl:PV->Int) (arcs:List PV):Int:=sumL (arcs.map fun a=>fl a * (dlt p (aTo a)-dlt p (aFr a)))
def lnOK (L:List (List UInt8)) (fi:Int) (n:Nat) (e:PV):Prop:=∃ c j a,e=.agg [.str c,.int .i64 (fi+((j:Nat):Int)),.int .i64 a]/\c∈lvC L []/\j<n
theorem fw1_arc (x:PV) (k:Int) (c:List UInt8) (y f t:Int):fw1 x (arcV k c y f t)=if k=2 then ownF c y x else vlF c y x:=rfl
theorem aFr_arc (k:Int) (c:List UInt8) (y f t:Int):aFr (arcV k c y f t)=f:=rfl
theorem aTo_arc (k:Int) (c:List UInt8) (y f t:Int):aTo (arcV k c y f t)=t:=rfl
theorem sumF_tr (h:List UInt8->Int) (tr:List PV):sumL (tr.map (fun e=>h (hCode e)))=sumL ((tr.map hCode).map h):=by rw [List.map_map];rfl
theorem bal_one {tr:List PV} (hL:treeOK (tr.map hCode)) {fi:Int} (hfi:0<=fi) {n:Nat} (p:Int) {x:PV} (hx:lnOK (tr.map hCode) fi n x):balA p (fw1 x) (arcsL fi n tr)=0:=by
 obtain ⟨c,j0,a,rfl,hc,hj⟩:=hx
 have hcL:c∈tr.map hCode:=(List.mem_filter.1 hc).1
 obtain ⟨x,hxd⟩:∃ x:PV,x=.agg [.str c,.int .i64 (fi+(j0:Int)),.int .i64 a]:=⟨_,rfl⟩
 rw [<- hxd]
 have hne:∀ s,s∈tr.map hCode->s≠[]:=fun s hs e=>by
  have:=isCode_pos.1 (hL.code s hs)
  rw [e,partsR_nil] at this
  simp at this
 have hv:∀ s,s∈tr.map hCode->∀ j:Nat,vlF s (fi+j) x=if j=j0 then (if undC c s=true then a else 0) else 0:=by
  intro s hs j
  have e1:(s == [])=false:=by simpa using hne s hs
  have e2:(fi+(j:Int) == -1)=false:=by simp only [beq_eq_false_iff_ne,ne_eq];omega
  rw [hxd]
  unfold vlF pkF amF
  simp only [e1,e2,Bool.false_or]
  by_cases h1:j=j0
  · subst h1;simp
  · have:(fi+(j0:Int) == fi+(j:Int))=false:=by simp only [beq_eq_false_iff_ne,ne_eq];omega
    rw [this,if_neg h1];simp
 have hv':∀ s,s∈tr.map hCode->vlF s (-1) x=if undC c s=true then a else 0:=by
  intro s hs
  have e1:(s == [])=false:=by simpa using hne s hs
  rw [hxd]
  unfold vlF pkF amF
  simp only [e1,Bool.false_or,show ((-1:Int) == -1)=true from rfl,Bool.true_or,Bool.true_and]
 have ho:∀ s (j:Nat),ownF s (fi+j) x=if s=c then (if j=j0 then a else 0) else 0:=by
  intro s j
  rw [hxd]
  show (if c=s/\fi+(j0:Int)=fi+(j:Int) then a else 0)=_
  by_cases h1:s=c
  · subst h1
    by_cases h2:j=j0
    · subst h2;simp
    · have h3:¬ (s=s/\fi+(j0:Int)=fi+(j:Int)):=fun h=>h2 (by have:=h.2;omega)
      rw [if_neg h3,if_pos rfl,if_neg h2]
  · rw [if_neg (fun h=>h1 h.1.symm),if_neg h1]
 have key:∀ (g:List UInt8->Int),sumL ((tr.map hCode).map (fun s=>(if undC c s=true then a else 0) * (g s-g (upF s))))=a * (g c-g []):=by
  intro g
  rw [sumF_congr (g:=fun s=>a * (if undC c s=true then g s-g (upF s) else 0)) (fun s hs=>by by_cases h:undC c s=true <;> simp [h]),sumF_mul,tele hL g c.length c (Nat.le_refl _) (.inr hcL)]
 have hlo0:∀ j:Int,loF tr j []=0:=fun j=>rfl
 have hnd0:∀ j:Int,ndF tr j []=0:=fun j=>rfl
 have p1:balA p (fw1 x) ((List.range n).flatMap (fun j=>tr.flatMap (arc2 tr fi j)))=a * (dlt p (loF tr j0 c)-dlt p 0):=by
  unfold balA
  rw [sumF_flat,sumF_one (c:=j0) List.nodup_range (List.mem_range.2 hj) ?_]
  · rw [sumF_flat,sumF_congr (g:=fun e=>(fun s=>(if undC c s=true then a else 0) * (dlt p (loF tr j0 s)-dlt p (loF tr j0 (upF s)))) (hCode e)) ?_]
    · exact (sumF_tr _ tr).trans ((key (fun s=>dlt p (loF tr j0 s))).trans (by rw [hlo0]))
    intro e he
    have hs:hCode e∈tr.map hCode:=List.mem_map.2 ⟨e,he,rfl⟩
    simp only [arc2,List.map_cons,List.map_nil,sumL,fw1_arc,aFr_arc,aTo_arc,hv _ hs,if_pos]
    rw [if_neg (show ¬ (0:Int)=2 by decide),if_neg (show ¬ (1:Int)=2 by decide)]
    rw [<- Int.add_assoc,<- Int.mul_add,Int.add_zero]
    congr 1;omega
  · intro j _ hne'
    rw [sumF_flat]
    refine sumF_zero (fun e he=>?_)
    have hs:hCode e∈tr.map hCode:=List.mem_map.2 ⟨e,he,rfl⟩
    simp only [arc2,List.map_cons,List.map_nil,sumL,fw1_arc,hv _ hs,if_neg hne']
    rw [if_neg (show ¬ (0:Int)=2 by decide),if_neg (show ¬ (1:Int)=2 by decide)]
    simp
 have hnL:(lvC (tr.map hCode) []).Nodup:=hL.nd.filter _
 have p2:balA p (fw1 x) ((lvC (tr.map hCode) []).flatMap (fun s=>(List.range n).flatMap (arc1 tr fi n s)))=a * (dlt p (ndF tr n c)-dlt p (loF tr j0 c)):=by
  unfold balA
  rw [sumF_flat,sumF_one (c:=c) hnL hc ?_]
  · rw [sumF_flat,sumF_one (c:=j0) List.nodup_range (List.mem_range.2 hj) ?_]
    · simp only [arc1,List.map_cons,List.map_nil,sumL,fw1_arc,aFr_arc,aTo_arc,ho,if_pos,Int.add_zero]
    · intro j _ hne'
      simp only [arc1,List.map_cons,List.map_nil,sumL,fw1_arc,ho,if_pos,if_neg hne']
      simp
  · intro s _ hne'
    rw [sumF_flat]
    refine sumF_zero (fun j _=>?_)
    simp only [arc1,List.map_cons,List.map_nil,sumL,fw1_arc,ho,if_pos,if_neg hne']
    simp
 have p3:balA p (fw1 x) (tr.flatMap (arc3 tr n))=a * (dlt p 0-dlt p (ndF tr n c)):=by
  unfold balA
  rw [sumF_flat,sumF_congr (g:=fun e=>(fun s=>(if undC c s=true then a else 0) * ((fun s=> - dlt p (ndF tr n s)) s-(fun s=> - dlt p (ndF tr n s)) (upF s))) (hCode e)) ?_]
  · refine (sumF_tr _ tr).trans ((key (fun s=> - dlt p (ndF tr n s))).trans ?_)
    rw [hnd0]
    congr 1;omega
  · intro e he
    have hs:hCode e∈tr.map hCode:=List.mem_map.2 ⟨e,he,rfl⟩
    simp only [arc3,List.map_cons,List.map_nil,sumL,fw1_arc,aFr_arc,aTo_arc,hv' _ hs]
    rw [if_neg (show ¬ (1:Int)=2 by decide),if_neg (show ¬ (0:Int)=2 by decide)]
    rw [<- Int.add_assoc,<- Int.mul_add,Int.add_zero]
    congr 1;omega
 have happ:∀ u v:List PV,balA p (fw1 x) (u++v)=balA p (fw1 x) u+balA p (fw1 x) v:=fun u v=>by unfold balA;rw [List.map_append,sumL_append]
 unfold arcsL
 rw [happ,happ,p1,p2,p3,<- Int.mul_add,<- Int.mul_add]
 have:dlt p (loF tr (↑j0) c)-dlt p 0+(dlt p (ndF tr (↑n) c)-dlt p (loF tr (↑j0) c))+(dlt p 0-dlt p (ndF tr (↑n) c))=0:=by omega
 rw [this,Int.mul_zero]
theorem bal_all {tr:List PV} (hL:treeOK (tr.map hCode)) {fi:Int} (hfi:0<=fi) {n:Nat} (p:Int):∀ {ls:List PV},(∀ x,x∈ls->lnOK (tr.map hCode) fi n x)->balA p (fwA ls) (arcsL fi n tr)=0
 | [],_=>by unfold balA;exact sumF_zero (fun a _=>by unfold fwA;simp [sumL])
 | x::r,h=>by
   have h1:=bal_one hL hfi p (h x List.mem_cons_self)
   have h2:=bal_all hL hfi p (ls:=r) (fun y hy=>h y (List.mem_cons_of_mem _ hy))
   have e:balA p (fwA (x::r)) (arcsL fi n tr)=balA p (fw1 x) (arcsL fi n tr)+balA p (fwA r) (arcsL fi n tr):=by
    unfold balA
    rw [<- sumF_add]
    refine sumF_congr (fun a _=>?_)
    unfold fwA
    rw [List.map_cons,sumL,Int.add_mul]
   rw [e,h1,h2];rfl
def cdB (c:List UInt8):PV->Bool
 | .agg [.str d,_,_]=>d == c
 | _=>false
def carF (ls:List PV):PV->Int × Int
 | .agg [.int _ k,.str c,.int _ y,_,_]=>smF (bif k == 2 then ls.filter (cdB c) else ls) c y
 | _=>(0,0)
def floG (ls:List PV):List PV->List Int->List Int × Int
 | [],acc=>(acc,0)
 | a::r,acc=>bif (carF ls a).2 != 0 then ([],(carF ls a).2) else floG ls r (acc++[(carF ls a).1])
def wrlF (L:Law):List PV->Int
 | []=>0
 | x::r=>bif lineE L (lvL L) x != 0 then lineE L (lvL L) x else wrlF L r
def flowF (L:Law) (ls:List PV):List Int × Int:=
 bif validF L != 0 then ([],validF L) else bif wrlF L ls != 0 then ([],wrlF L ls) else floG ls (arcsL L.first L.years.toNat L.tree) []
def aKd:PV->Int
 | .agg [.int _ k,_,_,_,_]=>k
 | _=>0
def lnOf (a:PV) (x:Int):PV:=.agg [.str (arC a),.int .i64 (arY a),.int .i64 x]
def linG:List (PV × Int)->List PV->List PV × Int
 | [],acc=>(acc,0)
 | (a,x)::r,acc=>bif aKd a != 2 then linG r acc else bif !vldM x then ([],2) else bif x != 0 then linG r (acc++[lnOf a x]) else linG r acc
def linesF (L:Law) (fl:List Int):List PV × Int:=
 bif validF L != 0 then ([],validF L) else bif (fl.length:Int) != (arcsL L.first L.years.toNat L.tree).length then ([],1) else linG ((arcsL L.first L.years.toNat L.tree).zip fl) []
def lnA (e:PV):Prop:=∃ c y a,e=.agg [.str c,.int .i64 y,.int .i64 a]/\0<=a/\a<=1000000000000
theorem msF_sum:∀ (xs:List Int) (acc:Int),(∀ x,x∈xs->0<=x/\x<=1000000000000)->0<=acc->acc+1000000000000 * (xs.length:Int)<=1000000000000000->msF xs acc=(acc+sumL xs,0)
 | [],acc,_,_,_=>by simp [msF,sumL]
 | x::r,acc,h,h0,h1=>by
   have hx:=h x List.mem_cons_self
   simp only [List.length_cons] at h1
   have e1:IntKind.i64.wrap (acc+x)=acc+x:=i64_in _ (by omega)
   have e2:totB x=true:=by simp [totB];omega
   have e3:totB (acc+x)=true:=by simp [totB];omega
   rw [msF,e1,e2,e3,msF_sum r (acc+x) (fun y hy=>h y (List.mem_cons_of_mem _ hy)) (by omega) (by omega)]
   simp [sumL];omega
theorem sumF_filter {α:Type} (p:α->Bool) (f:α->Int):∀ l:List α,sumL ((l.filter p).map f)=sumL (l.map (fun e=>if p e=true then f e else 0))
 | []=>rfl
 | e::r=>by
   have ih:=sumF_filter p f r
   rw [List.filter_cons,List.map_cons,sumL]
   by_cases h:p e=true
   · rw [if_pos h,if_pos h,List.map_cons,sumL,ih]
   · rw [if_neg h,if_neg h,ih];omega
theorem smF_sum {ls:List PV} (h:∀ e,e∈ls->lnA e) (hn:ls.length<=1000) (c:List UInt8) (y:Int):smF ls c y=(sumL (ls.map (vlF c y)),0):=by
 have k1:∀ x,x∈(ls.filter (pkF c y)).map amF->0<=x/\x<=1000000000000:=by
  intro x hx
  obtain ⟨e,he,rfl⟩:=List.mem_map.1 hx
  obtain ⟨d,z,a,rfl,h1⟩:=h e (List.mem_filter.1 he).1
  exact h1
 have k2:((ls.filter (pkF c y)).map amF).length<=1000:=by rw [List.length_map];exact Nat.le_trans (List.length_filter_le _ _) hn
 unfold smF
 rw [msF_sum _ 0 k1 (by omega) (by omega),sumF_filter,Int.zero_add]
 rfl
def arcG (a:PV):Prop:=∃ k c y f t,a=arcV k c y f t/\isCode c=true/\(k=2->y≠ -1)
theorem car_ok {ls:List PV} (h:∀ e,e∈ls->lnA e) (hn:ls.length<=1000) {a:PV} (ha:arcG a):carF ls a=(fwA ls a,0):=by
 obtain ⟨k,c,y,f,t,rfl,hc,hy⟩:=ha
 show smF (bif k == 2 then ls.filter (cdB c) else ls) c y=_
 unfold fwA
 by_cases hk:k=2
 · subst hk
   rw [show ((2:Int) == 2)=true from rfl,cond_true,smF_sum (fun e he=>h e (List.mem_filter.1 he).1) (Nat.le_trans (List.length_filter_le _ _) hn),sumF_filter]
   congr 1
   refine sumF_congr (fun e he=>?_)
   obtain ⟨d,z,m,rfl,_⟩:=h e he
   rw [fw1_arc,if_pos rfl]
   have e0:(y == -1)=false:=by simpa using hy rfl
   have e1:(c == [])=false:=by
    simp only [beq_eq_false_iff_ne,ne_eq]
    intro e
    have:=isCode_pos.1 hc
    rw [e,partsR_nil] at this
    simp at this
   unfold vlF pkF ownF cdB amF
   simp only [e0,e1,Bool.false_or]
   by_cases h1:d=c
   · subst h1
     rw [und_self hc]
     by_cases h2:z=y
     · subst h2;simp
     · have:(z == y)=false:=by simpa using h2
       simp [this,h2]
   · have:(d == c)=false:=by simpa using h1
     simp [this,h1]
 · have hk':(k == 2)=false:=by simpa using hk
   rw [hk',cond_false,smF_sum h hn]
   congr 1
   refine sumF_congr (fun e he=>?_)
   rw [fw1_arc,if_neg hk]
theorem flo_ok {ls:List PV}:∀ (arcs:List PV) (acc:List Int),(∀ a,a∈arcs->carF ls a=(fwA ls a,0))->floG ls arcs acc=(acc++arcs.map (fwA ls),0)
 | [],acc,_=>by simp [floG]
 | a::r,acc,h=>by
   rw [floG,h a List.mem_cons_self]
   simp only [bne_self_eq_false,cond_false]
   rw [flo_ok r _ (fun b hb=>h b (List.mem_cons_of_mem _ hb))]
   simp
theorem arcs_mem {fi:Int} {n:Nat} {tr:List PV} {a:PV} (h:a∈arcsL fi n tr):
 (∃ j,j<n/\∃ e,e∈tr/\(a=arcV 0 (hCode e) (fi+(j:Int)) (loF tr j (upF (hCode e))) (ndF tr j (hCode e))\/a=arcV 1 (hCode e) (fi+(j:Int)) (ndF tr j (hCode e)) (loF tr j (hCode e))))\/
 (∃ s,s∈lvC (tr.map hCode) []/\∃ j,j<n/\a=arcV 2 s (fi+(j:Int)) (loF tr j s) (ndF tr n s))\/
 (∃ e,e∈tr/\(a=arcV 1 (hCode e) (-1) (ndF tr n (hCode e)) (loF tr n (hCode e))\/a=arcV 0 (hCode e) (-1) (loF tr n (hCode e)) (ndF tr n (upF (hCode e))))):=by
 unfold arcsL at h
 rcases List.mem_append.1 h with h | h
 · rcases List.mem_append.1 h with h | h
   · obtain ⟨j,hj,h⟩:=List.mem_flatMap.1 h
     obtain ⟨e,he,h⟩:=List.mem_flatMap.1 h
     simp only [arc2,List.mem_cons,List.not_mem_nil,or_false] at h
     exact .inl ⟨j,List.mem_range.1 hj,e,he,h⟩
   · obtain ⟨s,hs,h⟩:=List.mem_flatMap.1 h
     obtain ⟨j,hj,h⟩:=List.mem_flatMap.1 h
     simp only [arc1,List.mem_cons,List.not_mem_nil,or_false] at h
     exact .inr (.inl ⟨s,hs,j,List.mem_range.1 hj,h⟩)
 · obtain ⟨e,he,h⟩:=List.mem_flatMap.1 h
   simp only [arc3,List.mem_cons,List.not_mem_nil,or_false] at h
   exact .inr (.inr ⟨e,he,h⟩)
theorem arcs_G {fi:Int} (hfi:0<=fi) {n:Nat} {tr:List PV} (hL:treeOK (tr.map hCode)):∀ a,a∈arcsL fi n tr->arcG a:=by
 intro a ha
 have hc:∀ e,e∈tr->isCode (hCode e)=true:=fun e he=>hL.code _ (List.mem_map.2 ⟨e,he,rfl⟩)
 rcases arcs_mem ha with ⟨j,_,e,he,rfl | rfl⟩ | ⟨s,hs,j,_,rfl⟩ | ⟨e,he,rfl | rfl⟩
 · exact ⟨_,_,_,_,_,rfl,hc e he,fun h=>by cases h⟩
 · exact ⟨_,_,_,_,_,rfl,hc e he,fun h=>by cases h⟩
 · exact ⟨_,_,_,_,_,rfl,hL.code _ (List.mem_filter.1 hs).1,fun _=>by omega⟩
 · exact ⟨_,_,_,_,_,rfl,hc e he,fun h=>by cases h⟩
 · exact ⟨_,_,_,_,_,rfl,hc e he,fun h=>by cases h⟩
def lnLt (x y:PV):Prop:=∃ a b y1 y2 m1 m2,x=.agg [.str a,.int .i64 y1,.int .i64 m1]/\y=.agg [.str b,.int .i64 y2,.int .i64 m2]/\(cmpL (partsR a) (partsR b)<0\/(a=b/\y1<y2))
theorem cmpL_zero':∀ p q:List Int,cmpL p q=0->p=q
 | [],[],_=>rfl
 | [],_::_,h=>by simp [cmpL] at h
 | _::_,[],h=>by simp [cmpL] at h
 | x::p,y::q,h=>by
   have ih:=cmpL_zero' p q
   simp only [cmpL] at h
   revert h
   (repeat' split) <;> intro h
   all_goals first
    | omega
    | (rw [ih h,show x=y by omega])
theorem linO_lt {a b:List UInt8} {y1 y2 m1 m2:Int} (ha:isCode a=true) (hb:isCode b=true) (h:linO (.agg [.str a,.int .i64 y1,.int .i64 m1]) (.agg [.str b,.int .i64 y2,.int .i64 m2])<0):lnLt (.agg [.str a,.int .i64 y1,.int .i64 m1]) (.agg [.str b,.int .i64 y2,.int .i64 m2]):=by
 rw [linO_neg,cmpC_L (code_parts ha)] at h
 refine ⟨a,b,y1,y2,m1,m2,rfl,rfl,?_⟩
 rcases h with h | ⟨h1,h2⟩
 · exact .inl h
 · exact .inr ⟨parts_inj (code_parts ha) (cmpL_zero' _ _ h1),h2⟩
theorem lnLt_trans {x y z:PV} (h1:lnLt x y) (h2:lnLt y z):lnLt x z:=by
 obtain ⟨a,b,y1,y2,m1,m2,rfl,rfl,h⟩:=h1
 obtain ⟨b',c,y2',y3,m2',m3,e,rfl,h'⟩:=h2
 simp only [PV.agg.injEq,List.cons.injEq,PV.str.injEq,PV.int.injEq,true_and] at e
 obtain ⟨rfl,rfl,_⟩:=e
 refine ⟨a,c,y1,y3,m1,m3,rfl,rfl,?_⟩
 rcases h with h | ⟨rfl,h⟩ <;> rcases h' with h' | ⟨rfl,h'⟩
 · exact .inl (cmpL_lt h h')
 · exact .inl h
 · exact .inl h'
 · exact .inr ⟨rfl,by omega⟩
theorem each_sorted {one:PV->Int} (hc:∀ s y m,one (.agg [.str s,.int .i64 y,.int .i64 m])=0->isCode s=true):∀ (l:List PV) (p:Option PV),(∀ x,x∈l->isL3 x)->(∀ z,p=some z->isL3 z/\one z=0)->eachF one linO p l=0->
 l.Pairwise lnLt/\∀ z,p=some z->∀ x,x∈l->lnLt z x
 | [],_,_,_,_=>⟨.nil,fun _ _ x hx=>by cases hx⟩
 | x::r,p,hl,hp,h0=>by
   rw [eachF_cons] at h0
   obtain ⟨h1,h0⟩:=bif0 h0 (fun e=>by simpa using e)
   obtain ⟨h2,h3⟩:=bif0 h0 (fun _=>by decide)
   have h1:one x=0:=by simpa using h1
   have hx:=hl x List.mem_cons_self
   obtain ⟨g1,g2⟩:=each_sorted hc r (some x) (fun z hz=>hl z (List.mem_cons_of_mem _ hz)) (fun z hz=>by cases hz;exact ⟨hx,h1⟩) h3
   have g3:=g2 x rfl
   refine ⟨List.pairwise_cons.2 ⟨g3,g1⟩,fun z hz w hw=>?_⟩
   subst hz
   obtain ⟨hz1,hz2⟩:=hp z rfl
   have hzx:lnLt z x:=by
    obtain ⟨a,y1,m1,rfl,_⟩:=hz1
    obtain ⟨b,y2,m2,rfl,_⟩:=hx
    have e1:¬ 0<=linO (.agg [.str a,.int .i64 y1,.int .i64 m1]) (.agg [.str b,.int .i64 y2,.int .i64 m2]):=by
     simpa [bhF] using h2
    exact linO_lt (hc _ _ _ hz2) (hc _ _ _ h1) (by omega)
   rcases List.mem_cons.1 hw with rfl | hw
   · exact hzx
   · exact lnLt_trans hzx (g3 w hw)
theorem own_find {ls:List PV} (hs:ls.Pairwise lnLt) (hl:∀ x,x∈ls->isL3 x) (c:List UInt8) (y:Int):
 (∃ m,PV.agg [.str c,.int .i64 y,.int .i64 m]∈ls/\sumL (ls.map (ownF c y))=m/\∀ d,bdF c y d ls=m)\/((∀ m,PV.agg [.str c,.int .i64 y,.int .i64 m]∉ls)/\sumL (ls.map (ownF c y))=0/\∀ d,bdF c y d ls=d):=by
 induction ls with
 | nil=>exact .inr ⟨fun m h=>(List.not_mem_nil h).elim,rfl,fun d=>rfl⟩
 | cons x r ih=>
   rw [List.pairwise_cons] at hs
   have ih:=ih hs.2 (fun z hz=>hl z (List.mem_cons_of_mem _ hz))
   obtain ⟨a,y1,m1,rfl,_⟩:=hl x List.mem_cons_self
   by_cases hk:a=c/\y1=y
   · obtain ⟨rfl,rfl⟩:=hk
     have hno:∀ m,PV.agg [.str a,.int .i64 y1,.int .i64 m]∉r:=fun m hm=>by
      obtain ⟨a',b',z1,z2,n1,n2,e1,e2,h⟩:=hs.1 _ hm
      simp only [PV.agg.injEq,List.cons.injEq,PV.str.injEq,PV.int.injEq,true_and] at e1 e2
      obtain ⟨rfl,rfl,_⟩:=e1
      obtain ⟨rfl,rfl,_⟩:=e2
      have:=cmpL_self (partsR a)
      omega
     rcases ih with ⟨m,hm,_⟩ | ⟨_,h2,_⟩
     · exact absurd hm (hno m)
     · refine .inl ⟨m1,List.mem_cons_self,?_,fun d=>?_⟩
       · rw [List.map_cons,sumL,h2]
         have:ownF a y1 (.agg [.str a,.int .i64 y1,.int .i64 m1])=m1:=by simp [ownF]
         rw [this];omega
       · simp [bdF,bkF,amF]
   · have e1:ownF c y (.agg [.str a,.int .i64 y1,.int .i64 m1])=0:=by simp only [ownF];rw [if_neg hk]
     have e2:bkF c y (.agg [.str a,.int .i64 y1,.int .i64 m1])=false:=by
      simp only [bkF,Bool.and_eq_false_iff,beq_eq_false_iff_ne,ne_eq]
      by_cases h:a=c
      · exact .inr (fun e=>hk ⟨h,e⟩)
      · exact .inl h
     rcases ih with ⟨m,hm,h2,h3⟩ | ⟨hm,h2,h3⟩
     · refine .inl ⟨m,List.mem_cons_of_mem _ hm,by rw [List.map_cons,sumL,e1,h2];omega,fun d=>by rw [bdF,e2,cond_false,h3]⟩
     · refine .inr ⟨fun m h=>?_,by rw [List.map_cons,sumL,e1,h2];rfl,fun d=>by rw [bdF,e2,cond_false,h3]⟩
       rcases List.mem_cons.1 h with h | h
       · simp only [PV.agg.injEq,List.cons.injEq,PV.str.injEq,PV.int.injEq,true_and,and_true] at h
         exact hk ⟨h.1.symm,h.2.1.symm⟩
       · exact hm m h
end Go.AM
