/-
  A part of a proof.
-/
import Derived.Test.YtkajgkbhkkgdbaaGreatDoorRF
set_option linter.unusedSimpArgs false
set_option linter.unusedVariables false
namespace Go.AM
open Go Go.Proofs Go.IntWalk
attribute [local go_sem] arg1 nS okN plan0 preN_eq Θ1 Θ2 Θ3 Θ4
set_option maxRecDepth 100000
theorem parG_len:∀ (s:List UInt8) (acc:List PV) (v d f:Int),parG s acc v d f=[]\/acc.length+1<=(parG s acc v d f).length
 | [],acc,v,d,f=>by
   unfold parG
   cases (d == 0||decide (2<d)||f == 48) with
   | true=>exact .inl rfl
   | false=>
     simp only [cond_false]
     split
     · exact .inl rfl
     · right;simp
 | c::r,acc,v,d,f=>by
   unfold parG
   cases ((c.toNat:Int) == 46) with
   | true=>
     simp only [cond_true]
     cases (d == 0||decide (2<d)||f == 48) with
     | true=>exact .inl rfl
     | false=>
       simp only [cond_false]
       rcases parG_len r (acc++[intV v]) 0 0 0 with h | h
       · exact .inl h
       · right;simp only [List.length_append,List.length_cons,List.length_nil] at h;omega
   | false=>
     simp only [cond_false]
     cases (decide ((c.toNat:Int)<48)||decide (57<(c.toNat:Int))) with
     | true=>exact .inl rfl
     | false=>exact parG_len r acc _ _ _
theorem parG_many:∀ (s:List UInt8) (acc:List PV) (v d f:Int),2<d->parG s acc v d f=[]
 | [],acc,v,d,f,h=>by
   unfold parG
   have:(d == 0||decide (2<d)||f == 48)=true:=by simp [h]
   rw [this];rfl
 | c::r,acc,v,d,f,h=>by
   unfold parG
   have:(d == 0||decide (2<d)||f == 48)=true:=by simp [h]
   rw [this]
   cases ((c.toNat:Int) == 46) with
   | true=>rfl
   | false=>
     simp only [cond_false]
     cases (decide ((c.toNat:Int)<48)||decide (57<(c.toNat:Int))) with
     | true=>rfl
     | false=>exact parG_many r acc _ _ _ (by omega)
theorem parG_two {s:List UInt8} {acc:List PV} {v d f:Int} {x:PV} (ha:1<=acc.length):parG s acc v d f≠[x]:=fun h=>by
 rcases parG_len s acc v d f with h1 | h1
 · rw [h1] at h;cases h
 · rw [h] at h1;simp only [List.length_cons,List.length_nil] at h1;omega
theorem u8_of {c:UInt8} (h:(c.toNat:Int)=57):c=57:=by
 apply UInt8.toNat_inj.1
 have:(57:UInt8).toNat=57:=rfl
 omega
theorem parts9 {x:List UInt8} (h:parts x=[intV 9]):x=[57]:=by
 unfold parts at h
 split at h
 · cases h
 match x,h with
 | [],h=>simp [parG] at h
 | c::r,h=>
   unfold parG at h
   cases h1:((c.toNat:Int) == 46) with
   | true=>rw [h1] at h;simp at h
   | false=>
     rw [h1,cond_false] at h
     cases h2:(decide ((c.toNat:Int)<48)||decide (57<(c.toNat:Int))) with
     | true=>rw [h2] at h;simp at h
     | false=>
       rw [h2,cond_false] at h
       simp only [beq_self_eq_true,cond_true,Int.mul_zero,Int.zero_add] at h
       simp only [Bool.or_eq_false_iff,decide_eq_false_iff_not] at h2
       match r,h with
       | [],h=>
         unfold parG at h
         have e1:((1:Int) == 0)=false:=rfl
         have e2:decide ((2:Int)<1)=false:=rfl
         rw [e1,e2] at h
         cases h3:((c.toNat:Int) == 48) with
         | true=>rw [h3] at h;simp at h
         | false=>
           rw [h3] at h
           simp [intV] at h
           rw [u8_of (c:=c) (by omega)]
       | c2::r2,h=>
         exfalso
         unfold parG at h
         cases h3:((c2.toNat:Int) == 46) with
         | true=>
           rw [h3,cond_true] at h
           cases h4:((1:Int) == 0||decide ((2:Int)<1)||(c.toNat:Int) == 48) with
           | true=>rw [h4] at h;simp at h
           | false=>rw [h4,cond_false] at h;exact parG_two (by simp) h
         | false=>
           rw [h3,cond_false] at h
           cases h4:(decide ((c2.toNat:Int)<48)||decide (57<(c2.toNat:Int))) with
           | true=>rw [h4] at h;simp at h
           | false=>
             rw [h4,cond_false] at h
             simp only [Bool.or_eq_false_iff,decide_eq_false_iff_not] at h4
             have e1:((1:Int) == 0)=false:=rfl
             rw [e1,cond_false] at h
             match r2,h with
             | [],h=>
               unfold parG at h
               have e2:((1+1:Int) == 0)=false:=rfl
               have e3:decide ((2:Int)<1+1)=false:=rfl
               rw [e2,e3] at h
               cases h5:((c.toNat:Int) == 48) with
               | true=>rw [h5] at h;simp at h
               | false=>
                 rw [h5] at h
                 simp [intV] at h
                 simp at h5
                 omega
             | c3::r3,h=>
               unfold parG at h
               cases h5:((c3.toNat:Int) == 46) with
               | true=>
                 rw [h5,cond_true] at h
                 cases h6:((1+1:Int) == 0||decide ((2:Int)<1+1)||(c.toNat:Int) == 48) with
                 | true=>rw [h6] at h;simp at h
                 | false=>rw [h6,cond_false] at h;exact parG_two (by simp) h
               | false=>
                 rw [h5,cond_false] at h
                 cases h6:(decide ((c3.toNat:Int)<48)||decide (57<(c3.toNat:Int))) with
                 | true=>rw [h6] at h;simp at h
                 | false=>
                   rw [h6,cond_false,parG_many _ _ _ _ _ (by omega)] at h
                   cases h
theorem cmp9 {x:List UInt8} (h:cmpF [57] x=0):x=[57]:=by
 have p9:pI [57]=[9]:=by decide
 unfold cmpF at h
 rw [p9] at h
 obtain ⟨e,_⟩:=parts_eq x
 cases hp:pI x with
 | nil=>rw [hp] at h;simp at h
 | cons y q=>
   rw [hp] at h
   have e1:((([9]:List Int).length:Int) == 0||((y::q).length:Int) == 0)=false:=by simp;omega
   rw [e1,cond_false] at h
   cases q with
   | cons z q=>simp only [cmpL] at h;split at h <;> (try split at h) <;> simp at h
   | nil=>
     have:y=9:=by
      simp only [cmpL] at h
      split at h
      · simp at h
      · split at h
        · simp at h
        · omega
     rw [hp,this] at e
     exact parts9 e
def codesP (l:List (List UInt8)):Prop:=l≠[]/\∀ x,x∈l->x.length<=100
theorem codesP.with {l:List (List UInt8)} {c:List UInt8} (h:codesP l) (hc:c.length<=100):codesP (withF l c)/\(withF l c).length<=l.length+1/\∀ x,x∈l->x∈withF l c:=by
 obtain ⟨g1,g2,g3,g4⟩:=withF_facts l c
 refine ⟨⟨?_,fun x hx=>?_⟩,g4,g1⟩
 · obtain ⟨x,hx⟩:=List.exists_mem_of_ne_nil l h.1
   exact List.ne_nil_of_mem (g1 x hx)
 · rcases g3 x hx with h9 | rfl
   · exact h.2 x h9
   · exact hc
theorem with9 (l:List (List UInt8)):[57]∈withF l [57]:=by
 obtain ⟨g1,g2,_⟩:=withF_facts l [57]
 rcases g2 with h | ⟨x,hx,he⟩
 · exact h
 · rw [cmp9 he] at hx;exact g1 _ hx
theorem codeF_len (l:List Int) (h:l.length<=20):(codeF l).length<=100:=by
 unfold codeF
 split
 · simp
 · have:=codeG_len true [] l
   simp only [List.length_nil] at this
   omega
def S1:List (List UInt8):=[[49],[50],[49,46,49],[49,46,50],[49,46,51],[49,46,49,48],[50,46,49],[50,46,50],[50,46,51],[50,46,49,48],[49,46,49,46,49],[49,46,49,46,50],[49,46,49,46,51],[49,46,49,46,49,48],[49,46,50,46,49],[49,46,50,46,50],[49,46,50,46,51],[49,46,50,46,49,48],[49,46,51,46,49],[49,46,51,46,50],[49,46,51,46,51],[49,46,51,46,49,48],[49,46,49,48,46,49],[49,46,49,48,46,50],[49,46,49,48,46,51],[49,46,49,48,46,49,48],[50,46,49,46,49],[50,46,49,46,50],[50,46,49,46,51],[50,46,49,46,49,48],[50,46,50,46,49],[50,46,50,46,50],[50,46,50,46,51],[50,46,50,46,49,48],[50,46,51,46,49],[50,46,51,46,50],[50,46,51,46,51],[50,46,51,46,49,48],[50,46,49,48,46,49],[50,46,49,48,46,50],[50,46,49,48,46,51],[50,46,49,48,46,49,48]]
def N9:List (List UInt8):=[[57],[57,46,49],[57,46,50]]
theorem S1_step:∀ s,s∈S1->(pI s).length<3->∀ r,r∈([1,2,3,10]:List Int)->codeF (pI s++[r])∈S1:=by decide +kernel
theorem N9_self:∀ c,c∈N9->cmpF c c=0:=by decide +kernel
theorem N9_S1:∀ c,c∈N9->c∉S1:=by decide +kernel
def codes9 (l:List (List UInt8)):Prop:=(∀ x,x∈l->x∈S1\/x∈N9)/\∀ y,y∈N9->l.count y<=1
theorem withL_perm (c:List UInt8):∀ (l:List (List UInt8)) (done:Bool) (acc out:List (List UInt8)),withL c l done acc=some out->
 (∀ y:List UInt8,out.count y=(bif done then 0 else [c].count y)+acc.count y+l.count y)/\∀ x,x∈l->cmpF c x≠0
 | [],done,acc,out,h=>by
   cases done with
   | true=>
     simp only [withL,cond_true,Option.some.injEq] at h
     subst h
     exact ⟨fun y=>by simp,fun x hx=>by cases hx⟩
   | false=>
     simp only [withL,cond_false,Option.some.injEq] at h
     subst h
     exact ⟨fun y=>by simp only [List.count_append,cond_false,List.count_nil];omega,fun x hx=>by cases hx⟩
 | x::r,done,acc,out,h=>by
   rw [withL] at h
   cases h1:(cmpF c x == 0) with
   | true=>rw [h1] at h;cases h
   | false=>
     rw [h1,cond_false] at h
     have hx0:cmpF c x≠0:=by simpa using h1
     cases h2:(decide (cmpF c x<0)&&!done) with
     | true=>
       rw [h2,cond_true] at h
       have hdn:done=false:=by simp at h2;exact h2.2
       obtain ⟨g1,g2⟩:=withL_perm c r true _ out h
       refine ⟨fun y=>?_,fun z hz=>?_⟩
       · rw [g1 y,hdn,show x::r=[x]++r from rfl]
         simp only [List.count_append,cond_false,cond_true];omega
       · rcases List.mem_cons.1 hz with rfl | hz
         · exact hx0
         · exact g2 z hz
     | false=>
       rw [h2,cond_false] at h
       obtain ⟨g1,g2⟩:=withL_perm c r done _ out h
       refine ⟨fun y=>?_,fun z hz=>?_⟩
       · rw [g1 y,show x::r=[x]++r from rfl]
         simp only [List.count_append];omega
       · rcases List.mem_cons.1 hz with rfl | hz
         · exact hx0
         · exact g2 z hz
theorem codes9.with {l:List (List UInt8)} {c:List UInt8} (h:codes9 l) (hc:c∈N9):codes9 (withF l c):=by
 refine ⟨fun x hx=>?_,fun y hy=>?_⟩
 · rcases (withF_facts l c).2.2.1 x hx with hx | rfl
   · exact h.1 x hx
   · exact .inr hc
 · unfold withF
   cases hw:withL c l false [] with
   | none=>exact h.2 y hy
   | some out=>
     obtain ⟨g1,g2⟩:=withL_perm c l false [] out hw
     show out.count y<=1
     rw [g1 y]
     have h1:=h.2 y hy
     by_cases e:c=y
     · subst e
       have h0:l.count c=0:=List.count_eq_zero.2 (fun hm=>g2 c hm (N9_self c hc))
       simp only [cond_false,List.count_nil,h0]
       have:[c].count c=1:=by simp
       omega
     · have:[c].count y=0:=List.count_eq_zero.2 (fun hm=>e (List.mem_singleton.1 hm).symm)
       simp only [cond_false,List.count_nil,this];omega
theorem codes9.of1 {l:List (List UInt8)} (h:∀ x,x∈l->x∈S1):codes9 l:=
 ⟨fun x hx=>.inl (h x hx),fun y hy=>by rw [List.count_eq_zero.2 (fun hm=>N9_S1 y hy (h y hm))];exact Nat.zero_le _⟩
theorem codes1.with {l:List (List UInt8)} {c:List UInt8} (h:∀ x,x∈l->x∈S1) (hc:c∈S1):∀ x,x∈withF l c->x∈S1:=fun x hx=>by
 rcases (withF_facts l c).2.2.1 x hx with hx | rfl
 · exact h x hx
 · exact hc
def SX:List (List UInt8):=[[49],[49,46,49],[49,46,49,46,49],[49,46,49,46,50],[49,46,49,46,51],[49,46,49,46,49,48],[49,46,50],[49,46,50,46,49],[49,46,50,46,50],[49,46,50,46,51],[49,46,50,46,49,48],[49,46,51],[49,46,51,46,49],[49,46,51,46,50],[49,46,51,46,51],[49,46,51,46,49,48],[49,46,49,48],[49,46,49,48,46,49],[49,46,49,48,46,50],[49,46,49,48,46,51],[49,46,49,48,46,49,48],[50],[50,46,49],[50,46,49,46,49],[50,46,49,46,50],[50,46,49,46,51],[50,46,49,46,49,48],[50,46,50],[50,46,50,46,49],[50,46,50,46,50],[50,46,50,46,51],[50,46,50,46,49,48],[50,46,51],[50,46,51,46,49],[50,46,51,46,50],[50,46,51,46,51],[50,46,51,46,49,48],[50,46,49,48],[50,46,49,48,46,49],[50,46,49,48,46,50],[50,46,49,48,46,51],[50,46,49,48,46,49,48],[57],[57,46,49],[57,46,50]]
def befX (c:List UInt8):List (List UInt8):=SX.takeWhile (fun x=>!(x == c))
def aftX (c:List UInt8):List (List UInt8):=(SX.dropWhile (fun x=>!(x == c))).tail
theorem SX_of:∀ c,c∈S1++N9->c∈SX:=by decide +kernel
theorem SX_cut:∀ c,c∈SX->SX=befX c++c::aftX c:=by decide +kernel
theorem SX_cmp:∀ c,c∈SX->cmpF c c=0/\(∀ x,x∈befX c->0<cmpF c x)/\∀ x,x∈aftX c->cmpF c x<0:=by decide +kernel
theorem withL_done (c:List UInt8):∀ (l acc:List (List UInt8)),(∀ x,x∈l->cmpF c x<0)->withL c l true acc=some (acc++l)
 | [],acc,_=>by simp [withL]
 | x::r,acc,h=>by
   have h1:=h x List.mem_cons_self
   have e:(cmpF c x == 0)=false:=by simp;omega
   rw [withL,e,cond_false]
   simp only [Bool.not_true,Bool.and_false,cond_false]
   rw [withL_done c r _ (fun y hy=>h y (List.mem_cons_of_mem _ hy))]
   simp
theorem withL_split (c:List UInt8) (l2:List (List UInt8)) (h2:∀ x,x∈l2->cmpF c x<0):∀ (l1 acc:List (List UInt8)),(∀ x,x∈l1->0<cmpF c x)->withL c (l1++l2) false acc=some (acc++l1++c::l2)
 | [],acc,_=>by
   cases l2 with
   | nil=>simp [withL]
   | cons y r=>
     have h1:=h2 y List.mem_cons_self
     have e:(cmpF c y == 0)=false:=by simp;omega
     have e2:decide (cmpF c y<0)=true:=by simp;omega
     rw [List.nil_append,withL,e,cond_false,e2]
     simp only [Bool.not_false,Bool.and_self,cond_true]
     rw [withL_done c r _ (fun z hz=>h2 z (List.mem_cons_of_mem _ hz))]
     simp
 | x::r,acc,h=>by
   have h1:=h x List.mem_cons_self
   have e:(cmpF c x == 0)=false:=by simp;omega
   have e2:decide (cmpF c x<0)=false:=by simp;omega
   rw [List.cons_append,withL,e,cond_false,e2]
   simp only [Bool.false_and,cond_false]
   rw [withL_split c l2 h2 r _ (fun y hy=>h y (List.mem_cons_of_mem _ hy))]
   simp
theorem withL_has (c:List UInt8) (hc:cmpF c c=0) (l2:List (List UInt8)):∀ (l1 acc:List (List UInt8)),(∀ x,x∈l1->0<cmpF c x)->withL c (l1++c::l2) false acc=none
 | [],acc,_=>by simp [withL,hc]
 | x::r,acc,h=>by
   have h1:=h x List.mem_cons_self
   have e:(cmpF c x == 0)=false:=by simp;omega
   have e2:decide (cmpF c x<0)=false:=by simp;omega
   rw [List.cons_append,withL,e,cond_false,e2]
   simp only [Bool.false_and,cond_false]
   exact withL_has c hc l2 r _ (fun y hy=>h y (List.mem_cons_of_mem _ hy))
def treeC (L:List (List UInt8)):Prop:=L=SX.filter (fun c=>L.contains c)/\∀ x,x∈L->parF x=[]\/parF x∈L
theorem sorted_of {L:List (List UInt8)} {q:List UInt8->Bool} (h:L=SX.filter q):L=SX.filter (fun c=>L.contains c):=by
 conv=>lhs;rw [h]
 apply List.filter_congr
 intro x hx
 rw [Bool.eq_iff_iff,List.contains_iff_mem,h,List.mem_filter]
 exact ⟨fun h=>⟨hx,h⟩,fun h=>h.2⟩
theorem treeC.sx {L:List (List UInt8)} (h:treeC L) {x:List UInt8} (hx:x∈L):x∈SX:=by
 rw [h.1] at hx
 exact (List.mem_filter.1 hx).1
theorem treeC.with {L:List (List UInt8)} {c:List UInt8} (h:treeC L) (hc:c∈SX) (hp:parF c=[]\/parF c∈L):treeC (withF L c):=by
 obtain ⟨g1,g2,g3,_⟩:=withF_facts L c
 obtain ⟨c0,c1,c2⟩:=SX_cmp c hc
 have hcut:=SX_cut c hc
 have hL:L=(befX c).filter (fun x=>L.contains x)++([c].filter (fun x=>L.contains x)++(aftX c).filter (fun x=>L.contains x)):=by
  conv=>lhs;rw [h.1,hcut]
  rw [List.filter_append,show c::aftX c=[c]++aftX c from rfl,List.filter_append]
 refine ⟨?_,fun x hx=>?_⟩
 · refine sorted_of (q:=fun x=>L.contains x||x == c) ?_
   by_cases hm:c∈L
   · have hcm:L.contains c=true:=List.contains_iff_mem.2 hm
     have e1:withF L c=L:=by
      unfold withF
      have:withL c L false []=none:=by
       rw [hL,List.filter_cons,hcm]
       simp only [if_true,List.filter_nil,List.cons_append,List.nil_append]
       exact withL_has c c0 _ _ _ (fun x hx=>c1 x (List.mem_filter.1 hx).1)
      rw [this];rfl
     rw [e1]
     conv=>lhs;rw [h.1]
     apply List.filter_congr
     intro x _
     by_cases e:x=c
     · subst e;rw [hcm];rfl
     · have:(x == c)=false:=by simpa using e
       rw [this,Bool.or_false]
   · have hcm:L.contains c=false:=by
       rw [Bool.eq_false_iff];intro h9;exact hm (List.contains_iff_mem.1 h9)
     have e1:withF L c=(befX c).filter (fun x=>L.contains x)++c::(aftX c).filter (fun x=>L.contains x):=by
      unfold withF
      have:withL c L false []=some ([]++(befX c).filter (fun x=>L.contains x)++c::(aftX c).filter (fun x=>L.contains x)):=by
       conv=>lhs;rw [hL,List.filter_cons,hcm]
       simp only [Bool.false_eq_true,if_false,List.filter_nil,List.nil_append]
       exact withL_split c _ (fun x hx=>c2 x (List.mem_filter.1 hx).1) _ _ (fun x hx=>c1 x (List.mem_filter.1 hx).1)
      rw [this];rfl
     rw [e1]
     conv=>rhs;rw [hcut]
     rw [List.filter_append,List.filter_cons]
     have hcc:(L.contains c||c == c)=true:=by simp
     rw [hcc]
     simp only [if_true]
     have other:∀ l:List (List UInt8),(∀ x,x∈l->cmpF c x≠0)->l.filter (fun x=>L.contains x)=l.filter (fun x=>L.contains x||x == c):=fun l hl=>by
      apply List.filter_congr
      intro x hx
      have:(x == c)=false:=by
       simp only [beq_eq_false_iff_ne]
       intro e
       exact hl x hx (by rw [e];exact c0)
      rw [this,Bool.or_false]
     rw [other (befX c) (fun x hx=>by have:=c1 x hx;omega),other (aftX c) (fun x hx=>by have:=c2 x hx;omega)]
 · rcases g3 x hx with hx | rfl
   · exact (h.2 x hx).imp id (g1 _)
   · exact hp.imp id (g1 _)
theorem S1_up:∀ s,s∈S1->(pI s).length<3->∀ r,r∈([1,2,3,10]:List Int)->parF (codeF (pI s++[r]))=s:=by decide +kernel
theorem treeC12:treeC [[49],[50]]:=⟨by decide +kernel,by decide +kernel⟩
def nineP (es:List PV):Prop:=∃ e,e∈es/\hCode e=[57]
def slV (es:List PV):PV:=.sl es
def preTr (args:List PV):Prop:=∃ n:Int,args=[.int .i64 n]/\0<=n/\n<=50
def nm5:List (List UInt8):=[[115,99,104,111,111,108,115],[114,111,97,100,115],[99,111,117,114,116,32,111,102,32,97,117,100,105,116],[97],[116,97,120]]
def nameP (es:List PV):Prop:=∀ e,e∈es->∃ c n,e=hV c n/\c.length<=100/\n∈nm5
def okTr (_:List PV) (es:List PV):Prop:=treeP es/\nineP es/\codes9 (es.map hCode)/\treeC (es.map hCode)/\nameP es/\[49]∈es.map hCode
noncomputable def treeS:QSpec:=qV Tp preTr slV okTr
theorem treeQ (i:Nat) (hi:i<5):∃ nm,[PV.str [115,99,104,111,111,108,115],PV.str [114,111,97,100,115],PV.str [99,111,117,114,116,32,111,102,32,97,117,100,105,116],PV.str [97],PV.str [116,97,120]].getD i default=.str nm/\nm∈nm5:=by
 have:i=0\/i=1\/i=2\/i=3\/i=4:=by omega
 rcases this with rfl | rfl | rfl | rfl | rfl <;> exact ⟨_,rfl,by decide⟩
theorem w_treeS:QSound GG 38 treeS:=by
 unfold treeS
 refine QSound.of_wpcV (C:=cxQ Tryz.prog Φ14 Θ4 noΨ [33] [9000] 78) 9000 Tryz.func38 rfl rfl rfl (Fit.all (G:=GG) hΦ14 hΘ4 hnoΨ mixed) rfl (fun args h=>?_) (fun args h=>?_)
 · exact ⟨[hV [49] [97],hV [57] [97]],⟨by decide,fun e he=>by simp only [List.mem_cons,List.not_mem_nil,or_false] at he;rcases he with rfl | rfl <;> exact ⟨_,_,rfl,by decide⟩⟩,⟨_,List.mem_cons_of_mem _ (List.mem_singleton.2 rfl),rfl⟩,⟨by decide,by decide⟩,⟨by decide +kernel,by decide +kernel⟩,(fun e he=>by simp only [List.mem_cons,List.not_mem_nil,or_false] at he;rcases he with rfl | rfl <;> exact ⟨_,_,rfl,by decide,by decide⟩),by decide⟩
 · obtain ⟨n,rfl,h1,h2⟩:=h
   refine ⟨by simp [cxQ],?_⟩
   refine wpc_sound (T:=plan0) _ _ _ ?_
   have hw1:IntKind.i64.wrap (n+1)=n+1:=i64_in _ (by omega)
   simp only [hw1,intV,Nat.reduceBEq,Tryz.f38,go_sem,↓reduceIte,reduceCtorEq,Nat.reduceEqDiff,Nat.reduceLT,↓all_qV,Nat.reduceAdd,Nat.reduceLeDiff,Nat.reduceMul]
   refine ⟨⟨by omega,by omega⟩,fun x hx=>?_⟩
   refine AWp.loop (T:=plan0) (α:=Int × List (List UInt8)) (fun y=>([(0,.ptr 9000 0),(5,.pv (.sl (y.2.map PV.str))),(6,.pv (.int .i64 y.1))],[(9000,.obj Tp)])) (fun y=>(0<=y.1/\y.1<=50)/\(codesP y.2/\(∀ x,x∈y.2->x∈S1)/\treeC y.2/\[49]∈y.2)/\(y.2.length:Int)+y.1<=53) (fun y=>y.1.toNat)
    ⟨(x,[[49],[50]]),⟨⟨by omega,by omega⟩,⟨⟨by simp,fun z hz=>by simp at hz;rcases hz with rfl | rfl <;> decide⟩,fun z hz=>(by simp at hz;rcases hz with rfl | rfl <;> decide),treeC12,by simp⟩,by simp;omega⟩,⟨by simp [fitR,look],by simp [fitH,hget],rfl,rfl,rfl⟩⟩ ?_
   rintro ⟨i,l⟩ ⟨⟨g1,g2⟩,⟨g3,g31,g32,g33⟩,g4⟩
   simp only at g1 g2 g3 g31 g32 g33 g4
   have hi1:IntKind.i64.wrap (i-1)=i-1:=i64_in _ (by omega)
   have hpos:=List.length_pos_iff.2 g3.1
   by_cases hlt:0<i
   · have c0:decide (0<i)=true:=by simp;exact hlt
     simp only [c0,hi1,List.length_map,intV,ev_rowlit0,Nat.reduceBEq,Φ14,Φ13,Φ12,Φ11,Φ10,Φ9,Φ8,Φ7,Φ6,Φ5,Φ4,withS,codeS,partsS,on_l_eq,on_ls_eq,go_sem,↓reduceIte,reduceCtorEq,Nat.reduceEqDiff,Nat.reduceLT,↓all_qVs,Int.reduceLE,Nat.reduceAdd,Nat.reduceLeDiff,Nat.reduceMul]
     refine ⟨⟨by omega,by omega⟩,fun n2 hn2=>?_⟩
     obtain ⟨j,rfl⟩:=Int.eq_ofNat_of_zero_le hn2.1
     have hj:j<l.length:=by omega
     have hm:=getD_strs hj
     have hsm:l.getD j []∈l:=by rw [List.getD_eq_getElem?_getD,List.getElem?_eq_getElem hj];exact List.getElem_mem _
     have hsl:=g3.2 _ hsm
     have hs1:=g31 _ hsm
     have hsm':=hsm
     generalize l.getD j []=s at hm hsl hs1 hsm'
     obtain ⟨e1,e2⟩:=parts_eq s
     have e3:parts s=(pI s).map (PV.int .i64):=e1
     obtain ⟨q,hq⟩:∃ q,pI s=q:=⟨_,rfl⟩
     rw [hq] at e2 e3
     simp only [Later_eq,hm,e3,List.length_map,on_s_eq,go_sem,Nat.reduceLT,Nat.reduceLeDiff]
     refine ⟨⟨by omega,by omega⟩,by omega,fun _=>⟨(i-1,l),⟨⟨by simp only;omega,by simp only;omega⟩,⟨g3,g31,g32,g33⟩,by simp only;omega⟩,by simp only;omega,⟨by simp [fitR,look],by simp [fitH,hget],rfl,rfl,rfl⟩⟩,
      fun h3=>⟨rfl,fun e he=>by simp only [List.mem_map] at he;obtain ⟨z,_,rfl⟩:=he;rfl,by omega,by simp only [maxLen];omega,⟨_,rfl,by simp,by simp,fun e he=>?_⟩,fun r hr=>?_⟩⟩
     · simp only [List.mem_cons,List.not_mem_nil,or_false] at he
       rcases he with rfl | rfl | rfl | rfl <;> exact ⟨_,rfl,by decide,by decide⟩
     have hq3:q.length<3:=by have h9:=of_decide_eq_false h3;omega
     have tk1:(q.map (PV.int .i64)).take q.length=q.map (PV.int .i64):=List.take_of_length_le (by simp)
     have tk2:(q.map (PV.int .i64)++[PV.int .i64 r]).take (q.length+1)=(q++[r]).map intV:=by
      rw [List.take_of_length_le (by simp)];simp [intV]
     have tk3:((q++[r]).map intV).map nOf=q++[r]:=by simp [List.map_map,Function.comp_def,nOf,intV]
     have hcl:=codeF_len (q++[r]) (by simp;omega)
     obtain ⟨k1,k2,k3⟩:=g3.with hcl
     have hr4:r∈([1,2,3,10]:List Int):=by
      obtain ⟨es',he',hm'⟩:=hr
      simp only [List.cons.injEq,PV.sl.injEq,and_true] at he'
      subst he'
      simpa [intV] using hm'
     have hc1:codeF (q++[r])∈S1:=by rw [<- hq];exact S1_step s hs1 (by rw [hq];exact hq3) r hr4
     have k4:=codes1.with g31 hc1
     have hup:parF (codeF (q++[r]))=s:=by rw [<- hq];exact S1_up s hs1 (by rw [hq];exact hq3) r hr4
     have k5:=g32.with (SX_of _ (List.mem_append.2 (.inl hc1))) (.inr (by rw [hup];exact hsm'))
     rw [tk1,tk2,tk3,map_sOf]
     exact ⟨rfl,fun e he=>by simp only [List.mem_singleton] at he;subst he;rfl,Nat.le_refl _,by omega,by simp only [maxLen];omega,⟨by simp,⟨_,rfl⟩,by simp;omega⟩,⟨⟨l,rfl,fun z hz=>by have:=g3.2 z hz;omega⟩,by omega,by omega⟩,
      (i-1,withF l (codeF (q++[r]))),⟨⟨by simp only;omega,by simp only;omega⟩,⟨k1,k4,k5,k3 _ g33⟩,by simp only;omega⟩,by simp only;omega,⟨by simp [fitR,look],by simp [fitH,hget],rfl,rfl,rfl⟩⟩
   · have c0:decide (0<i)=false:=by simp;omega
     simp only [c0,List.length_map,intV,ev_rowlit0,Nat.reduceBEq,Φ14,Φ13,Φ12,Φ11,Φ10,Φ9,Φ8,Φ7,Φ6,Φ5,Φ4,withS,codeS,partsS,on_l_eq,on_ls_eq,go_sem,↓reduceIte,reduceCtorEq,Nat.reduceEqDiff,Nat.reduceLT,↓all_qVs,Int.reduceLE,Nat.reduceAdd,Nat.reduceLeDiff,Nat.reduceMul]
     refine ⟨⟨⟨l,rfl,fun x hx=>by have:=g3.2 x hx;omega⟩,by omega⟩,fun m hm=>?_⟩
     simp only [Later_eq]
     obtain ⟨k1,k2,k3⟩:=g3.with (c:=[57]) (by decide)
     rw [map_sOf]
     refine AWp.loop (T:=plan0) (α:=Int × List (List UInt8)) (fun y=>([(0,.ptr 9000 0),(5,.pv (.sl (y.2.map PV.str))),(9,.pv (.int .i64 y.1))],[(9000,.obj Tp)])) (fun y=>(0<=y.1/\y.1<=3)/\(codesP y.2/\[57]∈y.2/\codes9 y.2/\treeC y.2/\[49]∈y.2)/\(y.2.length:Int)+y.1<=60) (fun y=>y.1.toNat)
      ⟨(m,withF l [57]),⟨⟨by omega,by omega⟩,⟨k1,with9 l,(codes9.of1 g31).with (by decide),g32.with (by decide) (.inl (by decide +kernel)),k3 _ g33⟩,by simp only;omega⟩,⟨by simp [fitR,look],by simp [fitH,hget],rfl,rfl,rfl⟩⟩ ?_
     clear k1 k2 k3 g3 g31 g32 g33 g4 hpos
     rintro ⟨i2,l⟩ ⟨⟨f1,f2⟩,⟨g3,g5,g51,g52,g53⟩,g4⟩
     simp only at f1 f2 g3 g5 g51 g52 g53 g4
     have hi2:IntKind.i64.wrap (i2-1)=i2-1:=i64_in _ (by omega)
     by_cases hlt2:0<i2
     · have c1:decide (0<i2)=true:=by simp;exact hlt2
       simp only [c1,hi2,List.length_map,intV,Nat.reduceBEq,Φ14,Φ13,Φ12,Φ11,Φ10,Φ9,Φ8,Φ7,Φ6,Φ5,Φ4,withS,go_sem,↓reduceIte,reduceCtorEq,Nat.reduceEqDiff,Nat.reduceLT,↓all_qVs,Int.reduceLE,Nat.reduceAdd,Nat.reduceLeDiff,Nat.reduceMul]
       intro n3 hn3
       obtain ⟨j,rfl⟩:=Int.eq_ofNat_of_zero_le hn3.1
       obtain ⟨c,hc,hcl,hc9,hcu⟩:∃ c,[PV.str [57,46,49],PV.str [57,46,50]].getD j default=.str c/\c.length<=100/\c∈N9/\parF c=[57]:=by
        have:j=0\/j=1:=by omega
        rcases this with rfl | rfl
        · exact ⟨_,rfl,by decide,by decide,by decide +kernel⟩
        · exact ⟨_,rfl,by decide,by decide,by decide +kernel⟩
       obtain ⟨k1,k2,k3⟩:=g3.with hcl
       simp only [Later_eq,hc,map_sOf,List.length_map,on_ls_eq,go_sem,Nat.reduceLeDiff]
       exact ⟨⟨by omega,by omega⟩,⟨⟨l,rfl,fun z hz=>by have:=g3.2 z hz;omega⟩,by omega,by omega⟩,(i2-1,withF l c),⟨⟨by simp only;omega,by simp only;omega⟩,⟨k1,k3 _ g5,g51.with hc9,g52.with (SX_of _ (List.mem_append.2 (.inr hc9))) (.inr (by rw [hcu];exact g5)),k3 _ g53⟩,by simp only;omega⟩,by simp only;omega,⟨by simp [fitR,look],by simp [fitH,hget],rfl,rfl,rfl⟩⟩
     · have c1:decide (0<i2)=false:=by simp;omega
       simp only [c1,List.length_map,intV,Nat.reduceBEq,Φ14,Φ13,Φ12,Φ11,Φ10,Φ9,Φ8,Φ7,Φ6,Φ5,Φ4,withS,go_sem,↓reduceIte,reduceCtorEq,Nat.reduceEqDiff,Nat.reduceLT,↓all_qVs,Int.reduceLE,Nat.reduceAdd,Nat.reduceLeDiff,Nat.reduceMul]
       refine AWp.adoptS (s:=10) (κ:=8000) (k:=2) (by simp [look]) rfl (by decide) ?_
       refine AWp.loop (T:=plan0) (α:=Nat × List PV) (fun y=>([(0,.ptr 9000 0),(10,.rs 8000 y.2.length),(60,.pv (.sl (l.map PV.str))),(61,.pv (.int .i64 l.length)),(62,.pv (.int .i64 y.1))],[(9000,.obj Tp),(8000,.row 2 y.2)])) (fun y=>y.1<=l.length/\y.2.map hCode=l.take y.1/\∀ e,e∈y.2->∃ c n,e=hV c n/\c.length<=100/\n∈nm5) (fun y=>l.length-y.1)
        ⟨(0,[]),⟨Nat.zero_le _,rfl,fun e he=>(by cases he)⟩,⟨by simp [fitR,look,upd],by simp [fitH,hget,hset],rfl,rfl,rfl⟩⟩ ?_
       rintro ⟨k,acc⟩ ⟨d1,d2,d3⟩
       simp only at d1 d2 d3
       have hal:acc.length=k:=by have:=congrArg List.length d2;rw [List.length_map,List.length_take] at this;omega
       have hk1:IntKind.i64.wrap ((k:Int)+1)=((k+1:Nat):Int):=by rw [i64_in _ (by omega)];omega
       by_cases klt:k<l.length
       · have c2:decide ((k:Int)<(l.length:Int))=true:=by simp;omega
         have hm:=getD_strs klt
         have hcm:l.getD k []∈l:=by rw [List.getD_eq_getElem?_getD,List.getElem?_eq_getElem klt];exact List.getElem_mem _
         have htk:l.take (k+1)=l.take k++[l.getD k []]:=by rw [List.take_add_one,List.getD_eq_getElem?_getD,List.getElem?_eq_getElem klt];rfl
         have hcl:=g3.2 _ hcm
         generalize l.getD k []=c at hm hcm htk hcl
         simp only [c2,hm,hk1,List.length_map,intV,Nat.reduceBEq,Φ14,Φ13,Φ12,Φ11,Φ10,Φ9,Φ8,Φ7,Φ6,Φ5,Φ4,go_sem,↓reduceIte,reduceCtorEq,Nat.reduceEqDiff,Nat.reduceLT,↓all_qVs,Int.reduceLE,Nat.reduceAdd,Nat.reduceLeDiff,Nat.reduceMul]
         refine ⟨⟨by omega,by omega⟩,fun n4 hn4=>?_⟩
         obtain ⟨j,rfl⟩:=Int.eq_ofNat_of_zero_le hn4.1
         obtain ⟨nm,hnm,hn5⟩:=treeQ j (by omega)
         simp only [Later_eq,hnm,go_sem,↓reduceIte,Nat.reduceAdd,Nat.reduceLeDiff]
         have tk:acc.take acc.length=acc:=List.take_length
         exact ⟨⟨by omega,by omega⟩,rfl,fun e he=>by simp only [List.mem_singleton] at he;subst he;rfl,Nat.le_refl _,by omega,by simp only [maxLen];omega,(k+1,acc++[.agg [.str c,.str nm]]),⟨by simp only;omega,by simp only [List.map_append,d2,htk];rfl,fun e he=>by
          rcases List.mem_append.1 he with h | h
          · exact d3 e h
          · simp only [List.mem_singleton] at h;subst h;exact ⟨c,nm,rfl,hcl,hn5⟩⟩,by simp only;omega,⟨by simp [fitR,look],by simp [fitH,hget,tk],rfl,rfl,rfl⟩⟩
       · have c2:decide ((k:Int)<(l.length:Int))=false:=by simp;omega
         simp only [c2,List.length_map,intV,Nat.reduceBEq,Φ14,Φ13,Φ12,Φ11,Φ10,Φ9,Φ8,Φ7,Φ6,Φ5,Φ4,go_sem,↓reduceIte,reduceCtorEq,Nat.reduceEqDiff,Nat.reduceLT,↓all_qVs,Int.reduceLE,Nat.reduceAdd,Nat.reduceLeDiff,Nat.reduceMul]
         rw [show l.take k=l from List.take_of_length_le (by omega)] at d2
         rw [List.take_length]
         refine ⟨Nat.le_refl _,acc,rfl,⟨by omega,fun e he=>by obtain ⟨c,n,h1,h2,_⟩:=d3 e he;exact ⟨c,n,h1,h2⟩⟩,?_,by rw [d2];exact g51,by rw [d2];exact g52,d3,by rw [d2];exact g53⟩
         rw [<- d2,List.mem_map] at g5
         obtain ⟨e,e1,e2⟩:=g5
         exact ⟨e,e1,e2⟩
noncomputable def Θ5 (g:FuncId):Option QSpec:=putΘ Θ4 38 (qV Tp preTr slV okTr) g
theorem hΘ5:QTab GG Θ5:=hΘ4.put w_treeS
end Go.AM
