/-
  A part of a proof.
-/
import Derived.Test.YtkajgkbhkkgdbaaGreatDoorR3e
set_option linter.unusedSimpArgs false
set_option linter.unusedVariables false
namespace Go.AM
open Go Go.Proofs Go.IntWalk
set_option maxRecDepth 100000
set_option maxHeartbeats 1000000
theorem goW_itoa:∀ k:_root_.Fin 99,goW (Lib.itoa ((k.val:Int)+1))=some ((k.val:Int)+1):=by decide +kernel
def refW:List UInt8->Option Int
 | [c]=>if 49<=c.toNat/\c.toNat<=57 then some ((c.toNat:Int)-48) else none
 | [c,e]=>if (49<=c.toNat/\c.toNat<=57)/\(48<=e.toNat/\e.toNat<=57) then some (10 * ((c.toNat:Int)-48)+((e.toNat:Int)-48)) else none
 | _=>none
theorem refW_1 {c:UInt8}:refW [c]=if 49<=c.toNat/\c.toNat<=57 then some ((c.toNat:Int)-48) else none:=rfl
theorem refW_2 {c e:UInt8}:refW [c,e]=if (49<=c.toNat/\c.toNat<=57)/\(48<=e.toNat/\e.toNat<=57) then some (10 * ((c.toNat:Int)-48)+((e.toNat:Int)-48)) else none:=rfl
theorem refW_itoa:∀ k:_root_.Fin 99,refW (Lib.itoa ((k.val:Int)+1))=some ((k.val:Int)+1):=by decide +kernel
theorem goW_one:∀ k:_root_.Fin 9,goW [UInt8.ofNat (k.val+49)]=some ((k.val:Int)+1):=by decide +kernel
theorem goW_two:∀ k:_root_.Fin 9,∀ j:_root_.Fin 10,goW [UInt8.ofNat (k.val+49),UInt8.ofNat (j.val+48)]=some (10 * ((k.val:Int)+1)+j.val):=by decide +kernel
theorem goW_back {w:List UInt8} {v:Int} (h:goW w=some v):1<=v/\v<=99/\Lib.itoa v=w:=by
 unfold goW at h
 split at h
 · rename_i x hx
   split at h
   · rename_i h3
     cases h
     exact h3
   · cases h
 · cases h
theorem byte_eq (c:UInt8) {n:Nat} (h:c.toNat=n):c=UInt8.ofNat n:=by subst h;simp
theorem goW_ref (w:List UInt8):goW w=refW w:=by
 have h1:∀ v,goW w=some v->refW w=some v:=by
  intro v h
  obtain ⟨a,b,e⟩:=goW_back h
  have:=refW_itoa ⟨(v-1).toNat,by omega⟩
  simp only [show (((v-1).toNat:Nat):Int)+1=v by omega] at this
  rw [e] at this;exact this
 have h2:∀ v,refW w=some v->goW w=some v:=by
  intro v h
  match w,h with
  | [c],h=>
    rw [refW_1] at h
    split at h
    · rename_i h3
      obtain rfl:=Option.some.inj h
      have:=goW_one ⟨c.toNat-49,by omega⟩
      simp only [show c.toNat-49+49=c.toNat by omega,show ((c.toNat-49:Nat):Int)+1=(c.toNat:Int)-48 by omega] at this
      rw [<- byte_eq c rfl] at this;exact this
    · cases h
  | [c,e],h=>
    rw [refW_2] at h
    split at h
    · rename_i h3
      obtain rfl:=Option.some.inj h
      have:=goW_two ⟨c.toNat-49,by omega⟩ ⟨e.toNat-48,by omega⟩
      simp only [show c.toNat-49+49=c.toNat by omega,show e.toNat-48+48=e.toNat by omega,show ((c.toNat-49:Nat):Int)+1=(c.toNat:Int)-48 by omega,show ((e.toNat-48:Nat):Int)=(e.toNat:Int)-48 by omega] at this
      rw [<- byte_eq c rfl,<- byte_eq e rfl] at this;exact this
    · cases h
 cases hg:goW w with
 | some v=>exact (h1 v hg).symm
 | none=>
   cases hr:refW w with
   | none=>rfl
   | some v=>rw [h2 v hr] at hg;cases hg
def digB (c:UInt8):Prop:=48<=c.toNat/\c.toNat<=57
def valW (u:List UInt8):Int:=u.foldl (fun v c=>10 * v+((c.toNat:Int)-48)) 0
def fstW:List UInt8->Int
 | []=>0
 | c::_=>(c.toNat:Int)
theorem wordsOf_ne (l:List UInt8):∃ w ws,wordsOf l=w::ws:=⟨_,_,wordsOf_cut l⟩
theorem wordsOf_dot:∀ (u r:List UInt8),(∀ c,c∈u->digB c)->wordsOf (u++46::r)=u::wordsOf r
 | [],r,_=>by rw [List.nil_append,wordsOf,if_pos rfl]
 | c::u,r,h=>by
   have hc:¬ c=46:=fun e=>by subst e;have:=(h 46 List.mem_cons_self).1;revert this;decide
   rw [List.cons_append,wordsOf,if_neg hc,wordsOf_dot u r (fun x hx=>h x (List.mem_cons_of_mem _ hx))];rfl
theorem wordsOf_end:∀ (u:List UInt8),(∀ c,c∈u->digB c)->wordsOf u=[u]
 | [],_=>rfl
 | c::u,h=>by
   have hc:¬ c=46:=fun e=>by subst e;have:=(h 46 List.mem_cons_self).1;revert this;decide
   rw [wordsOf,if_neg hc,wordsOf_end u (fun x hx=>h x (List.mem_cons_of_mem _ hx))];rfl
theorem wordsOf_bad:∀ (u:List UInt8) (c:UInt8) (r:List UInt8),(∀ c,c∈u->digB c)->¬ c=46->∃ w ws,wordsOf (u++c::r)=(u++c::w)::ws
 | [],c,r,_,hc=>by
   obtain ⟨w,ws,e⟩:=wordsOf_ne r
   exact ⟨w,ws,by rw [List.nil_append,wordsOf,if_neg hc,e];rfl⟩
 | x::u,c,r,h,hc=>by
   have hx:¬ x=46:=fun e=>by subst e;have:=(h 46 List.mem_cons_self).1;revert this;decide
   obtain ⟨w,ws,e⟩:=wordsOf_bad u c r (fun y hy=>h y (List.mem_cons_of_mem _ hy)) hc
   exact ⟨w,ws,by rw [List.cons_append,wordsOf,if_neg hx,e];rfl⟩
theorem refW_bad {u w:List UInt8} {c:UInt8} (hc:¬ digB c):refW (u++c::w)=none:=by
 unfold digB at hc
 match u,w with
 | [],[]=>exact (refW_1 (c:=c)).trans (if_neg (by omega))
 | [],[x]=>exact (refW_2 (c:=c) (e:=x)).trans (if_neg (by omega))
 | [],x::y::r=>rfl
 | [x],[]=>exact (refW_2 (c:=x) (e:=c)).trans (if_neg (by omega))
 | [x],y::r=>rfl
 | x::y::u',w=>cases u' <;> rfl
theorem refW_good {u:List UInt8} (h:∀ c,c∈u->digB c):refW u=bif ((u.length:Int) == 0||decide (2<(u.length:Int))||fstW u == 48) then none else some (valW u):=by
 match u,h with
 | [],_=>rfl
 | [c],h=>
   have h1:=h c List.mem_cons_self
   unfold digB at h1
   rw [refW_1]
   by_cases h9:c.toNat=48
   · rw [if_neg (by omega),show (fstW [c] == 48)=true by show ((c.toNat:Int) == 48)=true;rw [h9];rfl];simp
   · rw [if_pos (by omega),show (fstW [c] == 48)=false by show ((c.toNat:Int) == 48)=false;simp;omega]
     show some _=some _
     congr 1
     show _=10 * 0+((c.toNat:Int)-48)
     omega
 | [c,e],h=>
   have h1:=h c List.mem_cons_self
   have h2:=h e (List.mem_cons_of_mem _ List.mem_cons_self)
   unfold digB at h1 h2
   rw [refW_2]
   by_cases h9:c.toNat=48
   · rw [if_neg (by omega),show (fstW [c,e] == 48)=true by show ((c.toNat:Int) == 48)=true;rw [h9];rfl];simp
   · rw [if_pos (by omega),show (fstW [c,e] == 48)=false by show ((c.toNat:Int) == 48)=false;simp;omega]
     show some _=some _
     congr 1
     show _=10 * (10 * 0+((c.toNat:Int)-48))+((e.toNat:Int)-48)
     omega
 | a::b::c::r,_=>
   have:decide (2<(((a::b::c::r).length:Nat):Int))=true:=by simp only [List.length_cons,decide_eq_true_eq];omega
   rw [this];simp [refW]
def endP (o:Option (List Int)):List PV:=match o with | none=>[] | some l=>if 4<l.length then [] else l.map intV
theorem parG_goP:∀ (s u:List UInt8) (acc:List Int),(∀ c,c∈u->digB c)->parG s (acc.map intV) (valW u) u.length (fstW u)=endP (goP acc (wordsOf (u++s)))
 | [],u,acc,h=>by
   rw [List.append_nil,wordsOf_end u h,goP_cons,goW_ref,refW_good h,parG]
   cases ((u.length:Int) == 0||decide (2<(u.length:Int))||fstW u == 48) with
   | true=>rfl
   | false=>
     show (if _ then _ else _)=endP (goP (acc++[valW u]) [])
     rw [goP_nil]
     show _=if _ then _ else _
     simp
 | c::r,u,acc,h=>by
   rw [parG]
   by_cases h1:c.toNat=46
   · have hc:c=46:=byte_eq c h1
     subst hc
     rw [wordsOf_dot u r h,goP_cons,goW_ref,refW_good h,show (((46:UInt8).toNat:Int) == 46)=true from rfl,cond_true]
     cases ((u.length:Int) == 0||decide (2<(u.length:Int))||fstW u == 48) with
     | true=>rfl
     | false=>
       have ih:=parG_goP r [] (acc++[valW u]) (fun x hx=>by cases hx)
       rw [List.nil_append] at ih
       rw [cond_false,cond_false,<- ih]
       simp [valW,fstW]
   · have hc:¬ c=46:=fun e=>h1 (by rw [e];rfl)
     rw [show ((c.toNat:Int) == 46)=false by simp;omega,cond_false]
     by_cases h2:digB c
     · unfold digB at h2
       rw [show (decide ((c.toNat:Int)<48)||decide (57<(c.toNat:Int)))=false by simp;omega,cond_false]
       have ih:=parG_goP r (u++[c]) acc (fun x hx=>by
        rcases List.mem_append.1 hx with hx | hx
        · exact h x hx
        · rw [List.mem_singleton] at hx;subst hx;exact h2)
       rw [show u++c::r=(u++[c])++r by simp,<- ih]
       have e1:valW (u++[c])=10 * valW u+((c.toNat:Int)-48):=by unfold valW;rw [List.foldl_append];rfl
       have e2:fstW (u++[c])=bif (u.length:Int) == 0 then (c.toNat:Int) else fstW u:=by
        cases u with
        | nil=>rfl
        | cons x u'=>rw [show (((x::u').length:Int) == 0)=false by simp only [List.length_cons,beq_eq_false_iff_ne];omega];rfl
       rw [e1,e2,show (((u++[c]).length:Nat):Int)=(u.length:Int)+1 by simp]
     · obtain ⟨w,ws,e⟩:=wordsOf_bad u c r h hc
       rw [e,goP_cons,goW_ref,refW_bad h2]
       unfold digB at h2
       rw [show (decide ((c.toNat:Int)<48)||decide (57<(c.toNat:Int)))=true by simp;omega]
       rfl
theorem words_len:∀ s:List UInt8,s.length+1=((wordsOf s).map fun w=>w.length+1).sum
 | []=>rfl
 | c::r=>by
   have ih:=words_len r
   obtain ⟨w,ws,e⟩:=wordsOf_ne r
   rw [wordsOf]
   rw [e] at ih ⊢
   simp only [List.map_cons,List.sum_cons,List.length_cons] at ih ⊢
   split
   · simp only [List.map_cons,List.sum_cons,List.length_nil];omega
   · simp only [List.headD_cons,List.tail_cons,List.map_cons,List.sum_cons,List.length_cons];omega
theorem goP_len:∀ (ws:List (List UInt8)) (acc l:List Int),goP acc ws=some l->l.length=acc.length+ws.length/\(ws.map fun w=>w.length+1).sum<=3 * ws.length
 | [],acc,l,h=>by rw [goP_nil] at h;cases h;simp
 | w::ws,acc,l,h=>by
   rw [goP_cons,goW_ref] at h
   cases hw:refW w with
   | none=>rw [hw] at h;cases h
   | some v=>
     rw [hw] at h
     obtain ⟨h1,h2⟩:=goP_len ws _ l h
     have h3:w.length<=2:=by
      match w,hw with
      | [],hw=>cases hw
      | [_],_=>simp
      | [_,_],_=>simp
      | _::_::_::_,hw=>cases hw
     simp only [List.length_append,List.length_cons,List.length_nil,List.map_cons,List.sum_cons] at h1 h2 ⊢
     omega
theorem parts_partsR (s:List UInt8):parts s=(partsR s).map intV:=by
 have h:=parG_goP s [] [] (fun x hx=>by cases hx)
 have h2:(partsR s).map intV=endP (goP [] (wordsOf s)):=by
  unfold partsR endP
  cases goP [] (wordsOf s) with
  | none=>rfl
  | some l=>
    show (if _ then _ else _:List Int).map intV=if _ then _ else _
    split <;> rfl
 rw [h2]
 unfold parts
 split
 · rename_i h3
   cases hg:goP [] (wordsOf s) with
   | none=>rfl
   | some l=>
     obtain ⟨h4,h5⟩:=goP_len _ _ _ hg
     have h6:=words_len s
     show []=if _ then _ else _
     rw [if_pos (by simp only [List.length_nil] at h4;omega)]
 · exact h
def joinD:List (List UInt8)->List UInt8
 | []=>[]
 | [w]=>w
 | w::ws=>w++46::joinD ws
theorem joinD_cons {w:List UInt8} {ws:List (List UInt8)} (h:ws≠[]):joinD (w::ws)=w++46::joinD ws:=by
 cases ws with
 | nil=>exact absurd rfl h
 | cons v vs=>rfl
theorem joinD_app:∀ {ws vs:List (List UInt8)},ws≠[]->vs≠[]->joinD (ws++vs)=joinD ws++46::joinD vs
 | [],_,h,_=>absurd rfl h
 | [w],vs,_,h=>by rw [List.singleton_append,joinD_cons h];rfl
 | w::v::ws,vs,_,h=>by
   have ih:=joinD_app (ws:=v::ws) (vs:=vs) (by simp) h
   have h2:=joinD_cons (w:=w) (ws:=v::ws) (by simp)
   rw [List.cons_append,joinD_cons (w:=w) (ws:=v::ws++vs) (by simp),ih,h2]
   simp
theorem joinD_words:∀ s:List UInt8,joinD (wordsOf s)=s
 | []=>rfl
 | c::r=>by
   have ih:=joinD_words r
   obtain ⟨w,ws,e⟩:=wordsOf_ne r
   rw [e] at ih
   unfold wordsOf
   by_cases h:c=46
   · rw [if_pos h,e,h]
     show []++46::joinD (w::ws)=_
     rw [ih];rfl
   · rw [if_neg h,e]
     show joinD ((c::w)::ws)=_
     cases ws with
     | nil=>show c::w=_;rw [show w=r from ih]
     | cons v vs=>
       show (c::w)++46::joinD (v::vs)=_
       rw [<- ih];rfl
theorem words_dot:∀ (x r:List UInt8),wordsOf (x++46::r)=wordsOf x++wordsOf r
 | [],r=>by
   show (if (46:UInt8)=46 then []::wordsOf r else _)=_
   rw [if_pos rfl];rfl
 | c::x,r=>by
   have ih:=words_dot x r
   obtain ⟨w,ws,e⟩:=wordsOf_ne x
   rw [e] at ih
   rw [List.cons_append,wordsOf,wordsOf,ih,e]
   by_cases h:c=46
   · rw [if_pos h,if_pos h];rfl
   · rw [if_neg h,if_neg h];rfl
theorem goP_itoa:∀ (ws:List (List UInt8)) (acc l:List Int),goP acc ws=some l->∃ m,l=acc++m/\ws=m.map Lib.itoa/\∀ v,v∈m->1<=v/\v<=99
 | [],acc,l,h=>by rw [goP_nil] at h;cases h;exact ⟨[],by simp,rfl,fun v hv=>by cases hv⟩
 | w::ws,acc,l,h=>by
   rw [goP_cons] at h
   cases hw:goW w with
   | none=>rw [hw] at h;cases h
   | some v=>
     rw [hw] at h
     obtain ⟨m,h1,h2,h3⟩:=goP_itoa ws _ l h
     obtain ⟨b1,b2,b3⟩:=goW_back hw
     refine ⟨v::m,by rw [h1];simp,by rw [List.map_cons,b3,h2],fun x hx=>?_⟩
     rcases List.mem_cons.1 hx with rfl | hx
     · exact ⟨b1,b2⟩
     · exact h3 x hx
theorem parts_words {s:List UInt8} (h:0<(partsR s).length):wordsOf s=(partsR s).map Lib.itoa/\∀ v,v∈partsR s->1<=v/\v<=99:=by
 unfold partsR at h ⊢
 cases hg:goP [] (wordsOf s) with
 | none=>rw [hg] at h;simp at h
 | some l=>
   rw [hg] at h
   simp only at h ⊢
   split at h
   · simp at h
   · rename_i h4
     rw [if_neg h4]
     obtain ⟨m,h1,h2,h3⟩:=goP_itoa _ _ _ hg
     rw [List.nil_append] at h1
     rw [h1];exact ⟨h2,h3⟩
theorem goW_itoa' {v:Int} (h:1<=v/\v<=99):goW (Lib.itoa v)=some v:=by
 have:=goW_itoa ⟨(v-1).toNat,by omega⟩
 simp only [show (((v-1).toNat:Nat):Int)+1=v by omega] at this
 exact this
theorem itoas_inj:∀ {p q:List Int},(∀ v,v∈p->1<=v/\v<=99)->(∀ v,v∈q->1<=v/\v<=99)->p.map Lib.itoa=q.map Lib.itoa->p=q
 | [],[],_,_,_=>rfl
 | [],_::_,_,_,h=>by cases h
 | _::_,[],_,_,h=>by cases h
 | v::p,w::q,hp,hq,h=>by
   simp only [List.map_cons,List.cons.injEq] at h
   have h1:=goW_itoa' (hp v List.mem_cons_self)
   have h2:=goW_itoa' (hq w List.mem_cons_self)
   rw [h.1,h2] at h1
   rw [Option.some.inj h1,itoas_inj (fun x hx=>hp x (List.mem_cons_of_mem _ hx)) (fun x hx=>hq x (List.mem_cons_of_mem _ hx)) h.2]
def epP (o:Option (List Int)):List Int:=match o with | none=>[] | some l=>if 4<l.length then [] else l
theorem goP_bad {acc:List Int} {w:List UInt8} {ws:List (List UInt8)} (h:refW w=none):epP (goP acc (w::ws))=[]:=by
 rw [goP_cons,goW_ref,h];rfl
theorem refW_zero (w:List UInt8):refW (48::w)=none:=by
 match w with
 | []=>rfl
 | [e]=>exact (refW_2 (c:=48) (e:=e)).trans (if_neg (by rw [show (48:UInt8).toNat=48 from rfl];omega))
 | _::_::_=>rfl
theorem good_words:∀ (s u:List UInt8) (acc:List Int),(∀ c,c∈u->digB c)->u.length<=2->(u≠[]->(fstW u == 48)=false)->goodF (u.length:Int) ((acc.length:Int)+1) s=decide (0<(epP (goP acc (wordsOf (u++s)))).length)
 | [],u,acc,h,hl,hf=>by
   rw [List.append_nil,wordsOf_end u h,goP_cons,goW_ref,refW_good h,goodF]
   cases u with
   | nil=>rfl
   | cons x u'=>
     have c1:(((x::u').length:Int) == 0)=false:=by simp only [List.length_cons,beq_eq_false_iff_ne];omega
     have c2:decide (2<((x::u').length:Int))=false:=by simp only [decide_eq_false_iff_not];omega
     rw [c1,c2,hf (by simp)]
     show _=decide (0<(epP (goP (acc++[valW (x::u')]) [])).length)
     rw [goP_nil]
     unfold epP
     by_cases h4:4<(acc++[valW (x::u')]).length
     · simp only [h4,if_true]
       simp only [List.length_append,List.length_cons,List.length_nil] at h4 ⊢
       have:decide ((acc.length:Int)+1<=4)=false:=by simp;omega
       rw [this,Bool.and_false];rfl
     · simp only [h4,if_false]
       simp only [List.length_append,List.length_cons,List.length_nil] at h4 ⊢
       have a1:decide ((acc.length:Int)+1<=4)=true:=by simp;omega
       have a2:decide (0<(((u'.length+1:Nat)):Int))=true:=decide_eq_true (by omega)
       rw [a1,a2];simp
 | c::r,u,acc,h,hl,hf=>by
   rw [goodF]
   by_cases h1:c.toNat=46
   · have hc:c=46:=byte_eq c h1
     subst hc
     rw [wordsOf_dot u r h,show (((46:UInt8).toNat:Int) == 46)=true from rfl,cond_true]
     cases u with
     | nil=>rw [goP_bad (w:=[]) rfl];rfl
     | cons x u'=>
       have c1:(((x::u').length:Int) == 0)=false:=by simp only [List.length_cons,beq_eq_false_iff_ne];omega
       have c2:decide (2<((x::u').length:Int))=false:=by simp only [decide_eq_false_iff_not];omega
       rw [c1,cond_false,goP_cons,goW_ref,refW_good h,c1,c2,hf (by simp)]
       have ih:=good_words r [] (acc++[valW (x::u')]) (fun x hx=>by cases hx) (by simp) (fun h=>absurd rfl h)
       rw [List.nil_append] at ih
       simp only [List.length_append,List.length_cons,List.length_nil] at ih
       exact ih
   · have hc:¬ c=46:=fun e=>h1 (by rw [e];rfl)
     rw [show ((c.toNat:Int) == 46)=false by simp;omega,cond_false]
     obtain ⟨w,ws,e⟩:=wordsOf_bad u c r h hc
     by_cases h2:digB c
     · by_cases h3:u.length=2
       · have a1:(decide ((c.toNat:Int)<48)||decide (57<(c.toNat:Int))||(u.length:Int) == 0&&(c.toNat:Int) == 48||(u.length:Int) == 2)=true:=by
           rw [h3];simp
         rw [a1,cond_true,e,goP_bad]
         · rfl
         · match u,h3 with
           | [a,b],_=>rfl
       · by_cases h4:u=[]/\c.toNat=48
         · obtain ⟨rfl,h4⟩:=h4
           have hc48:c=48:=byte_eq c h4
           subst hc48
           rw [e,List.nil_append,goP_bad (refW_zero w)]
           rfl
         · unfold digB at h2
           have a1:(decide ((c.toNat:Int)<48)||decide (57<(c.toNat:Int))||(u.length:Int) == 0&&(c.toNat:Int) == 48||(u.length:Int) == 2)=false:=by
            simp only [Bool.or_eq_false_iff,decide_eq_false_iff_not,Bool.and_eq_false_iff,beq_eq_false_iff_ne,ne_eq]
            refine ⟨⟨⟨by omega,by omega⟩,?_⟩,by omega⟩
            by_cases h5:u=[]
            · exact .inr (fun h6=>h4 ⟨h5,by omega⟩)
            · left
              have:=List.length_pos_iff.2 h5
              omega
           rw [a1,cond_false]
           have ih:=good_words r (u++[c]) acc (fun x hx=>by
            rcases List.mem_append.1 hx with hx | hx
            · exact h x hx
            · rw [List.mem_singleton] at hx;subst hx;exact h2) (by simp;omega) (fun _=>by
              cases u with
              | nil=>show ((c.toNat:Int) == 48)=false;simp only [beq_eq_false_iff_ne,ne_eq];exact fun h6=>h4 ⟨rfl,by omega⟩
              | cons x u'=>exact hf (by simp))
           rw [show u++c::r=(u++[c])++r by simp,<- ih,show (((u++[c]).length:Nat):Int)=(u.length:Int)+1 by simp]
     · have a1:(decide ((c.toNat:Int)<48)||decide (57<(c.toNat:Int))||(u.length:Int) == 0&&(c.toNat:Int) == 48||(u.length:Int) == 2)=true:=by
         unfold digB at h2
         have:(decide ((c.toNat:Int)<48)||decide (57<(c.toNat:Int)))=true:=by simp;omega
         rw [this];rfl
       rw [a1,cond_true,e,goP_bad (refW_bad h2)];rfl
theorem gd_code (s:List UInt8):gd s=isCode s:=by
 have h:=good_words s [] [] (fun x hx=>by cases hx) (by simp) (fun h=>absurd rfl h)
 rw [List.nil_append] at h
 unfold gd isCode
 refine (show goodF 0 1 s=_ from h).trans ?_
 have:epP (goP [] (wordsOf s))=partsR s:=rfl
 rw [this,Bool.eq_iff_iff]
 simp only [decide_eq_true_eq];omega
theorem par_code (s:List UInt8):parF s=parC s:=by unfold parF parC;rw [gd_code]
theorem isCode_pos {s:List UInt8}:isCode s=true↔0<(partsR s).length:=by unfold isCode;simp only [decide_eq_true_eq];omega
theorem undF_code (a b:List UInt8):undF a b=undC a b:=by
 rw [Bool.eq_iff_iff]
 constructor
 · intro h
   unfold undF at h
   cases hc:(!gd a||!gd b||decide ((a.length:Int)<b.length)||!(a.take b.length == b)) with
   | true=>rw [hc] at h;cases h
   | false=>
     rw [hc,cond_false] at h
     simp only [Bool.or_eq_false_iff,Bool.not_eq_false',decide_eq_false_iff_not,beq_iff_eq] at hc
     obtain ⟨⟨⟨h1,h2⟩,h3⟩,h4⟩:=hc
     rw [gd_code] at h1 h2
     rw [isCode_pos] at h1 h2
     have hab:a=b++a.drop b.length:=by
      have:=(List.take_append_drop b.length a).symm
      rw [h4] at this;exact this
     obtain ⟨w1,r1⟩:=parts_words h1
     obtain ⟨w2,r2⟩:=parts_words h2
     unfold undC
     simp only [Bool.and_eq_true,decide_eq_true_eq,beq_iff_eq]
     cases ht:a.drop b.length with
     | nil=>
       rw [ht,List.append_nil] at hab
       rw [hab]
       exact ⟨⟨h2,Nat.le_refl _⟩,List.take_length⟩
     | cons c r=>
       have hc:c=46:=by
        have hlt:b.length<a.length:=by
         have:=congrArg List.length ht
         simp only [List.length_drop,List.length_cons] at this;omega
        simp only [Bool.or_eq_true,beq_iff_eq] at h
        rcases h with h | h
        · omega
        · have hg:a.getD b.length 0=c:=by
            have h5:(a.drop b.length).getD 0 0=c:=by rw [ht];rfl
            rw [<- h5];simp [List.getD_eq_getElem?_getD]
          rw [hg] at h
          exact byte_eq c (n:=46) (by omega)
       rw [ht,hc] at hab
       have hw:wordsOf a=wordsOf b++wordsOf r:=by rw [hab];exact words_dot b r
       rw [w1,w2] at hw
       have hl:=congrArg List.length hw
       simp only [List.length_append,List.length_map] at hl
       refine ⟨⟨h2,by omega⟩,?_⟩
       have ht2:((partsR a).take (partsR b).length).map Lib.itoa=(partsR b).map Lib.itoa:=by
        rw [List.map_take,hw,List.take_append_of_le_length (by simp),List.take_of_length_le (by simp)]
       exact itoas_inj (fun v hv=>r1 v (List.mem_of_mem_take hv)) r2 ht2
 · intro h
   unfold undC at h
   simp only [Bool.and_eq_true,decide_eq_true_eq,beq_iff_eq] at h
   obtain ⟨⟨h1,h2⟩,h3⟩:=h
   have h0:0<(partsR a).length:=by omega
   obtain ⟨w1,r1⟩:=parts_words h0
   obtain ⟨w2,r2⟩:=parts_words h1
   have hp:partsR a=partsR b++(partsR a).drop (partsR b).length:=by
    have:=(List.take_append_drop (partsR b).length (partsR a)).symm
    rw [h3] at this;exact this
   have ha:a=joinD ((partsR a).map Lib.itoa):=by rw [<- w1];exact (joinD_words a).symm
   have hb:b=joinD ((partsR b).map Lib.itoa):=by rw [<- w2];exact (joinD_words b).symm
   have ga:gd a=true:=by rw [gd_code];exact isCode_pos.2 h0
   have gb:gd b=true:=by rw [gd_code];exact isCode_pos.2 h1
   obtain ⟨t,ht⟩:∃ t,a=b++t/\(t=[]\/∃ r,t=46::r):=by
    cases hd:(partsR a).drop (partsR b).length with
    | nil=>
      rw [hd,List.append_nil] at hp
      exact ⟨[],by rw [List.append_nil,ha,hp,<- hb],.inl rfl⟩
    | cons v vs=>
      rw [hd] at hp
      refine ⟨46::joinD ((v::vs).map Lib.itoa),?_,.inr ⟨_,rfl⟩⟩
      rw [ha,hp,List.map_append,joinD_app (by intro e;have:=congrArg List.length e;simp at this;rw [this] at h1;simp at h1) (by simp),<- hb]
   obtain ⟨hab,ht⟩:=ht
   unfold undF
   have c1:decide ((a.length:Int)<b.length)=false:=by rw [hab];simp;omega
   have c2:(a.take b.length == b)=true:=by rw [hab];simp
   rw [ga,gb,c1,c2]
   simp only [Bool.not_true,Bool.or_false,cond_false,Bool.or_eq_true,beq_iff_eq]
   rcases ht with rfl | ⟨r,rfl⟩
   · left;rw [hab];simp
   · right;rw [hab];simp [List.getD_eq_getElem?_getD]
theorem trL_len (b:Int):∀ s:List UInt8,(trL b s).length<=s.length
 | []=>Nat.le_refl _
 | x::r=>by
   have:=trL_len b r
   unfold trL
   cases ((x.toNat:Int) == b) with
   | true=>simp only [cond_true,List.length_cons];omega
   | false=>exact Nat.le_refl _
theorem trim_eq {s:List UInt8} (h:1<=s.length):(trimF s == s)=(!(((s.getD 0 0).toNat:Int) == 32)&&!(((s.getD (s.length-1) 0).toNat:Int) == 32)):=by
 obtain ⟨k,hk⟩:∃ k,s.length=k+1:=⟨s.length-1,by omega⟩
 have hs1:s.length-1=k:=by omega
 rw [hs1]
 cases s with
 | nil=>simp at h
 | cons x r=>
   have hx:(x::r).getD 0 0=x:=rfl
   rw [hx]
   have hR:trR 32 (x::r)=(x::r).take (trK (x::r) 32 (k+1)):=by unfold trR;rw [hk]
   cases hl:((((x::r).getD k 0).toNat:Int) == 32) with
   | true=>
     have h1:trK (x::r) 32 (k+1)=trK (x::r) 32 k:=by rw [trK,hl,cond_true]
     have h2:=trK_le (x::r) 32 k
     have:¬ trimF (x::r)=x::r:=fun e=>by
      have h3:=trL_len 32 (trR 32 (x::r))
      have h4:(trR 32 (x::r)).length<=k:=by rw [hR,h1,List.length_take];omega
      have h5:=congrArg List.length e
      unfold trimF at h5
      omega
     simp [this]
   | false=>
     have h1:trK (x::r) 32 (k+1)=k+1:=by rw [trK,hl,cond_false]
     have h2:trR 32 (x::r)=x::r:=by rw [hR,h1,List.take_of_length_le (by omega)]
     unfold trimF
     rw [h2,trL]
     cases hf:((x.toNat:Int) == 32) with
     | true=>
       have h3:=trL_len 32 r
       have:¬ trL 32 r=x::r:=fun e=>by
        have h5:=congrArg List.length e
        simp only [List.length_cons] at h5;omega
       simp [this]
     | false=>simp
theorem nmF_eq (s:List UInt8):nmF s=bif decide ((s.length:Int)<1)||decide (40<(s.length:Int))||((s.getD 0 0).toNat:Int) == 32||((s.getD (s.length-1) 0).toNat:Int) == 32 then false else s.all nmB:=by
 unfold nmF
 by_cases h:1<=s.length
 · rw [trim_eq h]
   have a1:decide ((s.length:Int)<1)=false:=by simp;omega
   have a2:decide ((1:Int)<=(s.length:Int))=true:=by simp;omega
   have a3:decide ((s.length:Int)<=40)= !decide (40<(s.length:Int)):=by rw [Bool.eq_iff_iff];simp
   rw [a1,a2,a3]
   generalize (((s.getD 0 0).toNat:Int) == 32)=x
   generalize (((s.getD (s.length-1) 0).toNat:Int) == 32)=y
   cases s.all nmB <;> cases decide (40<(s.length:Int)) <;> cases x <;> cases y <;> rfl
 · have a1:decide ((s.length:Int)<1)=true:=by simp;omega
   have a2:decide ((1:Int)<=(s.length:Int))=false:=by simp;omega
   rw [a1,a2]
   simp
end Go.AM
