/-
  A part of a proof.
-/
import Derived.Test.YteiphfohadlgiaaGreatDoorCD
import Derived.DataReads
import Derived.SizedLaws
set_option linter.unusedSimpArgs false
set_option linter.unusedVariables false
namespace Go.AM
open Go Go.Proofs
inductive Sh where
  | int (k:IntKind)
  | bool
  | str
  | st (fs:List Sh)
  | sl (e:Sh)
mutual
def Sh.w:Sh->Nat
  | .st fs=>Sh.wL fs
  | .int _=>1
  | .bool=>1
  | .str=>1
  | .sl _=>1
def Sh.wL:List Sh->Nat
  | []=>0
  | s::r=>s.w+Sh.wL r
end
mutual
def okT (P:Program):Sh->TypeId->Bool
  | .int k,t=>match P.underlying t with | some (.int k')=>decide (k'=k) | _=>false
  | .bool,t=>match P.underlying t with | some .bool=>true | _=>false
  | .str,t=>match P.underlying t with | some .string=>true | _=>false
  | .sl e,t=>match P.underlying t with | some (.slice et)=>okT P e et&&decide (P.cellsOf et=e.w)&&decide (0<e.w) | _=>false
  | .st fs,t=>match P.underlying t with | some (.struct F)=>okFs P fs F.toList 0&&decide (P.cellsOf t=Sh.wL fs) | _=>false
def okFs (P:Program):List Sh->List Field->Nat->Bool
  | [],[],_=>true
  | s::fs,f::F,off=>decide (f.offset=off)&&decide (P.cellsOf f.type=s.w)&&okT P s f.type&&okFs P fs F (off+s.w)
  | [],_::_,_=>false
  | _::_,[],_=>false
end
def boxSh:Sh->List PV->PV
  | .st _,cs=>.agg cs
  | _,[c]=>c
  | _,_=>.bool false
inductive HasSh:Sh->List PV->Prop where
  | int (k:IntKind) (n:Int):(Lit.int k n).wf=true->HasSh (.int k) [.int k n]
  | bool (b:Bool):HasSh .bool [.bool b]
  | str (s:List UInt8):s.length<=maxLen->HasSh .str [.str s]
  | sl (e:Sh) (css:List (List PV)):css.length<=maxLen->(∀ cs,cs∈css->HasSh e cs)->HasSh (.sl e) [.sl (css.map (boxSh e))]
  | nil:HasSh (.st []) []
  | cons (s:Sh) (fs:List Sh) (a b:List PV):HasSh s a->HasSh (.st fs) b->HasSh (.st (s::fs)) (a++b)
theorem okT_sl {P:Program} {e:Sh} {t:TypeId} (h:okT P (.sl e) t=true):∃ et,P.underlying t=some (.slice et)/\okT P e et=true/\P.cellsOf et=e.w/\0<e.w:=by
  unfold okT at h
  split at h
  · rename_i et het
    simp only [Bool.and_eq_true,decide_eq_true_eq] at h
    exact ⟨et,het,h.1.1,h.1.2,h.2⟩
  · cases h
theorem okT_st {P:Program} {fs:List Sh} {t:TypeId} (h:okT P (.st fs) t=true):∃ F,P.underlying t=some (.struct F)/\okFs P fs F.toList 0=true/\P.cellsOf t=Sh.wL fs:=by
  unfold okT at h
  split at h
  · rename_i F hF
    simp only [Bool.and_eq_true,decide_eq_true_eq] at h
    exact ⟨F,hF,h.1,h.2⟩
  · cases h
theorem okT_int {P:Program} {k:IntKind} {t:TypeId} (h:okT P (.int k) t=true):P.underlying t=some (.int k):=by
  unfold okT at h
  split at h
  · rename_i k' hk;rw [hk,of_decide_eq_true h]
  · cases h
theorem okT_bool {P:Program} {t:TypeId} (h:okT P .bool t=true):P.underlying t=some .bool:=by
  unfold okT at h
  split at h
  · assumption
  · cases h
theorem okT_str {P:Program} {t:TypeId} (h:okT P .str t=true):P.underlying t=some .string:=by
  unfold okT at h
  split at h
  · assumption
  · cases h
def Cells (W:World) (pcs:List PV) (g:Nat->Value):Prop:=∀ i c,pcs[i]?=some c->c.one=true/\PVRel W NoB c (g i)
inductive HasZ:Sh->List PV->Prop where
  | int (k:IntKind) (n:Int):(Lit.int k n).wf=true->HasZ (.int k) [.int k n]
  | bool (b:Bool):HasZ .bool [.bool b]
  | str (s:List UInt8):s.length<=reachBytes->HasZ .str [.str s]
  | sl (e:Sh) (css:List (List PV)):css.length<=maxLen->(∀ cs,cs∈css->HasZ e cs)->HasZ (.sl e) [.sl (css.map (boxSh e))]
  | nil:HasZ (.st []) []
  | cons (s:Sh) (fs:List Sh) (a b:List PV):HasZ s a->HasZ (.st fs) b->HasZ (.st (s::fs)) (a++b)
theorem box_cellsZ {S:Sh} {cs:List PV} (h:HasZ S cs):(boxSh S cs).cells=cs:=by
  cases h <;> rfl
theorem HasZ.width {S:Sh} {cs:List PV} (h:HasZ S cs):cs.length=S.w:=by
  induction h with
  | int=>rfl
  | bool=>rfl
  | str=>rfl
  | sl=>rfl
  | nil=>rfl
  | cons s fs a b _ _ ih1 ih2=>rw [List.length_append,ih1,ih2];rfl
theorem weights_all {H:Type} {P:Program} {e:TypeId} {d:DataW H} {n:Nat}:∀ {l:List (DataW H)},d∈l->n∈d.weights P e->n∈DataW.weightsAll P e l
  | x::r,hd,hn=>by
    simp only [DataW.weightsAll,List.mem_append]
    rcases List.mem_cons.1 hd with rfl | hd
    · exact .inl hn
    · exact .inr (weights_all hd hn)
theorem trod_cellsZ {H:Type} {enc:TypeId × Value->H} {P:Program} {W:World} {base:Nat} {sp:Nat->Bool} {held:Bool}:∀ (n:Nat) (S:Sh) (t:TypeId) (cs:List Value) (x:DataW H × List MemPlace),okT P S t=true->
    DataW.trod enc P W base sp held n t cs=some x->(∀ w,w∈x.1.weights P t->w<=reachBytes)->∃ pcs,HasZ S pcs/\cs.length=S.w/\Cells W pcs (fun i=>cs.getD i undef):=by
  intro n
  induction n with
  | zero=>intro S t cs x _ h;simp [DataW.trod] at h
  | succ n ih=>
    intro S t cs x hS h hz
    cases S with
    | int k=>
      obtain ⟨m,rfl,_,hw⟩:=DataW.trod_int (okT_int hS) h
      refine ⟨[.int k m],.int k m hw,rfl,fun i c hc=>?_⟩
      cases i with
      | zero=>simp at hc;subst hc;exact ⟨rfl,.int _ _⟩
      | succ i=>simp at hc
    | bool=>
      obtain ⟨b,rfl,_⟩:=DataW.trod_bool (okT_bool hS) h
      refine ⟨[.bool b],.bool b,rfl,fun i c hc=>?_⟩
      cases i with
      | zero=>simp at hc;subst hc;exact ⟨rfl,.bool _⟩
      | succ i=>simp at hc
    | str=>
      obtain ⟨s,rfl,hx,hs⟩:=DataW.trod_string (okT_str hS) h
      have hzs:s.data.toList.length<=reachBytes:=hz _ (by rw [hx];simp [DataW.weights])
      refine ⟨[.str s.data.toList],.str _ hzs,rfl,fun i c hc=>?_⟩
      cases i with
      | zero=>
        simp at hc;subst hc
        have:=PVRel.str (w:=W) (M:=NoB) s.data.toList
        rw [textB_data' s] at this
        exact ⟨rfl,this⟩
      | succ i=>simp at hc
    | sl e=>
      obtain ⟨et,ht,he,hk,hpos⟩:=okT_sl hS
      rcases DataW.trod_slice ht h with ⟨rfl,_⟩ | ⟨a,len,cap,elems,rest,m,hm,rfl,hxd,hb,hl,hmx,hlen,hel,_,_⟩
      · refine ⟨[.sl (([]:List (List PV)).map (boxSh e))],.sl e [] (Nat.zero_le _) (fun _ h=>by cases h),rfl,fun i c hc=>?_⟩
        cases i with
        | zero=>simp at hc;subst hc;exact ⟨rfl,.sl [] none 0 0 0 0 (fun _ _=>undef) (by simp) (by simp [maxLen]) (by simp) (by simp) (by simp) (by simp)⟩
        | succ i=>simp at hc
      · obtain rfl:n=m:=by omega
        have hx:∀ i:Nat,∃ q:List Value × List PV,i<len->HasZ e q.2/\(∀ j,j<e.w->W.cell? ((a.add (i * e.w)).add j)=q.1[j]?)/\q.1.length=e.w/\Cells W q.2 (fun j=>q.1.getD j undef):=by
          intro i
          by_cases hi:i<len
          · have h1:=hel i hi
            rw [List.getElem?_eq_getElem (by omega),Option.bind_eq_some_iff] at h1
            obtain ⟨cs',hcs,hy⟩:=h1
            have hzi:∀ w,w∈(elems[i]'(by omega)).1.weights P et->w<=reachBytes:=fun w hw=>by
              refine hz w ?_
              rw [hxd]
              simp only [DataW.weights,ht,List.mem_cons,List.mem_append]
              exact .inr (.inl (weights_all (List.mem_map.2 ⟨_,List.getElem_mem _,rfl⟩) hw))
            obtain ⟨pcs,g1,g2,g3⟩:=ih e et cs' _ he hy hzi
            rw [hk] at hcs
            obtain ⟨_,g4,g5⟩:=World.cells?_some hcs
            exact ⟨(cs',pcs),fun _=>⟨g1,g5,g2,g3⟩⟩
          · exact ⟨([],[]),fun h=>absurd h hi⟩
        obtain ⟨f,hf⟩:=Classical.axiomOfChoice hx
        have hw:∀ i,i<len->(f i).2.length=e.w:=fun i hi=>(hf i hi).1.width
        refine ⟨[.sl (((List.range len).map fun i=>(f i).2).map (boxSh e))],.sl e _ (by simp;omega) (fun cs hcs=>?_),rfl,fun i c hc=>?_⟩
        · simp only [List.mem_map,List.mem_range] at hcs
          obtain ⟨i,hi,rfl⟩:=hcs
          exact (hf i hi).1
        · cases i with
          | succ i=>simp at hc
          | zero=>
            simp at hc;subst hc
            refine ⟨rfl,?_⟩
            have hget:∀ i x,(((List.range len).map fun i=>(f i).2).map (boxSh e))[i]?=some x->i<len/\x.cells=(f i).2:=by
              intro i x hx
              simp only [List.getElem?_map,Option.map_eq_some_iff] at hx
              obtain ⟨y,⟨z,hz,rfl⟩,rfl⟩:=hx
              have hi:i<len:=by have:=(List.getElem?_eq_some_iff.1 hz).1;simpa using this
              have:z=i:=by rw [List.getElem?_range hi] at hz;exact (Option.some.inj hz).symm
              subst this
              exact ⟨hi,box_cellsZ (hf _ hi).1⟩
            have hspot:0<len->∃ b o,a=⟨b,o,none⟩:=by
              intro h0
              obtain ⟨g1,g2,g3,_⟩:=hf 0 h0
              have:=g2 0 hpos
              rw [List.getElem?_eq_getElem (by omega)] at this
              obtain ⟨b,o,s⟩:=a
              cases s with
              | none=>exact ⟨b,o,rfl⟩
              | some s=>
                simp only [Nat.zero_mul,Addr.add,if_pos,World.cell?] at this
                split at this <;> simp at this
            by_cases h0:len=0
            · subst h0
              exact .sl [] (some a) cap 0 0 0 (fun _ _=>undef) (by simp) hmx (by simp) (by simp) (by simp) (by simp)
            · obtain ⟨b,o,rfl⟩:=hspot (by omega)
              have:=PVRel.sl (w:=W) (M:=NoB) (((List.range len).map fun i=>(f i).2).map (boxSh e)) (some ⟨b,o,none⟩) cap e.w b o (fun i j=>(f i).1.getD j undef) (by simp;exact hl) hmx
                (fun x hx=>?_) (fun _=>rfl) (fun i x j c hx hc=>?_) (fun i x j c hx hc=>?_)
              · simpa using this
              · obtain ⟨i,hi⟩:=List.getElem?_of_mem hx
                obtain ⟨h1,h2⟩:=hget i x hi
                unfold PV.width;rw [h2];exact hw i h1
              · obtain ⟨h1,h2⟩:=hget i x hx
                rw [h2] at hc
                obtain ⟨g1,g2,g3,g4⟩:=hf i h1
                have hj:j<e.w:=by have:=(List.getElem?_eq_some_iff.1 hc).1;rw [hw i h1] at this;exact this
                refine ⟨id,(g4 j c hc).1,?_⟩
                have:=g2 j hj
                rw [List.getElem?_eq_getElem (by omega)] at this
                have e1:((⟨b,o,none⟩:Addr).add (i * e.w)).add j=⟨b,o+i * e.w+j,none⟩:=by
                  unfold Addr.add
                  by_cases p:i * e.w=0 <;> by_cases q:j=0 <;> simp [p,q]
                rw [e1] at this
                rw [this,List.getD_eq_getElem?_getD,List.getElem?_eq_getElem (by omega)];rfl
              · obtain ⟨h1,h2⟩:=hget i x hx
                rw [h2] at hc
                exact ((hf i h1).2.2.2 j c hc).2
    | st fs=>
      obtain ⟨F,ht,hF,hw⟩:=okT_st hS
      obtain ⟨xs,m,hm,hxd,hlen,hxs,hfd⟩:=DataW.trod_struct ht h
      obtain rfl:n=m:=by omega
      have key:∀ (fs:List Sh) (G:List Field) (off:Nat),okFs P fs G off=true->off+Sh.wL fs=cs.length->(∀ (i:Nat) (f:Field),G[i]?=some f->∃ x,DataW.trod enc P W base sp held n f.type ((cs.drop f.offset).take (P.cellsOf f.type))=some x/\∀ w,w∈x.1.weights P f.type->w<=reachBytes)->
          ∃ pcs,HasZ (.st fs) pcs/\Cells W pcs (fun i=>cs.getD (off+i) undef):=by
        intro fs
        induction fs with
        | nil=>
          intro G off _ _ _
          exact ⟨[],.nil,fun i c hc=>by simp at hc⟩
        | cons s fs ihf=>
          intro G off hG hoff hall
          cases G with
          | nil=>simp [okFs] at hG
          | cons f G=>
            simp only [okFs,Bool.and_eq_true,decide_eq_true_eq] at hG
            obtain ⟨⟨⟨h1,h2⟩,h3⟩,h4⟩:=hG
            obtain ⟨x,hx,hxz⟩:=hall 0 f rfl
            obtain ⟨pa,a1,a2,a3⟩:=ih s f.type _ x h3 hx hxz
            rw [Sh.wL] at hoff
            obtain ⟨pb,b1,b2⟩:=ihf G (off+s.w) h4 (by omega) (fun i g hg=>hall (i+1) g (by simpa using hg))
            have hpa:=a1.width
            refine ⟨pa++pb,.cons s fs pa pb a1 b1,fun i c hc=>?_⟩
            by_cases hi:i<pa.length
            · rw [List.getElem?_append_left hi] at hc
              have:=a3 i c hc
              rw [h1,h2] at this
              have e1:((cs.drop off).take s.w).getD i undef=cs.getD (off+i) undef:=by
                rw [List.getD_eq_getElem?_getD,List.getD_eq_getElem?_getD,List.getElem?_take,if_pos (by omega),List.getElem?_drop]
              simp only [e1] at this
              exact this
            · rw [List.getElem?_append_right (by omega)] at hc
              have:=b2 (i-pa.length) c hc
              simp only at this ⊢
              rw [show off+s.w+(i-pa.length)=off+i by omega] at this
              exact this
      obtain ⟨pcs,g1,g2⟩:=key fs F.toList 0 hF (by omega) (fun i f hf=>by
        have hf':F[i]?=some f:=by simpa using hf
        have:=hfd i f hf'
        have hi:i<xs.length:=by rw [hxs];exact (Array.getElem?_eq_some_iff.1 hf').1
        rw [List.getElem?_eq_getElem hi] at this
        refine ⟨_,this,fun w hw=>hz w ?_⟩
        rw [hxd]
        simp only [DataW.weights,ht]
        exact DataW.weights_mem_each (j:=i) (by rw [List.getElem?_map,hf];rfl) (by rw [List.getElem?_map,List.getElem?_eq_getElem hi];rfl) w hw)
      refine ⟨pcs,g1,by rw [hlen,hw];rfl,fun i c hc=>?_⟩
      have:=g2 i c hc
      simpa using this
theorem arg_anyZ {H:Type} {enc:TypeId × Value->H} {P:Program} {W:World} {base b0:Nat} {r:Reach} {sp:Nat->Bool} {held:Bool} {t:TypeId} {v:Value} {d:DataW H} {p:List MemPlace} (S:Sh) (hS:okT P S t=true)
    (hval:Value.okWide P W r b0 t v) (h:DataW.Trod enc P W base sp held t v d p) (hz:∀ w,w∈d.weights P t->w<=reachBytes):∃ pcs,HasZ S pcs/\PVRel W NoB (boxSh S pcs) v:=by
  obtain ⟨n,hn⟩:=h
  obtain ⟨pcs,h1,h2,h3⟩:=trod_cellsZ n S t _ _ hS hn hz
  refine ⟨pcs,h1,?_⟩
  have hone:∀ c w,pcs=[c]->v.cells.toList=[w]->PVRel W NoB c w:=fun c w e1 e2=>by
    have:=(h3 0 c (by rw [e1];rfl)).2
    rw [e2] at this;exact this
  have hw:=h1.width
  cases S with
  | st fs=>
    obtain ⟨F,ht,_,_⟩:=okT_st hS
    obtain ⟨vs,rfl,_⟩:=WideShapes.okWide_struct ht hval
    have e1:(Value.agg vs).cells.toList=vs.toList:=rfl
    rw [e1] at h2 h3
    refine .agg pcs vs (by rw [hw];simpa using h2) (fun c hc=>?_) (fun i c hc=>?_)
    · obtain ⟨i,hi⟩:=List.getElem?_of_mem hc
      exact (h3 i c hi).1
    · have:=(h3 i c hc).2
      simpa using this
  | int k=>
    obtain ⟨m,rfl⟩:=WideShapes.okWide_int (okT_int hS) hval
    match pcs,hw with
    | [c],_=>exact hone c _ rfl rfl
  | bool=>
    obtain ⟨m,rfl⟩:=WideShapes.okWide_bool (okT_bool hS) hval
    match pcs,hw with
    | [c],_=>exact hone c _ rfl rfl
  | str=>
    obtain ⟨m,rfl⟩:=WideShapes.okWide_string (okT_str hS) hval
    match pcs,hw with
    | [c],_=>exact hone c _ rfl rfl
  | sl e=>
    obtain ⟨et,ht,_,_⟩:=okT_sl hS
    obtain ⟨a,len,cap,rfl⟩:=WideShapes.okWide_slice ht hval
    match pcs,hw with
    | [c],_=>exact hone c _ rfl rfl
theorem HasZ.int_inv {k:IntKind} {cs:List PV} (h:HasZ (.int k) cs):∃ n,cs=[.int k n]/\(Lit.int k n).wf=true:=by
  cases h with | int k n hw=>exact ⟨n,rfl,hw⟩
theorem HasZ.i64_inv {cs:List PV} (h:HasZ (.int .i64) cs):∃ n,cs=[.int .i64 n]/\ -9223372036854775808<=n/\n<=9223372036854775807:=by
  obtain ⟨n,e,hw⟩:=h.int_inv
  exact ⟨n,e,by simpa [Lit.wf,IntKind.min,IntKind.max,IntKind.signed,IntKind.bits] using hw⟩
theorem HasZ.str_inv {cs:List PV} (h:HasZ .str cs):∃ s,cs=[.str s]/\s.length<=140737488351232:=by
  cases h with | str s hs=>exact ⟨s,rfl,Nat.le_trans hs (by decide)⟩
theorem HasZ.sl_inv {e:Sh} {cs:List PV} (h:HasZ (.sl e) cs):∃ es,cs=[.sl es]/\es.length<=9223372036854775807/\∀ x,x∈es->∃ ds,x=boxSh e ds/\HasZ e ds:=by
  cases h with
  | sl e css hl hall=>
    refine ⟨_,rfl,by rw [List.length_map];exact Nat.le_trans hl (by decide),fun x hx=>?_⟩
    obtain ⟨ds,hd,rfl⟩:=List.mem_map.1 hx
    exact ⟨ds,rfl,hall ds hd⟩
theorem HasZ.nil_inv {cs:List PV} (h:HasZ (.st []) cs):cs=[]:=by
  cases h;rfl
theorem HasZ.cons_inv {s:Sh} {fs:List Sh} {cs:List PV} (h:HasZ (.st (s::fs)) cs):∃ a b,cs=a++b/\HasZ s a/\HasZ (.st fs) b:=by
  cases h with | cons s fs a b ha hb=>exact ⟨a,b,rfl,ha,hb⟩
end Go.AM
