/-
  A part of a proof.
-/
import Derived.Test.YtkajgkbhkkgdbaaGreatDoorMB
import Derived.Laws.BytesString
import Derived.MapKept
import Derived.ChangeKeysEq
set_option linter.unusedSimpArgs false
set_option linter.unusedVariables false
namespace Go.AM
open Go
def NoB:Nat->Prop:=fun _=>False
def ARel (w:World) (X:Nat->Prop) (args:List PV) (vs:Array Value):Prop:=
 vs.size=args.length/\∀ (i:Nat) (p:PV),args[i]?=some p->PVRel w X p (vs.getD i undef)
def Enterable (P:Program) (f:FuncId):Prop:=∃ fn,P.funcs[f]?=some fn/\(fn.name == "runtime.NumGoroutine")=false/\fn.body.isNone=false
def PSound (G:Glob) (f:FuncId) (φ:PSpec):Prop:=
 ∀ args,(φ args).1->Enterable G.P f/\∀ (X:Nat->Prop) (w:World) (vs:Array Value),G.I w->G.nG<=w.heap.size->(∀ b,X b->b<w.heap.size)->ARel w X args vs->
  Calls G.P f vs w (fun e w'=>∃ v,e=.returned v/\PVRel w' X (φ args).2 v/\Ext NoB w w')
def OpqS (G:Glob) (E:Base) (φ:PSpec) (x:Value):Prop:=
 ∃ f caps,x=.func (.func f) #[] caps/\Enterable G.P f/\∀ (args:List PV) (w:World) (vs:Array Value) (X:Nat->Prop),(φ args).1->Ext E.M0 E.w0 w->G.I w->
  (∀ b,X b->(E.X b\/E.M0 b\/E.w0.heap.size<=b)/\b<w.heap.size)->ARel w X args vs->
  Calls G.P f (vs++caps) w (fun e w'=>∃ v,e=.returned v/\PVRel w' X (φ args).2 v/\Ext NoB w w')
section
variable {w:World} {M:Nat->Prop} {L:Locs} {H:AHeap} {S:(List PV->Prop × PV)->Value->Prop} {P:Program}
theorem PVRel.of_flat1 {w':World} {M':Nat->Prop} {p:PV} {v:Value} (hf:p.flat1=true) (h:PVRel w M p v):PVRel w' M' p v:=by
 cases h <;> first | (simp [PV.flat1] at hf;done) | constructor
theorem PVRel.of_flat {w':World} {M':Nat->Prop} {p:PV} {v:Value} (hf:p.flat=true) (h:PVRel w M p v):PVRel w' M' p v:=by
 unfold PV.flat at hf
 split at hf
 · cases h with
   | tup _ vs hs hr=>exact .tup _ _ hs (fun i c hc=>(hr i c hc).of_flat1 (List.all_eq_true.1 hf c (List.mem_of_getElem? hc)))
 · cases h with
   | agg _ vs hs ho hr=>exact .agg _ _ hs ho (fun i c hc=>(hr i c hc).of_flat1 (List.all_eq_true.1 hf c (List.mem_of_getElem? hc)))
 · exact h.of_flat1 hf
theorem boxP_cells {cs:List PV} (h:∀ c,c∈cs->c.one=true):(boxP cs).cells=cs:=by
 unfold boxP
 split
 · rename_i c
   have:=h c (by simp)
   cases c <;> first | rfl | simp [PV.one] at this
 · rfl
theorem frz_one (H:AHeap) (n:Nat) (v:AV) (h:v.one=true) (hk:frzOk H n v):(frz H n v).one=true:=by
 cases v <;> cases n <;> simp only [AV.one] at h <;> simp only [frzOk] at hk <;> simp only [frz] <;> first | exact h | rfl | exact hk.elim | skip
 all_goals (split at hk <;> first | exact hk.elim | simp_all [PV.one])
theorem frz_to {M':Nat->Prop} (hB:∀ key B,hget H key=some B->BRel w M L H S key B) (hM:∀ b,M' b->M b) (hown:∀ key B b cap,hget H key=some B->L key=some (b,cap)->¬ M' b):
 ∀ (n:Nat) (v:AV) (x:Value),frzOk H n v->AVRel w M L H S v x->PVRel w M' (frz H n v) x:=by
 have any:∀ {p:PV} {v:Value},PVRel w M p v->PVRel w M' p v:=fun h=>h.keep (fun b _ hn=>⟨rfl,fun hb=>hn (hM b hb)⟩)
 have rowRel:∀ key k es b cap,hget H key=some (.row k es)->L key=some (b,cap)->∀ lo hi a c,lo<=hi->hi<=es.length->hi-lo<=c->c<=maxLen->(lo<hi->a=some ⟨b,lo * k,none⟩)->
  PVRel w M' (.sl ((es.take hi).drop lo)) (.slice a (hi-lo) c):=by
  intro key k es b cap h1 h2 lo hi a c h3 h4 h5 h6 h7
  have hb:=hB key _ h1
  simp only [BRel,h2] at hb
  obtain ⟨hk,hw,arr,et,e1,e2,e3,e4,e5⟩:=hb
  have hlen:((es.take hi).drop lo).length=hi-lo:=by simp;omega
  rw [<- hlen]
  refine .sl _ a c k b (lo * k) (fun i j=>arr.getD (lo * k+i * k+j) undef) (by omega) h6 (fun e he=>hw e (List.mem_of_mem_take (List.mem_of_mem_drop he))) (fun hne=>?_) (fun i e j cc he hc=>?_) (fun i e j cc he hc=>?_)
  · exact h7 (by have:=List.length_pos_iff.2 hne;omega)
  · rw [List.getElem?_drop,List.getElem?_take] at he
    split at he
    · refine ⟨hown key _ b cap h1 h2,(e5 _ e j cc he hc).1,?_⟩
      rw [cell_of_row w b _ arr et _ e1]
      have hj:j<k:=by
       have:=(List.getElem?_eq_some_iff.1 hc).1
       have hw':e.cells.length=k:=hw e (List.mem_of_getElem? he)
       omega
      have hi':=(List.getElem?_eq_some_iff.1 he).1
      have hlt:lo * k+i * k+j<arr.size:=by
       rw [e2]
       have h1:(lo+i+1) * k<=cap * k:=Nat.mul_le_mul_right _ (by omega)
       have h2:(lo+i+1) * k=lo * k+i * k+k:=by rw [Nat.add_mul,Nat.add_mul,Nat.one_mul]
       omega
      simp [Array.getD_eq_getD_getElem?,Array.getElem?_eq_getElem hlt]
    · cases he
  · rw [List.getElem?_drop,List.getElem?_take] at he
    split at he
    · have:=(e5 _ e j cc he hc).2
      rw [Nat.add_mul] at this
      exact any this
    · cases he
 intro n
 induction n with
 | zero=>
   intro v x hk hx
   cases v <;> simp only [frzOk] at hk <;> simp only [frz]
   case pv=>exact any (pv_inv hx)
   case nils=>cases hx;exact .sl [] none 0 0 0 0 (fun _ _=>undef) (by simp) (by simp [maxLen]) (by simp) (by simp) (by simp) (by simp)
   case rs key hi=>
    split at hk
    · rcases rs_inv hx with ⟨k2,g1,g2,g3,rfl⟩ | ⟨k2,es2,b,cap,g1,g2,g3,rfl⟩
      · simp_all
        exact .sl [] none 0 0 0 0 (fun _ _=>undef) (by simp) (by simp [maxLen]) (by simp) (by simp) (by simp) (by simp)
      · rename_i hH
        rw [hH] at g1
        simp only [Option.some.injEq,ABlk.row.injEq] at g1
        obtain ⟨rfl,rfl⟩:=g1
        have hb:=hB key _ hH
        simp only [BRel,g2] at hb
        obtain ⟨_,_,arr,et,_,_,e3,e4,_⟩:=hb
        have:=rowRel key _ _ b cap hH g2 0 hi (some ⟨b,0,none⟩) cap (by omega) g3 (by omega) e4 (by simp)
        simpa using this
    · exact hk.elim
   case rv key lo hi sz=>
    split at hk
    · rename_i hH
      obtain ⟨rfl,hk⟩:=hk
      obtain ⟨k2,es2,b,cap,cap',a,g1,g2,g3,g4,g5,g6,g7,rfl⟩:=rv_inv hx
      rw [hH] at g1
      simp only [Option.some.injEq,ABlk.row.injEq] at g1
      obtain ⟨rfl,rfl⟩:=g1
      exact rowRel key _ _ b cap hH g2 lo hi a cap' g3 g4 g5 g6 g7
    · exact hk.elim
 | succ n ih=>
   intro v x hk hx
   cases v <;> simp only [frzOk] at hk <;> simp only [frz]
   case pv=>exact any (pv_inv hx)
   case nils=>cases hx;exact .sl [] none 0 0 0 0 (fun _ _=>undef) (by simp) (by simp [maxLen]) (by simp) (by simp) (by simp) (by simp)
   case rs key hi=>
    split at hk
    · rcases rs_inv hx with ⟨k2,g1,g2,g3,rfl⟩ | ⟨k2,es2,b,cap,g1,g2,g3,rfl⟩
      · simp_all
        exact .sl [] none 0 0 0 0 (fun _ _=>undef) (by simp) (by simp [maxLen]) (by simp) (by simp) (by simp) (by simp)
      · rename_i hH
        rw [hH] at g1
        simp only [Option.some.injEq,ABlk.row.injEq] at g1
        obtain ⟨rfl,rfl⟩:=g1
        have hb:=hB key _ hH
        simp only [BRel,g2] at hb
        obtain ⟨_,_,arr,et,_,_,e3,e4,_⟩:=hb
        have:=rowRel key _ _ b cap hH g2 0 hi (some ⟨b,0,none⟩) cap (by omega) g3 (by omega) e4 (by simp)
        simpa using this
    · exact hk.elim
   case rv key lo hi sz=>
    split at hk
    · rename_i hH
      obtain ⟨rfl,hk⟩:=hk
      obtain ⟨k2,es2,b,cap,cap',a,g1,g2,g3,g4,g5,g6,g7,rfl⟩:=rv_inv hx
      rw [hH] at g1
      simp only [Option.some.injEq,ABlk.row.injEq] at g1
      obtain ⟨rfl,rfl⟩:=g1
      exact rowRel key _ _ b cap hH g2 lo hi a cap' g3 g4 g5 g6 g7
    · exact hk.elim
   case agg cs=>
    cases hx with
    | agg _ vs hs hr=>
      refine .agg _ _ (by simpa using hs) (fun c hc=>?_) (fun i c hc=>?_)
      · obtain ⟨d,hd,rfl⟩:=List.mem_map.1 hc
        exact frz_one H n d (hk d hd).1 (hk d hd).2
      · rw [List.getElem?_map] at hc
        obtain ⟨d,hd,rfl⟩:=Option.map_eq_some_iff.1 hc
        exact ih d _ (hk d (List.mem_of_getElem? hd)).2 (hr i d hd)
   case ptr key off=>
    split at hk
    · rename_i cs hH
      obtain ⟨B2,b,cap,g1,gv,g2,rfl⟩:=ptr_inv hx
      obtain ⟨b2,cap2,arr,et,e1,e2,e3,e4⟩:=hB key _ hH
      rw [g2] at e1
      simp only [Option.some.injEq,Prod.mk.injEq] at e1
      obtain ⟨rfl,rfl⟩:=e1
      have hone:∀ c,c∈cs.map (frz H n)->c.one=true:=by
       intro c hc
       obtain ⟨d,hd,rfl⟩:=List.mem_map.1 hc
       exact frz_one H n d (hk d hd).1 (hk d hd).2
      have key':∀ j c,(boxP (cs.map (frz H n))).cells[j]?=some c->∃ d,cs[j]?=some d/\c=frz H n d/\j<arr.size:=by
       intro j c hc
       rw [boxP_cells hone,List.getElem?_map] at hc
       obtain ⟨d,hd,rfl⟩:=Option.map_eq_some_iff.1 hc
       exact ⟨d,hd,rfl,by rw [e3];exact (List.getElem?_eq_some_iff.1 hd).1⟩
      have:=PVRel.pp (w:=w) (M:=M') (boxP (cs.map (frz H n))) off b 0 (fun j=>arr.getD j undef)
       (fun j c hc=>by
         obtain ⟨d,hd,rfl,hj⟩:=key' j c hc
         refine ⟨hown key _ b cap hH g2,hone _ (List.mem_map.2 ⟨d,List.mem_of_getElem? hd,rfl⟩),?_⟩
         rw [Nat.zero_add,cell_of_row w b _ arr et _ e2]
         simp [Array.getD_eq_getD_getElem?,Array.getElem?_eq_getElem hj])
       (fun j c hc=>by
         obtain ⟨d,hd,rfl,hj⟩:=key' j c hc
         exact ih d _ (hk d (List.mem_of_getElem? hd)).2 (e4 j d hd))
      simpa using this
    · exact hk.elim
   case clo f caps=>
    cases hx with
    | clo _ _ vs hs hr=>
      refine .fn _ _ _ (by simpa using hs) (fun i c hc=>?_)
      rw [List.getElem?_map] at hc
      obtain ⟨d,hd,rfl⟩:=Option.map_eq_some_iff.1 hc
      exact ih d _ (hk d (List.mem_of_getElem? hd)) (hr i d hd)
theorem frz_rel (hB:∀ key B,hget H key=some B->BRel w M L H S key B) (n:Nat) (v:AV) (x:Value) (hk:frzOk H n v) (hx:AVRel w M L H S v x):PVRel w NoB (frz H n v) x:=
 frz_to hB (fun _ h=>h.elim) (fun _ _ _ _ _ _ h=>h.elim) n v x hk hx
theorem freeL_mem {l:List AV} (h:AV.freeL l=true):∀ v,v∈l->v.free=true:=by
 induction l with
 | nil=>intro v hv;simp at hv
 | cons c r ih=>
   simp only [AV.freeL,Bool.and_eq_true] at h
   intro v hv
   rcases List.mem_cons.1 hv with rfl | hv
   · exact h.1
   · exact ih h.2 v hv
theorem frz_free:∀ (n:Nat) (v:AV) (x:Value),v.free=true->frzOk H n v->AVRel w M L H S v x->PVRel w M (frz H n v) x:=by
 intro n
 induction n with
 | zero=>
   intro v x hf hk hx
   cases v <;> simp only [frzOk] at hk <;> simp only [AV.free] at hf <;> simp only [frz]
   case pv=>exact pv_inv hx
   case nils=>cases hx;exact .sl [] none 0 0 0 0 (fun _ _=>undef) (by simp) (by simp [maxLen]) (by simp) (by simp) (by simp) (by simp)
   all_goals first | exact hk.elim | (cases hf;done)
 | succ n ih=>
   intro v x hf hk hx
   cases v <;> simp only [frzOk] at hk <;> simp only [AV.free] at hf <;> simp only [frz]
   case pv=>exact pv_inv hx
   case nils=>cases hx;exact .sl [] none 0 0 0 0 (fun _ _=>undef) (by simp) (by simp [maxLen]) (by simp) (by simp) (by simp) (by simp)
   case agg cs=>
    cases hx with
    | agg _ vs hs hr=>
      refine .agg _ _ (by simpa using hs) (fun c hc=>?_) (fun i c hc=>?_)
      · obtain ⟨d,hd,rfl⟩:=List.mem_map.1 hc
        exact frz_one H n d (hk d hd).1 (hk d hd).2
      · rw [List.getElem?_map] at hc
        obtain ⟨d,hd,rfl⟩:=Option.map_eq_some_iff.1 hc
        exact ih d _ (freeL_mem hf d (List.mem_of_getElem? hd)) (hk d (List.mem_of_getElem? hd)).2 (hr i d hd)
   case clo f caps=>
    cases hx with
    | clo _ _ vs hs hr=>
      refine .fn _ _ _ (by simpa using hs) (fun i c hc=>?_)
      rw [List.getElem?_map] at hc
      obtain ⟨d,hd,rfl⟩:=Option.map_eq_some_iff.1 hc
      exact ih d _ (freeL_mem hf d (List.mem_of_getElem? hd)) (hk d (List.mem_of_getElem? hd)) (hr i d hd)
   all_goals first | exact hk.elim | (cases hf;done)
end
section
variable {w:World} {M:Nat->Prop} {L:Locs} {H:AHeap} {S:(List PV->Prop × PV)->Value->Prop} {P:Program}
theorem one_of_rel {p:PV} {v:Value} (h1:p.one=true) (h:PVRel w M p v):v.oneCell'=true:=by
 cases h <;> first | rfl | simp [PV.one] at h1
def RowIn (w:World) (M:Nat->Prop) (k:Nat) (es:List PV) (arr:Array Value):Prop:=
 ∀ (i:Nat) e (j:Nat) c,es[i]?=some e->e.cells[j]?=some c->c.one=true/\PVRel w M c (arr.getD (i * k+j) undef)
theorem pos_lt {es:List PV} {k i j:Nat} {e c:PV} (hw:allW k es) (he:es[i]?=some e) (hc:e.cells[j]?=some c):j<k/\i<es.length/\i * k+j<es.length * k:=by
 have hj:j<k:=by
  have h1:=(List.getElem?_eq_some_iff.1 hc).1
  have h2:e.cells.length=k:=hw e (List.mem_of_getElem? he)
  omega
 have hi:=(List.getElem?_eq_some_iff.1 he).1
 refine ⟨hj,hi,?_⟩
 have h3:(i+1) * k<=es.length * k:=Nat.mul_le_mul_right _ (by omega)
 rw [Nat.add_mul,Nat.one_mul] at h3
 omega
theorem srcA_run {v:AV} {x:Value} {k:Nat} {es2:List PV} (hB:∀ key B,hget H key=some B->BRel w M L H S key B) (h:srcA H v=some es2) (hw:allW k es2) (hx:AVRel w M L H S v x):
 (Builtin.lenOf x).run P w=.ok es2.length w/\∃ news:Array Value,(Builtin.firstCells k es2.length x).run P w=.ok news w/\news.size=es2.length * k/\RowIn w M k es2 news:=by
 have mem:∀ (b o:Nat) (len cap:Nat) (val:Nat->Nat->Value),(∀ (i:Nat) e (j:Nat) c,es2[i]?=some e->e.cells[j]?=some c->c.one=true/\w.cell? ⟨b,o+i * k+j,none⟩=some (val i j)/\PVRel w M c (val i j))->
  ∃ news:Array Value,(Builtin.firstCells k es2.length (.slice (some ⟨b,o,none⟩) len cap)).run P w=.ok news w/\news.size=es2.length * k/\RowIn w M k es2 news:=by
  intro b o len cap val hv
  rcases Nat.eq_zero_or_pos k with rfl | hk
  · refine ⟨#[],?_,by simp,fun i e j c he hc=>?_⟩
    · simp [Builtin.firstCells,loadCells,loadCellsFrom]
    · have:=pos_lt hw he hc;omega
  · refine ⟨((List.range (es2.length * k)).map fun m=>val (m / k) (m % k)).toArray,?_,by simp,fun i e j c he hc=>?_⟩
    · simp only [Builtin.firstCells]
      refine run_loadCells (P:=P) w ⟨b,o,none⟩ (es2.length * k) (fun m=>val (m / k) (m % k)) (fun m hm=>?_)
      rw [Addr.add_lit]
      have hi:m / k<es2.length:=Nat.div_lt_of_lt_mul (by rw [Nat.mul_comm];exact hm)
      have hj:m % k<k:=Nat.mod_lt _ hk
      have he:=List.getElem?_eq_getElem hi
      have hlen:(es2[m / k]).cells.length=k:=hw _ (List.getElem_mem hi)
      have hc:(es2[m / k]).cells[m % k]?=some ((es2[m / k]).cells[m % k]'(by omega)):=List.getElem?_eq_getElem (by omega)
      have:=(hv _ _ _ _ he hc).2.1
      rw [show o+m / k * k+m % k=o+m by rw [Nat.add_assoc,Nat.mul_comm,Nat.div_add_mod]] at this
      exact this
    · obtain ⟨hj,hi,hlt⟩:=pos_lt hw he hc
      obtain ⟨h1,h2,h3⟩:=hv i e j c he hc
      refine ⟨h1,?_⟩
      rw [getD_range _ _ _ hlt]
      have e1:(i * k+j) / k=i:=by rw [Nat.mul_comm,Nat.mul_add_div hk];simp [Nat.div_eq_of_lt hj]
      have e2:(i * k+j) % k=j:=by rw [Nat.mul_comm,Nat.mul_add_mod,Nat.mod_eq_of_lt hj]
      rw [e1,e2];exact h3
 have row:∀ (key k':Nat) (es:List PV) (b cap:Nat),hget H key=some (.row k' es)->L key=some (b,cap)->∀ (lo hi:Nat),lo<=hi->hi<=es.length->es2=(es.take hi).drop lo->∀ (len c:Nat),es2≠[]->
  ∃ news:Array Value,(Builtin.firstCells k es2.length (.slice (some ⟨b,lo * k',none⟩) len c)).run P w=.ok news w/\news.size=es2.length * k/\RowIn w M k es2 news:=by
  intro key k' es b cap g1 g2 lo hi g3 g4 g5 len c g6
  have hb:=hB key _ g1
  simp only [BRel,g2] at hb
  obtain ⟨hk0,hw0,arr,et,f1,f2,f3,f4,f5⟩:=hb
  have hkk:k'=k:=by
   obtain ⟨p,hp⟩:=List.exists_mem_of_ne_nil _ g6
   have h1:=hw p hp
   rw [g5] at hp
   have h2:=hw0 p (List.mem_of_mem_take (List.mem_of_mem_drop hp))
   omega
  subst hkk
  refine mem b (lo * k') len c (fun i j=>arr.getD ((lo+i) * k'+j) undef) (fun i e j cc he hc=>?_)
  have he':=he
  rw [g5,List.getElem?_drop,List.getElem?_take] at he'
  split at he'
  · have h5:=f5 _ e j cc he' hc
    obtain ⟨hj,hi',hlt⟩:=pos_lt hw0 he' hc
    refine ⟨h5.1,?_,h5.2⟩
    rw [<- Nat.add_mul,cell_of_row w b _ arr et _ f1]
    have hlt2:(lo+i) * k'+j<arr.size:=by
     rw [f2];exact Nat.lt_of_lt_of_le hlt (Nat.mul_le_mul_right _ f3)
    simp [Array.getD_eq_getD_getElem?,Array.getElem?_eq_getElem hlt2]
  · cases he'
 unfold srcA at h
 split at h
 · simp only [Option.some.injEq] at h
   subst h
   obtain ⟨a,cap,k',b,o,val,rfl,g2,g3,g4,g5,g6,g7⟩:=sl_inv hx
   refine ⟨by simp [Builtin.lenOf],?_⟩
   rename_i es
   by_cases hne:es=[]
   · subst hne
     exact ⟨#[],by cases a <;> simp [Builtin.firstCells,loadCells,loadCellsFrom],by simp,fun i e j c he _=>by simp at he⟩
   · obtain rfl:=g5 hne
     have hkk:k'=k:=by
      obtain ⟨p,hp⟩:=List.exists_mem_of_ne_nil _ hne
      have:=hw p hp;have:=g4 p hp;omega
     subst hkk
     exact mem b o _ _ val (fun i e j c he hc=>⟨(g6 i e j c he hc).2.1,(g6 i e j c he hc).2.2,g7 i e j c he hc⟩)
 · simp only [Option.some.injEq] at h
   subst h
   rename_i s
   have hp:=pv_inv hx
   cases hp
   have hsz:(⟨s.toArray⟩:ByteArray).size=s.length:=by simp [ByteArray.size]
   refine ⟨by simp [Builtin.lenOf,hsz],?_⟩
   rcases Nat.eq_zero_or_pos s.length with h0 | h0
   · have:s=[]:=List.eq_nil_of_length_eq_zero h0
     subst this
     exact ⟨#[],by simp [Builtin.firstCells],by simp,fun i e j c he _=>by simp at he⟩
   · have hk1:k=1:=by
       obtain ⟨b,hb⟩:=List.exists_mem_of_ne_nil s (by intro e;subst e;simp at h0)
       have:=hw (.int .u8 b.toNat) (List.mem_map.2 ⟨b,hb,rfl⟩)
       simpa [PV.width,PV.cells] using this.symm
     subst hk1
     refine ⟨(s.map fun b=>Value.int .u8 b.toNat).toArray,?_,by simp,fun i e j c he hc=>?_⟩
     · simp only [Builtin.firstCells,Sem.run_pure,List.length_map]
       congr 1
       have:(⟨s.toArray⟩:ByteArray).extract 0 s.length=⟨s.toArray⟩:=by
        rw [Lib.extract_eq];simp
       rw [this]
       apply Array.ext'
       simp
     · rw [List.getElem?_map] at he
       obtain ⟨b,hb,rfl⟩:=Option.map_eq_some_iff.1 he
       cases j with
       | zero=>
         simp [PV.cells] at hc
         subst hc
         refine ⟨rfl,?_⟩
         have:(s.map fun b=>Value.int .u8 b.toNat).toArray.getD (i * 1+0) undef=.int .u8 b.toNat:=by
          simp [Array.getD_eq_getD_getElem?,hb]
         rw [this];exact .int _ _
       | succ j=>simp [PV.cells] at hc
 · simp only [Option.some.injEq] at h
   subst h
   cases hx
   exact ⟨by simp [Builtin.lenOf],#[],by simp [Builtin.firstCells],by simp,fun i e j c he _=>by simp at he⟩
 · rename_i key hi
   split at h
   · rename_i k' es hH
     simp only [Option.some.injEq] at h
     rcases rs_inv hx with ⟨k2,g1,g2,g3,rfl⟩ | ⟨k2,es3,b,cap,g1,g2,g3,rfl⟩
     · subst g3
       simp only [List.take_zero] at h
       subst h
       exact ⟨by simp [Builtin.lenOf],#[],by simp [Builtin.firstCells],by simp,fun i e j c he _=>by simp at he⟩
     · rw [hH] at g1
       simp only [Option.some.injEq,ABlk.row.injEq] at g1
       obtain ⟨rfl,rfl⟩:=g1
       have hlen:es2.length=hi:=by rw [<- h];simp;omega
       refine ⟨by simp [Builtin.lenOf,hlen],?_⟩
       by_cases hne:es2=[]
       · subst hne
         exact ⟨#[],by simp [Builtin.firstCells,loadCells,loadCellsFrom],by simp,fun i e j c he _=>by simp at he⟩
       · have:=row key k' es b cap hH g2 0 hi (by omega) g3 (by simpa using h.symm) hi cap hne
         simpa using this
   · cases h
 · rename_i key lo hi sz
   split at h
   · rename_i k' es hH
     split at h
     case isFalse=>cases h
     rename_i hsz
     subst hsz
     simp only [Option.some.injEq] at h
     obtain ⟨k2,es3,b,cap,cap',a,g1,g2,g3,g4,g5,g6,g7,rfl⟩:=rv_inv hx
     rw [hH] at g1
     simp only [Option.some.injEq,ABlk.row.injEq] at g1
     obtain ⟨rfl,rfl⟩:=g1
     have hlen:es2.length=hi-lo:=by rw [<- h];simp;omega
     refine ⟨by simp [Builtin.lenOf,hlen],?_⟩
     by_cases hne:es2=[]
     · subst hne
       exact ⟨#[],by cases a <;> simp [Builtin.firstCells,loadCells,loadCellsFrom],by simp,fun i e j c he _=>by simp at he⟩
     · have hlt:lo<hi:=by have:=List.length_pos_iff.2 hne;omega
       obtain rfl:=g7 hlt
       exact row key _ es b cap hH g2 lo hi g3 g4 h.symm _ _ hne
   · cases h
 · cases h
theorem RowIn.ones {k:Nat} {es:List PV} {arr:Array Value} (hw:allW k es) (hs:arr.size=es.length * k) (h:RowIn w M k es arr):∀ u,u∈arr.toList->u.oneCell'=true:=by
 intro u hu
 obtain ⟨m,hm⟩:=List.mem_iff_getElem?.1 hu
 have hlt:m<es.length * k:=by have:=(List.getElem?_eq_some_iff.1 hm).1;simpa [hs] using this
 rcases Nat.eq_zero_or_pos k with rfl | hk
 · omega
 · have hi:m / k<es.length:=Nat.div_lt_of_lt_mul (by rw [Nat.mul_comm];exact hlt)
   have hj:m % k<k:=Nat.mod_lt _ hk
   have he:=List.getElem?_eq_getElem hi
   have hlen:(es[m / k]).cells.length=k:=hw _ (List.getElem_mem hi)
   have hc:(es[m / k]).cells[m % k]?=some ((es[m / k]).cells[m % k]'(by omega)):=List.getElem?_eq_getElem (by omega)
   obtain ⟨h1,h2⟩:=h _ _ _ _ he hc
   rw [show m / k * k+m % k=m by rw [Nat.mul_comm,Nat.div_add_mod]] at h2
   have e:arr.getD m undef=u:=by
    rw [Array.getElem?_toList] at hm
    simp [Array.getD_eq_getD_getElem?,hm]
   rw [e] at h2
   exact one_of_rel h1 h2
theorem RowIn.keep {w':World} {M':Nat->Prop} {k:Nat} {es:List PV} {arr:Array Value} (h:RowIn w M k es arr) (hk:Keeps w M w' M'):RowIn w' M' k es arr:=
 fun i e j c he hc=>⟨(h i e j c he hc).1,(h i e j c he hc).2.keep hk⟩
theorem RowIn.append {k:Nat} {es es2:List PV} {arr cur news:Array Value} (hw:allW k es) (hw2:allW k es2) (h1:RowIn w M k es cur) (h2:RowIn w M k es2 news)
 (e1:∀ m,m<es.length * k->arr.getD m undef=cur.getD m undef) (e2:∀ m,m<es2.length * k->arr.getD (es.length * k+m) undef=news.getD m undef):RowIn w M k (es++es2) arr:=by
 intro i e j c he hc
 by_cases hi:i<es.length
 · rw [List.getElem?_append_left hi] at he
   have:=pos_lt hw he hc
   rw [e1 _ this.2.2]
   exact h1 i e j c he hc
 · rw [List.getElem?_append_right (by omega)] at he
   have hp:=pos_lt hw2 he hc
   have e3:i * k+j=es.length * k+((i-es.length) * k+j):=by
    rw [<- Nat.add_assoc,<- Nat.add_mul];congr 2;omega
   rw [e3,e2 _ hp.2.2]
   exact h2 _ e j c he hc
theorem allW_append {k:Nat} {es es2:List PV} (h1:allW k es) (h2:allW k es2):allW k (es++es2):=fun e he=>(List.mem_append.1 he).elim (h1 e) (h2 e)
theorem allW_take {k n:Nat} {es:List PV} (h:allW k es):allW k (es.take n):=fun e he=>h e (List.mem_of_mem_take he)
end
section
variable {w:World} {M:Nat->Prop} {L:Locs} {H:AHeap} {S:(List PV->Prop × PV)->Value->Prop} {P:Program}
theorem isByteD_eq {d:Option TypeDesc} (h:isByteD d=true):d=some (.int .u8):=by
 unfold isByteD at h;split at h <;> simp_all
theorem fold_bytes (ns:List Int):∀ (s:List UInt8),ns.foldl (fun r n=>r.push (UInt8.ofNat n.toNat)) (⟨s.toArray⟩:ByteArray)=⟨(s++ns.map fun n=>UInt8.ofNat n.toNat).toArray⟩:=by
 induction ns with
 | nil=>intro s;simp
 | cons n ns ih=>
   intro s
   have:(⟨s.toArray⟩:ByteArray).push (UInt8.ofNat n.toNat)=⟨(s++[UInt8.ofNat n.toNat]).toArray⟩:=by
    simp [ByteArray.push]
   rw [List.foldl_cons,this,ih]
   simp
theorem convA_run {s d:TypeId} {v:AV} {x:Value} (hB:∀ key B,hget H key=some B->BRel w M L H S key B) (h:(convA P H s d v).1) (hx:AVRel w M L H S v x):
 ∃ y,(Go.convert s d x).run P w=.ok y w/\AVRel w M L H S (convA P H s d v).2 y:=by
 unfold convA at h ⊢
 split at h
 · rename_i e hs hd
   split at h
   · rename_i es hsrc
     obtain ⟨h1,h0,h2⟩:=h
     have he:=isByteD_eq h1
     have hw:allW 1 es:=fun p hp=>by
      have:=List.all_eq_true.1 h2 p hp
      cases p <;> first | rfl | simp [isU8] at this
     obtain ⟨hlen,news,hf,hns,hrow⟩:=srcA_run (P:=P) hB hsrc hw hx
     refine ⟨.string ⟨(es.map toByte).toArray⟩,?_,.pv _ _ (.str _)⟩
     have hnews:news=((es.map fun p=>(match p with | .int _ n=>n | _=>0:Int)).map (Value.int .u8)).toArray:=by
      apply Array.ext_getElem?
      intro m
      by_cases hm:m<es.length
      · have hp:=List.getElem?_eq_getElem hm
        have hu:=List.all_eq_true.1 h2 _ (List.getElem_mem hm)
        have hc:(es[m]).cells[0]?=some es[m]:=by
         revert hu;generalize es[m]=p;intro hu
         cases p <;> first | rfl | simp [isU8] at hu
        have hr:=(hrow m _ 0 _ hp hc).2
        have hmn:m<news.size:=by omega
        simp only [Nat.mul_one,Nat.add_zero,Array.getD_eq_getD_getElem?,Array.getElem?_eq_getElem hmn,Option.getD_some] at hr
        simp only [List.getElem?_toArray,List.getElem?_map,hp,Option.map_some,Array.getElem?_eq_getElem hmn]
        revert hu hr
        generalize es[m]=p
        intro hu hr
        cases p <;> simp only [isU8] at hu <;> try (cases hu;done)
        rename_i k n
        cases k <;> simp at hu
        have h9:news[m]=.int .u8 n:=pint_inv hr
        rw [h9]
      · rw [Array.getElem?_eq_none (by omega),Array.getElem?_eq_none (by simp;omega)]
     have hmap:(es.map fun p=>(match p with | .int _ n=>n | _=>0:Int)).map (fun n=>UInt8.ofNat n.toNat)=es.map toByte:=by
      rw [List.map_map]
      apply List.map_congr_left
      intro p hp
      have:=List.all_eq_true.1 h2 p hp
      cases p <;> first | rfl | simp [isU8] at this
     have hsl:∃ a n c,x=.slice a n c:=by
      unfold srcA at hsrc
      split at hsrc
      · obtain ⟨a,cap,k',b,o,val,rfl,_⟩:=sl_inv hx;exact ⟨_,_,_,rfl⟩
      · simp [isStrV] at h0
      · cases hx;exact ⟨_,_,_,rfl⟩
      · rcases rs_inv hx with ⟨_,_,_,_,rfl⟩ | ⟨_,_,_,_,_,_,_,rfl⟩ <;> exact ⟨_,_,_,rfl⟩
      · obtain ⟨_,_,_,_,_,_,_,_,_,_,_,_,_,rfl⟩:=rv_inv hx;exact ⟨_,_,_,rfl⟩
      · cases hsrc
     obtain ⟨a,n,c,rfl⟩:=hsl
     have hn:n=es.length:=by simpa [Builtin.lenOf] using hlen
     subst hn
     rw [run_convert_bytes_string w s d e a _ c hs he hd]
     cases a with
     | none=>
       simp only [Builtin.firstCells,Sem.run_pure,Result.ok.injEq] at hf
       have hz:es=[]:=by
        have:news.size=0:=by rw [<- hf.1];rfl
        exact List.eq_nil_of_length_eq_zero (by omega)
       subst hz
       rfl
     | some ad=>
       simp only [Builtin.firstCells,Nat.mul_one] at hf
       rw [hnews] at hf
       rw [run_bytesToString w ad _ c _ hf]
       have:=fold_bytes (es.map fun p=>(match p with | .int _ n=>n | _=>0:Int)) []
       rw [hmap,List.nil_append] at this
       rw [<- this]
       rfl
   · exact h.elim
 · split at h
   · obtain ⟨y,hy,hr⟩:=convP_run (P:=P) h (pv_inv hx)
     exact ⟨y,hy,.pv _ _ hr⟩
   · exact h.elim
theorem putA_get0:∀ (xs:List Value) (off:Nat) (arr:Array Value) (j:Nat),off+xs.length<=arr.size->(putA off xs arr)[j]?=if off<=j/\j<off+xs.length then xs[j-off]? else arr[j]?
 | [],off,arr,j,_=>by simp [putA];omega
 | x::xs,off,arr,j,h=>by
   simp only [List.length_cons] at h
   rw [putA,putA_get0 xs (off+1) _ j (by simp;omega)]
   by_cases h1:off+1<=j/\j<off+1+xs.length
   · rw [if_pos h1,if_pos (by simp;omega)]
     obtain ⟨m,rfl⟩:∃ m,j=off+1+m:=⟨j-(off+1),by omega⟩
     rw [show off+1+m-(off+1)=m by omega,show off+1+m-off=m+1 by omega,List.getElem?_cons_succ]
   · rw [if_neg h1]
     by_cases h2:j=off
     · subst h2
       rw [if_pos (by simp),Array.getElem?_setIfInBounds]
       simp;omega
     · rw [if_neg (by simp;omega),Array.getElem?_setIfInBounds_ne (Ne.symm h2)]
theorem size_putA0:∀ (xs:List Value) (off:Nat) (arr:Array Value),(putA off xs arr).size=arr.size
 | [],_,_=>rfl
 | x::xs,off,arr=>by rw [putA,size_putA0 xs];simp
theorem fill_dense {k:Nat}:∀ (parts:List (Nat × Value)) (i0:Nat) (arr:Array Value),idxOk i0 (parts.map (·.1))=true->(∀ p,p∈parts->p.2.cells.size=k)->(i0+parts.length) * k<=arr.size->
 ∃ arr',Instr.fill (fun i=>some (i * k,k)) arr parts=some arr'/\arr'.size=arr.size/\(∀ m,m<i0 * k->arr'[m]?=arr[m]?)/\
  (∀ (i:Nat) p (j:Nat),parts[i]?=some p->j<k->arr'.getD ((i0+i) * k+j) undef=p.2.cells.getD j undef):=by
 intro parts
 induction parts with
 | nil=>intro i0 arr _ _ _;exact ⟨arr,rfl,rfl,fun _ _=>rfl,fun i p j h=>by simp at h⟩
 | cons p parts ih=>
   intro i0 arr hi hs hl
   obtain ⟨i,v⟩:=p
   simp only [List.map_cons,idxOk,Bool.and_eq_true,beq_iff_eq] at hi
   obtain ⟨rfl,hi⟩:=hi
   have hv:v.cells.size=k:=hs _ List.mem_cons_self
   simp only [List.length_cons] at hl
   have hl1:(i+1+parts.length) * k<=arr.size:=by rw [show i+1+parts.length=i+(parts.length+1) by omega];exact hl
   have hik:i * k+k<=arr.size:=by
    have h1:(i+1) * k<=(i+1+parts.length) * k:=Nat.mul_le_mul_right _ (by omega)
    rw [Nat.add_mul,Nat.one_mul] at h1;omega
   obtain ⟨arr',h1,h2,h3,h4⟩:=ih (i+1) (putA (i * k) v.cells.toList arr) hi (fun p hp=>hs p (List.mem_cons_of_mem _ hp)) (by rw [size_putA0];exact hl1)
   have hget:∀ m,(putA (i * k) v.cells.toList arr)[m]?=if i * k<=m/\m<i * k+k then v.cells.toList[m-i * k]? else arr[m]?:=by
    intro m
    have:=putA_get0 v.cells.toList (i * k) arr m (by simp [hv];exact hik)
    simpa [hv] using this
   refine ⟨arr',?_,by rw [h2,size_putA0],fun m hm=>?_,fun i' p j hp hj=>?_⟩
   · unfold Instr.fill
     have:(decide (v.cells.size≠k)||decide (i * k+v.cells.size>arr.size))=false:=by simp [hv];omega
     simp only [this,Bool.false_eq_true,if_false]
     rw [fold_cells]
     exact h1
   · rw [h3 m (by rw [Nat.add_mul];omega),hget,if_neg (by omega)]
   · cases i' with
     | zero=>
       simp only [List.getElem?_cons_zero,Option.some.injEq] at hp
       subst hp
       have hm:i * k+j<(i+1) * k:=by rw [Nat.add_mul,Nat.one_mul];omega
       simp only [Array.getD_eq_getD_getElem?,Nat.add_zero]
       rw [h3 _ hm,hget,if_pos (by omega),show i * k+j-i * k=j by omega]
       simp
     | succ i'=>
       have:=h4 i' p j (by simpa using hp) hj
       rw [<- this,show i+(i'+1)=i+1+i' by omega]
end
end Go.AM
namespace Go.AM
open Go Go.MapKept
section
variable {P:Program} {w:World} {M:Nat->Prop}
theorem bytes_inj {a b:List UInt8} (h:(⟨a.toArray⟩:ByteArray)=⟨b.toArray⟩):a=b:=by
 have:=congrArg (fun x:ByteArray=>x.data.toList) h
 simpa using this
theorem bytes_beq' (a b:List UInt8):((⟨a.toArray⟩:ByteArray) == ⟨b.toArray⟩)=(a == b):=by
 rw [Bool.eq_iff_iff,bytes_beq,beq_iff_eq]
 exact ⟨bytes_inj,fun h=>by rw [h]⟩
theorem keyEq1_iff {d:TypeDesc} {p q:PV} {x y:Value} (hp:keyKind (some d) p=true) (hq:keyKind (some d) q=true) (hx:PVRel w M p x) (hy:PVRel w M q y):keyEq1 p q=true↔y=x:=by
 cases d <;> cases p <;> try (simp [keyKind] at hp;done)
 all_goals cases q <;> try (simp [keyKind] at hq;done)
 case bool.bool.bool a b=>
  cases hx;cases hy
  simp only [keyEq1,beq_iff_eq,Value.bool.injEq]
  exact ⟨fun h=>h.symm,fun h=>h.symm⟩
 case int.int.int k k1 a k2 b=>
  cases hx;cases hy
  simp only [keyKind,beq_iff_eq] at hp hq
  subst hp;subst hq
  simp only [keyEq1,beq_iff_eq,Value.int.injEq,true_and]
  exact ⟨fun h=>h.symm,fun h=>h.symm⟩
 case string.str.str a b=>
  cases hx;cases hy
  simp only [keyEq1,beq_iff_eq,Value.string.injEq]
  exact ⟨fun h=>by rw [h],fun h=>(bytes_inj h).symm⟩
theorem eq1_run {t:TypeId} {p q:PV} {x y:Value} {n:Nat} (hp:keyKind (P.underlying t) p=true) (hq:keyKind (P.underlying t) q=true) (hx:PVRel w M p x) (hy:PVRel w M q y):
 (Op.equalIn (n+1) t x y).run P w=.ok (keyEq1 p q) w:=by
 cases hd:P.underlying t with
 | none=>rw [hd] at hp;simp [keyKind] at hp
 | some d=>
   rw [hd] at hp hq
   cases d <;> cases p <;> try (simp [keyKind] at hp;done)
   all_goals cases q <;> try (simp [keyKind] at hq;done)
   case bool.bool.bool a b=>cases hx;cases hy;simp [Op.equalIn,run_underlying hd,keyEq1]
   case int.int.int k k1 a k2 b=>
    cases hx;cases hy
    simp only [keyKind,beq_iff_eq] at hp hq
    subst hp;subst hq
    simp [Op.equalIn,run_underlying hd,keyEq1]
   case string.str.str a b=>cases hx;cases hy;simp [Op.equalIn,run_underlying hd,keyEq1,bytes_beq']
theorem part_run {t:TypeId} {p:PV} {vs:Array Value} {i:Nat} (hp:keyKind (P.underlying t) p=true) (hi:i<vs.size):(part t vs i).run P w=.ok (vs.getD i undef) w:=by
 cases hd:P.underlying t with
 | none=>rw [hd] at hp;simp [keyKind] at hp
 | some d=>
   rw [hd] at hp
   obtain ⟨v,hv⟩:∃ v,vs[i]?=some v:=⟨_,Array.getElem?_eq_getElem hi⟩
   have hg:vs.getD i undef=v:=by rw [Array.getD_eq_getD_getElem?,hv];rfl
   rw [hg]
   cases d <;> cases p <;> simp [keyKind] at hp <;> simp [part,isAgg,run_underlying hd,hv]
theorem flatFs_len:∀ (fs:List Field) (i:Nat) (cs:List PV),flatFs P fs i cs=true->fs.length=cs.length
 | [],_,[],_=>rfl
 | [],_,_::_,h=>by simp [flatFs] at h
 | _::_,_,[],h=>by simp [flatFs] at h
 | f::fs,i,c::cs,h=>by
   simp only [flatFs,Bool.and_eq_true] at h
   simp [flatFs_len fs (i+1) cs h.2]
theorem eqFields_run {vs us:Array Value} {n:Nat}:∀ (fs:List Field) (i:Nat) (cs ds:List PV),flatFs P fs i cs=true->flatFs P fs i ds=true->vs.size=i+cs.length->us.size=i+ds.length->
 (∀ j c,cs[j]?=some c->PVRel w M c (vs.getD (i+j) undef))->(∀ j c,ds[j]?=some c->PVRel w M c (us.getD (i+j) undef))->(Op.eqFields (n+1) vs us fs).run P w=.ok (keyEqL cs ds) w
 | [],_,[],[],_,_,_,_,_,_=>by simp [Op.eqFields,keyEqL]
 | [],_,[],_::_,_,h,_,_,_,_=>by simp [flatFs] at h
 | [],_,_::_,_,h,_,_,_,_,_=>by simp [flatFs] at h
 | _::_,_,[],_,h,_,_,_,_,_=>by simp [flatFs] at h
 | _::_,_,_::_,[],_,h,_,_,_,_=>by simp [flatFs] at h
 | f::fs,i,c::cs,d::ds,h1,h2,hs1,hs2,hx,hy=>by
   simp only [flatFs,Bool.and_eq_true,beq_iff_eq,bne_iff_ne,ne_eq] at h1 h2
   simp only [List.length_cons] at hs1 hs2
   have hx0:=hx 0 c rfl
   have hy0:=hy 0 d rfl
   rw [Nat.add_zero] at hx0 hy0
   have ih:=eqFields_run (vs:=vs) (us:=us) (n:=n) fs (i+1) cs ds h1.2 h2.2 (by omega) (by omega) (fun j c hj=>by have:=hx (j+1) c (by simpa using hj);rwa [show i+(j+1)=i+1+j by omega] at this)
    (fun j c hj=>by have:=hy (j+1) c (by simpa using hj);rwa [show i+(j+1)=i+1+j by omega] at this)
   have e0:¬ f.name= "_" := h1.1.1.2
   have q1:=part_run (w:=w) (vs:=vs) (i:=i) h1.1.2 (by omega)
   have q2:=part_run (w:=w) (vs:=us) (i:=i) h2.1.2 (by omega)
   have q3:=eq1_run (n:=n) h1.1.2 h2.1.2 hx0 hy0
   simp only [Op.eqFields,e0,ne_eq,not_false_eq_true,if_true,Sem.run_bind,h1.1.1.1,q1,q2,q3,Result.andThen_ok,keyEqL]
   cases keyEq1 c d with
   | true=>simpa using ih
   | false=>simp
theorem eqItems_run {e:TypeId} {vs us:Array Value} {n:Nat}:∀ (i:Nat) (cs ds:List PV),cs.length=ds.length->(∀ c,c∈cs->keyKind (P.underlying e) c=true)->(∀ c,c∈ds->keyKind (P.underlying e) c=true)->vs.size=i+cs.length->us.size=i+ds.length->
 (∀ j c,cs[j]?=some c->PVRel w M c (vs.getD (i+j) undef))->(∀ j c,ds[j]?=some c->PVRel w M c (us.getD (i+j) undef))->(Op.eqItems (n+1) e 1 vs us (List.range' i cs.length)).run P w=.ok (keyEqL cs ds) w
 | _,[],[],_,_,_,_,_,_,_=>by simp [Op.eqItems,keyEqL]
 | _,[],_::_,h,_,_,_,_,_,_=>by simp at h
 | _,_::_,[],h,_,_,_,_,_,_=>by simp at h
 | i,c::cs,d::ds,hl,h1,h2,hs1,hs2,hx,hy=>by
   simp only [List.length_cons] at hs1 hs2 hl
   have hx0:=hx 0 c rfl
   have hy0:=hy 0 d rfl
   rw [Nat.add_zero] at hx0 hy0
   have ih:=eqItems_run (e:=e) (vs:=vs) (us:=us) (n:=n) (i+1) cs ds (by omega) (fun c hc=>h1 c (List.mem_cons_of_mem _ hc)) (fun c hc=>h2 c (List.mem_cons_of_mem _ hc)) (by omega) (by omega) (fun j c hj=>by have:=hx (j+1) c (by simpa using hj);rwa [show i+(j+1)=i+1+j by omega] at this)
    (fun j c hj=>by have:=hy (j+1) c (by simpa using hj);rwa [show i+(j+1)=i+1+j by omega] at this)
   have k1:=h1 c List.mem_cons_self
   have k2:=h2 d List.mem_cons_self
   have q1:=part_run (w:=w) (vs:=vs) (i:=i) k1 (by omega)
   have q2:=part_run (w:=w) (vs:=us) (i:=i) k2 (by omega)
   have q3:=eq1_run (n:=n) k1 k2 hx0 hy0
   simp only [List.length_cons,List.range'_succ,Op.eqItems,Nat.mul_one,Sem.run_bind,q1,q2,q3,Result.andThen_ok,keyEqL]
   cases keyEq1 c d with
   | true=>simpa using ih
   | false=>simp
theorem aggrel_inv {cs:List PV} {x:Value} (h:PVRel w M (.agg cs) x):∃ vs:Array Value,x=.agg vs/\vs.size=cs.length/\∀ i c,cs[i]?=some c->PVRel w M c (vs.getD i undef):=by
 cases h;exact ⟨_,rfl,‹_›,‹_›⟩
theorem flat_run {t:TypeId} {cs ds:List PV} {x y:Value} (h1:flatB P t cs=true) (h2:flatB P t ds=true) (hx:PVRel w M (.agg cs) x) (hy:PVRel w M (.agg ds) y):
 (Op.equal t x y).run P w=.ok (keyEqL cs ds) w:=by
 obtain ⟨vs,rfl,s1,r1⟩:=aggrel_inv hx
 obtain ⟨us,rfl,s2,r2⟩:=aggrel_inv hy
 show (Op.equalIn (9999+1) t (.agg vs) (.agg us)).run P w=_
 unfold flatB at h1 h2
 split at h1
 · rename_i fs hd
   rw [hd] at h2
   simp only [Bool.and_eq_true,Bool.not_eq_true'] at h1 h2
   have hf:P.fieldsOf t=fs:=by unfold Program.fieldsOf;rw [hd]
   rw [run_equalIn_struct w 9999 t vs us (by rw [hf];exact hd) h1.1.1,hf]
   exact eqFields_run (n:=9998) fs.toList 0 cs ds h1.2 h2.2 (by omega) (by omega) (fun j c hj=>by rw [Nat.zero_add];exact r1 j c hj) (fun j c hj=>by rw [Nat.zero_add];exact r2 j c hj)
 · rename_i n e hd
   rw [hd] at h2
   simp only [Bool.and_eq_true,Bool.not_eq_true',beq_iff_eq,List.all_eq_true] at h1 h2
   obtain ⟨⟨⟨⟨l1,c1⟩,i1⟩,_⟩,k1⟩:=h1
   obtain ⟨⟨⟨⟨l2,_⟩,_⟩,_⟩,k2⟩:=h2
   obtain ⟨inf,hi⟩:=Option.isSome_iff_exists.1 i1
   rw [run_equalIn_array w 9999 vs us hd hi,c1,List.range_eq_range',l1]
   exact eqItems_run (n:=9998) 0 cs ds (by omega) k1 k2 (by omega) (by omega) (fun j c hj=>by rw [Nat.zero_add];exact r1 j c hj) (fun j c hj=>by rw [Nat.zero_add];exact r2 j c hj)
 · cases h1
theorem keyEqL_app:∀ (a b c d:List PV),a.length=b.length->keyEqL (a++c) (b++d)=(keyEqL a b&&keyEqL c d)
 | [],[],c,d,_=>by simp [keyEqL]
 | [],_::_,_,_,h=>by simp at h
 | _::_,[],_,_,h=>by simp at h
 | x::a,y::b,c,d,h=>by
   simp only [List.cons_append,keyEqL,keyEqL_app a b c d (by simpa using h),Bool.and_assoc]
theorem partN_run {t:TypeId} {vs:Array Value} {i:Nat} {gs:Array Field} (hu:P.underlying t=some (.struct gs)) (hi:(P.info? t).isSome=true) (hc:P.cellsOf t=gs.size):(part t vs i).run P w=.ok (.agg (vs.extract i (i+gs.size))) w:=by
 obtain ⟨inf,he⟩:=Option.isSome_iff_exists.1 hi
 have hs:inf.size=gs.size:=by unfold Program.cellsOf at hc;rw [he] at hc;simpa using hc
 simp [part,isAgg,run_underlying hu,Go.sizeOf,typeInfo,he,hs]
theorem flatD_guard {t:TypeId} {cs:List PV} (h:flatD P t cs=true):P.eqGuardType P.depth t=false:=by
 unfold flatD at h
 rw [Bool.or_eq_true] at h
 rcases h with f1 | f1
 · unfold flatB at f1
   split at f1
   · simp only [Bool.and_eq_true,Bool.not_eq_true'] at f1;exact f1.1.2
   · simp only [Bool.and_eq_true,Bool.not_eq_true'] at f1;exact f1.1.2
   · cases f1
 · split at f1
   · simp only [Bool.and_eq_true,Bool.not_eq_true'] at f1;exact f1.1.2
   · cases f1
theorem eqFieldsN_run {vs us:Array Value} {n:Nat}:∀ (fs:List Field) (i:Nat) (cs ds:List PV),flatN P fs i cs=true->flatN P fs i ds=true->vs.size=i+cs.length->us.size=i+ds.length->
 (∀ j c,cs[j]?=some c->PVRel w M c (vs.getD (i+j) undef))->(∀ j c,ds[j]?=some c->PVRel w M c (us.getD (i+j) undef))->(Op.eqFields (n+1+1) vs us fs).run P w=.ok (keyEqL cs ds) w
 | [],_,[],[],_,_,_,_,_,_=>by simp [Op.eqFields,keyEqL]
 | [],_,[],_::_,_,h,_,_,_,_=>by simp [flatN] at h
 | [],_,_::_,_,h,_,_,_,_,_=>by simp [flatN] at h
 | f::fs,i,cs,ds,h1,h2,hs1,hs2,hx,hy=>by
   simp only [flatN,Bool.and_eq_true,beq_iff_eq,bne_iff_ne,ne_eq] at h1 h2
   obtain ⟨⟨ho,e0⟩,h1⟩:=h1
   obtain ⟨_,h2⟩:=h2
   split at h1
   · rename_i gs hu
     rw [hu] at h2
     simp only [Bool.and_eq_true,Bool.not_eq_true',beq_iff_eq,decide_eq_true_eq] at h1 h2
     obtain ⟨⟨⟨⟨k1,k2,k3⟩,k4⟩,k5⟩,k6⟩:=h1
     obtain ⟨⟨⟨_,l4⟩,l5⟩,l6⟩:=h2
     have ih:=eqFieldsN_run (vs:=vs) (us:=us) (n:=n) fs (i+gs.size) (cs.drop gs.size) (ds.drop gs.size) k6 l6 (by rw [List.length_drop];omega) (by rw [List.length_drop];omega)
      (fun j c hj=>by rw [List.getElem?_drop] at hj;have:=hx (gs.size+j) c hj;rwa [<- Nat.add_assoc] at this)
      (fun j c hj=>by rw [List.getElem?_drop] at hj;have:=hy (gs.size+j) c hj;rwa [<- Nat.add_assoc] at this)
     have q1:=partN_run (w:=w) (vs:=vs) (i:=i) hu k2 k3
     have q2:=partN_run (w:=w) (vs:=us) (i:=i) hu k2 k3
     have hf:P.fieldsOf f.type=gs:=by unfold Program.fieldsOf;rw [hu]
     have gx:∀ (xs:Array Value) (es:List PV),xs.size=i+es.length->(∀ j c,es[j]?=some c->PVRel w M c (xs.getD (i+j) undef))->gs.size<=es.length->∀ j c,(es.take gs.size)[j]?=some c->PVRel w M c ((xs.extract i (i+gs.size)).getD (0+j) undef):=by
      intro xs es hsz hr hle j c hj
      rw [List.getElem?_take] at hj
      split at hj
      · rename_i hlt
        have:=hr j c hj
        have e:(xs.extract i (i+gs.size)).getD (0+j) undef=xs.getD (i+j) undef:=by
         rw [Nat.zero_add,Array.getD_eq_getD_getElem?,Array.getD_eq_getD_getElem?,Array.getElem?_extract,if_pos (by omega)]
        rw [e];exact this
      · cases hj
     have q3:(Op.equalIn (n+1+1) f.type (.agg (vs.extract i (i+gs.size))) (.agg (us.extract i (i+gs.size)))).run P w=.ok (keyEqL (cs.take gs.size) (ds.take gs.size)) w:=by
      rw [run_equalIn_struct w (n+1) f.type _ _ (by rw [hf];exact hu) k1,hf]
      exact eqFields_run (n:=n) gs.toList 0 _ _ k5 l5 (by simp;omega) (by simp;omega) (gx vs cs hs1 hx k4) (gx us ds hs2 hy l4)
     have hk:keyEqL cs ds=(keyEqL (cs.take gs.size) (ds.take gs.size)&&keyEqL (cs.drop gs.size) (ds.drop gs.size)):=by
      rw [<- keyEqL_app _ _ _ _ (by simp;omega),List.take_append_drop,List.take_append_drop]
     rw [hk]
     simp only [Op.eqFields,e0,ne_eq,not_false_eq_true,if_true,Sem.run_bind,ho,q1,q2,q3,Result.andThen_ok]
     cases keyEqL (cs.take gs.size) (ds.take gs.size) with
     | true=>simpa using ih
     | false=>simp
   · rename_i hns
     split at h1
     · cases h1
     · rename_i c r
       have h2':∃ d s,ds=d::s/\keyKind (P.underlying f.type) d=true/\flatN P fs (i+1) s=true:=by
        split at h2
        · rename_i gs hu;exact absurd hu (hns gs)
        · split at h2
          · cases h2
          · rename_i d s
            rw [Bool.and_eq_true] at h2
            exact ⟨d,s,rfl,h2.1,h2.2⟩
       obtain ⟨d,s,rfl,l1,l2⟩:=h2'
       rw [Bool.and_eq_true] at h1
       obtain ⟨k1,k2⟩:=h1
       simp only [List.length_cons] at hs1 hs2
       have hx0:=hx 0 c rfl
       have hy0:=hy 0 d rfl
       rw [Nat.add_zero] at hx0 hy0
       have ih:=eqFieldsN_run (vs:=vs) (us:=us) (n:=n) fs (i+1) r s k2 l2 (by omega) (by omega) (fun j c hj=>by have:=hx (j+1) c (by simpa using hj);rwa [show i+(j+1)=i+1+j by omega] at this)
        (fun j c hj=>by have:=hy (j+1) c (by simpa using hj);rwa [show i+(j+1)=i+1+j by omega] at this)
       have q1:=part_run (w:=w) (vs:=vs) (i:=i) k1 (by omega)
       have q2:=part_run (w:=w) (vs:=us) (i:=i) l1 (by omega)
       have q3:=eq1_run (n:=n+1) k1 l1 hx0 hy0
       simp only [Op.eqFields,e0,ne_eq,not_false_eq_true,if_true,Sem.run_bind,ho,q1,q2,q3,Result.andThen_ok,keyEqL]
       cases keyEq1 c d with
       | true=>simpa using ih
       | false=>simp
theorem flatFs_N:∀ (fs:List Field) (i:Nat) (cs:List PV),flatFs P fs i cs=true->flatN P fs i cs=true
 | [],_,[],_=>rfl
 | [],_,_::_,h=>by simp [flatFs] at h
 | _::_,_,[],h=>by simp [flatFs] at h
 | f::fs,i,c::cs,h=>by
   simp only [flatFs,Bool.and_eq_true] at h
   obtain ⟨⟨⟨h1,h2⟩,h3⟩,h4⟩:=h
   have ih:=flatFs_N fs (i+1) cs h4
   unfold flatN
   rw [Bool.and_eq_true,Bool.and_eq_true]
   refine ⟨⟨h1,h2⟩,?_⟩
   split
   · rename_i gs hu;rw [hu] at h3;cases c <;> simp [keyKind] at h3
   · simp only [h3,ih];rfl
theorem flatD_struct {t:TypeId} {cs:List PV} {fs:Array Field} (hu:P.underlying t=some (.struct fs)) (h:flatD P t cs=true):P.stoodInHeld t=false/\flatN P fs.toList 0 cs=true:=by
 unfold flatD flatB at h
 rw [hu] at h
 simp only [Bool.or_eq_true,Bool.and_eq_true,Bool.not_eq_true'] at h
 rcases h with ⟨⟨a,_⟩,b⟩ | ⟨⟨a,_⟩,b⟩
 · exact ⟨a,flatFs_N _ _ _ b⟩
 · exact ⟨a,b⟩
theorem flatD_other {t:TypeId} {cs:List PV} (hn:∀ fs,P.underlying t≠some (.struct fs)) (h:flatD P t cs=true):flatB P t cs=true:=by
 unfold flatD at h
 rw [Bool.or_eq_true] at h
 rcases h with h | h
 · exact h
 · split at h
   · rename_i fs hu;exact absurd hu (hn fs)
   · cases h
theorem flatD_run {t:TypeId} {cs ds:List PV} {x y:Value} (h1:flatD P t cs=true) (h2:flatD P t ds=true) (hx:PVRel w M (.agg cs) x) (hy:PVRel w M (.agg ds) y):
 (Op.equal t x y).run P w=.ok (keyEqL cs ds) w:=by
 by_cases hst:∃ fs,P.underlying t=some (.struct fs)
 · obtain ⟨fs,hd⟩:=hst
   obtain ⟨vs,rfl,s1,r1⟩:=aggrel_inv hx
   obtain ⟨us,rfl,s2,r2⟩:=aggrel_inv hy
   show (Op.equalIn (9999+1) t (.agg vs) (.agg us)).run P w=_
   obtain ⟨a1,b1⟩:=flatD_struct hd h1
   obtain ⟨_,b2⟩:=flatD_struct hd h2
   have hf:P.fieldsOf t=fs:=by unfold Program.fieldsOf;rw [hd]
   rw [run_equalIn_struct w 9999 t vs us (by rw [hf];exact hd) a1,hf]
   exact eqFieldsN_run (n:=9997) fs.toList 0 cs ds b1 b2 (by omega) (by omega) (fun j c hj=>by rw [Nat.zero_add];exact r1 j c hj) (fun j c hj=>by rw [Nat.zero_add];exact r2 j c hj)
 · have hn:∀ fs,P.underlying t≠some (.struct fs):=fun fs h=>hst ⟨fs,h⟩
   exact flat_run (flatD_other hn h1) (flatD_other hn h2) hx hy
theorem keyEqL_iff {vs us:Array Value}:∀ (i:Nat) (cs ds:List PV),cs.length=ds.length->(∀ (j:Nat) (c d:PV),cs[j]?=some c->ds[j]?=some d->∃ k,keyKind (some k) c=true/\keyKind (some k) d=true)->
 (∀ j c,cs[j]?=some c->PVRel w M c (vs.getD (i+j) undef))->(∀ j c,ds[j]?=some c->PVRel w M c (us.getD (i+j) undef))->(keyEqL cs ds=true↔∀ j,j<cs.length->us.getD (i+j) undef=vs.getD (i+j) undef)
 | _,[],[],_,_,_,_=>by simp [keyEqL]
 | _,[],_::_,h,_,_,_=>by simp at h
 | _,_::_,[],h,_,_,_=>by simp at h
 | i,c::cs,d::ds,hl,hk,hx,hy=>by
   simp only [List.length_cons] at hl
   have hx0:=hx 0 c rfl
   have hy0:=hy 0 d rfl
   obtain ⟨k,k1,k2⟩:=hk 0 c d rfl rfl
   have ih:=keyEqL_iff (vs:=vs) (us:=us) (i+1) cs ds (by omega) (fun j c d h1 h2=>hk (j+1) c d (by simpa using h1) (by simpa using h2)) (fun j c hj=>by have:=hx (j+1) c (by simpa using hj);rwa [show i+(j+1)=i+1+j by omega] at this)
    (fun j c hj=>by have:=hy (j+1) c (by simpa using hj);rwa [show i+(j+1)=i+1+j by omega] at this)
   have h1:=keyEq1_iff k1 k2 hx0 hy0
   simp only [keyEqL,Bool.and_eq_true,List.length_cons]
   rw [h1,ih]
   constructor
   · rintro ⟨e0,er⟩ j hj
     cases j with
     | zero=>exact e0
     | succ j=>have:=er j (by omega);rwa [show i+1+j=i+(j+1) by omega] at this
   · intro h
     exact ⟨h 0 (by omega),fun j hj=>by have:=h (j+1) (by omega);rwa [show i+(j+1)=i+1+j by omega] at this⟩
theorem flatFs_kinds:∀ (fs:List Field) (i:Nat) (cs ds:List PV),flatFs P fs i cs=true->flatFs P fs i ds=true->∀ (j:Nat) (c d:PV),cs[j]?=some c->ds[j]?=some d->∃ k,keyKind (some k) c=true/\keyKind (some k) d=true
 | [],_,[],_,_,_,j,c,d,h,_=>by simp at h
 | [],_,_::_,_,h,_,_,_,_,_,_=>by simp [flatFs] at h
 | _::_,_,[],_,h,_,_,_,_,_,_=>by simp [flatFs] at h
 | _::_,_,_::_,[],_,h,_,_,_,_,_=>by simp [flatFs] at h
 | f::fs,i,c::cs,d::ds,h1,h2,j,c',d',hc,hd=>by
   simp only [flatFs,Bool.and_eq_true] at h1 h2
   cases j with
   | zero=>
     simp only [List.getElem?_cons_zero,Option.some.injEq] at hc hd
     subst hc;subst hd
     cases hk:P.underlying f.type with
     | none=>rw [hk] at h1;simp [keyKind] at h1
     | some k=>rw [hk] at h1 h2;exact ⟨k,h1.1.2,h2.1.2⟩
   | succ j=>exact flatFs_kinds fs (i+1) cs ds h1.2 h2.2 j c' d' (by simpa using hc) (by simpa using hd)
theorem flat_iff {t:TypeId} {cs ds:List PV} {x y:Value} (h1:flatB P t cs=true) (h2:flatB P t ds=true) (hx:PVRel w M (.agg cs) x) (hy:PVRel w M (.agg ds) y):keyEqL cs ds=true↔y=x:=by
 obtain ⟨vs,rfl,s1,r1⟩:=aggrel_inv hx
 obtain ⟨us,rfl,s2,r2⟩:=aggrel_inv hy
 have hlen:cs.length=ds.length/\∀ (j:Nat) (c d:PV),cs[j]?=some c->ds[j]?=some d->∃ k,keyKind (some k) c=true/\keyKind (some k) d=true:=by
  unfold flatB at h1 h2
  split at h1
  · rename_i fs hd
    rw [hd] at h2
    simp only [Bool.and_eq_true,Bool.not_eq_true'] at h1 h2
    exact ⟨(flatFs_len _ _ _ h1.2).symm.trans (flatFs_len _ _ _ h2.2),flatFs_kinds _ _ _ _ h1.2 h2.2⟩
  · rename_i n e hd
    rw [hd] at h2
    simp only [Bool.and_eq_true,Bool.not_eq_true',beq_iff_eq,List.all_eq_true] at h1 h2
    refine ⟨by omega,fun j c d hc hd'=>?_⟩
    have k1:=h1.2 c (List.mem_of_getElem? hc)
    have k2:=h2.2 d (List.mem_of_getElem? hd')
    cases hk:P.underlying e with
    | none=>rw [hk] at k1;simp [keyKind] at k1
    | some k=>rw [hk] at k1 k2;exact ⟨k,k1,k2⟩
  · cases h1
 rw [keyEqL_iff (vs:=vs) (us:=us) 0 cs ds hlen.1 hlen.2 (fun j c hj=>by rw [Nat.zero_add];exact r1 j c hj) (fun j c hj=>by rw [Nat.zero_add];exact r2 j c hj)]
 simp only [Nat.zero_add,Value.agg.injEq]
 constructor
 · intro h
   apply Array.ext
   · omega
   · intro j hj1 hj2
     have:=h j (by omega)
     simpa [hj1,hj2] using this
 · rintro rfl j _;rfl
theorem check1 {t:TypeId} {p:PV} {v:Value} {em:Bool} {n:Nat} (hp:keyKind (P.underlying t) p=true) (hv:PVRel w M p v):(Instr.checkKey em (n+1) t v).run P w=.ok () w:=by
 cases hd:P.underlying t with
 | none=>rw [hd] at hp;simp [keyKind] at hp
 | some d=>
   rw [hd] at hp
   cases hv <;> cases d <;> simp [keyKind] at hp <;> simp [Instr.checkKey,run_underlying hd]
theorem flat_check {t:TypeId} {cs:List PV} {x:Value} {em:Bool} (h1:flatB P t cs=true) (hx:PVRel w M (.agg cs) x):(Instr.checkKey em 10000 t x).run P w=.ok () w:=by
 obtain ⟨vs,rfl,s1,r1⟩:=aggrel_inv hx
 unfold flatB at h1
 split at h1
 · rename_i fs hd
   simp only [Bool.and_eq_true,Bool.not_eq_true'] at h1
   rw [show (10000:Nat)=9999+1 from rfl,Instr.checkKey]
   simp only [Sem.run_bind,run_underlying hd,Result.andThen_ok]
   rw [<- Array.forIn_toList]
   have main:∀ (fs:List Field) (i:Nat) (cs:List PV),flatFs P fs i cs=true->vs.size=i+cs.length->(∀ j c,cs[j]?=some c->PVRel w M c (vs.getD (i+j) undef))->
    (forIn (m:=Sem) fs PUnit.unit (fun f _=>do
      if f.name≠ "_" then
       let a <- part f.type vs f.offset
       Instr.checkKey em 9999 f.type a
       pure (ForInStep.yield PUnit.unit)
      else pure (ForInStep.yield PUnit.unit))).run P w=.ok PUnit.unit w:=by
    intro fs
    induction fs with
    | nil=>intro i cs _ _ _;simp
    | cons f fs ih=>
      intro i cs h hs hr
      cases cs with
      | nil=>simp [flatFs] at h
      | cons c cs=>
        simp only [flatFs,Bool.and_eq_true,beq_iff_eq,bne_iff_ne,ne_eq] at h
        simp only [List.length_cons] at hs
        have q1:=part_run (w:=w) (vs:=vs) (i:=i) h.1.2 (by omega)
        have r0:=hr 0 c rfl
        rw [Nat.add_zero] at r0
        have q2:=check1 (em:=em) (n:=9998) h.1.2 r0
        simp only [List.forIn_cons,Sem.run_bind,h.1.1.2,ne_eq,not_false_eq_true,if_true,h.1.1.1,q1,q2,Result.andThen_ok,Sem.run_pure]
        exact ih (i+1) cs h.2 (by omega) (fun j c hj=>by have:=hr (j+1) c (by simpa using hj);rwa [show i+(j+1)=i+1+j by omega] at this)
   have:=main fs.toList 0 cs h1.2 (by omega) (fun j c hj=>by rw [Nat.zero_add];exact r1 j c hj)
   simp at this
   simp [this]
 · rename_i n e hd
   simp only [Bool.and_eq_true,Bool.not_eq_true',beq_iff_eq,List.all_eq_true] at h1
   obtain ⟨⟨⟨⟨l1,c1⟩,i1⟩,_⟩,k1⟩:=h1
   obtain ⟨inf,hi⟩:=Option.isSome_iff_exists.1 i1
   rw [show (10000:Nat)=9999+1 from rfl,Instr.checkKey]
   simp only [Sem.run_bind,run_underlying hd,Result.andThen_ok]
   simp only [Std.Legacy.Range.forIn_eq_forIn_range',Std.Legacy.Range.size,Nat.sub_zero,Nat.add_one_sub_one,Nat.div_one]
   have main:∀ (is:List Nat),(∀ i,i∈is->i<cs.length)->
    (forIn (m:=Sem) is PUnit.unit (fun i _=>do
      let s <- Go.sizeOf e
      let a <- part e vs (i * s)
      Instr.checkKey em 9999 e a
      pure (ForInStep.yield PUnit.unit))).run P w=.ok PUnit.unit w:=by
    intro is
    induction is with
    | nil=>intro _;simp
    | cons i is ih=>
      intro h
      have hlt:=h i List.mem_cons_self
      obtain ⟨c,hc⟩:∃ c,cs[i]?=some c:=⟨_,List.getElem?_eq_getElem hlt⟩
      have kk:=k1 c (List.mem_of_getElem? hc)
      have q1:=part_run (w:=w) (vs:=vs) (i:=i) kk (by omega)
      have q2:=check1 (em:=em) (n:=9998) kk (r1 i c hc)
      simp only [List.forIn_cons,Sem.run_bind,run_sizeOf w hi,c1,Nat.mul_one,q1,q2,Result.andThen_ok,Sem.run_pure]
      exact ih (fun j hj=>h j (List.mem_cons_of_mem _ hj))
   have:=main (List.range' 0 n) (fun i hi=>by rw [List.mem_range'_1] at hi;omega)
   simp at this
   simp [this]
 · cases h1
theorem same1 {k:TypeDesc} {p:PV} {v:Value} {n:Nat} (hp:keyKind (some k) p=true) (hv:PVRel w M p v):Instr.sameBits n v v=true:=by
 cases hv <;> cases k <;> simp [keyKind] at hp <;> cases n <;> simp [Instr.sameBits,bytes_beq']
theorem flat_stays {t:TypeId} {cs:List PV} {x:Value} (h1:flatB P t cs=true) (hx:PVRel w M (.agg cs) x):(Instr.keyThatStays x x).run P w=.ok x w:=by
 have kinds:∀ (j:Nat) (c:PV),cs[j]?=some c->∃ k,keyKind (some k) c=true:=by
  intro j c hc
  unfold flatB at h1
  split at h1
  · simp only [Bool.and_eq_true,Bool.not_eq_true'] at h1
    obtain ⟨k,hk,_⟩:=flatFs_kinds _ _ _ _ h1.2 h1.2 j c c hc hc
    exact ⟨k,hk⟩
  · rename_i n e hd
    simp only [Bool.and_eq_true,Bool.not_eq_true',beq_iff_eq,List.all_eq_true] at h1
    have k1:=h1.2 c (List.mem_of_getElem? hc)
    cases hk:P.underlying e with
    | none=>rw [hk] at k1;simp [keyKind] at k1
    | some k=>rw [hk] at k1;exact ⟨k,k1⟩
  · cases h1
 obtain ⟨vs,rfl,s1,r1⟩:=aggrel_inv hx
 have hs:Instr.sameBits 10000 (.agg vs) (.agg vs)=true:=by
  show Instr.sameBits (9999+1) (.agg vs) (.agg vs)=true
  simp only [Instr.sameBits,beq_self_eq_true,Bool.true_and,List.all_eq_true]
  intro p hp
  obtain ⟨i,hi,e⟩:=List.getElem_of_mem hp
  rw [List.getElem_zip] at e
  rw [<- e]
  simp only [List.length_zip,Array.length_toList,Nat.min_self] at hi
  obtain ⟨c,hc⟩:∃ c,cs[i]?=some c:=⟨_,List.getElem?_eq_getElem (by omega)⟩
  obtain ⟨k,hk⟩:=kinds i c hc
  have:=same1 (n:=9999) hk (r1 i c hc)
  simpa [hi] using this
 simp [Instr.keyThatStays,hs]
theorem pvK_rel {S:(List PV->Prop × PV)->Value->Prop} {L:Locs} {H:AHeap}:∀ (as:List AV) (ps:List PV),pvL as=some ps->as=ps.map AV.pv
 | [],ps,h=>by simp [pvL] at h;subst h;rfl
 | .pv p::r,ps,h=>by
   simp only [pvL,Option.map_eq_some_iff] at h
   obtain ⟨qs,hq,rfl⟩:=h
   rw [pvK_rel (S:=S) (L:=L) (H:=H) r qs hq];rfl
 | .nils::r,_,h | .ptr _ _::r,_,h | .rs _ _::r,_,h | .rv _ _ _ _::r,_,h | .rp _ _ _::r,_,h | .mp _::r,_,h | .it _::r,_,h | .bufh _ _::r,_,h | .agg _::r,_,h | .clo _ _::r,_,h | .whn _ _::r,_,h | .opq _::r,_,h | .fix _::r,_,h | .top::r,_,h=>by simp [pvL] at h
theorem packK_rel {S:(List PV->Prop × PV)->Value->Prop} {L:Locs} {H:AHeap} {k:AV} {v:Value} (h:AVRel w M L H S k v):AVRel w M L H S (packK k) v:=by
 unfold packK
 split
 · rename_i cs
   split
   · rename_i ps hp
     cases hb:ps.all PV.one with
     | false=>exact h
     | true=>
       have e:=pvK_rel (S:=S) (L:=L) (H:=H) _ _ hp
       subst e
       cases h with
       | agg _ vs hz hr=>
         refine .pv _ _ (.agg _ _ (by simpa using hz) (fun c hc=>List.all_eq_true.1 hb c hc) (fun i c hc=>?_))
         have:=hr i (.pv c) (by rw [List.getElem?_map,hc];rfl)
         cases this;assumption
   · exact h
 · exact h
theorem keyOk_check {t:TypeId} {p:PV} {v:Value} {em:Bool} (h:keyOkB P t p=true) (hv:PVRel w M p v):(Instr.checkKey em 10000 t v).run P w=.ok () w:=by
 unfold keyOkB at h
 split at h
 · exact flat_check h hv
 · exact check1 h hv
theorem keyOk_stays {t:TypeId} {p:PV} {v:Value} (h:keyOkB P t p=true) (hv:PVRel w M p v):(Instr.keyThatStays v v).run P w=.ok v w:=by
 unfold keyOkB at h
 split at h
 · exact flat_stays h hv
 · cases hd:P.underlying t with
   | none=>rw [hd] at h;simp [keyKind] at h
   | some k=>
     rw [hd] at h
     have hs:=same1 (n:=10000) h hv
     simp [Instr.keyThatStays,hs]
end
end Go.AM
