/-
  A part of a proof.
-/
import Derived.Test.YtkajgkbhkkgdbaaGreatDoorAMw
import Derived.ProofKit
import Derived.OpenShut
import Derived.Deep.DeepHandedRow
import Derived.Lib.LaidTab
set_option linter.unusedSimpArgs false
set_option linter.unusedVariables false
namespace Go.AM
open Go
def loadC (C:Ctx) (st:ASt) (t:TypeId):AV->Prop × AV
 | .ptr key off=>loadA C.P st.H t (.ptr key off)
 | _=>(False,.top)
def res1 (C:Ctx) (st:ASt):ResultVar->Prop × PV
 | .tmp t=>(frzOk st.H 4 (st.ρ t),frz st.H 4 (st.ρ t))
 | .cell a ty=>((loadC C st ty (st.ρ a)).1/\frzOk st.H 4 (loadC C st ty (st.ρ a)).2,frz st.H 4 (loadC C st ty (st.ρ a)).2)
def resC (C:Ctx) (st:ASt):List ResultVar->Prop
 | []=>True
 | r::rs=>(res1 C st r).1/\resC C st rs
def resV (C:Ctx) (st:ASt):List ResultVar->List PV
 | []=>[]
 | r::rs=>(res1 C st r).2::resV C st rs
def tupP:List PV->PV
 | [p]=>p
 | ps=>.tup ps
def Fin (C:Ctx) (rs:List ResultVar) (p:PV):AX->ASt->Prop
 | .normal,st=>resC C st rs/\tupP (resV C st rs)=p
 | .ret,st=>resC C st rs/\tupP (resV C st rs)=p
 | .exit _,_=>False
def argL:Nat->List PV->List (Nat × AV)
 | _,[]=>[]
 | i,p::r=>(i,.pv p)::argL (i+1) r
def resM (a:Array Value):ResultVar->Sem Value
 | .tmp t=>pure (a.getD t undef)
 | .cell x t=>do loadVar t (<- asAddr (a.getD x undef))
theorem results_eq (fn:Func) (a:Array Value):results fn a=(do let vs <- fn.results.mapM (resM a);pure (if h:vs.size=1 then vs[0] else .tuple vs)):=by
 unfold results
 have:(fun | .tmp t=>(pure (a.getD t undef):Sem Value) | .cell x t=>do loadVar t (<- asAddr (a.getD x undef)):ResultVar->Sem Value)=resM a:=by
  funext r;cases r <;> rfl
 rw [<- this]
 rfl
section
variable {G:Glob} {E:Base} {N:Nat} {st:ASt} {a:Array Value} {w:World} {L:Locs} {C:Ctx} {T:Plan}
theorem res1_run {M:Nat->Prop} {S:(List PV->Prop × PV)->Value->Prop} (hP:C.P=G.P) (hB:∀ key B,hget st.H key=some B->BRel w M L st.H S key B) (hE:∀ s,AVRel w M L st.H S (st.ρ s) (a.getD s undef)) {M':Nat->Prop} (hM:∀ b,M' b->M b) (hown:∀ key B b cap,hget st.H key=some B->L key=some (b,cap)->¬ M' b) {r:ResultVar} (h:(res1 C st r).1):
 ∃ v,(resM a r).run G.P w=.ok v w/\PVRel w M' (res1 C st r).2 v:=by
 cases r with
 | tmp t=>exact ⟨_,by simp only [resM,Sem.run_pure],frz_to hB hM hown 4 _ _ h (hE t)⟩
 | cell x t=>
   obtain ⟨h1,h2⟩:=h
   unfold loadC at h1
   have hx:=hE x
   split at h1
   · rename_i key off hρ
     rw [hP] at h1
     rw [hρ] at hx
     unfold loadA at h1
     simp only at h1
     split at h1
     · rename_i cs hH
       obtain ⟨B2,b,cap,g1,gv,g2,g3⟩:=ptr_inv hx
       obtain ⟨b2,cap2,arr,et,e1,e2,e3,e4⟩:=hB key _ hH
       rw [g2] at e1
       simp only [Option.some.injEq,Prod.mk.injEq] at e1
       obtain ⟨rfl,rfl⟩:=e1
       obtain ⟨y,hy,hr⟩:=load_own (P:=G.P) h1 e2 e3 e4
       refine ⟨y,?_,?_⟩
       · simp only [resM,g3,asAddr,Sem.run_bind,Sem.run_pure,Result.andThen_ok,hy]
       · have e:(loadC C st t (st.ρ x)).2=(partC G.P t cs off).2:=by
           rw [hρ];simp only [loadC,loadA,hH,hP]
         have h3:=h2
         simp only [res1]
         rw [e] at h3 ⊢
         exact frz_to hB hM hown 4 _ _ h3 hr
     · exact h1.elim
   · exact h1.elim
theorem resL_run {M:Nat->Prop} {S:(List PV->Prop × PV)->Value->Prop} (hP:C.P=G.P) (hB:∀ key B,hget st.H key=some B->BRel w M L st.H S key B) (hE:∀ s,AVRel w M L st.H S (st.ρ s) (a.getD s undef)) {M':Nat->Prop} (hM:∀ b,M' b->M b) (hown:∀ key B b cap,hget st.H key=some B->L key=some (b,cap)->¬ M' b):∀ (rs:List ResultVar),resC C st rs->
 ∃ vs:List Value,(rs.mapM (resM a)).run G.P w=.ok vs w/\vs.length=(resV C st rs).length/\
  ∀ (i:Nat) p,(resV C st rs)[i]?=some p->PVRel w M' p (vs.toArray.getD i undef)
 | [],_=>⟨[],by simp,rfl,fun i p h=>by simp [resV] at h⟩
 | r::rs,h=>by
   obtain ⟨v,hv,hr⟩:=res1_run hP hB hE hM hown h.1
   obtain ⟨vs,hvs,hl,hrs⟩:=resL_run hP hB hE hM hown rs h.2
   refine ⟨v::vs,?_,by simp [resV,hl],fun i p hp=>?_⟩
   · simp only [List.mapM_cons,Sem.run_bind,Result.andThen_ok,hv,hvs,Sem.run_pure]
   · cases i with
     | zero=>simp [resV] at hp;subst hp;simpa using hr
     | succ i=>
       have:=hrs i p (by simpa [resV] using hp)
       simpa [Array.getD_eq_getD_getElem?] using this
theorem results_run {M:Nat->Prop} {S:(List PV->Prop × PV)->Value->Prop} (hP:C.P=G.P) (hB:∀ key B,hget st.H key=some B->BRel w M L st.H S key B) (hE:∀ s,AVRel w M L st.H S (st.ρ s) (a.getD s undef)) {M':Nat->Prop} (hM:∀ b,M' b->M b) (hown:∀ key B b cap,hget st.H key=some B->L key=some (b,cap)->¬ M' b) {fn:Func} (h:resC C st fn.results.toList):
 ∃ v,(results fn a).run G.P w=.ok v w/\PVRel w M' (tupP (resV C st fn.results.toList)) v:=by
 obtain ⟨vs,h1,h2,h3⟩:=resL_run hP hB hE hM hown _ h
 have e:(fn.results.mapM (resM a)).run G.P w=.ok vs.toArray w:=by
  rw [Array.mapM_eq_mapM_toList]
  simp only [Sem.run_map,h1,Result.andThen_ok]
 rw [results_eq]
 simp only [Sem.run_bind,e,Result.andThen_ok,Sem.run_pure]
 refine ⟨_,rfl,?_⟩
 by_cases h1':vs.length=1
 · obtain ⟨v,rfl⟩:∃ v,vs=[v]:=by
     match vs,h1' with
     | [v],_=>exact ⟨v,rfl⟩
   obtain ⟨p,hp⟩:∃ p,resV C st fn.results.toList=[p]:=by
    match resV C st fn.results.toList,h2 with
    | [p],_=>exact ⟨p,rfl⟩
   have:=h3 0 p (by rw [hp];rfl)
   rw [hp]
   simpa [tupP] using this
 · rw [dif_neg (by simpa using h1')]
   have:tupP (resV C st fn.results.toList)=.tup (resV C st fn.results.toList):=by
    unfold tupP
    split
    · rename_i p hp;rw [hp] at h2;simp at h2;exact absurd h2 h1'
    · rfl
   rw [this]
   exact .tup _ _ (by simpa using h2) h3
theorem look_argL {w:World} {M:Nat->Prop} {L:Locs} {H:AHeap} {S:(List PV->Prop × PV)->Value->Prop} {vs:Array Value} {pad:Nat}:∀ (args:List PV) (i:Nat),
 (∀ (j:Nat) p,args[j]?=some p->PVRel w M p (vs.getD (i+j) undef))->i+args.length<=vs.size->∀ s,AVRel w M L H S (look (argL i args) s) ((vs++Array.replicate pad undef).getD s undef)
 | [],i,_,_,s=>.top _
 | p::r,i,h,hl,s=>by
   simp only [List.length_cons] at hl
   unfold argL look
   split
   · rename_i e
     subst e
     have h0:=h 0 p rfl
     rw [Nat.add_zero] at h0
     have hlt:s<vs.size:=by omega
     have:(vs++Array.replicate pad undef).getD s undef=vs.getD s undef:=by
      simp [Array.getD_eq_getD_getElem?,Array.getElem?_append_left hlt]
     rw [this]
     exact .pv _ _ h0
   · exact look_argL r (i+1) (fun j q hq=>by have:=h (j+1) q (by simpa using hq);rwa [show i+(j+1)=i+1+j by omega] at this) (by omega) s
theorem PSound.of_wpc {f:FuncId} {φ:PSpec} {fn:Func} {c:Code} (hf:G.P.funcs[f]?=some fn) (hb:fn.body=some c) (hn:(fn.name == "runtime.NumGoroutine")=false) (hN:C.N=fn.ntmps) (hF:Fit G C)
 (h:∀ args,(φ args).1->args.length<=C.N/\wpc C T c (Fin C fn.results.toList (φ args).2) ⟨look (argL 0 args),[]⟩) (ho:C.outer=false:=by rfl):PSound G f φ:=by
 intro args hp
 obtain ⟨hlen,hw⟩:=h args hp
 refine ⟨⟨fn,hf,hn,by rw [hb];rfl⟩,fun X w vs hI hG hX hA=>?_⟩
 refine calls_of_wp hf hb ?_
 have hsz:=hA.1
 have hR:Rel G ⟨w,X,NoB,fun _=>none,[]⟩ (OpqS G ⟨w,X,NoB,fun _=>none,[]⟩) C.N ⟨look (argL 0 args),[]⟩ (vs++Array.replicate (fn.ntmps-vs.size) undef) w (fun _=>none):=by
  refine ⟨?_,Ext.refl _ _,hI,hG,fun b hb=>⟨hX b hb,id⟩,fun b hb=>hb.elim,(fun key B b cap hk=>by cases hk),(fun k1 k2 B1 B2 b c1 c2 hk=>by cases hk),(fun key B hk=>by cases hk),fun s=>?_,(fun κ b c hl=>by cases hl)⟩
  · simp;omega
  · refine look_argL args 0 (fun j p hp=>?_) (by omega) s
    rw [Nat.zero_add]
    refine (hA.2 j p hp).keep (fun b _ hn=>⟨rfl,fun hm=>?_⟩)
    rcases hm with hm | ⟨key,B,cap,hk,_⟩
    · exact hn hm
    · cases hk
 have hwp:=wpIn_wide.1 <| wpc_sound c _ _ hw G ⟨w,X,NoB,fun _=>none,[]⟩ none 0 (fun _=>rfl) hF (fun κ hk=>by cases hk) { tmps:=vs++Array.replicate (fn.ntmps-vs.size) undef,defers:=[] } w (fun _=>none) hR rfl
 have fin:∀ (a:Act) (w':World),Beh G ⟨w,X,NoB,fun _=>none,[]⟩ C.N (fun st=>resC C st fn.results.toList/\tupP (resV C st fn.results.toList)=(φ args).2) a w'->
  a.defers=[]/\∃ v,(results fn a.tmps).run G.P w'=.ok v w'/\∃ v',Ending.returned v=.returned v'/\PVRel w' X (φ args).2 v'/\Ext NoB w w':=by
  rintro a w' ⟨st,L,⟨h1,h2⟩,hR',hd⟩
  obtain ⟨v,hv,hr⟩:=results_run (M':=X) hF.tabs.base.prog hR'.blk hR'.env (fun b hb=>.inl hb) (fun key B b cap hk hl=>(hR'.own key B b cap hk hl).1) h1
  rw [h2] at hr
  exact ⟨hd,v,hv,v,rfl,hr,hR'.ext⟩
 refine wp_mono hwp (fun e a w' he=>?_)
 rw [ho] at he
 cases e with
 | normal=>exact fin a w' (BehX.beh he)
 | ret=>exact fin a w' (BehX.beh he)
 | exit i=>obtain ⟨_,_,h,_⟩:=BehX.beh he;exact h.elim
 | goto l=>exact he
 | panic c=>exact he.elim
 | outgrown=>exact he.elim
theorem PSound.none {f:FuncId}:PSound G f noSpec:=fun args h=>h.elim
end
def KS (C:Ctx) (dr:Bool) (H0:AHeap) (ops:Array Oper) (r:List Oper) (K:ASt->Prop):ASt->Prop:=fun st=>stepsG C dr H0 ops r st K
def KR (T:Plan) (id:Nat) (Q:AX->ASt->Prop):ASt->Prop:=fun st=>Q .normal (keepA T id st)
def pureK (N:Nat) (st:ASt) (d:Option Tmp) (g:Option Bool) (pv:Prop × AV) (K:ASt->Prop):Prop:=
 match g with
 | none=>pv.1/\putD N st d pv.2 K
 | some c=>(c=true->pv.1)/\putD N st d (mkW c pv.2) K
def isPureOp (C:Ctx) (d:Option Tmp):Op->Bool
 | .move _ | .assign _ | .pick _ _ _ | .binOp _ _ _ _ _ | .unOp _ _ _ | .convert _ _ _ | .extract _ _ | .field _ _ _ | .fieldAddr _ _ _ | .indexAddr _ _ _ | .index _ _ _ | .load _ _ | .nilCheck _ | .slice _ _ _ _ _ | .makeInterface _ _ | .makeFunc _ _ _ | .build _ _ | .lookup _ _ _ _=>true
 | .buildSlice _ _ _=>match d with | some d=>!C.rows.contains d | none=>true
 | .call { callee:=.builtin .len, .. }=>true
 | .call { callee:=.builtin .min, .. }=>true
 | .call { callee:=.builtin .max, .. }=>true
 | .call { callee:=.value (.func f), .. }=>(C.Ψ f).isNone&&(C.Θ f).isNone
 | _=>false
section
variable {C:Ctx} {T:Plan} {dr:Bool} {H0:AHeap} {ops:Array Oper} {st:ASt} {K:ASt->Prop} {Q:AX->ASt->Prop}
theorem ev_skip:wpc C T .skip Q st=Q .normal st:=rfl
theorem ev_seq {a b:Code}:wpc C T (.seq a b) Q st=if isCut T a then AWp C (.seq a b) Q st else wpc C T a (AX.thn (wpc C T b Q) Q) st:=rfl
theorem ev_region {id:Nat}:wpc C T (.region id ops dr) Q st=((dr=true->checkD C .any ops=true)/\stepsG C dr st.H ops ops.toList st (KR T id Q)):=rfl
theorem ev_block {id:Nat} {c:Code}:wpc C T (.block id c) Q st=wpc C T c (AX.blk id Q) st:=rfl
theorem ev_exit {id:Nat}:wpc C T (.exit id) Q st=Q (.exit id) st:=rfl
theorem ev_ret:wpc C T .ret Q st=Q .ret st:=rfl
theorem ev_loop {c:Code}:wpc C T (.loop c) Q st=AWp C (.loop c) Q st:=rfl
theorem ev_scope {c:Code}:wpc C T (.scope c) Q st=wpc C T c Q st:=rfl
theorem ev_label {l:Nat}:wpc C T (.label l) Q st=Q .normal st:=rfl
def condK (v:AV) (a b:Prop):Prop:=
 match v with
 | .pv (.bool t)=>(t=true->a)/\(t=false->b)
 | _=>False
theorem ev_cond {c:Operand} {a b:Code}:wpc C T (.cond c a b) Q st=condK (opndV st.ρ c) (wpc C T a Q st) (wpc C T b Q st):=by
 rw [wpc]
 unfold condK
 generalize opndV st.ρ c=v
 cases v with
 | pv p=>cases p <;> rfl
 | _=>rfl
theorem condK_bool {t:Bool} {a b:Prop}:condK (.pv (.bool t)) a b=((t=true->a)/\(t=false->b)):=rfl
theorem condK_congr {v v':AV} {a b:Prop} (h:v=v'):condK v a b=condK v' a b:=by rw [h]
attribute [congr] condK_congr
theorem condK_true {a b:Prop}:condK (.pv (.bool true)) a b=a:=by simp [condK]
theorem condK_false {a b:Prop}:condK (.pv (.bool false)) a b=b:=by simp [condK]
theorem thn_n {next:ASt->Prop}:AX.thn next Q .normal st=next st:=rfl
theorem thn_e {next:ASt->Prop} {i:Nat}:AX.thn next Q (.exit i) st=Q (.exit i) st:=rfl
theorem thn_r {next:ASt->Prop}:AX.thn next Q .ret st=Q .ret st:=rfl
theorem blk_n {id:Nat}:AX.blk id Q .normal st=Q .normal st:=rfl
theorem blk_e {id i:Nat}:AX.blk id Q (.exit i) st=if i=id then Q .normal st else Q (.exit i) st:=rfl
theorem blk_r {id:Nat}:AX.blk id Q .ret st=Q .ret st:=rfl
theorem KS_ap {r:List Oper}:KS C dr H0 ops r K st=stepsG C dr H0 ops r st K:=rfl
theorem KR_ap {id:Nat} {ρ:Nat->AV} {H:AHeap}:KR T id Q ⟨ρ,H⟩=Q .normal (keepA T id ⟨ρ,H⟩):=rfl
theorem steps_nil:stepsG C dr H0 ops [] st K=K st:=rfl
theorem stepsG_cons {o:Oper} {r:List Oper}:stepsG C dr H0 ops (o::r) st K=stepG C dr H0 ops o st (KS C dr H0 ops r K):=rfl
theorem qop_pure {o:Oper} (h:isPureOp C o.dst o.op=true) (ρ:Nat->AV) (H:AHeap):qop C ρ H o=((aopP C ρ H o.op).1,fun r=>r=(aopP C ρ H o.op).2):=by
 unfold qop
 split
 · rename_i f args ts ho
   split
   · rename_i g caps hcal
     split
     · rename_i θ hθ
       rw [ho] at h
       unfold isPureOp at h
       cases f <;> simp only at h <;> first | (cases h;done) | skip
       rename_i f'
       simp only [ox,opndV,stripV,calleeA,Option.some.injEq,Prod.mk.injEq] at hcal
       rw [hcal.1,hθ] at h
       simp at h
     · rfl
   · rfl
 · rfl
theorem cls_pure {o:Oper} (h:isPureOp C o.dst o.op=true):cls C dr o=0:=by
 unfold isPureOp at h
 unfold cls
 split at h
 case h_20 | h_21 | h_22=>first | (rename_i ho;simp only [ho];done) | (rename_i ho _;simp only [ho];done) | skip
 all_goals first
  | (cases h;done)
  | (rename_i ho;simp only [ho];done)
  | skip
 all_goals first
  | (rename_i ho
     simp only [Bool.and_eq_true,Option.isNone_iff_eq_none] at h
     simp only [ho,h.1];rfl)
  | skip
 all_goals
  rename_i ho
  simp only [ho]
  cases hd:o.dst with
  | none=>rfl
  | some d=>rw [hd] at h;simp only [Bool.not_eq_true'] at h;simp only [h];rfl
theorem ev_pure {d:Option Tmp} {op:Op} {ty:TypeId} {pos:String} {af:Array Edge} (h:isPureOp C d op=true):
 stepG C dr H0 ops ⟨d,op,ty,pos,af,none⟩ st K=pureK C.N st d none (aopP C st.ρ st.H op) K:=by
 unfold stepG
 rw [cls_pure (o:=⟨d,op,ty,pos,af,none⟩) h]
 simp only [guardC,if_true,stepQ,qop_pure (o:=⟨d,op,ty,pos,af,none⟩) h,pureK]
 refine propext ⟨fun h=>⟨h.1,h.2 _ rfl⟩,fun h=>⟨h.1,fun r hr=>by subst hr;exact h.2⟩⟩
def selK (c:Bool) (v v0:AV) (K:AV->Prop):Prop:=∀ r,(c=true->r=v)->(c=false->r=v0)->K r
theorem selK_same {c:Bool} {v:AV} {K:AV->Prop}:selK c v v K=K v:=
 propext ⟨fun h=>h v (fun _=>rfl) (fun _=>rfl),fun h r h1 h2=>by
  have:r=v:=by cases c with | true=>exact h1 rfl | false=>exact h2 rfl
  subst this;exact h⟩
def pureGK (N:Nat) (st:ASt) (d:Option Tmp) (c:Bool) (pv:Prop × AV) (v0:AV) (K:ASt->Prop):Prop:=
 (c=true->pv.1)/\selK c pv.2 v0 (fun r=>putD N st d (mkW c r) K)
def gK (N:Nat) (st:ASt) (d:Option Tmp) (g:AV) (b:Bool) (pv:Prop × AV) (v0:AV) (K:ASt->Prop):Prop:=
 match g with
 | .pv (.bool t)=>pureGK N st d (t == b) pv v0 K
 | .whn c (.pv (.bool t))=>pureGK N st d (c&&(t == b)) pv v0 K
 | _=>False
def gAt (ops:Array Oper) (j:Nat) (ρ:Nat->AV):AV:=
 match (ops[j]?).bind (·.dst) with
 | some g=>ρ g
 | none=>.top
theorem ev_pureG {d:Option Tmp} {op:Op} {ty:TypeId} {pos:String} {af:Array Edge} {j:Nat} {b:Bool} (h:isPureOp C d op=true):
 stepG C dr H0 ops ⟨d,op,ty,pos,af,some (j,b)⟩ st K=gK C.N st d (gAt ops j st.ρ) b (aopP C st.ρ st.H op) (aopP C st.ρ (bif dr then H0 else st.H) op).2 K:=by
 have main:∀ c:Bool,stepQ C (bif dr then H0 else st.H) ⟨d,op,ty,pos,af,some (j,b)⟩ c st K=pureGK C.N st d c (aopP C st.ρ st.H op) (aopP C st.ρ (bif dr then H0 else st.H) op).2 K:=by
  intro c
  simp only [stepQ,qop_pure (o:=⟨d,op,ty,pos,af,some (j,b)⟩) h,pureGK,selK]
 unfold stepG
 rw [cls_pure (o:=⟨d,op,ty,pos,af,some (j,b)⟩) h]
 simp only [guardC,if_true,gK,gAt]
 cases hj:(ops[j]?).bind (·.dst) with
 | none=>rfl
 | some g=>
   simp only
   cases hv:st.ρ g with
   | pv p=>cases p <;> simp only <;> exact main _
   | whn c v => cases v <;> try rfl
                rename_i p;cases p <;> first | rfl | exact main _
   | _=>rfl
def stepX (C:Ctx) (dr:Bool) (H0:AHeap) (ops:Array Oper) (o:Oper) (st:ASt) (K:ASt->Prop):Prop:=stepG C dr H0 ops o st K
def opK (b:Bool) (x y:Prop):Prop:=bif b then x else y
theorem opK_congr {b b':Bool} {x y:Prop} (h:b=b'):opK b x y=opK b' x y:=by rw [h]
attribute [congr] opK_congr
theorem opK_true {x y:Prop}:opK true x y=x:=rfl
theorem opK_false {x y:Prop}:opK false x y=y:=rfl
theorem ev_op {d:Option Tmp} {op:Op} {ty:TypeId} {pos:String} {af:Array Edge}:
 stepG C dr H0 ops ⟨d,op,ty,pos,af,none⟩ st K=opK (isPureOp C d op) (pureK C.N st d none (aopP C st.ρ st.H op) K) (stepX C dr H0 ops ⟨d,op,ty,pos,af,none⟩ st K):=by
 cases h:isPureOp C d op with
 | true=>exact ev_pure h
 | false=>rfl
theorem ev_opG {d:Option Tmp} {op:Op} {ty:TypeId} {pos:String} {af:Array Edge} {j:Nat} {b:Bool}:
 stepG C dr H0 ops ⟨d,op,ty,pos,af,some (j,b)⟩ st K=opK (isPureOp C d op) (gK C.N st d (gAt ops j st.ρ) b (aopP C st.ρ st.H op) (aopP C st.ρ (bif dr then H0 else st.H) op).2 K) (stepX C dr H0 ops ⟨d,op,ty,pos,af,some (j,b)⟩ st K):=by
 cases h:isPureOp C d op with
 | true=>exact ev_pureG h
 | false=>rfl
theorem gK_bool {N:Nat} {d:Option Tmp} {t b:Bool} {pv:Prop × AV} {v0:AV}:gK N st d (.pv (.bool t)) b pv v0 K=pureGK N st d (t == b) pv v0 K:=rfl
theorem gK_whn {N:Nat} {d:Option Tmp} {c t b:Bool} {pv:Prop × AV} {v0:AV}:gK N st d (.whn c (.pv (.bool t))) b pv v0 K=pureGK N st d (c&&(t == b)) pv v0 K:=rfl
theorem pureGK_eq {N:Nat} {ρ:Nat->AV} {H:AHeap} {d:Tmp} {c:Bool} {p:Prop} {v:AV}:pureGK N ⟨ρ,H⟩ (some d) c (p,v) v K=((c=true->p)/\d<N/\K ⟨upd ρ d (mkW c v),H⟩):=by
 unfold pureGK
 rw [selK_same]
 rfl
theorem ev_alloc {d:Option Tmp} {t ty:TypeId} {pos:String} {af:Array Edge}:stepX C dr H0 ops ⟨d,.alloc t,ty,pos,af,none⟩ st K=aopE C ⟨d,.alloc t,ty,pos,af,none⟩ st K:=rfl
theorem ev_box {d:Option Tmp} {t ty:TypeId} {x:Operand} {pos:String} {af:Array Edge}:stepX C dr H0 ops ⟨d,.box t x,ty,pos,af,none⟩ st K=aopE C ⟨d,.box t x,ty,pos,af,none⟩ st K:=rfl
theorem ev_makeSlice {d:Option Tmp} {t ty:TypeId} {x y:Operand} {pos:String} {af:Array Edge}:stepX C dr H0 ops ⟨d,.makeSlice t x y,ty,pos,af,none⟩ st K=aopE C ⟨d,.makeSlice t x y,ty,pos,af,none⟩ st K:=rfl
theorem ev_store {d:Option Tmp} {t ty:TypeId} {x y:Operand} {pos:String} {af:Array Edge}:stepX C dr H0 ops ⟨d,.store t x y,ty,pos,af,none⟩ st K=aopE C ⟨d,.store t x y,ty,pos,af,none⟩ st K:=rfl
theorem ev_append {d:Option Tmp} {ty:TypeId} {args:Array Operand} {ts:Array TypeId} {pos:String} {af:Array Edge}:
 stepX C dr H0 ops ⟨d,.call { callee:=.builtin .append,args:=args,argTypes:=ts },ty,pos,af,none⟩ st K=aopE C ⟨d,.call { callee:=.builtin .append,args:=args,argTypes:=ts },ty,pos,af,none⟩ st K:=rfl
theorem ev_range {d:Option Tmp} {t ty:TypeId} {x:Operand} {pos:String} {af:Array Edge}:stepX C dr H0 ops ⟨d,.range t x,ty,pos,af,none⟩ st K=(oc st.ρ x/\rangeA C st d t (ox st.ρ x) K):=rfl
theorem ev_next {d:Option Tmp} {ty:TypeId} {x:Operand} {pos:String} {af:Array Edge}:stepX C dr H0 ops ⟨d,.next x true,ty,pos,af,none⟩ st K=(oc st.ρ x/\nextA C st d (ox st.ρ x) K):=rfl
theorem ev_makeMap {d:Option Tmp} {t ty:TypeId} {pos:String} {af:Array Edge}:stepX C dr H0 ops ⟨d,.makeMap t none,ty,pos,af,none⟩ st K=newB C.N st d (.map []) (fun d=>.mp d) K:=rfl
theorem ev_mapUpdate {d:Option Tmp} {t ty:TypeId} {m k v:Operand} {pos:String} {af:Array Edge}:stepX C dr H0 ops ⟨d,.mapUpdate t m k v,ty,pos,af,none⟩ st K=aopE C ⟨d,.mapUpdate t m k v,ty,pos,af,none⟩ st K:=rfl
theorem ev_clear {d:Option Tmp} {ty:TypeId} {args:Array Operand} {ts:Array TypeId} {pos:String} {af:Array Edge}:
 stepX C dr H0 ops ⟨d,.call { callee:=.builtin .clear,args:=args,argTypes:=ts },ty,pos,af,none⟩ st K=aopE C ⟨d,.call { callee:=.builtin .clear,args:=args,argTypes:=ts },ty,pos,af,none⟩ st K:=rfl
theorem ev_delete {d:Option Tmp} {ty:TypeId} {args:Array Operand} {ts:Array TypeId} {pos:String} {af:Array Edge}:
 stepX C dr H0 ops ⟨d,.call { callee:=.builtin .delete,args:=args,argTypes:=ts },ty,pos,af,none⟩ st K=aopE C ⟨d,.call { callee:=.builtin .delete,args:=args,argTypes:=ts },ty,pos,af,none⟩ st K:=rfl
theorem binT_i {P:Program} {op:BinOp} {t:TypeId} {c:Bool} {k:IntKind} {n:Int} {w:AV}:binT P op t c (.pv (.int k n)) w=binA op (P.underlying t) c (.pv (.int k n)) w:=rfl
theorem binT_s {P:Program} {op:BinOp} {t:TypeId} {c:Bool} {s:List UInt8} {w:AV}:binT P op t c (.pv (.str s)) w=binA op (P.underlying t) c (.pv (.str s)) w:=rfl
theorem binT_b {P:Program} {op:BinOp} {t:TypeId} {c:Bool} {b:Bool} {w:AV}:binT P op t c (.pv (.bool b)) w=binA op (P.underlying t) c (.pv (.bool b)) w:=rfl
theorem binT_ni {P:Program} {op:BinOp} {t:TypeId} {c:Bool} {w:AV}:binT P op t c (.pv .nilI) w=binA op (P.underlying t) c (.pv .nilI) w:=rfl
theorem binT_np {P:Program} {op:BinOp} {t:TypeId} {c:Bool} {w:AV}:binT P op t c (.pv .nilP) w=binA op (P.underlying t) c (.pv .nilP) w:=rfl
theorem binT_if {P:Program} {op:BinOp} {t:TypeId} {c:Bool} {u:TypeId} {p:PV} {w:AV}:binT P op t c (.pv (.iface u p)) w=binA op (P.underlying t) c (.pv (.iface u p)) w:=rfl
theorem binT_pp {P:Program} {op:BinOp} {t:TypeId} {c:Bool} {e:PV} {o:Nat} {w:AV}:binT P op t c (.pv (.pp e o)) w=binA op (P.underlying t) c (.pv (.pp e o)) w:=rfl
theorem binT_agg {P:Program} {op:BinOp} {t:TypeId} {c:Bool} {a b:List PV}:binT P op t c (.pv (.agg a)) (.pv (.agg b))=(flatD P t a=true/\flatD P t b=true/\(op=.eql\/op=.neq),.pv (.bool (match op with | .neq=>!keyEqL a b | _=>keyEqL a b))):=rfl
theorem keyOk_i {P:Program} {t:TypeId} {k:IntKind} {n:Int}:keyOkB P t (.int k n)=keyKind (P.underlying t) (.int k n):=rfl
theorem keyOk_s {P:Program} {t:TypeId} {s:List UInt8}:keyOkB P t (.str s)=keyKind (P.underlying t) (.str s):=rfl
theorem keyOk_b {P:Program} {t:TypeId} {b:Bool}:keyOkB P t (.bool b)=keyKind (P.underlying t) (.bool b):=rfl
theorem keyOk_agg {P:Program} {t:TypeId} {cs:List PV}:keyOkB P t (.agg cs)=flatB P t cs:=rfl
theorem packK_pv {p:PV}:packK (.pv p)=.pv p:=rfl
theorem packK_agg {cs:List AV}:packK (.agg cs)=(match pvL cs with
 | some ps=>bif ps.all PV.one then .pv (.agg ps) else .agg cs
 | none=>.agg cs):=rfl
theorem newB_some {N:Nat} {ρ:Nat->AV} {H:AHeap} {d:Tmp} {B:ABlk} {v:Nat->AV}:newB N ⟨ρ,H⟩ (some d) B v K=(hget H d=none/\d<N/\K ⟨upd ρ d (v d),hset H d B⟩):=rfl
theorem putD_some {N:Nat} {ρ:Nat->AV} {H:AHeap} {d:Tmp} {v:AV}:putD N ⟨ρ,H⟩ (some d) v K=(d<N/\K ⟨upd ρ d v,H⟩):=rfl
theorem pureK_none {N:Nat} {ρ:Nat->AV} {H:AHeap} {d:Tmp} {p:Prop} {v:AV}:pureK N ⟨ρ,H⟩ (some d) none (p,v) K=(p/\d<N/\K ⟨upd ρ d v,H⟩):=rfl
theorem upd_look {l:List (Nat × AV)} {d:Nat} {v:AV}:upd (look l) d v=look ((d,v)::l):=rfl
theorem look_cons {l:List (Nat × AV)} {d t:Nat} {v:AV}:look ((d,v)::l) t=if t=d then v else look l t:=rfl
def frzAll (H:AHeap):List AV->Prop
 | []=>True
 | a::r=>frzOk H 4 a/\frzAll H r
def frzL (H:AHeap):List AV->List PV
 | []=>[]
 | a::r=>frz H 4 a::frzL H r
theorem frzAll_eq {H:AHeap}:∀ {l:List AV},frzAll H l=∀ a,a∈l->frzOk H 4 a
 | []=>by simp [frzAll]
 | a::r=>by simp [frzAll,frzAll_eq (l:=r)]
theorem frzL_eq {H:AHeap}:∀ {l:List AV},frzL H l=l.map (frz H 4)
 | []=>rfl
 | a::r=>by simp [frzL,frzL_eq (l:=r)]
def mapV (ρ:Nat->AV):List Operand->List AV
 | []=>[]
 | x::r=>ox ρ x::mapV ρ r
theorem mapV_eq {ρ:Nat->AV}:∀ {l:List Operand},mapV ρ l=l.map (ox ρ)
 | []=>rfl
 | a::r=>by simp [mapV,mapV_eq (l:=r)]
def callV (φ:Prop × PV) (fr:Bool):Prop × AV:=(φ.1/\(φ.2.flat=true\/fr=true),.pv φ.2)
theorem callV_eq {p:Prop} {v:PV} {fr:Bool}:callV (p,v) fr=(p/\(v.flat=true\/fr=true),.pv v):=rfl
theorem callP_fn {H:AHeap} {f:FuncId} {args:List AV}:callP C H (.pv (.fn f [])) args=
 (frzAll H args/\(callV (C.Φ f (frzL H args)) (AV.freeL args)).1,(callV (C.Φ f (frzL H args)) (AV.freeL args)).2):=by
 rw [frzL_eq,frzAll_eq]
 simp only [callP,calleeA,List.map_nil,List.append_nil,callV]
end
theorem Fin_n {C:Ctx} {rs:List ResultVar} {p:PV} {st:ASt}:Fin C rs p .normal st=(resC C st rs/\tupP (resV C st rs)=p):=rfl
theorem Fin_r {C:Ctx} {rs:List ResultVar} {p:PV} {st:ASt}:Fin C rs p .ret st=(resC C st rs/\tupP (resV C st rs)=p):=rfl
def putΦ (Φ:FuncId->PSpec) (f:FuncId) (φ:PSpec):FuncId->PSpec:=fun g=>if g=f then φ else Φ g
theorem TabSound.nil {G:Glob}:TabSound G (fun _=>noSpec):=fun f=>PSound.none
theorem TabSound.put {G:Glob} {Φ:FuncId->PSpec} {f:FuncId} {φ:PSpec} (h:TabSound G Φ) (hf:PSound G f φ):TabSound G (putΦ Φ f φ):=by
 intro g
 unfold putΦ
 split
 · rename_i e;subst e;exact hf
 · exact h g
noncomputable def cxP (P:Program) (Φ:FuncId->PSpec) (rows:List Nat) (n:Nat):Ctx:={ P:=P,N:=n,Φ:=Φ,Θ:=fun _=>none,Ψ:=fun _=>none,rows:=rows,pins:=[] }
section
variable {P:Program} {Φ:FuncId->PSpec} {rows:List Nat} {n:Nat}
theorem cxP_P:(cxP P Φ rows n).P=P:=rfl
theorem cxP_N:(cxP P Φ rows n).N=n:=rfl
theorem cxP_Φ:(cxP P Φ rows n).Φ=Φ:=rfl
theorem cxP_Ψ {f:FuncId}:(cxP P Φ rows n).Ψ f=none:=rfl
theorem cxP_Θ {f:FuncId}:(cxP P Φ rows n).Θ f=none:=rfl
theorem cxP_pins:(cxP P Φ rows n).pins=[]:=rfl
theorem cxP_rows:(cxP P Φ rows n).rows=rows:=rfl
end
theorem Fit.pure {G:Glob} {Φ:FuncId->PSpec} {rows:List Nat} {n:Nat} (h:TabSound G Φ) (hm:G.P.follows .mixedOrders=true):Fit G (cxP G.P Φ rows n):=
 ⟨⟨⟨rfl,h,(fun f ψ hf=>by cases hf),(fun κ hκ=>by cases hκ)⟩,(fun f θ hf=>by cases hf)⟩,(fun f ψ hf=>by cases hf),hm⟩
theorem Ext.kept {W W':World} (h:Ext NoB W W') (may:MemPlace->Prop):W.keptBut W' may:=by
 refine ⟨h.os,h.output,fun i hi=>?_⟩
 rw [h.block i hi id]
 cases W.heap[i]? with
 | none=>rfl
 | some o=>cases o <;> first | exact ⟨rfl,rfl,rfl,fun _ _=>rfl⟩ | exact .inr ⟨rfl,rfl⟩ | rfl
theorem law_calls {G:Glob} {f:FuncId} {φ:PSpec} {args:List PV} {vs:Array Value} {W:World} (h:PSound G f φ) (hp:(φ args).1) (hr:(φ args).2=.bool true) (hI:G.I W) (hG:G.nG<=W.heap.size)
 (hA:ARel W NoB args vs):Calls G.P f vs W fun e W'=>e=.returned (.bool true)/\Ext NoB W W':=by
 refine ((h args hp).2 NoB W vs hI hG (fun b hb=>hb.elim) hA).mono ?_
 rintro e W' ⟨v,rfl,hv,he⟩
 rw [hr] at hv
 cases hv
 exact ⟨rfl,he⟩
noncomputable def layRow (w:World) (b:Nat) (cs:List Value):World:=
 { w with heap:=w.heap.modify b fun
     | .cells _ t frozen=>.cells cs.toArray t frozen
     | o=>o }
theorem post_of_ext {H:Type} {enc:TypeId × Value->H} {P:Program} {f:Func} {s:ChangeSpec} {apart fresh handsOn again:Bool} {W W':World} {args:Array Value} {v:Value} {ds gs:List (DataW H)} {before pa pv:List MemPlace}
 (hW:DataW.Whole enc P f.params.toList s.vars apart W args.toList ds gs before)
 (hres:∀ (b:Nat) (sp:Nat->Bool) (hd:Bool),DataW.TrodAll enc P W' b sp hd f.resultTypes.toList (v.resultList f.resultTypes.size) (s.fn H (ds++gs)).results [])
 (hargs:∀ sp:Nat->Bool,(∀ p∈before,sp p.block=true)->DataW.TrodAll enc P W' 0 sp true f.params.toList args.toList (s.fn H (ds++gs)).args pa)
 (hvars:∀ sp:Nat->Bool,(∀ p∈before,sp p.block=true)->DataW.TrodVars enc P W' sp s.vars (s.fn H (ds++gs)).vars pv)
 (hps:before=pa++pv) (he:Ext NoB W W')
 (hok:∀ (j:Nat) (t:TypeId) (r:Value),f.resultTypes[j]?=some t->(v.resultList f.resultTypes.size)[j]?=some r->Value.okWide P W' .any 0 t r):
 s.post enc P f apart fresh handsOn again W args v W':=by
 have hlt:∀ p,p∈before->p.block<W.heap.size:=fun p hp=>hW.lt p hp
 have hold:∀ p∈before,(fun b=>decide (b<W.heap.size)) p.block=true:=fun p hp=>by simpa using hlt p hp
 refine ⟨ds,gs,before,[],pa,pv,hW,hres _ _ _,hargs _ hold,hvars _ hold,he.kept _,fun _=>?_⟩
 have hW2:=hW
 obtain ⟨_,_,_,_,_,hz,hn⟩:=hW2
 refine ⟨hok,_,_,([]++pa)++pv,⟨[]++pa,pv,ChangeShapes.trodAll_append (hargs _ (fun _ _=>rfl)) (hres _ _ _),hvars _ (fun _ _=>rfl),rfl,fun b off hp=>?_,fun ha=>?_⟩,fun p hp _=>?_⟩
 · have hp':MemPlace.cell b off∈before:=by rw [hps];simpa using hp
   rw [he.frozen _ (hlt _ hp') id]
   exact hz b off hp'
 · have:=hn ha
   rw [hps] at this
   simpa using this
 · rw [hps];simpa using hp
end Go.AM
