/-
  A part of a proof.
-/
import Derived.Test.YtkajgkbhkkgdbaaGreatDoorBM
set_option linter.unusedSimpArgs false
set_option linter.unusedVariables false
namespace Go.AM
open Go
def rowIs (k:Nat) (res:PV) (st:ASt) (t:Nat):Prop:=
 match st.ρ t with
 | .rs κ hi=>match hget st.H κ with
   | some (.row k' es)=>k'=k/\hi<=es.length/\res=.sl (es.take hi)
   | _=>False
 | .nils=>res=.sl []
 | _=>False
def FinRow (t k:Nat) (res:PV):AX->ASt->Prop
 | .normal,st=>rowIs k res st t
 | .ret,st=>rowIs k res st t
 | .exit _,_=>False
def psiRow (k:Nat) (φ:PSpec):ESpec:=fun d args st K=>
 AV.freeL args=true/\(∀ a,a∈args->frzOk st.H 4 a)/\(φ (args.map (frz st.H 4))).1/\hget st.H d=none/\∀ es,(φ (args.map (frz st.H 4))).2=.sl es->K (.rs d es.length) { st with H:=hset st.H d (.row k es) }
theorem psiRow_mono {k:Nat} {φ:PSpec}:∀ d args st (K K':AV->ASt->Prop),(∀ r s,K r s->K' r s)->psiRow k φ d args st K->psiRow k φ d args st K':=
 fun d args st K K' hk h=>⟨h.1,h.2.1,h.2.2.1,h.2.2.2.1,fun es he=>hk _ _ (h.2.2.2.2 es he)⟩
theorem psiRow_eq {k:Nat} {φ:PSpec} {d:Nat} {args:List AV} {ρ:Nat->AV} {H:AHeap} {K:AV->ASt->Prop}:psiRow k φ d args ⟨ρ,H⟩ K=
 (AV.freeL args=true/\frzAll H args/\(φ (frzL H args)).1/\hget H d=none/\∀ es,(φ (frzL H args)).2=.sl es->K (.rs d es.length) ⟨ρ,hset H d (.row k es)⟩):=by
 rw [frzAll_eq,frzL_eq];rfl
theorem all_sl {es0:List PV} {Q:List PV->Prop}:(∀ es,PV.sl es0=PV.sl es->Q es)=Q es0:=
 propext ⟨fun h=>h es0 rfl,fun h es e=>by cases e;exact h⟩
theorem ESound.of_row {G:Glob} {C:Ctx} {T:Plan} {f:FuncId} {fn:Func} {c:Code} {φ:PSpec} {t k:Nat} (hk0:0<k)
 (hf:G.P.funcs[f]?=some fn) (hb:fn.body=some c) (hn:(fn.name == "runtime.NumGoroutine")=false) (hN:C.N=fn.ntmps) (hres:fn.results=#[.tmp t]) (hF:Fit G C)
 (h:∀ args,(φ args).1->args.length<=C.N/\wpc C T c (FinRow t k (φ args).2) ⟨look (argL 0 args),[]⟩) (ho:C.outer=false:=by rfl):ESound G f (psiRow k φ):=by
 intro d args st K hψ
 obtain ⟨p1,p2,p3,p4,p5⟩:=hψ
 refine ⟨⟨fn,hf,hn,by rw [hb];rfl⟩,fun E N a w L xs hR hargs _=>?_⟩
 obtain ⟨hlen,hw⟩:=h _ p3
 obtain ⟨hxl,hpv⟩:=hargs.pvs p1 p2
 let E':Base:=⟨w,Mut E L st.H,NoB,fun _=>none,[]⟩
 have hR0:Rel G E' (OpqS G E') C.N ⟨look (argL 0 (args.map (frz st.H 4))),[]⟩ (xs.toArray++Array.replicate (fn.ntmps-xs.toArray.size) undef) w (fun _=>none):=by
  refine ⟨?_,Ext.refl _ _,hR.inv,Nat.le_trans hR.glob hR.ext.size,fun b hb=>⟨hR.mut_lt hb,id⟩,fun b hb=>hb.elim,(fun key B b cap hk=>by cases hk),(fun k1 k2 B1 B2 b c1 c2 hk=>by cases hk),(fun key B hk=>by cases hk),fun s=>?_,(fun κ b c hl=>by cases hl)⟩
  · have:=hlen
    simp only [List.length_map] at this
    simp [hxl];omega
  · refine look_argL (vs:=xs.toArray) (args.map (frz st.H 4)) 0 (fun j p hp=>?_) (by simp [hxl]) s
    rw [Nat.zero_add]
    refine (hpv j p hp).keep (fun b _ hn=>⟨rfl,fun hm=>?_⟩)
    rcases hm with hm | ⟨key,B,cap,hk,_⟩
    · exact hn hm
    · cases hk
 refine calls_of_wp hf hb ?_
 have hwp:=wpIn_wide.1 <| wpc_sound c _ _ hw G E' none 0 (fun _=>rfl) hF (fun κ hk=>by cases hk) { tmps:=xs.toArray++Array.replicate (fn.ntmps-xs.toArray.size) undef,defers:=[] } w (fun _=>none) hR0 rfl
 have fin:∀ (a':Act) (w':World),Beh G E' C.N (fun s=>rowIs k (φ (args.map (frz st.H 4))).2 s t) a' w'->
  a'.defers=[]/\∃ v,(results fn a'.tmps).run G.P w'=.ok v w'/\∃ v' r st' L',Ending.returned v=.returned v'/\K r st'/\Rel G E (OpqS G E) N st' a w' L'/\AVRel w' (Mut E L' st'.H) L' st'.H (OpqS G E) r v':=by
  rintro a' w' ⟨s,L',q,hR',hd⟩
  have hx:=hR'.env t
  have hR1:Rel G E (OpqS G E) N st a w' L:=by
   have hne:∀ x,Mut E L st.H x->x<w.heap.size:=fun x hx=>hR.mut_lt hx
   exact hR.grow hR'.ext
  have nilcase:∀ {v:Value},v=.slice none 0 0->(φ (args.map (frz st.H 4))).2=.sl []->∃ v' r st' L',Ending.returned v=.returned v'/\K r st'/\Rel G E (OpqS G E) N st' a w' L'/\AVRel w' (Mut E L' st'.H) L' st'.H (OpqS G E) r v':=by
   rintro v rfl he
   exact ⟨_,_,_,locSet L d none,rfl,p5 [] he,hR1.emptyRow p4 hk0,.rsN d k (hget_hset_same _ _ _) (by simp [locSet])⟩
  refine ⟨hd,a'.tmps.getD t undef,?_,?_⟩
  · rw [results_eq,hres]
    simp [resM]
  unfold rowIs at q
  generalize a'.tmps.getD t undef=x at hx ⊢
  cases hκ:s.ρ t with
  | nils=>
    rw [hκ] at hx
    simp only [hκ] at q
    cases hx
    exact nilcase rfl q
  | rs κ hi=>
    rw [hκ] at hx
    simp only [hκ] at q
    cases hH:hget s.H κ with
    | none=>simp only [hH] at q
    | some B=>
      simp only [hH] at q
      cases B with
      | cells cs=>exact q.elim
      | typed ty cs=>exact q.elim
      | obj J=>exact q.elim
      | map es=>exact q.elim
      | iter s pos=>exact q.elim
      | buf e bs=>exact q.elim
      | row k' es=>
        obtain ⟨rfl,hhi,hres2⟩:=q
        have hblk:=hR'.blk κ _ hH
        rcases rs_inv hx with ⟨k2,g1,g2,g3,g4⟩ | ⟨k2,es2,b,cap,g1,g2,g3,g4⟩
        · rw [hH] at g1
          simp only [Option.some.injEq,ABlk.row.injEq] at g1
          obtain ⟨_,rfl⟩:=g1
          exact nilcase g4 (by rw [hres2];simp)
        · rw [hH] at g1
          simp only [Option.some.injEq,ABlk.row.injEq] at g1
          obtain ⟨_,rfl⟩:=g1
          simp only [BRel,g2] at hblk
          obtain ⟨_,hwid,arr,et,e1,e2,e3,e4,e5⟩:=hblk
          have hbge:w.heap.size<=b:=(hR'.own κ _ b cap hH g2).2.2.elim (fun h=>h.elim) id
          have htl:(es.take hi).length=hi:=by rw [List.length_take];omega
          refine ⟨_,_,_,locSet L d (some (b,cap)),rfl,p5 _ hres2,hR.newBlockAt p4 hR'.ext hbge (fun M' L2 H2 hM hl=>?_),?_⟩
          · simp only [BRel,hl]
            refine ⟨hk0,fun e he=>hwid e (List.mem_of_mem_take he),arr,et,e1,e2,by rw [htl];omega,e4,fun i e j c he hc=>?_⟩
            have he':es[i]?=some e:=by
             rw [List.getElem?_take] at he
             split at he
             · exact he
             · cases he
            obtain ⟨q1,q2⟩:=e5 i e j c he' hc
            exact ⟨q1,q2.keep (fun x _ hn=>⟨rfl,fun hm=>hn ((hM x hm).elim (fun h=>.inl h) (fun e=>.inr ⟨κ,_,cap,hH,by rw [e];exact g2⟩))⟩)⟩
          · rw [g4,htl]
            exact .rs d hi k' (es.take hi) b cap (hget_hset_same _ _ _) (by simp [locSet]) (by rw [htl];exact Nat.le_refl _)
  | pv p=>simp only [hκ] at q
  | ptr key off=>simp only [hκ] at q
  | rv key lo hi sz=>simp only [hκ] at q
  | rp key i off=>simp only [hκ] at q
  | mp key=>simp only [hκ] at q
  | it key=>simp only [hκ] at q
  | bufh key n=>simp only [hκ] at q
  | agg cs=>simp only [hκ] at q
  | clo f caps=>simp only [hκ] at q
  | whn b v=>simp only [hκ] at q
  | opq φ=>simp only [hκ] at q
  | fix x=>simp only [hκ] at q
  | top=>simp only [hκ] at q
 refine wp_mono hwp (fun e a' w' he=>?_)
 rw [ho] at he
 cases e with
 | normal=>exact fin a' w' (BehX.beh he)
 | ret=>exact fin a' w' (BehX.beh he)
 | exit i=>obtain ⟨_,_,h,_⟩:=BehX.beh he;exact h.elim
 | goto l=>exact he
 | panic c=>exact he.elim
 | outgrown=>exact he.elim
theorem ev_rowlit0 {C:Ctx} {dr:Bool} {H0:AHeap} {ops:Array Oper} {d:Tmp} {t ty:TypeId} {pos:String} {af:Array Edge} {st:ASt} {K:ASt->Prop} (h:C.rows.contains d=true):
 stepX C dr H0 ops ⟨some d,.buildSlice t 0 #[],ty,pos,af,none⟩ st K=(match C.P.underlying t with
  | some (.slice e)=>match szOf C.P e,zeroT C.P e with
    | some k,some z=>0<k/\newB C.N st (some d) (.row k []) (fun d=>.rs d 0) K
    | _,_=>False
  | _=>False):=by
 have hc:cls C dr ⟨some d,.buildSlice t 0 #[],ty,pos,af,none⟩=2:=by
  unfold cls
  simp only [h,if_true]
 unfold stepX stepG
 simp only [hc]
 simp only [guardC,effA,rowLit]
 cases C.P.underlying t with
 | none=>rfl
 | some u=>
   cases u <;> try rfl
   rename_i e
   simp only
   cases szOf C.P e <;> cases zeroT C.P e <;> simp [allC,idxOk,elemOk]
def Stop (N:Nat) (st:ASt) (d:Option Tmp) (r:AV) (K:ASt->Prop):Prop:=putD N st d r K
theorem Stop_eq {N:Nat} {st:ASt} {d:Option Tmp} {r:AV} {K:ASt->Prop}:Stop N st d r K=putD N st d r K:=rfl
theorem all_qVz {J:List PV->Prop} {pre:List PV->Prop} {α:Type} {val:α->PV} {ok:List PV->α->Prop} {κ:Nat} {rest:List AV} {H:AHeap} {N:Nat} {st:ASt} {d:Option Tmp} {K:ASt->Prop}:
 (∀ r,(qV J pre val ok (.ptr κ 0::rest) H).2 r->putD N st d r K)=∀ x,ok (frzL H rest) x->Stop N st d (.pv (val x)) K:=all_qV
theorem all_qVz' {J:List PV->Prop} {pre:List PV->Prop} {α:Type} {val:α->PV} {ok:List PV->α->Prop} {κ:Nat} {rest:List AV} {H:AHeap} {N:Nat} {st:ASt} {d:Option Tmp} {K:ASt->Prop}:
 (∀ r,(qV J pre val ok (.ptr κ 0::rest) H).2 r->putD N st d (mkW true r) K)=∀ x,ok (frzL H rest) x->Stop N st d (.whn true (.pv (val x))) K:=all_qV
def callGc (N:Nat) (st:ASt) (d:Option Tmp) (c:Bool) (ok:Prop) (q:Prop × (AV->Prop)) (v0:AV) (K:ASt->Prop):Prop:=
 (c=true->ok/\q.1)/\∀ r,(c=true->q.2 r)->(c=false->r=v0)->putD N st d (mkW c r) K
theorem callGc_true {N:Nat} {st:ASt} {d:Option Tmp} {ok:Prop} {q:Prop × (AV->Prop)} {v0:AV} {K:ASt->Prop}:
 callGc N st d true ok q v0 K=(ok/\q.1/\∀ r,q.2 r->putD N st d (mkW true r) K):=by
 unfold callGc
 exact propext ⟨fun h=>⟨(h.1 rfl).1,(h.1 rfl).2,fun r hr=>h.2 r (fun _=>hr) (fun e=>by cases e)⟩,fun h=>⟨fun _=>⟨h.1,h.2.1⟩,fun r hr _=>h.2.2 r (hr rfl)⟩⟩
theorem callGc_false {N:Nat} {st:ASt} {d:Option Tmp} {ok:Prop} {q:Prop × (AV->Prop)} {v0:AV} {K:ASt->Prop}:
 callGc N st d false ok q v0 K=putD N st d (mkW false v0) K:=by
 unfold callGc
 exact propext ⟨fun h=>h.2 v0 (fun e=>by cases e) (fun _=>rfl),fun h=>⟨(fun e=>by cases e),(fun r _ hr=>by rw [hr rfl];exact h)⟩⟩
def gcallK (C:Ctx) (st:ASt) (d:Option Tmp) (g:AV) (b:Bool) (args:List AV) (ok:Prop) (v0:AV) (K:ASt->Prop) (x:Prop):Option ESpec->Option QSpec->Prop
 | none,some θ=>match g with
   | .pv (.bool t)=>callGc C.N st d (t == b) ok (θ args st.H) v0 K
   | .whn c (.pv (.bool t))=>callGc C.N st d (c&&(t == b)) ok (θ args st.H) v0 K
   | _=>False
 | _,_=>x
section
variable {C:Ctx} {dr:Bool} {H0:AHeap} {ops:Array Oper} {st:ASt} {K:ASt->Prop}
def stepH (C:Ctx) (dr:Bool) (H0:AHeap) (ops:Array Oper) (o:Oper) (st:ASt) (K:ASt->Prop):Prop:=stepG C dr H0 ops o st K
theorem ev_callG {d:Option Tmp} {f:FuncId} {args:Array Operand} {ts:Array TypeId} {ty:TypeId} {pos:String} {af:Array Edge} {j:Nat} {b:Bool}:
 stepX C dr H0 ops ⟨d,.call { callee:=.value (.func f),args:=args,argTypes:=ts },ty,pos,af,some (j,b)⟩ st K=
  gcallK C st d (gAt ops j st.ρ) b (mapV st.ρ args.toList) (allC st.ρ args.toList) (aopP C st.ρ (bif dr then H0 else st.H) (.call { callee:=.value (.func f),args:=args,argTypes:=ts })).2 K
   (stepH C dr H0 ops ⟨d,.call { callee:=.value (.func f),args:=args,argTypes:=ts },ty,pos,af,some (j,b)⟩ st K) (C.Ψ f) (C.Θ f):=by
 rw [mapV_eq]
 have e1:oc st.ρ (.func f)=True:=rfl
 have e2:ox st.ρ (.func f)=.pv (.fn f []):=rfl
 unfold stepX
 cases hψ:C.Ψ f with
 | some ψ=>rfl
 | none=>
   cases hθ:C.Θ f with
   | none=>rfl
   | some θ=>
     have main:∀ c:Bool,stepQ C (bif dr then H0 else st.H) ⟨d,.call { callee:=.value (.func f),args:=args,argTypes:=ts },ty,pos,af,some (j,b)⟩ c st K=
      callGc C.N st d c (allC st.ρ args.toList) (θ (args.toList.map (ox st.ρ)) st.H) (aopP C st.ρ (bif dr then H0 else st.H) (.call { callee:=.value (.func f),args:=args,argTypes:=ts })).2 K:=by
      intro c
      simp only [stepQ,qop,e1,e2,calleeA,hθ,List.map_nil,List.append_nil,true_and,callGc]
     unfold stepG
     simp only [cls,hψ,Option.isSome_none,Bool.false_eq_true,if_false,if_true,guardC,gcallK,gAt]
     cases hj:(ops[j]?).bind (·.dst) with
     | none=>rfl
     | some g=>
       simp only
       cases hv:st.ρ g with
       | pv p=>cases p <;> simp only <;> exact main _
       | whn c v => cases v <;> try rfl
                    rename_i p;cases p <;> first | rfl | exact main _
       | _=>rfl
theorem gcallK_b {d:Option Tmp} {t b:Bool} {args:List AV} {ok:Prop} {v0:AV} {x:Prop} {θ:QSpec}:gcallK C st d (.pv (.bool t)) b args ok v0 K x none (some θ)=callGc C.N st d (t == b) ok (θ args st.H) v0 K:=rfl
theorem gcallK_w {d:Option Tmp} {c t b:Bool} {args:List AV} {ok:Prop} {v0:AV} {x:Prop} {θ:QSpec}:gcallK C st d (.whn c (.pv (.bool t))) b args ok v0 K x none (some θ)=callGc C.N st d (c&&(t == b)) ok (θ args st.H) v0 K:=rfl
end
theorem ev_rowlit {C:Ctx} {dr:Bool} {H0:AHeap} {ops:Array Oper} {d:Tmp} {t ty:TypeId} {n:Nat} {parts:Array (Nat × Operand)} {pos:String} {af:Array Edge} {st:ASt} {K:ASt->Prop} (h:C.rows.contains d=true):
 stepX C dr H0 ops ⟨some d,.buildSlice t n parts,ty,pos,af,none⟩ st K=(match C.P.underlying t with
  | some (.slice e)=>match szOf C.P e,zeroT C.P e with
    | some k,some z=>allC st.ρ (parts.toList.map (·.2))/\idxOk 0 ((parts.toList.map fun x=>(x.1,ox st.ρ x.2)).map (·.1))=true/\parts.toList.length=n/\n * k<=16777216/\0<k/\elemOk st.H k ((parts.toList.map (·.2)).map (ox st.ρ))/\
      newB C.N st (some d) (.row k (((parts.toList.map (·.2)).map (ox st.ρ)).map (frz st.H 4))) (fun d=>.rs d n) K
    | _,_=>False
  | _=>False):=by
 have hc:cls C dr ⟨some d,.buildSlice t n parts,ty,pos,af,none⟩=2:=by
  unfold cls
  simp only [h,if_true]
 unfold stepX stepG
 simp only [hc]
 simp only [guardC,effA,rowLit]
 cases C.P.underlying t with
 | none=>rfl
 | some u=>cases u <;> rfl
def callTK (C:Ctx) (st:ASt) (d:Option Tmp) (v:AV) (pv:Prop × AV) (K:ASt->Prop) (x:Prop):Prop:=
 match v with
 | .pv (.fn g _)=>match C.Ψ g,C.Θ g with
   | none,none=>pv.1/\putD C.N st d pv.2 K
   | _,_=>x
 | .clo g _=>match C.Ψ g,C.Θ g with
   | none,none=>pv.1/\putD C.N st d pv.2 K
   | _,_=>x
 | .pv (.mv _ _)=>pv.1/\putD C.N st d pv.2 K
 | _=>x
section
variable {C:Ctx} {dr:Bool} {H0:AHeap} {ops:Array Oper} {st:ASt} {K:ASt->Prop}
theorem ev_callT_main {d:Option Tmp} {t:Tmp} {args:Array Operand} {ts:Array TypeId} {ty:TypeId} {pos:String} {af:Array Edge} {g:FuncId} {caps:List AV} (hv:calleeA (ox st.ρ (.tmp t))=some (g,caps)) (hψ:C.Ψ g=none) (hθ:C.Θ g=none):
 stepX C dr H0 ops ⟨d,.call { callee:=.value (.tmp t),args:=args,argTypes:=ts },ty,pos,af,none⟩ st K=
  ((aopP C st.ρ st.H (.call { callee:=.value (.tmp t),args:=args,argTypes:=ts })).1/\putD C.N st d (aopP C st.ρ st.H (.call { callee:=.value (.tmp t),args:=args,argTypes:=ts })).2 K):=by
 have hq:qop C st.ρ st.H ⟨d,.call { callee:=.value (.tmp t),args:=args,argTypes:=ts },ty,pos,af,none⟩=
  ((aopP C st.ρ st.H (.call { callee:=.value (.tmp t),args:=args,argTypes:=ts })).1,fun r=>r=(aopP C st.ρ st.H (.call { callee:=.value (.tmp t),args:=args,argTypes:=ts })).2):=by
  simp only [qop,hv,hθ]
 have main:((qop C st.ρ st.H ⟨d,.call { callee:=.value (.tmp t),args:=args,argTypes:=ts },ty,pos,af,none⟩).1/\∀ r,(qop C st.ρ st.H ⟨d,.call { callee:=.value (.tmp t),args:=args,argTypes:=ts },ty,pos,af,none⟩).2 r->putD C.N st d r K)=
  ((aopP C st.ρ st.H (.call { callee:=.value (.tmp t),args:=args,argTypes:=ts })).1/\putD C.N st d (aopP C st.ρ st.H (.call { callee:=.value (.tmp t),args:=args,argTypes:=ts })).2 K):=by
  rw [hq]
  exact propext ⟨fun h=>⟨h.1,h.2 _ rfl⟩,fun h=>⟨h.1,fun r hr=>by subst hr;exact h.2⟩⟩
 rw [<- main]
 unfold stepX stepG
 cases dr with
 | true=>simp only [guardC,cls,if_true,stepQ]
 | false=>
   simp only [guardC,cls,effA,hv,hψ]
   rfl
theorem ev_callT_mv {d:Option Tmp} {t:Tmp} {args:Array Operand} {ts:Array TypeId} {ty:TypeId} {pos:String} {af:Array Edge} (hv:calleeA (ox st.ρ (.tmp t))=none):
 stepX C dr H0 ops ⟨d,.call { callee:=.value (.tmp t),args:=args,argTypes:=ts },ty,pos,af,none⟩ st K=
  ((aopP C st.ρ st.H (.call { callee:=.value (.tmp t),args:=args,argTypes:=ts })).1/\putD C.N st d (aopP C st.ρ st.H (.call { callee:=.value (.tmp t),args:=args,argTypes:=ts })).2 K):=by
 have hq:qop C st.ρ st.H ⟨d,.call { callee:=.value (.tmp t),args:=args,argTypes:=ts },ty,pos,af,none⟩=
  ((aopP C st.ρ st.H (.call { callee:=.value (.tmp t),args:=args,argTypes:=ts })).1,fun r=>r=(aopP C st.ρ st.H (.call { callee:=.value (.tmp t),args:=args,argTypes:=ts })).2):=by
  simp only [qop,hv]
 have main:((qop C st.ρ st.H ⟨d,.call { callee:=.value (.tmp t),args:=args,argTypes:=ts },ty,pos,af,none⟩).1/\∀ r,(qop C st.ρ st.H ⟨d,.call { callee:=.value (.tmp t),args:=args,argTypes:=ts },ty,pos,af,none⟩).2 r->putD C.N st d r K)=
  ((aopP C st.ρ st.H (.call { callee:=.value (.tmp t),args:=args,argTypes:=ts })).1/\putD C.N st d (aopP C st.ρ st.H (.call { callee:=.value (.tmp t),args:=args,argTypes:=ts })).2 K):=by
  rw [hq]
  exact propext ⟨fun h=>⟨h.1,h.2 _ rfl⟩,fun h=>⟨h.1,fun r hr=>by subst hr;exact h.2⟩⟩
 rw [<- main]
 unfold stepX stepG
 cases dr with
 | true=>simp only [guardC,cls,if_true,stepQ]
 | false=>
   simp only [guardC,cls,effA,hv]
   rfl
theorem ev_callT {d:Option Tmp} {t:Tmp} {args:Array Operand} {ts:Array TypeId} {ty:TypeId} {pos:String} {af:Array Edge}:
 stepX C dr H0 ops ⟨d,.call { callee:=.value (.tmp t),args:=args,argTypes:=ts },ty,pos,af,none⟩ st K=
  callTK C st d (ox st.ρ (.tmp t)) (aopP C st.ρ st.H (.call { callee:=.value (.tmp t),args:=args,argTypes:=ts })) K
   (stepH C dr H0 ops ⟨d,.call { callee:=.value (.tmp t),args:=args,argTypes:=ts },ty,pos,af,none⟩ st K):=by
 unfold callTK
 split
 · rename_i g caps hv
   split
   · rename_i hψ hθ
     exact ev_callT_main (by rw [hv];rfl) hψ hθ
   · rfl
 · rename_i g caps hv
   split
   · rename_i hψ hθ
     exact ev_callT_main (by rw [hv];rfl) hψ hθ
   · rfl
 · rename_i hv
   exact ev_callT_mv (by rw [hv];rfl)
 · rfl
theorem callP_fnc {H:AHeap} {f:FuncId} {c:PV} {cs:List PV} {args:List AV}:callP C H (.pv (.fn f (c::cs))) args=
 (frzAll H (args++(.pv c::cs.map AV.pv))/\(callV (C.Φ f (frzL H (args++(.pv c::cs.map AV.pv)))) (AV.freeL (args++(.pv c::cs.map AV.pv)))).1,(callV (C.Φ f (frzL H (args++(.pv c::cs.map AV.pv)))) (AV.freeL (args++(.pv c::cs.map AV.pv)))).2):=by
 rw [frzL_eq,frzAll_eq]
 simp only [callP,calleeA,List.map_cons,callV]
theorem callP_mv {H:AHeap} {f:FuncId} {fs:List PV} {args:List AV}:callP C H (.pv (.mv f fs)) args=
 (frzAll H (fs.map AV.pv++args)/\(callV (C.Φ f (frzL H (fs.map AV.pv++args))) (AV.freeL (fs.map AV.pv++args))).1,(callV (C.Φ f (frzL H (fs.map AV.pv++args))) (AV.freeL (fs.map AV.pv++args))).2):=by
 rw [frzL_eq,frzAll_eq]
 simp only [callP,callV]
theorem callP_clo {H:AHeap} {f:FuncId} {cs:List AV} {args:List AV}:callP C H (.clo f cs) args=
 (frzAll H (args++cs)/\(callV (C.Φ f (frzL H (args++cs))) (AV.freeL (args++cs))).1,(callV (C.Φ f (frzL H (args++cs))) (AV.freeL (args++cs))).2):=by
 rw [frzL_eq,frzAll_eq]
 simp only [callP,calleeA,callV]
end
def fitF (κ:Nat) (es:List PV):List (Nat × AV)->(Nat->AV)->Prop
 | [],_=>True
 | (s,v)::r,ρ=>(ρ s=v\/∃ n,ρ s=.rs κ n/\n<=es.length/\v=.pv (.sl (es.take n)))/\fitF κ es r ρ
structure FitsF (pins:List Nat) (κ k:Nat) (es:List PV) (l:List (Nat × AV)) (H1:AHeap) (st:ASt):Prop where
 row:hget st.H κ=some (.row k es)
 gone:hget H1 κ=none
 slots:fitF κ es l st.ρ
 blocks:fitH H1 st.H
 refsR:refsR H1 l=true
 refsH:refsH H1 H1=true
 pins:(pins.all fun κ=>(hget H1 κ).isSome)=true
theorem fitF_look {κ:Nat} {es:List PV}:∀ {l:List (Nat × AV)} {ρ:Nat->AV},fitF κ es l ρ->∀ s,look l s=.top\/look l s=ρ s\/∃ n,ρ s=.rs κ n/\n<=es.length/\look l s=.pv (.sl (es.take n))
 | [],ρ,_,s=>.inl rfl
 | (i,v)::r,ρ,h,s=>by
   unfold look
   split
   · rename_i e;subst e
     rcases h.1 with h1 | h1
     · exact .inr (.inl h1.symm)
     · exact .inr (.inr h1)
   · exact fitF_look h.2 s
section
variable {G:Glob} {E:Base} {S:(List PV->Prop × PV)->Value->Prop} {N:Nat} {st:ASt} {a:Array Value} {w:World} {L:Locs}
theorem Rel.fitF (h:Rel G E S N st a w L) {pins:List Nat} (hp:∀ κ,(E.L0 κ).isSome=true->κ∈pins) {κ k:Nat} {es:List PV} {l:List (Nat × AV)} {H1:AHeap} (hf:FitsF pins κ k es l H1 st):Rel G E S N ⟨look l,H1⟩ a w L:=by
 have hc:=fitH_get hf.blocks
 have hm:∀ b,Mut E L H1 b->Mut E L st.H b:=fun b hm=>hm.imp id (fun ⟨key,B,cap,h1,h2⟩=>⟨key,B,cap,hc key B h1,h2⟩)
 have hk:Keeps w (Mut E L st.H) w (Mut E L H1):=fun b _ hn=>⟨rfl,fun h'=>hn (hm b h')⟩
 refine ⟨h.size,h.ext,h.inv,h.glob,h.old,h.m0,fun key B b cap h1 h2=>h.own key B b cap (hc _ _ h1) h2,
  fun k1 k2 B1 B2 b c1 c2 h1 h2 h3 h4=>h.inj k1 k2 B1 B2 b c1 c2 (hc _ _ h1) (hc _ _ h2) h3 h4,
  fun key B h1=>(h.blk key B (hc _ _ h1)).fit rfl hk hc (refsH_get hf.refsH key B h1),fun s=>?_,fun κ b c hl=>?_⟩
 case refine_2=>
  obtain ⟨h1,B,h2⟩:=h.fix κ b c hl
  obtain ⟨B',hB'⟩:=Option.isSome_iff_exists.1 (List.all_eq_true.1 hf.pins κ (hp κ (by rw [hl];rfl)))
  have h4:=hc κ B' hB'
  rw [h2] at h4
  exact ⟨h1,B',hB'⟩
 rcases fitF_look hf.slots s with e | e | ⟨n,e1,hn,e2⟩
 · show AVRel _ _ _ _ _ (look l s) _
   rw [e];exact .top _
 · have:=(h.env s).fit hk hc (by rw [<- e];exact refsR_look hf.refsR s)
   show AVRel _ _ _ _ _ (look l s) _
   rw [e];exact this
 · show AVRel _ _ _ _ _ (look l s) _
   rw [e2]
   have hx:=h.env s
   rw [e1] at hx
   have hg:hget [(κ,ABlk.row k es)] κ=some (.row k es):=by simp [hget]
   have hB:∀ key B,hget [(κ,ABlk.row k es)] key=some B->BRel w (Mut E L st.H) L [(κ,ABlk.row k es)] S key B:=by
    intro key B hk'
    unfold hget at hk'
    split at hk'
    · rename_i e;subst e
      simp only [Option.some.injEq] at hk';subst hk'
      exact h.blk _ _ hf.row
    · cases hk'
   have hown:∀ key B b cap,hget [(κ,ABlk.row k es)] key=some B->L key=some (b,cap)->¬ Mut E L H1 b:=by
    intro key B b cap hk' hl hmm
    unfold hget at hk'
    split at hk'
    · rename_i e;subst e
      rcases hmm with hmm | ⟨key',B',cap',g1,g2⟩
      · exact (h.own _ _ _ _ hf.row hl).1 hmm
      · have:=h.inj _ _ _ _ _ _ _ hf.row (hc _ _ g1) hl g2
        rw [<- this,hf.gone] at g1;cases g1
    · cases hk'
   have hx2:AVRel w (Mut E L st.H) L [(κ,ABlk.row k es)] S (.rs κ n) (a.getD s undef):=by
    generalize a.getD s undef=x at hx
    cases hx with
    | rsN key k' h1 h2 => rw [hf.row] at h1;obtain ⟨rfl,rfl⟩:k=k'/\es=[]:=by simpa using h1
                          exact .rsN _ _ hg h2
    | rs key hi k' es' b cap h1 h2 h3 => rw [hf.row] at h1;obtain ⟨rfl,rfl⟩:k=k'/\es=es':=by simpa using h1
                                         exact .rs _ _ _ _ _ _ hg h2 h3
   have:=frz_to hB hm hown 0 (.rs κ n) _ (by simp only [frzOk,hg];exact hn) hx2
   simp only [frz,hg] at this
   exact .pv _ _ this
end
theorem AWp.freeze {C:Ctx} {T:Plan} {c:Code} {Q:AX->ASt->Prop} {st:ASt} {α:Type} (κ k:Nat) (es:α->List PV) (I:α->List (Nat × AV) × AHeap) (P:α->Prop)
 (h0:∃ z,P z/\FitsF C.pins κ k (es z) (I z).1 (I z).2 st) (h:∀ z,P z->wpc C T c Q ⟨look (I z).1,(I z).2⟩):AWp C c Q st:=by
 intro G E r n hr hF hP0 a w L hR hd
 obtain ⟨z,hz,hf⟩:=h0
 exact wpc_sound c Q _ (h z hz) G E r n hr hF hP0 a w L (hR.fitF hP0 hf) hd
end Go.AM
