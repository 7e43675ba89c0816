/-
  A part of a proof.
-/
import Derived.Test.YtkajgkbhkkgdbaaGreatDoorBM
import Derived.Shelf.Strconv.AtoiAll
import Derived.Shelf.Strconv.Itoa3
import Derived.Shelf.Strings.Split
set_option linter.unusedSimpArgs false
set_option linter.unusedVariables false
namespace Go.AM
open Go Go.Proofs Go.Shelf
theorem Ext.of_below {w w':World} (h:RowKit.Below w.heap.size w w'):Ext NoB w w':=by
 refine ⟨h.os,h.tape,h.output,h.size,fun b hb _=>h.block b hb,fun a ha _=>?_⟩
 unfold World.frozen?
 rw [h.block _ ha]
theorem below_growN (w:World) (k:Nat) (os:Array Obj):RowKit.Below w.heap.size w (Sort.grow (w.drewN k) os):=
 ⟨rfl,rfl,rfl,by simp [Sort.grow,World.drewN],fun i hi=>by simp [Sort.grow,World.drewN,Array.getElem?_append_left hi]⟩
theorem PSound.of_shelf {G:Glob} {f:FuncId} {φ:PSpec} (he:Enterable G.P f)
 (h:∀ args,(φ args).1->∀ (X:Nat->Prop) (w:World) (vs:Array Value),G.I w->G.nG<=w.heap.size->(∀ b,X b->b<w.heap.size)->ARel w X args vs->
   Calls G.P f vs w fun e w'=>∃ v,e=.returned v/\PVRel w' X (φ args).2 v/\RowKit.Below w.heap.size w w'):PSound G f φ:=fun args ha=>
 ⟨he,fun X w vs hi hg hx har=>(h args ha X w vs hi hg hx har).mono fun e w' ⟨v,h1,h2,h3⟩=>⟨v,h1,h2,.of_below h3⟩⟩
theorem arel1 {w:World} {X:Nat->Prop} {p:PV} {vs:Array Value} (h:ARel w X [p] vs):∃ v,vs=#[v]/\PVRel w X p v:=by
 obtain ⟨hs,hr⟩:=h
 match vs,hs with
 | ⟨[v]⟩,_=>exact ⟨v,rfl,hr 0 p rfl⟩
theorem rel_int {w:World} {X:Nat->Prop} {k:IntKind} {n:Int} {v:Value} (h:PVRel w X (.int k n) v):v=.int k n:=by cases h;rfl
theorem rel_str {w:World} {X:Nat->Prop} {s:List UInt8} {v:Value} (h:PVRel w X (.str s) v):v=.string ⟨s.toArray⟩:=by cases h;rfl
def on_i (p:Int->Prop) (f:Int->PV):PSpec
 | [.int .i64 a0]=>(p a0,f a0)
 | _=>(False,default)
theorem on_i_eq {p:Int->Prop} {f:Int->PV} {a0:Int}:on_i p f [.int .i64 a0]=(p a0,f a0):=rfl
theorem on_i_inv {p:Int->Prop} {f:Int->PV} {args:List PV} (h:(on_i p f args).1):∃ a0:Int,args=[.int .i64 a0]/\p a0:=by
 unfold on_i at h
 split at h
 · exact ⟨_,rfl,h⟩
 · exact h.elim
def on_s (p:List UInt8->Prop) (f:List UInt8->PV):PSpec
 | [.str a0]=>(p a0,f a0)
 | _=>(False,default)
theorem on_s_eq {p:List UInt8->Prop} {f:List UInt8->PV} {a0:List UInt8}:on_s p f [.str a0]=(p a0,f a0):=rfl
theorem on_s_inv {p:List UInt8->Prop} {f:List UInt8->PV} {args:List PV} (h:(on_s p f args).1):∃ a0:List UInt8,args=[.str a0]/\p a0:=by
 unfold on_s at h
 split at h
 · exact ⟨_,rfl,h⟩
 · exact h.elim
def itoaQ:PSpec:=on_i (fun n=> -9223372036854775808<=n/\n<=9223372036854775807) (fun n=>.str (Lib.itoa n))
theorem itoa_sound {G:Glob} {ρ:Ren} (L:LaysM.n171 G.P ρ) (hE:Enterable G.P (ρ.f 171)) (hI:∀ w,G.I w->Lib.TabIs G.P w "internal/strconv.uint64pow10" .u64 Lib.pow10Tab):PSound G (ρ.f 171) itoaQ:=by
 refine PSound.of_shelf hE fun args ha X w vs hi hg hx har=>?_
 obtain ⟨n,rfl,h0,h1⟩:=on_i_inv ha
 obtain ⟨v,rfl,hv⟩:=arel1 har
 obtain rfl:=rel_int hv
 refine (Any.strconv_Itoa L n h0 h1 w (hI w hi)).mono ?_
 rintro e w' ⟨rfl,k,os,rfl⟩
 exact ⟨_,rfl,.str _,below_growN _ _ _⟩
end Go.AM
namespace Go.AM
open Go Go.RowKit
def roundEnds {σ:Type} (I':σ->World->Prop) (Ix:Code->σ->World->Prop) (s:σ) (W:World):Exit->Act->World->Prop
 | .normal,_,W'=>KeepsOthers W W'/\I' s W'
 | .ret,_,W'=>KeepsOthers W W'/\Ix .ret s W'
 | .exit id,_,W'=>KeepsOthers W W'/\Ix (.exit id) s W'
 | .goto t,_,W'=>KeepsOthers W W'/\Ix (.goto t) s W'
 | _,_,_=>False
def Calm (B:Nat) (R:World->Prop):Prop:=∀ (W:World) (j:Nat) (o o':Obj),R W->B<=j->W.heap[j]?=some o->o.isCells=false->R (W.putObj j o')
def Two (B:Nat) (R:World->Prop):Prop:=∀ W W':World,R W->W'.heap[B]?=W.heap[B]?->W'.heap[B+1]?=W.heap[B+1]?->R W'
variable {F:Fence} {n:Nat} {P:Program}
theorem range_keeps {σ:Type} {g:Operand} {ps:Array Tmp} {assign body:Code} {Q:Exit->Act->World->Prop} {a:Act} {w:World}
 (hro:F.round=none) (h1:1<=n) {gf:Nat} {lb:Array Value} (hg:a.eval g=.func (.func gf) #[] lb) (hFg:F.fn gf) (eg:∀ args w,(callFunc gf args).run P w=.ok (.enter gf args) w)
 (elem:σ->Array Value) (hps:∀ s,(elem s).size=ps.size) (I0:World->Prop) (I I':σ->World->Prop) (Ix:Code->σ->World->Prop) (Fin:World->Prop)
 (c1:∀ s,Calm w.heap.size (I s)) (c2:∀ s,Calm w.heap.size (I' s)) (c3:∀ c s,Calm w.heap.size (Ix c s)) (c4:Calm w.heap.size Fin)
 (h0:∀ o o',I0 ((w.alloc o).alloc o')) (a₁:σ->Act)
 (hassign:∀ (l:Nat) (s:σ) (W:World) (K:Act->World->Prop),K (a₁ s) W->
   assign.wpIn (F.inRound l) (n-1-1) P (Exit.then K (fun _ _ _=>False)) { tmps:=(ps.zip (elem s)).foldl (fun t (p,v)=>t.setIfInBounds p v) a.tmps,defers:=[] } W)
 (hbody:∀ (l:Nat) (s:σ) (W:World),I s W->body.wpIn (F.inRound l) (n-1-1) P (roundEnds I' Ix s W) (a₁ s) W)
 (hiter:∀ (l:Nat) (K:World->Prop) (Kx:Code->World->Prop),Two w.heap.size K->(∀ c,Two w.heap.size (Kx c))->
   (∀ s W,I s W->K W->YieldAt F (n-1-1) P l (elem s) W fun e W'=>(e=.returned (.bool true)/\I' s W'/\K W')\/(e=.returned (.bool false)/\∃ c,Ix c s W'/\Kx c W'))->
   ∀ W,I0 W->K W->w.heap.size+2<=W.heap.size->CallsIn F (n-1) P gf (#[.func (.yield l) #[] #[]]++lb) W fun e W'=>(∃ v,e=.returned v)/\((Fin W'/\K W')\/∃ c s,Ix c s W'/\Kx c W'))
 (hdone:∀ (D:Nat) (W:World),D=w.heap.size->Fin W->W.heap[D]?=some (.deferred (some []))->Q .normal { a with defers:={ target:=.collected D,args:=#[] }::a.defers } W)
 (hstop:∀ (D:Nat) (c:Code) (s:σ) (W:World),D=w.heap.size->Ix c s W->W.heap[D]?=some (.deferred (some []))->c.wpIn F n P Q { a with defers:={ target:=.collected D,args:=#[] }::a.defers } W):
 (Code.rangeFunc g ps assign body).wpIn F n P Q a w:=by
 refine wpIn_rangeFunc fun fn hfn=>?_
 rw [hro]
 let rec_:LoopState->Option Code->Loop:=fun st pe=>{ state:=st,pending:=pe,fn:=fn,tmps:=a.tmps,params:=ps,assign:=assign,body:=body,defers:=w.heap.size }
 let l:=w.heap.size+1
 let K:World->Prop:=fun W=>W.heap[l]?=some (.loop (rec_ .ready none))/\W.heap[w.heap.size]?=some (.deferred (some []))
 let Kx:Code->World->Prop:=fun c W=>W.heap[l]?=some (.loop (rec_ .done (some c)))/\W.heap[w.heap.size]?=some (.deferred (some []))
 have tK:Two w.heap.size K:=fun W W' h e1 e2=>⟨e2.trans h.1,e1.trans h.2⟩
 have tKx:∀ c,Two w.heap.size (Kx c):=fun c W W' h e1 e2=>⟨e2.trans h.1,e1.trans h.2⟩
 refine ⟨l,[{ target:=.collected w.heap.size,args:=#[] }],(w.alloc (.deferred (some []))).alloc (.loop (rec_ .ready none)),{ target:=.fn (.func gf) lb,args:=#[.func (.yield l) #[] #[]] },
  (w.alloc (.deferred (some []))).alloc (.loop (rec_ .ready none)),gf,#[.func (.yield l) #[] #[]]++lb,(w.alloc (.deferred (some []))).alloc (.loop (rec_ .ready none)),run_enterLoop_outer _ _ _ _ _,?_,?_,?_,fun _=>h1,?_⟩
 · simp only [resolve,hg];simp [go_sem]
 · intro f' hf';simp [Target.leads] at hf';subst hf';exact hFg
 · simp [invoke,go_sem,eg]
 · have hK1:K ((w.alloc (.deferred (some []))).alloc (.loop (rec_ .ready none))):=by
     refine ⟨?_,(Below.heap_alloc _ _ _ (by simp)).trans (World.alloc_heap_new w _)⟩
     have:=World.alloc_heap_new (w.alloc (.deferred (some []))) (.loop (rec_ .ready none));rwa [World.size_alloc] at this
   refine (hiter l K Kx tK tKx ?_ _ (h0 _ _) hK1 (by simp)).mono ?_
   · rintro s W hi ⟨hl,hk⟩
     have hlt:l<W.heap.size:=(Array.getElem?_eq_some_iff.1 hl).1
     have hne:w.heap.size≠l:=by show w.heap.size≠w.heap.size+1;omega
     have hle:w.heap.size<=l:=by show w.heap.size<=w.heap.size+1;omega
     refine ⟨fn,_,assign,body,run_yield hl (hps s),roundIn_of_wpIn hfn (hassign _ s W _ ⟨_,run_beginRound hl rfl,?_⟩)⟩
     have hl2:=World.putObj_heap_same (o:=.loop { rec_ .ready none with state:=.busy }) hlt
     have hk2:=(World.putObj_heap_other (o:=.loop { rec_ .ready none with state:=.busy }) hne).trans hk
     refine wpIn_mono (hbody l s _ (c1 s _ _ _ _ hi hle hl rfl)) ?_
     intro e a3 W3 hp
     have fin:∀ (jump:Option Code),KeepsOthers (W.putObj l (.loop { rec_ .ready none with state:=.busy })) W3->
      (Instr.endRound l jump).run P W3=.ok (.bool jump.isNone) (W3.putObj l (.loop (rec_ (if jump.isNone then .ready else .done) jump)))/\W3.heap[l]?=some (.loop { rec_ .ready none with state:=.busy })/\
      (W3.putObj l (.loop (rec_ (if jump.isNone then .ready else .done) jump))).heap[l]?=some (.loop (rec_ (if jump.isNone then .ready else .done) jump))/\
      (W3.putObj l (.loop (rec_ (if jump.isNone then .ready else .done) jump))).heap[w.heap.size]?=some (.deferred (some [])):=fun jump hk3=>by
      have hl3:=hk3.same _ _ hl2 rfl
      exact ⟨run_endRound (P:=P) jump hl3,hl3,World.putObj_heap_same (Array.getElem?_eq_some_iff.1 hl3).1,(World.putObj_heap_other hne).trans (hk3.same _ _ hk2 rfl)⟩
     cases e with
     | normal=>
       obtain ⟨hr,hl3,hl4,hk4⟩:=fin none hp.1
       exact ⟨_,_,hr,.inl ⟨rfl,c2 s _ _ _ _ hp.2 hle hl3 rfl,hl4,hk4⟩⟩
     | ret=>
       obtain ⟨hr,hl3,hl4,hk4⟩:=fin (some .ret) hp.1
       exact ⟨_,_,hr,.inr ⟨rfl,.ret,c3 _ s _ _ _ _ hp.2 hle hl3 rfl,hl4,hk4⟩⟩
     | exit id=>
       obtain ⟨hr,hl3,hl4,hk4⟩:=fin (some (.exit id)) hp.1
       exact ⟨_,_,hr,.inr ⟨rfl,.exit id,c3 _ s _ _ _ _ hp.2 hle hl3 rfl,hl4,hk4⟩⟩
     | goto t=>
       obtain ⟨hr,hl3,hl4,hk4⟩:=fin (some (.goto t)) hp.1
       exact ⟨_,_,hr,.inr ⟨rfl,.goto t,c3 _ s _ _ _ _ hp.2 hle hl3 rfl,hl4,hk4⟩⟩
     | panic ch=>exact hp.elim
     | outgrown=>exact hp.elim
   · have hne:w.heap.size≠l:=by show w.heap.size≠w.heap.size+1;omega
     have hle:w.heap.size<=l:=by show w.heap.size<=w.heap.size+1;omega
     rintro e W2 ⟨⟨v,rfl⟩,(⟨hf,hl,hk⟩ | ⟨c,s,hi,hl,hk⟩)⟩
     · exact ⟨none,_,run_endLoop (P:=P) hl (by simp [rec_]),hdone _ _ rfl (c4 _ _ _ _ hf hle hl rfl) ((World.putObj_heap_other hne).trans hk)⟩
     · exact ⟨some c,_,run_endLoop (P:=P) hl (by simp [rec_]),hstop _ c s _ rfl (c3 c s _ _ _ _ hi hle hl rfl) ((World.putObj_heap_other hne).trans hk)⟩
end Go.AM
