/-
  EarmarkAnswers: the functions of the program that chapter 11 names answer as the document says, for laws, receipts, earmarks, codes, years and days of all sorts. No condition.
-/
import Derived.Test.YteiphfohadlgiaaGreatDoorCards
import Derived.Test.YteiphfohadlgiaaGreatDoorTie
import Derived.Deep.DeepLaidRun
import Derived.Test.YteiphfohadlgiaaGreatDoorYL
set_option linter.unusedSimpArgs false
set_option linter.unusedVariables false
namespace Go.Proofs.YteiphfohadlgiaaGreatDoor.earmarkAnswers
open Go.ChangeShapes Go.WideShapes Go.ChangeAt Go.RowKit Go.AM
open Go.ChangeMaps (open_string shut_string)
theorem own:ownKnob Tryz.prog.godebug=none:=by kernel_rfl
theorem laidOut:laidOutB Tryz.prog=true:=by kernel_rfl
set_option maxRecDepth 100000 in
theorem contract (H:Type) (enc:TypeId × Value->H) (W:World) (base:Nat) (args:Array Value) (ds gs:List (DataW H)) (before:List MemPlace)
    (hL:laidMetH Tryz.prog Rows.earmarkAnswersRow.laid W) (hsh:W.ShapedOpen Tryz.prog) (hval:∀ (j:Nat) t v,Tryz.f3.params[j]?=some t->args[j]?=some v->Value.okWide Tryz.prog W .any base t v)
    (hW:DataW.Whole enc Tryz.prog Tryz.f3.params.toList Rows.earmarkAnswersSpec.vars false W args.toList ds gs before) (hz:(DataW.weightsEach Tryz.prog (Tryz.f3.params.toList++(OpenSpec.ofChange Rows.earmarkAnswersSpec).bare.plain.varTypes Tryz.prog) (ds++gs)).all (· <=reachBytes)=true):
    Calls Tryz.prog 3 args W fun e W'=>∃ v,e=.returned v/\Rows.earmarkAnswersSpec.post enc Tryz.prog Tryz.f3 false true false false W args v W':=by
  have hW':=hW
  obtain ⟨p,q,hA0,hV,rfl,hfz,hnd⟩:=hW
  have hA:DataW.TrodAll enc Tryz.prog W 0 (fun _=>true) true Tryz.f3.params.toList args.toList ds p:=hA0
  rw [Tryz.params3] at hA hval hz
  obtain ⟨v0,vs0,d0,ds0,p0,q0,hargs,rfl,rfl,h0,r0⟩:=trodAll_cons hA
  obtain ⟨v1,vs1,d1,ds1,p1,q1,rfl,rfl,rfl,h1,r1⟩:=trodAll_cons r0
  obtain ⟨v2,vs2,d2,ds2,p2,q2,rfl,rfl,rfl,h2,r2⟩:=trodAll_cons r1
  obtain ⟨v3,vs3,d3,ds3,p3,q3,rfl,rfl,rfl,h3,r3⟩:=trodAll_cons r2
  obtain ⟨v4,vs4,d4,ds4,p4,q4,rfl,rfl,rfl,h4,r4⟩:=trodAll_cons r3
  obtain ⟨v5,vs5,d5,ds5,p5,q5,rfl,rfl,rfl,h5,r5⟩:=trodAll_cons r4
  obtain ⟨rfl,rfl,rfl⟩:=trodAll_nil r5
  obtain rfl:args=#[v0,v1,v2,v3,v4,v5]:=by cases args;simp_all
  obtain ⟨rfl,rfl⟩:=trodVars_none hV
  obtain ⟨a0,len,cap,rfl⟩:=okWide_slice Tryz.underlying22 (hval 0 22 v0 rfl rfl)
  obtain ⟨es,hes,hel,hei⟩:=ints_arg Tryz.underlying22 Tryz.underlying3 (by kernel_rfl) h0
  obtain ⟨c1,hs1,hr1⟩:=arg_anyZ (shFacts) (by kernel_rfl) (hval 1 36 v1 rfl rfl) h1 (fun w hw=>of_decide_eq_true (List.all_eq_true.1 hz _ (DataW.weights_mem_each (j:=1) (t:=36) (d:=d1) rfl rfl w hw)))
  obtain ⟨c2,hs2,hr2⟩:=arg_anyZ (shEar) (by kernel_rfl) (hval 2 38 v2 rfl rfl) h2 (fun w hw=>of_decide_eq_true (List.all_eq_true.1 hz _ (DataW.weights_mem_each (j:=2) (t:=38) (d:=d2) rfl rfl w hw)))
  obtain ⟨x3,rfl,rfl,rfl,wx3⟩:=open_string Tryz.underlying9 (hval 3 9 v3 rfl rfl) h3
  obtain ⟨x4,rfl,rfl,rfl,wx4⟩:=open_int Tryz.underlying3 (hval 4 3 v4 rfl rfl) h4
  obtain ⟨x5,rfl,rfl,rfl,wx5⟩:=open_int Tryz.underlying3 (hval 5 3 v5 rfl rfl) h5
  clear hA0
  simp only [List.append_nil,List.nil_append] at hW'
  have hlt0:∀ x∈p0,x.block<W.heap.size:=fun x hx=>hW'.lt x (by simp [hx])
  have hlt1:∀ x∈p1,x.block<W.heap.size:=fun x hx=>hW'.lt x (by simp [hx])
  have hlt2:∀ x∈p2,x.block<W.heap.size:=fun x hx=>hW'.lt x (by simp [hx])
  have rx3:x3.data.toList.length<=9223372036854775807:=len_data wx3
  have rx4: -9223372036854775808<=x4/\x4<=9223372036854775807:=by simpa [Lit.wf,IntKind.min,IntKind.max,IntKind.signed,IntKind.bits] using wx4
  have rx5: -9223372036854775808<=x5/\x5<=9223372036854775807:=by simpa [Lit.wf,IntKind.min,IntKind.max,IntKind.signed,IntKind.bits] using wx5
  have hL2:laidMet Tryz.prog Rows.earmarkAnswersRow.laid W:=hL
  have hI:GG.I W:=by
    refine ⟨⟨?_,?_⟩,?_,?_⟩
    · exact laid_iface hL2 (n:= "strconv.ErrSyntax") (List.mem_of_getElem? (i:=5) rfl) (g:=2) (by kernel_rfl) (t:=156) (by kernel_rfl) Tryz.underlying156
    · exact laid_iface hL2 (n:= "strconv.ErrRange") (List.mem_of_getElem? (i:=4) rfl) (g:=3) (by kernel_rfl) (t:=156) (by kernel_rfl) Tryz.underlying156
    · exact Go.Proofs.cell_of_shapedOpen_int (zero:=#[.int .i64 0]) hsh (of_decide_eq_true (by kernel_rfl)) (by kernel_rfl) (by kernel_rfl) (by kernel_rfl) (by kernel_rfl) Tryz.underlying3
    · exact laid_tab hL2 (n:= "internal/strconv.uint64pow10") (zs:=Lib.pow10Tab) (List.mem_of_getElem? (i:=2) rfl) (g:=1) (by kernel_rfl) (t:=184) (by kernel_rfl) Tryz.underlying184 Tryz.underlying162 (by kernel_rfl) (by kernel_rfl)
  have walk:=law_calls (W:=W) (vs:=#[.slice a0 len cap,v1,v2,.string x3,.int .i64 x4,.int .i64 x5]) w_exS (args:=[.sl es,boxSh (shFacts) c1,boxSh (shEar) c2,.str x3.data.toList,.int .i64 x4,.int .i64 x5]) (by exact ⟨⟨hel,hei⟩,facts_of hs1,ear_of hs2,rx3⟩) rfl hI (by have h:=globE_size hI;show 4<=W.heap.size;omega)
    ⟨rfl,fun i p hp=>by
      match i,hp with
      | 0,hp=>cases hp;exact hes
      | 1,hp=>cases hp;exact hr1
      | 2,hp=>cases hp;exact hr2
      | 3,hp=>cases hp;exact (by have e:(⟨x3.data.toList.toArray⟩:ByteArray)=x3:=textB_data' x3;have:=PVRel.str (w:=W) (M:=NoB) x3.data.toList;rw [e] at this;exact this)
      | 4,hp=>cases hp;exact .int _ _
      | 5,hp=>cases hp;exact .int _ _
      | i+6,hp=>simp at hp⟩
  refine walk.mono fun e W' ⟨he,hg⟩=>?_
  subst he
  exact ⟨_,rfl,post_of_ext (pa:=p0++(p1++(p2++[]))) (pv:=[]) hW' (fun _ _ _=>trodAll_cons_mk (shut_bool Tryz.underlying4 _) trodAll_mk0)
    (fun sp hsp=>(trodAll_cons_mk (WideElems.Trod_stays laidOut (by kernel_rfl) (of_decide_eq_true (by kernel_rfl)) h0 (fun x hx=>hg.below.same (hlt0 x hx)) (fun x hx=>hsp x (by simp [hx]))) (trodAll_cons_mk (WideElems.Trod_stays laidOut (by kernel_rfl) (of_decide_eq_true (by kernel_rfl)) h1 (fun x hx=>hg.below.same (hlt1 x hx)) (fun x hx=>hsp x (by simp [hx]))) (trodAll_cons_mk (WideElems.Trod_stays laidOut (by kernel_rfl) (of_decide_eq_true (by kernel_rfl)) h2 (fun x hx=>hg.below.same (hlt2 x hx)) (fun x hx=>hsp x (by simp [hx]))) (trodAll_cons_mk (shut_string Tryz.underlying9 wx3) (trodAll_cons_mk (shut_int Tryz.underlying3 wx4) (trodAll_cons_mk (shut_int Tryz.underlying3 wx5) trodAll_mk0))))))) (fun _ _=>rfl) (by simp)
    hg (ok_one (by kernel_rfl) rfl (okWide_bool_mk Tryz.underlying4 _))⟩
mutual
def flatD:DataW Unit->List Value
  | .agg ds=>flatL ds
  | .lit (.int k n)=>[.int k n]
  | _=>[]
def flatL:List (DataW Unit)->List Value
  | []=>[]
  | d::r=>flatD d++flatL r
end
noncomputable def low:Nat:=(World.holding Tryz.prog default ⟨#[],#[],[]⟩).heap.size
abbrev synS:ByteArray:={ data:=#[105,110,118,97,108,105,100,32,115,121,110,116,97,120] }
abbrev rngS:ByteArray:={ data:=#[118,97,108,117,101,32,111,117,116,32,111,102,32,114,97,110,103,101] }
noncomputable def laidWorld (os:Os):World:=
  layRow (layRow (layRow (layRow (layRow (layRow (layRow (World.holding Tryz.prog os ⟨#[.cells #[.string synS] 205,.cells #[.string rngS] 205],#[],[]⟩)
    1 (flatD Rows.laid_internal_strconv_uint64pow10)) 6 (flatD Rows.laid_math_bits_deBruijn32tab)) 7 (flatD Rows.laid_math_bits_deBruijn64tab))
    4 (flatD Rows.laid_unicode_utf8_first)) 5 (flatD Rows.laid_unicode_utf8_acceptRanges))
    2 [.iface 203 (.pointer (some ⟨low,0,none⟩))]) 3 [.iface 203 (.pointer (some ⟨low+1,0,none⟩))]
set_option maxRecDepth 100000 in
theorem laid_met (os:Os):laidMet Tryz.prog Rows.earmarkAnswersRow.laid ((laidWorld os).forCall (fun _ _=>0) ⟨#[],#[.slice none 0 0,.agg #[.int .i64 0,.int .i64 0,.slice none 0 0,.slice none 0 0,.slice none 0 0,.slice none 0 0,.slice none 0 0,.slice none 0 0,.slice none 0 0,.slice none 0 0,.slice none 0 0,.slice none 0 0,.slice none 0 0],.agg #[.string ⟨#[]⟩,.string ⟨#[]⟩,.int .i64 0],.string ⟨#[]⟩,.int .i64 0,.int .i64 0],[]⟩).memory:=
  laidMet_of_run3 8 (by kernel_rfl) (by kernel_rfl) (by kernel_rfl)
set_option maxRecDepth 100000 in
theorem reads (os:Os) {H:Type} (enc:TypeId × Value->H):∃ places,DataW.whole enc Tryz.prog ((laidWorld os).forCall (fun _ _=>0) ⟨#[],#[.slice none 0 0,.agg #[.int .i64 0,.int .i64 0,.slice none 0 0,.slice none 0 0,.slice none 0 0,.slice none 0 0,.slice none 0 0,.slice none 0 0,.slice none 0 0,.slice none 0 0,.slice none 0 0,.slice none 0 0,.slice none 0 0],.agg #[.string ⟨#[]⟩,.string ⟨#[]⟩,.int .i64 0],.string ⟨#[]⟩,.int .i64 0,.int .i64 0],[]⟩).memory Tryz.f3.params.toList Rows.earmarkAnswersSpec.vars false #[Value.slice none 0 0,.agg #[.int .i64 0,.int .i64 0,.slice none 0 0,.slice none 0 0,.slice none 0 0,.slice none 0 0,.slice none 0 0,.slice none 0 0,.slice none 0 0,.slice none 0 0,.slice none 0 0,.slice none 0 0,.slice none 0 0],.agg #[.string ⟨#[]⟩,.string ⟨#[]⟩,.int .i64 0],.string ⟨#[]⟩,.int .i64 0,.int .i64 0].toList 8=some ([.nil,.agg [.agg [.lit (.int .i64 0),.lit (.int .i64 0),.nil,.nil,.nil,.nil,.nil,.nil,.nil,.nil],.nil,.nil,.nil],.agg [.lit (.string []),.lit (.string []),.lit (.int .i64 0)],.lit (.string []),.lit (.int .i64 0),.lit (.int .i64 0)],[],places):=
  ⟨[],by kernel_rfl⟩
set_option maxRecDepth 100000 in
theorem lifted (os:Os) (started:os.Started) (H:Type) (enc:TypeId × Value->H) (F:Stop.Interp):
    ReturnsInHanded {} Tryz.checked os 3 .any ((OpenSpec.ofChange Rows.earmarkAnswersSpec).preRow enc Tryz.prog Tryz.f3 Rows.earmarkAnswersRow.domain false Rows.earmarkAnswersRow.laid) (((OpenSpec.ofChange Rows.earmarkAnswersSpec).at F).post enc Tryz.prog Tryz.f3 false true false false):=by
  obtain ⟨places,hx⟩:=reads os enc
  refine returnsInHanded_of_row (C:=Tryz.checked) (s:=OpenSpec.ofChange Rows.earmarkAnswersSpec) own started (by kernel_rfl) Tryz.func3
    (witness_row_at (enc:=enc) (C:=Tryz.checked) false (laidWorld os) #[.slice none 0 0,.agg #[.int .i64 0,.int .i64 0,.slice none 0 0,.slice none 0 0,.slice none 0 0,.slice none 0 0,.slice none 0 0,.slice none 0 0,.slice none 0 0,.slice none 0 0,.slice none 0 0,.slice none 0 0,.slice none 0 0],.agg #[.string ⟨#[]⟩,.string ⟨#[]⟩,.int .i64 0],.string ⟨#[]⟩,.int .i64 0,.int .i64 0] rfl (by kernel_rfl) (by kernel_rfl) (by kernel_rfl)
      (OpenSpec.preRow_of_cond 8 hx (by kernel_rfl) (fun k hk=>by cases hk) (by kernel_rfl) (laid_met os))) ?_
  intro W base args ds gs before hval hW _ _ hz hL hsh _
  exact contract H enc W base args ds gs before hL hsh hval hW hz
theorem said:Rows.EarmarkAnswersSaid:=
  OpenClaim.holds_of_cond 3 Tryz.f3 rfl rfl rfl rfl rfl rfl rfl ⟨rfl,rfl,rfl,rfl,rfl⟩ rfl rfl rfl rfl rfl (by kernel_rfl) Tryz.func3 (by kernel_rfl)
    (of_decide_eq_true (by kernel_rfl)) (by unfold Func.isWrapper;first | (rw [if_pos (by decide +kernel)];kernel_rfl) | (rw [if_neg (by decide +kernel)];exact ⟨rfl,rfl⟩))
    (fun os started H enc _ F=>by rw [OpenClaim.pre_eq_preRow];exact lifted os started H enc F)
theorem plain (f:FuncId) (fn:Func) (hf:Tryz.pinned.checked.prog.funcNamed "treasury/treasurylaw11.EarmarkAnswers" = some f) (hfn:Tryz.pinned.checked.prog.funcs[f]?=some fn):
    true=Tryz.pinned.checked.prog.looks []/\∀ (j:Nat) t,fn.params[j]?=some t->Tryz.pinned.checked.prog.wantsStandIn t=false:=by
  obtain rfl:f=3:=Option.some.inj ((show Tryz.prog.funcNamed "treasury/treasurylaw11.EarmarkAnswers" = some 3 by kernel_rfl).symm.trans hf) |>.symm
  obtain rfl:fn=Tryz.f3:=(Option.some.inj (Tryz.func3.symm.trans hfn)).symm
  refine ⟨by kernel_rfl,fun j t ht=>?_⟩
  rw [Tryz.params3] at ht
  have:t=22\/t=36\/t=38\/t=9\/t=3\/t=3:=by simpa using Array.mem_of_getElem? ht
  rcases this with rfl | rfl | rfl | rfl | rfl | rfl
  · exact (show Tryz.prog.wantsStandIn 22=false by kernel_rfl)
  · exact (show Tryz.prog.wantsStandIn 36=false by kernel_rfl)
  · exact (show Tryz.prog.wantsStandIn 38=false by kernel_rfl)
  · exact (show Tryz.prog.wantsStandIn 9=false by kernel_rfl)
  · exact (show Tryz.prog.wantsStandIn 3=false by kernel_rfl)
  · exact (show Tryz.prog.wantsStandIn 3=false by kernel_rfl)
theorem card:Rows.EarmarkAnswersCardSaid:=
  Claim7.holds_tied_plain_at .later [] _ _ _ _ said (fun _ h=>by cases h) (by kernel_rfl) (fun _ h=>by cases h) earmarkAnswers_row_tie rfl ⟨rfl,rfl⟩ (by kernel_rfl) rfl plain (by kernel_rfl)
end Go.Proofs.YteiphfohadlgiaaGreatDoor.earmarkAnswers
