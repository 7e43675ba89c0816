/-
  ConstraintKept: the lines of a law meet its network without ranges exactly if the law is kept, and then a network with ranges round the lines, too. No condition.
-/
import Derived.Test.YtkajgkbhkkgdbaaGreatDoorCards
import Derived.Test.YtkajgkbhkkgdbaaGreatDoorTie
import Derived.Deep.DeepLaidRun
import Derived.Test.YtkajgkbhkkgdbaaGreatDoorH3
set_option linter.unusedSimpArgs false
set_option linter.unusedVariables false
namespace Go.Proofs.YtkajgkbhkkgdbaaGreatDoor.constraintKept
open Go.ChangeShapes Go.WideShapes Go.ChangeAt Go.RowKit Go.AM
open Go.ChangeMaps (open_string shut_string)
theorem own:ownKnob Tryz.prog.godebug=none:=by kernel_rfl
theorem laidOut:laidOutB Tryz.prog=true:=by kernel_rfl
set_option maxRecDepth 100000 in
theorem contract (H:Type) (enc:TypeId × Value->H) (W:World) (base:Nat) (args:Array Value) (ds gs:List (DataW H)) (before:List MemPlace)
 (hL:laidMetH Tryz.prog Rows.constraintKeptRow.laid W) (hsh:W.ShapedOpen Tryz.prog) (hval:∀ (j:Nat) t v,Tryz.f4.params[j]?=some t->args[j]?=some v->Value.okWide Tryz.prog W .any base t v)
 (hW:DataW.Whole enc Tryz.prog Tryz.f4.params.toList Rows.constraintKeptSpec.vars false W args.toList ds gs before):
 Calls Tryz.prog 4 args W fun e W'=>∃ v,e=.returned v/\Rows.constraintKeptSpec.post enc Tryz.prog Tryz.f4 false true false false W args v W':=by
 have hW':=hW
 obtain ⟨p,q,hA0,hV,rfl,hfz,hnd⟩:=hW
 have hA:DataW.TrodAll enc Tryz.prog W 0 (fun _=>true) true Tryz.f4.params.toList args.toList ds p:=hA0
 rw [Tryz.params4] at hA hval
 obtain ⟨v0,vs0,d0,ds0,p0,q0,hargs,rfl,rfl,h0,r0⟩:=trodAll_cons hA
 obtain ⟨rfl,rfl,rfl⟩:=trodAll_nil r0
 obtain rfl:args=#[v0]:=by cases args;simp_all
 obtain ⟨rfl,rfl⟩:=trodVars_none hV
 obtain ⟨a0,len,cap,rfl⟩:=okWide_slice Tryz.underlying22 (hval 0 22 v0 rfl rfl)
 obtain ⟨es,hes,hel,hei⟩:=ints_arg Tryz.underlying22 Tryz.underlying3 (by kernel_rfl) h0
 clear hA0
 simp only [List.append_nil,List.nil_append] at hW'
 have hlt0:∀ x∈p0,x.block<W.heap.size:=fun x hx=>hW'.lt x (by simp [hx])
 have hL2:laidMet Tryz.prog Rows.constraintKeptRow.laid W:=hL
 have hI:GG.I W:=by
  refine ⟨⟨?_,?_⟩,?_,?_⟩
  · exact laid_iface hL2 (n:= "strconv.ErrSyntax") (List.mem_of_getElem? (i:=5) rfl) (g:=1) (by kernel_rfl) (t:=193) (by kernel_rfl) Tryz.underlying193
  · exact laid_iface hL2 (n:= "strconv.ErrRange") (List.mem_of_getElem? (i:=4) rfl) (g:=2) (by kernel_rfl) (t:=193) (by kernel_rfl) Tryz.underlying193
  · exact Go.Proofs.cell_of_shapedOpen_int (zero:=#[.int .i64 0]) hsh (of_decide_eq_true (by kernel_rfl)) (by kernel_rfl) (by kernel_rfl) (by kernel_rfl) (by kernel_rfl) Tryz.underlying3
  · exact laid_tab hL2 (n:= "internal/strconv.uint64pow10") (zs:=Lib.pow10Tab) (List.mem_of_getElem? (i:=2) rfl) (g:=3) (by kernel_rfl) (t:=226) (by kernel_rfl) Tryz.underlying226 Tryz.underlying170 (by kernel_rfl) (by kernel_rfl)
 have walk:=law_calls (W:=W) (vs:=#[.slice a0 len cap]) w_exKS (args:=[.sl es]) (by exact ⟨hel,hei⟩) rfl hI (by have h:=globE_size hI;show 4<=W.heap.size;omega)
  ⟨rfl,fun i p hp=>by
    match i,hp with
    | 0,hp=>cases hp;exact hes
    | i+1,hp=>simp at hp⟩
 refine walk.mono fun e W' ⟨he,hg⟩=>?_
 subst he
 exact ⟨_,rfl,post_of_ext (pa:=p0++[]) (pv:=[]) hW' (fun _ _ _=>trodAll_cons_mk (shut_bool Tryz.underlying4 _) trodAll_mk0)
  (fun sp hsp=>(trodAll_cons_mk (WideElems.Trod_stays laidOut (by kernel_rfl) (of_decide_eq_true (by kernel_rfl)) h0 (fun x hx=>hg.below.same (hlt0 x hx)) (fun x hx=>hsp x (by simp [hx]))) trodAll_mk0)) (fun _ _=>rfl) (by simp)
  hg (ok_one (by kernel_rfl) rfl (okWide_bool_mk Tryz.underlying4 _))⟩
mutual
def flatD:DataW Unit->List Value
 | .agg ds=>flatL ds
 | .lit (.int k n)=>[.int k n]
 | _=>[]
def flatL:List (DataW Unit)->List Value
 | []=>[]
 | d::r=>flatD d++flatL r
end
noncomputable def low:Nat:=(World.holding Tryz.prog default ⟨#[],#[],[]⟩).heap.size
abbrev synS:ByteArray:={ data:=#[105,110,118,97,108,105,100,32,115,121,110,116,97,120] }
abbrev rngS:ByteArray:={ data:=#[118,97,108,117,101,32,111,117,116,32,111,102,32,114,97,110,103,101] }
noncomputable def laidWorld (os:Os):World:=
 layRow (layRow (layRow (layRow (layRow (layRow (layRow (World.holding Tryz.prog os ⟨#[.cells #[.string synS] 239,.cells #[.string rngS] 239],#[],[]⟩)
  3 (flatD Rows.laid_internal_strconv_uint64pow10)) 6 (flatD Rows.laid_math_bits_deBruijn32tab)) 7 (flatD Rows.laid_math_bits_deBruijn64tab))
  4 (flatD Rows.laid_unicode_utf8_first)) 5 (flatD Rows.laid_unicode_utf8_acceptRanges))
  1 [.iface 237 (.pointer (some ⟨low,0,none⟩))]) 2 [.iface 237 (.pointer (some ⟨low+1,0,none⟩))]
set_option maxRecDepth 100000 in
theorem laid_met (os:Os):laidMet Tryz.prog Rows.constraintKeptRow.laid ((laidWorld os).forCall (fun _ _=>0) ⟨#[],#[.slice none 0 0],[]⟩).memory:=
 laidMet_of_run3 8 (by kernel_rfl) (by kernel_rfl) (by kernel_rfl)
set_option maxRecDepth 100000 in
theorem reads (os:Os) {H:Type} (enc:TypeId × Value->H):∃ places,DataW.whole enc Tryz.prog ((laidWorld os).forCall (fun _ _=>0) ⟨#[],#[.slice none 0 0],[]⟩).memory Tryz.f4.params.toList Rows.constraintKeptSpec.vars false #[Value.slice none 0 0].toList 8=some ([.nil],[],places):=
 ⟨[],by kernel_rfl⟩
set_option maxRecDepth 100000 in
theorem lifted (os:Os) (started:os.Started) (H:Type) (enc:TypeId × Value->H) (F:Stop.Interp):
 ReturnsInHanded {} Tryz.checked os 4 .any ((OpenSpec.ofChange Rows.constraintKeptSpec).preRow enc Tryz.prog Tryz.f4 Rows.constraintKeptRow.domain false Rows.constraintKeptRow.laid) (((OpenSpec.ofChange Rows.constraintKeptSpec).at F).post enc Tryz.prog Tryz.f4 false true false false):=by
 obtain ⟨places,hx⟩:=reads os enc
 refine returnsInHanded_of_row (C:=Tryz.checked) (s:=OpenSpec.ofChange Rows.constraintKeptSpec) own started (by kernel_rfl) Tryz.func4
  (witness_row_at (enc:=enc) (C:=Tryz.checked) false (laidWorld os) #[.slice none 0 0] rfl (by kernel_rfl) (by kernel_rfl) (by kernel_rfl)
    (OpenSpec.preRow_of_cond 8 hx (by kernel_rfl) (fun k hk=>by cases hk) (by kernel_rfl) (laid_met os))) ?_
 intro W base args ds gs before hval hW _ _ _ hL hsh _
 exact contract H enc W base args ds gs before hL hsh hval hW
theorem said:Rows.ConstraintKeptSaid:=
 OpenClaim.holds_of_cond 4 Tryz.f4 rfl rfl rfl rfl rfl rfl rfl ⟨rfl,rfl,rfl,rfl,rfl⟩ rfl rfl rfl rfl rfl (by kernel_rfl) Tryz.func4 (by kernel_rfl)
  (of_decide_eq_true (by kernel_rfl)) (by unfold Func.isWrapper;first | (rw [if_pos (by decide +kernel)];kernel_rfl) | (rw [if_neg (by decide +kernel)];exact ⟨rfl,rfl⟩))
  (fun os started H enc _ F=>by rw [OpenClaim.pre_eq_preRow];exact lifted os started H enc F)
theorem plain (f:FuncId) (fn:Func) (hf:Tryz.pinned.checked.prog.funcNamed "treasury/treasurylaw07.ConstraintKept" = some f) (hfn:Tryz.pinned.checked.prog.funcs[f]?=some fn):
 true=Tryz.pinned.checked.prog.looks []/\∀ (j:Nat) t,fn.params[j]?=some t->Tryz.pinned.checked.prog.wantsStandIn t=false:=by
 obtain rfl:f=4:=Option.some.inj ((show Tryz.prog.funcNamed "treasury/treasurylaw07.ConstraintKept" = some 4 by kernel_rfl).symm.trans hf) |>.symm
 obtain rfl:fn=Tryz.f4:=(Option.some.inj (Tryz.func4.symm.trans hfn)).symm
 refine ⟨by kernel_rfl,fun j t ht=>?_⟩
 rw [Tryz.params4] at ht
 have:t=22:=by simpa using Array.mem_of_getElem? ht
 rcases this with rfl
 · exact (show Tryz.prog.wantsStandIn 22=false by kernel_rfl)
theorem card:Rows.ConstraintKeptCardSaid:=
 Claim7.holds_tied_plain_at .later [] _ _ _ _ said (fun _ h=>by cases h) (by kernel_rfl) (fun _ h=>by cases h) constraintKept_row_tie rfl ⟨rfl,rfl⟩ (by kernel_rfl) rfl plain (by kernel_rfl)
end Go.Proofs.YtkajgkbhkkgdbaaGreatDoor.constraintKept
