/-
  A part of a proof.
-/
import Derived.Test.YtkajgkbhkkgdbaaGreatDoorFB
set_option linter.unusedSimpArgs false
set_option linter.unusedVariables false
namespace Go.AM
open Go Go.Proofs Go.IntWalk
set_option maxRecDepth 100000
set_option maxHeartbeats 1000000
theorem u64_small {n:Int} (h1:0<=n) (h2:n<=1000000):IntKind.u64.wrap n=n:=by
 have e:IntKind.u64.wrap n=n % 18446744073709551616:=by simp [IntKind.wrap,IntKind.bits,IntKind.signed]
 rw [e];omega
structure LawG (L:Law):Prop where
 s:LawS L
 v:validF L=0
 y:yrsO L
 f0:0<=L.first/\L.first<=99
 y0:1<=L.years/\L.years<=4
 t0:L.tree.length<=60
 tree:treeOK (L.tree.map hCode)
theorem LawG.of {L:Law} (hS:LawS L) (hV:validF L=0) (hY:yrsO L):LawG L:=by
 obtain ⟨h1,_⟩:=validF_zero hV
 obtain ⟨⟨a,b,c⟩,h2,_⟩:=yearsE_zero h1
 simp only [amg,Bool.and_eq_true,decide_eq_true_eq] at a b
 exact ⟨hS,hV,hY,a,b,(valid_hd h2).1,valid_tree h2⟩
theorem inF_year {L:Law} (h:LawG L) {y:Int} (hy: -1<=y/\y<=1000) (hi:inF L y=true):∃ j:Nat,y=L.first+(j:Int)/\j<L.years.toNat:=by
 have h1:=h.f0
 have h2:=h.y0
 unfold inF at hi
 simp only [Bool.and_eq_true,decide_eq_true_eq] at hi
 obtain ⟨a,b⟩:=hi
 rw [u64_small (n:=y) (by omega) (by omega),u64_small (n:=L.first) (by omega) (by omega),u64_small (n:=y-L.first) (by omega) (by omega),if_neg (by omega),u64_small (n:=L.years) (by omega) (by omega)] at b
 exact ⟨(y-L.first).toNat,by omega,by omega⟩
theorem vldM_in {m:Int} (h:vldM m=true):0<=m/\m<=1000000000000:=by simpa [vldM] using h
theorem LawG.limit {L:Law} (h:LawG L):L.a.length<=120/\L.b.length<=60/\L.c.length<=60:=by
 obtain ⟨h1,_⟩:=validF_zero h.v
 obtain ⟨_,_,h3⟩:=yearsE_zero h1
 simp only [limitE,Bool.or_eq_false_iff,decide_eq_false_iff_not] at h3
 obtain ⟨⟨⟨⟨⟨⟨⟨a1,a2⟩,a3⟩,a4⟩,a5⟩,a6⟩,a7⟩,a8⟩:=h3
 omega
def lnL (L:Law) (x:PV):Prop:=∃ c j m,x=.agg [.str c,.int .i64 (L.first+((j:Nat):Int)),.int .i64 m]/\c∈lvC (L.tree.map hCode) []/\j<L.years.toNat/\0<=m/\m<=1000000000000
theorem LawG.lines {L:Law} (h:LawG L):(∀ x,x∈L.a->lnL L x/\lineE L (lvL L) x=0)/\L.a.Pairwise lnLt:=by
 obtain ⟨h1,h2,_⟩:=validF_zero h.v
 obtain ⟨_,hv,_⟩:=yearsE_zero h1
 refine ⟨fun x hx=>?_,(each_sorted (fun s y m h=>(lineE_code hv h).1) L.a none h.s.a (fun z hz=>by cases hz) h2).1⟩
 have h3:=eachF_mem _ _ h2 x hx
 obtain ⟨s,y,m,rfl,hy⟩:=h.y x (.inl hx)
 obtain ⟨_,g1,g2,g3⟩:=lineE_code hv h3
 obtain ⟨j,rfl,hj⟩:=inF_year h hy g2
 exact ⟨⟨s,j,m,rfl,g1,hj,vldM_in g3⟩,h3⟩
def bnL (L:Law) (x:PV):Prop:=∃ c y m,x=.agg [.str c,.int .i64 y,.int .i64 m]/\c∈L.tree.map hCode/\(y= -1\/∃ j:Nat,y=L.first+(j:Int)/\j<L.years.toNat)/\0<=m/\m<=1000000000000
theorem bounds_of {L:Law} (h:LawG L) {l:List PV} (hl:∀ x,x∈l->isL3 x) (hy:∀ x,x∈l->∃ s y m,x=.agg [.str s,.int .i64 y,.int .i64 m]/\ -1<=y/\y<=1000) (h2:eachF (boundE L) linO none l=0):(∀ x,x∈l->bnL L x)/\l.Pairwise lnLt:=by
 obtain ⟨h1,_⟩:=validF_zero h.v
 obtain ⟨_,hv,_⟩:=yearsE_zero h1
 refine ⟨fun x hx=>?_,(each_sorted (fun s y m h=>(boundE_code hv h).1) l none hl (fun z hz=>by cases hz) h2).1⟩
 have h3:=eachF_mem _ _ h2 x hx
 obtain ⟨s,y,m,rfl,hy⟩:=hy x hx
 obtain ⟨_,g1,g2,g3⟩:=boundE_code hv h3
 have hs:s∈L.tree.map hCode:=by
  unfold hasF at g1
  obtain ⟨e,he,h4⟩:=List.any_eq_true.1 g1
  exact List.mem_map.2 ⟨e,he,by simpa using h4⟩
 refine ⟨s,y,m,rfl,hs,?_,vldM_in g3⟩
 rcases g2 with g2 | g2
 · exact .inl g2
 · exact .inr (inF_year h hy g2)
theorem LawG.ceils {L:Law} (h:LawG L):(∀ x,x∈L.b->bnL L x)/\L.b.Pairwise lnLt:=
 bounds_of h h.s.b (fun x hx=>h.y x (.inr (.inl hx))) (validF_zero h.v).2.2.1
theorem LawG.floors {L:Law} (h:LawG L):(∀ x,x∈L.c->bnL L x)/\L.c.Pairwise lnLt:=
 bounds_of h h.s.c (fun x hx=>h.y x (.inr (.inr hx))) (validF_zero h.v).2.2.2.1
def arL (L:Law):List PV:=arcsL L.first L.years.toNat L.tree
structure LnS (L:Law) (ls:List PV):Prop where
 mem:∀ x,x∈ls->x∈L.a
 len:ls.length<=120
theorem LnS.ok {L:Law} (h:LawG L) {ls:List PV} (hs:LnS L ls):(∀ x,x∈ls->lnA x)/\(∀ x,x∈ls->lnOK (L.tree.map hCode) L.first L.years.toNat x):=by
 refine ⟨fun x hx=>?_,fun x hx=>?_⟩
 · obtain ⟨⟨c,j,m,rfl,_,_,h3⟩,_⟩:=h.lines.1 x (hs.mem x hx)
   exact ⟨c,_,m,rfl,h3⟩
 · obtain ⟨⟨c,j,m,rfl,h1,h2,_⟩,_⟩:=h.lines.1 x (hs.mem x hx)
   exact ⟨c,j,m,rfl,h1,h2⟩
theorem LnS.car {L:Law} (h:LawG L) {ls:List PV} (hs:LnS L ls):∀ a,a∈arL L->carF ls a=(fwA ls a,0):=fun a ha=>
 car_ok (hs.ok h).1 (by have:=hs.len;omega) (arcs_G h.f0.1 h.tree a ha)
theorem wrl_zero {L:Law}:∀ (ls:List PV),(∀ x,x∈ls->lineE L (lvL L) x=0)->wrlF L ls=0
 | [],_=>rfl
 | x::r,h=>by rw [wrlF,h x List.mem_cons_self];exact wrl_zero r (fun y hy=>h y (List.mem_cons_of_mem _ hy))
theorem flow_ok {L:Law} (h:LawG L) {ls:List PV} (hs:LnS L ls):flowF L ls=((arL L).map (fwA ls),0):=by
 unfold flowF
 rw [h.v,wrl_zero ls (fun x hx=>(h.lines.1 x (hs.mem x hx)).2)]
 simp only [bne_self_eq_false,cond_false]
 exact flo_ok (arL L) [] (hs.car h)
theorem fw1_in {x a:PV} (h:lnA x):0<=fw1 x a/\fw1 x a<=1000000000000:=by
 obtain ⟨c,y,m,rfl,h1⟩:=h
 unfold fw1
 split
 · split
   · unfold ownF;simp only;split <;> omega
   · unfold vlF
     split
     · exact h1
     · omega
 · omega
theorem fwA_in (a:PV):∀ {ls:List PV},(∀ x,x∈ls->lnA x)->0<=fwA ls a/\fwA ls a<=1000000000000 * (ls.length:Int)
 | [],_=>by simp [fwA,sumL]
 | x::r,h=>by
   have h1:=fw1_in (a:=a) (h x List.mem_cons_self)
   have h2:=fwA_in a (ls:=r) (fun y hy=>h y (List.mem_cons_of_mem _ hy))
   unfold fwA at h2 ⊢
   rw [List.map_cons,sumL,List.length_cons]
   omega
structure LnW (L:Law) (ls:List PV):Prop extends LnS L ls where
 ord:ls.Pairwise lnLt
 nz:∀ c y,PV.agg [.str c,.int .i64 y,.int .i64 0]∉ls
theorem ixC_mem {c:List UInt8}:∀ (l:List PV) (i:Int),c∈l.map hCode->∃ k:Nat,k<l.length/\ixC c l i=i+(k:Int)
 | [],_,h=>by cases h
 | e::r,i,h=>by
   unfold ixC
   by_cases h1:hCode e=c
   · have:(hCode e == c)=true:=by simpa using h1
     rw [this,cond_true]
     exact ⟨0,by simp,by omega⟩
   · have:(hCode e == c)=false:=by simpa using h1
     rw [this,cond_false]
     rw [List.map_cons] at h
     rcases List.mem_cons.1 h with h | h
     · exact absurd h.symm h1
     · obtain ⟨k,h2,h3⟩:=ixC_mem r (i+1) h
       exact ⟨k+1,by simp only [List.length_cons];omega,by rw [h3];omega⟩
theorem nd_in {tr:List PV} {s:List UInt8} {j n:Int} (hs:s=[]\/s∈tr.map hCode) (h0:0<=j) (h1:j<=n):(0<=ndF tr j s/\ndF tr j s<1+2 * tr.length * (n+1))/\(0<=loF tr j s/\loF tr j s<1+2 * tr.length * (n+1)):=by
 have hp:(0:Int)<=(tr.length:Int) * (n+1):=Int.mul_nonneg (by omega) (by omega)
 have he:(1:Int)+2 * tr.length * (n+1)=1+2 * ((tr.length:Int) * (n+1)):=by rw [Int.mul_assoc]
 rw [he]
 unfold loF ndF
 by_cases h:s=[]
 · subst h
   simp only [beq_self_eq_true,cond_true]
   omega
 · have e:(s == [])=false:=by simpa using h
   rw [e,cond_false]
   obtain ⟨k,hk,hx⟩:=ixC_mem tr 0 (hs.resolve_left h)
   rw [hx,Int.zero_add]
   have q0:(0:Int)<=(tr.length:Int) * j:=Int.mul_nonneg (by omega) h0
   have q1:(tr.length:Int) * j<=(tr.length:Int) * n:=Int.mul_le_mul_of_nonneg_left h1 (by omega)
   have q2:(tr.length:Int) * (n+1)=(tr.length:Int) * n+tr.length:=by rw [Int.mul_add,Int.mul_one]
   rw [q2]
   simp only [cond_false]
   omega
theorem bdF_in {c:List UInt8} {y d:Int} (hd:0<=d/\d<=1000000000000000):∀ {l:List PV},(∀ x,x∈l->∃ s z m,x=.agg [.str s,.int .i64 z,.int .i64 m]/\0<=m/\m<=1000000000000)->0<=bdF c y d l/\bdF c y d l<=1000000000000000
 | [],_=>hd
 | x::r,h=>by
   obtain ⟨s,z,m,rfl,h1⟩:=h x List.mem_cons_self
   have ih:=bdF_in (c:=c) (y:=y) hd (l:=r) (fun z hz=>h z (List.mem_cons_of_mem _ hz))
   unfold bdF
   cases bkF c y (.agg [.str s,.int .i64 z,.int .i64 m]) with
   | true=>show 0<=m/\m<=1000000000000000;omega
   | false=>exact ih
theorem lim_in {L:Law} (h:LawG L) {a:PV} (ha:arcG a):(0<=(limF L a).1/\(limF L a).1<=1000000000000000)/\(0<=(limF L a).2/\(limF L a).2<=1000000000000000):=by
 obtain ⟨k,c,y,f,t,rfl,_⟩:=ha
 have b1:∀ x,x∈L.b->∃ s z m,x=.agg [.str s,.int .i64 z,.int .i64 m]/\0<=m/\m<=1000000000000:=fun x hx=>by
  obtain ⟨s,z,m,e,_,_,h1⟩:=h.ceils.1 x hx;exact ⟨s,z,m,e,h1⟩
 have b2:∀ x,x∈L.c->∃ s z m,x=.agg [.str s,.int .i64 z,.int .i64 m]/\0<=m/\m<=1000000000000:=fun x hx=>by
  obtain ⟨s,z,m,e,_,_,h1⟩:=h.floors.1 x hx;exact ⟨s,z,m,e,h1⟩
 have b3:∀ x,x∈L.a->∃ s z m,x=.agg [.str s,.int .i64 z,.int .i64 m]/\0<=m/\m<=1000000000000:=fun x hx=>by
  obtain ⟨⟨s,j,m,e,_,_,h1⟩,_⟩:=h.lines.1 x hx;exact ⟨s,_,m,e,h1⟩
 unfold limF arcV
 simp only
 cases k == 0 with
 | true=>exact ⟨by simp,bdF_in (by omega) b1⟩
 | false=>
   cases k == 1 with
   | true=>exact ⟨bdF_in (by omega) b2,by simp⟩
   | false=>exact ⟨bdF_in (by omega) b3,bdF_in (by omega) b3⟩
theorem arc_in {L:Law} (h:LawG L) {a:PV} (ha:a∈arL L):arcG a/\insB (netN L) (aFr a)=true/\insB (netN L) (aTo a)=true:=by
 refine ⟨arcs_G h.f0.1 h.tree a ha,?_⟩
 have hy:=h.y0
 have hn:((L.years.toNat:Nat):Int)=L.years:=by omega
 have hc:∀ e,e∈L.tree->hCode e∈L.tree.map hCode:=fun e he=>List.mem_map.2 ⟨e,he,rfl⟩
 have hu:∀ e,e∈L.tree->upF (hCode e)=[]\/upF (hCode e)∈L.tree.map hCode:=fun e he=>h.tree.par _ (hc e he)
 have N:∀ {s:List UInt8} {j:Int},(s=[]\/s∈L.tree.map hCode)->0<=j->j<=L.years->insB (netN L) (ndF L.tree j s)=true/\insB (netN L) (loF L.tree j s)=true:=by
  intro s j h1 h2 h3
  have:=nd_in h1 h2 h3
  unfold insB netN
  simp only [Bool.and_eq_true,decide_eq_true_eq]
  omega
 rcases arcs_mem ha with ⟨j,hj,e,he,rfl | rfl⟩ | ⟨s,hs,j,hj,rfl⟩ | ⟨e,he,rfl | rfl⟩
 · exact ⟨(N (hu e he) (by omega) (by omega)).2,(N (.inr (hc e he)) (by omega) (by omega)).1⟩
 · exact ⟨(N (.inr (hc e he)) (by omega) (by omega)).1,(N (.inr (hc e he)) (by omega) (by omega)).2⟩
 · exact ⟨(N (.inr (List.mem_filter.1 hs).1) (by omega) (by omega)).2,(N (.inr (List.mem_filter.1 hs).1) (by omega) (by omega)).1⟩
 · exact ⟨(N (.inr (hc e he)) (by omega) (by omega)).1,(N (.inr (hc e he)) (by omega) (by omega)).2⟩
 · exact ⟨(N (.inr (hc e he)) (by omega) (by omega)).2,(N (hu e he) (by omega) (by omega)).1⟩
theorem meet_gen {L:Law} (h:LawG L) {lo hi:PV->Int} (hlim:∀ a,a∈arL L->(0<=lo a/\lo a<=1000000000000000)/\(0<=hi a/\hi a<=1000000000000000)) {ls:List PV} (hs:LnS L ls):
 meetF (netN L) ((arL L).map fun a=>.agg [.int .i64 (aFr a),.int .i64 (aTo a),.int .i64 (lo a),.int .i64 (hi a)]) ((arL L).map (fwA ls))=(arL L).all (fun a=>decide (lo a<=fwA ls a)&&decide (fwA ls a<=hi a)):=by
 obtain ⟨hA,hO⟩:=hs.ok h
 unfold meetF
 rw [List.zip_map']
 simp only [List.length_map,beq_self_eq_true,Bool.true_and,List.all_map]
 have e1:∀ p,balN p ((arL L).map fun a=>(PV.agg [.int .i64 (aFr a),.int .i64 (aTo a),.int .i64 (lo a),.int .i64 (hi a)],fwA ls a))=0:=by
  intro p
  have:=bal_all h.tree h.f0.1 (n:=L.years.toNat) p hO
  unfold balN
  rw [List.map_map]
  exact this
 have e2:((arL L).all ((fun z:PV × Int=>IntKind.i64.wrap (balN (nFr z.1) ((arL L).map fun a=>(PV.agg [.int .i64 (aFr a),.int .i64 (aTo a),.int .i64 (lo a),.int .i64 (hi a)],fwA ls a))) == 0&&IntKind.i64.wrap (balN (nTo z.1) ((arL L).map fun a=>(PV.agg [.int .i64 (aFr a),.int .i64 (aTo a),.int .i64 (lo a),.int .i64 (hi a)],fwA ls a))) == 0) ∘ fun a=>(PV.agg [.int .i64 (aFr a),.int .i64 (aTo a),.int .i64 (lo a),.int .i64 (hi a)],fwA ls a)))=true:=by
  rw [List.all_eq_true]
  intro a _
  simp only [Function.comp_apply,e1]
  rfl
 rw [e2,Bool.and_true]
 rw [Bool.eq_iff_iff,List.all_eq_true,List.all_eq_true]
 have key:∀ a,a∈arL L->(mtA (netN L) (PV.agg [.int .i64 (aFr a),.int .i64 (aTo a),.int .i64 (lo a),.int .i64 (hi a)],fwA ls a))=(decide (lo a<=fwA ls a)&&decide (fwA ls a<=hi a)):=by
  intro a ha
  obtain ⟨_,h1,h2⟩:=arc_in h ha
  obtain ⟨h3,h4⟩:=hlim a ha
  have t1:ttB (lo a)=true:=by simp [ttB];omega
  have t2:ttB (hi a)=true:=by simp [ttB];omega
  simp only [mtA,h1,h2,t1,t2,Bool.true_and]
  rw [Bool.eq_iff_iff]
  simp
 exact ⟨fun hh a ha=>by rw [<- key a ha];exact hh a ha,fun hh a ha=>(key a ha).trans (hh a ha)⟩
theorem own_line {L:Law} (h:LawG L) {c:List UInt8} {y f t:Int}:fwA L.a (arcV 2 c y f t)=bdF c y 0 L.a:=by
 have e:fwA L.a (arcV 2 c y f t)=sumL (L.a.map (ownF c y)):=by
  unfold fwA
  exact sumF_congr (fun x _=>by rw [fw1_arc,if_pos rfl])
 rw [e]
 rcases own_find h.lines.2 h.s.a c y with ⟨m,_,e1,e2⟩ | ⟨_,e1,e2⟩
 · rw [e1,e2]
 · rw [e1,e2]
theorem LnS.self {L:Law} (h:LawG L):LnS L L.a:=⟨fun _ hx=>hx,h.limit.1⟩
end Go.AM
