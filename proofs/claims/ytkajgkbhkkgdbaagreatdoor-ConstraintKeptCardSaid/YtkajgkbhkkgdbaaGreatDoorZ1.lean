/-
  A part of a proof.
-/
import Derived.Test.YtkajgkbhkkgdbaaGreatDoorR3e
import Derived.Test.YtkajgkbhkkgdbaaGreatDoorTG
set_option linter.unusedSimpArgs false
set_option linter.unusedVariables false
namespace Go.AM
open Go Go.Proofs Go.IntWalk
set_option maxRecDepth 100000
theorem pw_getD {α:Type} [Inhabited α] {R:α->α->Prop} {l:List α} (h:l.Pairwise R) {i j:Nat} (hij:i<j) (hj:j<l.length):R (l.getD i default) (l.getD j default):=by
 have:=List.pairwise_iff_getElem.1 h i j (by omega) hj hij
 rwa [List.getD_eq_getElem?_getD,List.getD_eq_getElem?_getD,List.getElem?_eq_getElem (by omega),List.getElem?_eq_getElem hj]
def lawV (first years:Int) (tree a b c d e f g:List PV):PV:=.agg [.int .i64 first,.int .i64 years,.sl tree,.sl a,.sl b,.sl c,.sl d,.sl e,.sl f,.sl g]
structure Law where
 first:Int
 years:Int
 tree:List PV
 a:List PV
 b:List PV
 c:List PV
 d:List PV
 e:List PV
 f:List PV
 g:List PV
def Law.v (l:Law):PV:=lawV l.first l.years l.tree l.a l.b l.c l.d l.e l.f l.g
def orF:List Int->Int
 | []=>0
 | x::r=>bif x != 0 then x else orF r
def lCode:PV->List UInt8
 | .agg (.str c::_)=>c
 | _=>[]
def lYear:PV->Int
 | .agg [_,.int _ y,_]=>y
 | _=>0
def linO (x y:PV):Int:=orF [cmpC (lCode x) (lCode y),cmpI (lYear x) (lYear y)]
def ruN:PV->Int
 | .agg (.int _ n::_)=>n
 | _=>0
noncomputable def Ξ0 (g:FuncId):PSpec:=Φ36 g
theorem hΞ0:TabSound GG Ξ0:=hΦ36
theorem isI_eq {n:Int}:isI (.int .i64 n)=(-9223372036854775808<=n/\n<=9223372036854775807):=propext ⟨fun ⟨m,e,h⟩=>by injection e with e1 e2;subst e2;exact h,fun h=>⟨n,rfl,h⟩⟩
theorem preP_eq {es:List PV}:preP [.sl es]=(es≠[]/\es.length<=1000000/\∀ e,e∈es->isI e):=
 propext ⟨fun ⟨es',e,h⟩=>by simp only [List.cons.injEq,PV.sl.injEq,and_true] at e;subst e;exact h,fun h=>⟨es,rfl,h⟩⟩
theorem okP_eq {es:List PV} {n:Int}:okP [.sl es] n=(intV n∈es):=
 propext ⟨fun ⟨es',e,h⟩=>by simp only [List.cons.injEq,PV.sl.injEq,and_true] at e;subst e;exact h,fun h=>⟨es,rfl,h⟩⟩
theorem preR_eq {a b:Int}:preR [.int .i64 a,.int .i64 b]=(-1000000000000000<=a/\a<=b/\b<=1000000000000000):=
 propext ⟨fun ⟨a',b',e,h⟩=>by simp only [List.cons.injEq,PV.int.injEq,and_true,true_and] at e;obtain ⟨rfl,rfl⟩:=e;exact h,fun h=>⟨a,b,rfl,h⟩⟩
theorem allI_nil:(∀ e,e∈([]:List PV)->isI e)=True:=by simp
theorem allI_cons {n:Int} {r:List PV}:(∀ e,e∈(.int .i64 n::r)->isI e)=((-9223372036854775808<=n/\n<=9223372036854775807)/\∀ e,e∈r->isI e):=by
 rw [<- isI_eq]
 exact propext ⟨fun h=>⟨h _ List.mem_cons_self,fun e he=>h e (List.mem_cons_of_mem _ he)⟩,fun h e he=>by
  rcases List.mem_cons.1 he with rfl | he
  · exact h.1
  · exact h.2 e he⟩
theorem memI_nil {n:Int}:(PV.int .i64 n∈([]:List PV))=False:=by simp
theorem memI_cons {n m:Int} {r:List PV}:(PV.int .i64 n∈(.int .i64 m::r))=(n=m\/PV.int .i64 n∈r):=by
 apply propext
 rw [List.mem_cons]
 simp
theorem preLf_eq {l:List PV}:preLf [.sl l]=treeP l:=propext ⟨fun ⟨l',e,h⟩=>by simp only [List.cons.injEq,PV.sl.injEq,and_true] at e;subst e;exact h,fun h=>⟨l,rfl,h⟩⟩
theorem preTr_eq {n:Int}:preTr [.int .i64 n]=(0<=n/\n<=50):=propext ⟨fun ⟨k',e,h⟩=>by simp only [List.cons.injEq,PV.int.injEq,and_true,true_and] at e;subst e;exact h,fun h=>⟨n,rfl,h⟩⟩
theorem getD_str {lv:List PV} (hlm:∀ e,e∈lv->∃ c,e=.str c/\c.length<=100) {j:Nat} (hj:j<lv.length):∃ c,lv.getD j default=.str c/\c.length<=100:=by
 obtain ⟨cc,e,h⟩:=hlm (lv[j]'hj) (List.getElem_mem _)
 exact ⟨cc,by simp [List.getD_eq_getElem?_getD,hj,e],h⟩
theorem getD_tree {l:List PV} (h:treeP l) {j:Nat} (hj:j<l.length):∃ c n,l.getD j default=.agg [.str c,.str n]/\c.length<=100:=by
 obtain ⟨c,n,e,hc⟩:=h.2 (l[j]'hj) (List.getElem_mem _)
 exact ⟨c,n,by simp [List.getD_eq_getElem?_getD,hj,e,hV],hc⟩
theorem AWp.join {C:Ctx} {T:Plan} {c:Code} {Q:AX->ASt->Prop} {G:Prop} {α:Type} (I:α->List (Nat × AV) × AHeap) (P:α->Prop)
 (main:(∀ z st,P z->Fits C.pins (I z).1 (I z).2 st->AWp C c Q st)->G) (rest:∀ z,P z->wpc C T c Q ⟨look (I z).1,(I z).2⟩):G:=main (fun z _ hz h=>AWp.here I P ⟨z,hz,h⟩ rest)
end Go.AM
