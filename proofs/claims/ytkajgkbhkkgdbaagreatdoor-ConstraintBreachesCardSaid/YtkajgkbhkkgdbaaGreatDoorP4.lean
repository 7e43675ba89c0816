/-
  A part of a proof.
-/
import Derived.Test.YtkajgkbhkkgdbaaGreatDoorP
namespace Go.AM
open Go Go.RowKit Go.Shelf Go.Proofs
attribute [local go_sem] Oper.semAt_some
set_option maxHeartbeats 2000000
set_option maxRecDepth 100000
def wordsOf:List UInt8->List (List UInt8)
  | []=>[[]]
  | c::r=>if c=46 then []::wordsOf r else (c::(wordsOf r).headD [])::(wordsOf r).tail
theorem wordsOf_cut:∀ l:List UInt8,wordsOf l=(cutW l).1::(match (cutW l).2 with | none=>[] | some r=>wordsOf r)
  | []=>rfl
  | c::r=>by
    rw [wordsOf,cutW]
    by_cases h:c=46
    · rw [if_pos h,if_pos h]
    · rw [if_neg h,if_neg h,wordsOf_cut r]
      rfl
def goW (w:List UInt8):Option Int:=
  match Lib.atoiAll w with
  | .ok v=>if 1<=v/\v<=99/\Lib.itoa v=w then some v else none
  | _=>none
def goP:List Int->List (List UInt8)->Option (List Int)
  | acc,[]=>some acc
  | acc,w::ws=>match goW w with | none=>none | some v=>goP (acc++[v]) ws
def partsR (s:List UInt8):List Int:=match goP [] (wordsOf s) with | none=>[] | some l=>if 4<l.length then [] else l
theorem _root_.Go.Boxed.below' {W W':World} {B:Nat} {t:TypeId} {v:Value} (h:Boxed W B t v) (hb:Below W.heap.size W W'):Boxed W' B t v:=(hb.block B h.lt).trans h
theorem _root_.Go.Boxed.put' {W:World} {B:Nat} {t:TypeId} {v:Value} (h:Boxed W B t v) {j:Nat} {o:Obj} (o':Obj) (ho:W.heap[j]?=some o) (hc:o.isCells=false):Boxed (W.putObj j o') B t v:=by
  refine (World.putObj_heap_other fun e=>?_).trans h
  subst e
  rw [show W.heap[B]?=_ from h] at ho
  cases ho
  cases hc
structure Core (w:World) (acc:List Int) (cur:List UInt8) (v:Value) (W:World):Prop where
  s:Boxed W (w.heap.size+2) 9 (.string (textB cur))
  sep:Boxed W (w.heap.size+3) 9 (.string ⟨#[46]⟩)
  save:Boxed W (w.heap.size+4) 3 (.int .i64 0)
  res:Boxed W w.heap.size 22 (.slice none 0 0)
  out:Boxed W (w.heap.size+1) 22 v
  row:W.ownsRow (w.heap.size+5) 3 1 v acc.length (acc.map (Value.int .i64))
  old:Below w.heap.size w W
  size:w.heap.size+5<=W.heap.size
theorem row_below {W W':World} {base:Nat} {e:TypeId} {z:Nat} {v:Value} {k:Nat} {xs:List Value} (h:W.ownsRow base e z v k xs) (hb:Below W.heap.size W W'):W'.ownsRow base e z v k xs:=by
  refine ⟨h.1,?_⟩
  rcases h.2 with h2 | ⟨g,cap,cur,h1,h2,h3,h4⟩
  · exact .inl h2
  · exact .inr ⟨g,cap,cur,h1,h2,(hb.block g (Array.getElem?_eq_some_iff.1 h3).1).trans h3,h4⟩
theorem Core.below {w:World} {acc:List Int} {cur:List UInt8} {v:Value} {W W':World} (h:Core w acc cur v W) (hb:Below W.heap.size W W'):Core w acc cur v W':=
  ⟨h.s.below' hb,h.sep.below' hb,h.save.below' hb,h.res.below' hb,h.out.below' hb,row_below h.row hb,h.old.trans (hb.mono (by have:=h.size;omega)),Nat.le_trans h.size hb.size⟩
theorem Core.put {w:World} {acc:List Int} {cur:List UInt8} {v:Value} {W:World} (h:Core w acc cur v W) {j:Nat} {o:Obj} (o':Obj) (hj:w.heap.size+5<=j) (ho:W.heap[j]?=some o) (hc:o.isCells=false):Core w acc cur v (W.putObj j o'):=
  ⟨h.s.put' o' ho hc,h.sep.put' o' ho hc,h.save.put' o' ho hc,h.res.put' o' ho hc,h.out.put' o' ho hc,ownsRow_putObj h.row o' ho hc,
    h.old.grown (grownBy_putObj' W j o') (by have:=h.size;omega) (fun k e=>by cases e;omega),by simpa using h.size⟩
theorem _root_.Go.Boxed.other' {W:World} {B b:Nat} {t:TypeId} {v:Value} (h:Boxed W B t v) (x:Value) (hne:B≠b):Boxed (W.setCell ⟨b,0,none⟩ x) B t v:=h.kept (grownBy_setCell' W b x) (fun e=>hne (Option.some.inj e))
theorem own_ge {W:World} {base:Nat} {e:TypeId} {z:Nat} {v:Value} {k:Nat} {xs:List Value} (h:W.ownsRow base e z v k xs):∀ g,v.ownBlock=some g->base<=g:=by
  intro g hg
  rcases h.2 with ⟨rfl,_⟩ | ⟨g',cap,cur,rfl,h2,_⟩
  · cases hg
  · cases hg;exact h2
theorem Core.setS {w:World} {acc:List Int} {cur:List UInt8} {v:Value} {W:World} (h:Core w acc cur v W) (r:List UInt8):Core w acc r v (W.setCell ⟨w.heap.size+2,0,none⟩ (.string (textB r))):=
  ⟨h.s.set _,h.sep.other' _ (by omega),h.save.other' _ (by omega),h.res.other' _ (by omega),h.out.other' _ (by omega),
    h.row.kept (grownBy_setCell' W _ _) (.inr (fun e=>by have:=own_ge h.row _ e;omega)),h.old.setCell (p:=⟨w.heap.size+2,0,none⟩) (by simp only;omega) _,Nat.le_trans h.size (grownBy_setCell' W _ _).size⟩
theorem Core.app {w:World} {acc:List Int} {cur:List UInt8} {v v':Value} {W w1:World} {tmp:Obj} {x:Int} (h:Core w acc cur v W)
    (hown:w1.ownsRow (w.heap.size+5) 3 1 v' (acc.length+1) (acc.map (Value.int .i64)++[Value.int .i64 x])) (hgrow:(W.alloc tmp).grownBy w1 v.ownBlock):
    Boxed w1 (w.heap.size+1) 22 v/\KeepsOthers W (w1.setCell ⟨w.heap.size+1,0,none⟩ v')/\Core w (acc++[x]) cur v' (w1.setCell ⟨w.heap.size+1,0,none⟩ v'):=by
  have ge:=own_ge h.row
  have kp:∀ {B:Nat} {t:TypeId} {u:Value},B<w.heap.size+5->Boxed W B t u->Boxed w1 B t u:=fun hB hb=>(hb.alloc tmp).kept hgrow (fun e=>by have:=ge _ e.symm;omega)
  have ge':=own_ge hown
  refine ⟨kp (by omega) h.out,?_,(kp (by omega) h.s).other' _ (by omega),(kp (by omega) h.sep).other' _ (by omega),(kp (by omega) h.save).other' _ (by omega),(kp (by omega) h.res).other' _ (by omega),(kp (by omega) h.out).set _,
    ?_,?_,?_⟩
  · refine ((KeepsOthers.alloc W tmp).trans (KeepsOthers.of_grownBy hgrow fun j o ej hj=>?_)).trans (KeepsOthers.setCell _ _ _)
    rcases (h.row.alloc tmp).2 with ⟨rfl,_⟩ | ⟨g,cap,cur',rfl,_,hgb,_⟩
    · simp [Value.ownBlock] at ej
    · obtain rfl:g=j:=by simpa [Value.ownBlock] using ej
      rw [hgb] at hj;cases hj;rfl
  · have:=hown.kept (grownBy_setCell' w1 (w.heap.size+1) v') (.inr (fun e=>by have:=ge' _ e;omega))
    simpa using this
  · exact ((h.old.alloc (by have:=h.size;omega) tmp).grown hgrow (by have:=h.size;simp;omega) (fun j ej=>by have:=ge j ej;omega)).setCell (p:=⟨w.heap.size+1,0,none⟩) (by simp only;omega) v'
  · exact Nat.le_trans h.size (Nat.le_trans (by simp) (Nat.le_trans hgrow.size (grownBy_setCell' w1 _ _).size))
theorem Core.keepsB {W W':World} (hb:Below W.heap.size W W'):KeepsOthers W W':=⟨hb.size,fun k _ hk _=>(hb.block k (Array.getElem?_eq_some_iff.1 hk).1).trans hk⟩
end Go.AM
