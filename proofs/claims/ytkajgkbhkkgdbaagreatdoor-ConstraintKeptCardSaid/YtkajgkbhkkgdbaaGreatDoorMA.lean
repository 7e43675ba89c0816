/-
  A part of a proof.
-/
import Derived.WalkKit
import Derived.Deep.Quiet
import Derived.Lib.Strings
set_option linter.unusedSimpArgs false
set_option linter.unusedVariables false
namespace Go.AM
open Go
inductive PV where
 | bool (b:Bool)
 | int (k:IntKind) (n:Int)
 | str (s:List UInt8)
 | nilI
 | nilP
 | iface (t:TypeId) (v:PV)
 | agg (cs:List PV)
 | tup (vs:List PV)
 | sl (es:List PV)
 | pp (e:PV) (off:Nat)
 | fn (f:FuncId) (caps:List PV)
 | mv (f:FuncId) (first:List PV)
 deriving Inhabited
def PV.cells:PV->List PV
 | .agg cs=>cs
 | p=>[p]
def PV.width (p:PV):Nat:=p.cells.length
def PV.nth (es:List PV) (i:Nat):PV:=es.getD i default
def PV.one:PV->Bool
 | .agg _ | .tup _=>false
 | _=>true
inductive PVRel (w:World) (M:Nat->Prop):PV->Value->Prop where
 | bool (b:Bool):PVRel w M (.bool b) (.bool b)
 | int (k:IntKind) (n:Int):PVRel w M (.int k n) (.int k n)
 | str (s:List UInt8):PVRel w M (.str s) (.string ⟨s.toArray⟩)
 | nilI:PVRel w M .nilI .nilIface
 | nilP:PVRel w M .nilP (.pointer none)
 | iface (t:TypeId) (p:PV) (v:Value):PVRel w M p v->PVRel w M (.iface t p) (.iface t v)
 | agg (cs:List PV) (vs:Array Value):vs.size=cs.length->(∀ c,c∈cs->c.one=true)->(∀ i c,cs[i]?=some c->PVRel w M c (vs.getD i undef))->PVRel w M (.agg cs) (.agg vs)
 | tup (cs:List PV) (vs:Array Value):vs.size=cs.length->(∀ i c,cs[i]?=some c->PVRel w M c (vs.getD i undef))->PVRel w M (.tup cs) (.tuple vs)
 | sl (es:List PV) (a:Option Addr) (cap k b o:Nat) (val:Nat->Nat->Value):es.length<=cap->cap<=maxLen->(∀ e,e∈es->e.width=k)->
     (es≠[]->a=some ⟨b,o,none⟩)->
     (∀ i e j c,es[i]?=some e->e.cells[j]?=some c->¬ M b/\c.one=true/\w.cell? ⟨b,o+i * k+j,none⟩=some (val i j))->
     (∀ i e j c,es[i]?=some e->e.cells[j]?=some c->PVRel w M c (val i j))->
     PVRel w M (.sl es) (.slice a es.length cap)
 | pp (e:PV) (off b o:Nat) (val:Nat->Value):
     (∀ j c,e.cells[j]?=some c->¬ M b/\c.one=true/\w.cell? ⟨b,o+j,none⟩=some (val j))->
     (∀ j c,e.cells[j]?=some c->PVRel w M c (val j))->
     PVRel w M (.pp e off) (.pointer (some ⟨b,o+off,none⟩))
 | fn (f:FuncId) (caps:List PV) (vs:Array Value):vs.size=caps.length->(∀ i c,caps[i]?=some c->PVRel w M c (vs.getD i undef))->PVRel w M (.fn f caps) (.func (.func f) #[] vs)
 | mv (f:FuncId) (fs:List PV) (vs:Array Value):vs.size=fs.length->(∀ i c,fs[i]?=some c->PVRel w M c (vs.getD i undef))->PVRel w M (.mv f fs) (.func (.func f) vs #[])
theorem block_lt_of_cell {w:World} {a:Addr} {v:Value} (h:w.cell? a=some v):a.block<w.heap.size:=by
 unfold World.cell? at h
 split at h
 · rename_i h'
   exact (Array.getElem?_eq_some_iff.1 h').1
 · cases h
def Keeps (w:World) (M:Nat->Prop) (w':World) (M':Nat->Prop):Prop:=
 ∀ b,b<w.heap.size->¬ M b->w'.heap[b]?=w.heap[b]?/\¬ M' b
theorem Keeps.cell {w w':World} {M M':Nat->Prop} (hk:Keeps w M w' M') {a:Addr} {v:Value} (hm:¬ M a.block) (h:w.cell? a=some v):¬ M' a.block/\w'.cell? a=some v:=by
 have hb:=hk a.block (block_lt_of_cell h) hm
 refine ⟨hb.2,?_⟩
 unfold World.cell? at * 
 rw [hb.1];exact h
theorem PVRel.keep {w w':World} {M M':Nat->Prop} {p:PV} {v:Value} (h:PVRel w M p v) (hk:Keeps w M w' M'):PVRel w' M' p v:=by
 induction h with
 | bool b=>exact .bool b
 | int k n=>exact .int k n
 | str s=>exact .str s
 | nilI=>exact .nilI
 | nilP=>exact .nilP
 | iface t p v _ ih=>exact .iface t p v ih
 | agg cs vs hs ho _ ih=>exact .agg cs vs hs ho ih
 | tup cs vs hs _ ih=>exact .tup cs vs hs ih
 | sl es a cap k b o val h1 h2 h3 h4 h5 _ ih=>
   refine .sl es a cap k b o val h1 h2 h3 h4 (fun i e j c he hc=>?_) ih
   obtain ⟨hm,ho,hcell⟩:=h5 i e j c he hc
   have:=hk.cell (a:=⟨b,o+i * k+j,none⟩) hm hcell
   exact ⟨this.1,ho,this.2⟩
 | pp e off b o val h1 _ ih=>
   refine .pp e off b o val (fun j c hc=>?_) ih
   obtain ⟨hm,ho,hcell⟩:=h1 j c hc
   have:=hk.cell (a:=⟨b,o+j,none⟩) hm hcell
   exact ⟨this.1,ho,this.2⟩
 | fn f caps vs hs _ ih=>exact .fn f caps vs hs ih
 | mv f fs vs hs _ ih=>exact .mv f fs vs hs ih
inductive AV where
 | pv (p:PV)
 | nils
 | ptr (key off:Nat)
 | rs (key hi:Nat)
 | rv (key lo hi sz:Nat)
 | rp (key i off:Nat)
 | mp (key:Nat)
 | it (key:Nat)
 | bufh (key n:Nat)
 | agg (cs:List AV)
 | clo (f:FuncId) (caps:List AV)
 | whn (b:Bool) (v:AV)
 | opq (φ:List PV->Prop × PV)
 | fix (x:Value)
 | top
instance:Inhabited AV:=⟨.top⟩
inductive ABlk where
 | cells (cs:List AV)
 | typed (t:TypeId) (cs:List AV)
 | row (k:Nat) (es:List PV)
 | buf (e:TypeId) (bs:List UInt8)
 | obj (J:List PV->Prop)
 | map (es:List (PV × PV))
 | iter (s:List UInt8) (pos:Nat)
def ABlk.isVar:ABlk->Bool
 | .row _ _ | .map _ | .iter _ _ | .buf _ _=>false
 | _=>true
abbrev AHeap:=List (Nat × ABlk)
def hget:AHeap->Nat->Option ABlk
 | [],_=>none
 | (i,b)::r,j=>if i=j then some b else hget r j
def hset:AHeap->Nat->ABlk->AHeap
 | [],j,c=>[(j,c)]
 | (i,b)::r,j,c=>if i=j then (i,c)::r else if j<i then (j,c)::(i,b)::r else (i,b)::hset r j c
def hdel:AHeap->Nat->AHeap
 | [],_=>[]
 | (i,b)::r,j=>if i=j then hdel r j else (i,b)::hdel r j
theorem hget_hset_same (H:AHeap) (k:Nat) (B:ABlk):hget (hset H k B) k=some B:=by
 induction H with
 | nil=>simp [hset,hget]
 | cons x r ih=>
   obtain ⟨i,b⟩:=x
   unfold hset
   by_cases h:i=k
   · rw [if_pos h];simp [hget,h]
   · rw [if_neg h]
     by_cases h2:k<i
     · rw [if_pos h2];simp [hget]
     · rw [if_neg h2];simp [hget,h,ih]
theorem hget_hset_ne (H:AHeap) {k j:Nat} (B:ABlk) (h:k≠j):hget (hset H k B) j=hget H j:=by
 induction H with
 | nil=>simp [hset,hget,h]
 | cons x r ih=>
   obtain ⟨i,b⟩:=x
   unfold hset
   by_cases hi:i=k
   · subst hi;simp [hget,h]
   · rw [if_neg hi]
     by_cases h2:k<i
     · rw [if_pos h2];simp [hget,h]
     · rw [if_neg h2];simp [hget,ih]
theorem hget_hdel_same (H:AHeap) (k:Nat):hget (hdel H k) k=none:=by
 induction H with
 | nil=>simp [hdel,hget]
 | cons x r ih=>
   obtain ⟨i,b⟩:=x
   by_cases h:i=k <;> simp [hdel,hget,h,ih]
theorem hget_hdel_ne (H:AHeap) {k j:Nat} (h:k≠j):hget (hdel H k) j=hget H j:=by
 induction H with
 | nil=>simp [hdel,hget]
 | cons x r ih=>
   obtain ⟨i,b⟩:=x
   by_cases hi:i=k
   · subst hi;simp [hdel,hget,h,ih]
   · simp [hdel,hget,hi,ih]
abbrev Locs:=Nat->Option (Nat × Nat)
def Own (L:Locs) (H:AHeap) (b:Nat):Prop:=∃ key B cap,hget H key=some B/\L key=some (b,cap)
def MSz (ents:Array MapEntry) (clock n:Nat):Prop:=ents.size=n/\(∀ x,x∈ents.toList->x.born<clock)/\(ents.toList.map (·.born)).Nodup
theorem MSz.nil {clock:Nat}:MSz #[] clock 0:=⟨rfl,by simp,by simp⟩
theorem MSz.push {ents:Array MapEntry} {clock n:Nat} (h:MSz ents clock n) {k v:Value}:MSz (ents.push { key:=k,val:=v,born:=clock }) (clock+1) (n+1):=by
 refine ⟨by simp [h.1],fun x hx=>?_,?_⟩
 · rw [Array.toList_push] at hx
   rcases List.mem_append.1 hx with hx | hx
   · have:=h.2.1 x hx;omega
   · rw [List.mem_singleton] at hx;subst hx;exact Nat.lt_succ_self _
 · rw [Array.toList_push,List.map_append,List.nodup_append]
   refine ⟨h.2.2,by simp,fun a ha b hb=>?_⟩
   simp only [List.map_cons,List.map_nil,List.mem_singleton] at hb
   subst hb
   obtain ⟨x,hx,rfl⟩:=List.mem_map.1 ha
   have:=h.2.1 x hx;omega
theorem MSz.same {ents ents':Array MapEntry} {clock n:Nat} (h:MSz ents clock n) (he:ents'.toList.map (·.born)=ents.toList.map (·.born)):MSz ents' clock n:=by
 have hb:∀ (l:Array MapEntry),(∀ x,x∈l.toList->x.born<clock)↔∀ b,b∈l.toList.map (·.born)->b<clock:=fun l=>by simp
 refine ⟨?_,?_,by rw [he];exact h.2.2⟩
 · have:=congrArg List.length he
   simp only [List.length_map,Array.length_toList] at this
   rw [this];exact h.1
 · rw [hb,he,<- hb];exact h.2.1
theorem MSz.sub {ents ents':Array MapEntry} {clock n m:Nat} (h:MSz ents clock n) (hs:ents'.size=m) (he:ents'.toList.Sublist ents.toList):MSz ents' clock m:=
 ⟨hs,fun x hx=>h.2.1 x (he.subset hx),h.2.2.sublist (he.map _)⟩
section
variable (w:World) (M:Nat->Prop) (L:Locs) (H:AHeap) (S:(List PV->Prop × PV)->Value->Prop)
inductive AVRel:AV->Value->Prop where
 | pv (p:PV) (v:Value):PVRel w M p v->AVRel (.pv p) v
 | nils:AVRel .nils (.slice none 0 0)
 | ptr (key off:Nat) (B:ABlk) (b cap:Nat):hget H key=some B->B.isVar=true->L key=some (b,cap)->AVRel (.ptr key off) (.pointer (some ⟨b,off,none⟩))
 | rsN (key k:Nat):hget H key=some (.row k [])->L key=none->AVRel (.rs key 0) (.slice none 0 0)
 | rs (key hi k:Nat) (es:List PV) (b cap:Nat):hget H key=some (.row k es)->L key=some (b,cap)->hi<=es.length->AVRel (.rs key hi) (.slice (some ⟨b,0,none⟩) hi cap)
 | rv (key lo hi sz k:Nat) (es:List PV) (b cap cap':Nat) (a:Option Addr):hget H key=some (.row k es)->L key=some (b,cap)->lo<=hi->hi<=es.length->hi-lo<=cap'->cap'<=maxLen->
     (lo<hi->a=some ⟨b,lo * sz,none⟩)->AVRel (.rv key lo hi sz) (.slice a (hi-lo) cap')
 | rp (key i off k:Nat) (es:List PV) (b cap:Nat):hget H key=some (.row k es)->L key=some (b,cap)->i<es.length->AVRel (.rp key i off) (.pointer (some ⟨b,i * k+off,none⟩))
 | bufN (key:Nat) (e:TypeId):hget H key=some (.buf e [])->L key=none->AVRel (.bufh key 0) (.slice none 0 0)
 | buf (key:Nat) (e:TypeId) (bs:List UInt8) (b cap:Nat):hget H key=some (.buf e bs)->L key=some (b,cap)->AVRel (.bufh key bs.length) (.slice (some ⟨b,0,none⟩) bs.length cap)
 | mp (key:Nat) (es:List (PV × PV)) (b cap:Nat):hget H key=some (.map es)->L key=some (b,cap)->AVRel (.mp key) (.map (some b))
 | it (key:Nat) (s:List UInt8) (pos b cap:Nat):hget H key=some (.iter s pos)->L key=some (b,cap)->AVRel (.it key) (.pointer (some ⟨b,0,none⟩))
 | agg (cs:List AV) (vs:Array Value):vs.size=cs.length->(∀ i c,cs[i]?=some c->AVRel c (vs.getD i undef))->AVRel (.agg cs) (.agg vs)
 | clo (f:FuncId) (caps:List AV) (vs:Array Value):vs.size=caps.length->(∀ i c,caps[i]?=some c->AVRel c (vs.getD i undef))->AVRel (.clo f caps) (.func (.func f) #[] vs)
 | whnT (v:AV) (x:Value):AVRel v x->AVRel (.whn true v) x
 | whnF (v:AV):AVRel (.whn false v) undef
 | opq (φ:List PV->Prop × PV) (x:Value):S φ x->AVRel (.opq φ) x
 | fix (x:Value):x.oneCell'=true->AVRel (.fix x) x
 | top (x:Value):AVRel .top x
def AV.one:AV->Bool
 | .pv p=>p.one
 | .nils | .ptr .. | .rs .. | .rv .. | .rp .. | .mp .. | .it .. | .bufh .. | .clo .. | .fix _=>true
 | _=>false
def BRel (key:Nat):ABlk->Prop
 | .cells cs=>∃ b cap arr et,L key=some (b,cap)/\w.heap[b]?=some (.cells arr et (0,0))/\arr.size=cs.length/\
     ∀ j c,cs[j]?=some c->AVRel w M L H S c (arr.getD j undef)
 | .typed t cs=>∃ b cap arr,L key=some (b,cap)/\w.heap[b]?=some (.cells arr t (0,0))/\arr.size=cs.length/\
     ∀ j c,cs[j]?=some c->AVRel w M L H S c (arr.getD j undef)
 | .row k es=>0<k/\(∀ e,e∈es->e.width=k)/\match L key with
     | none=>es=[]
     | some (b,cap)=>∃ arr et,w.heap[b]?=some (.cells arr et (0,0))/\arr.size=cap * k/\es.length<=cap/\cap<=maxLen/\
         (∀ i e j c,es[i]?=some e->e.cells[j]?=some c->c.one=true/\PVRel w M c (arr.getD (i * k+j) undef))
 | .obj J=>∃ cs b cap arr et,J cs/\(∀ c,c∈cs->c.one=true)/\L key=some (b,cap)/\w.heap[b]?=some (.cells arr et (0,0))/\arr.size=cs.length/\
     ∀ j c,cs[j]?=some c->PVRel w M c (arr.getD j undef)
 | .map es=>∃ b cap ents clock,L key=some (b,cap)/\w.heap[b]?=some (.map ents clock)/\MSz ents clock es.length/\
     ∀ (i:Nat) (p:PV × PV),es[i]?=some p->∃ e:MapEntry,ents[i]?=some e/\p.2.one=true/\p.2.one=true/\PVRel w M p.1 e.key/\PVRel w M p.2 e.val
 | .iter s pos=>∃ b cap,L key=some (b,cap)/\w.heap[b]?=some (.stringIter ⟨s.toArray⟩ pos)
 | .buf e bs=>match L key with
     | none=>bs=[]
     | some (b,cap)=>∃ arr,w.heap[b]?=some (.cells arr e (0,0))/\arr.size=cap/\bs.length<=cap/\cap<=maxLen/\∀ (i:Nat) (c:UInt8),bs[i]?=some c->arr.getD i undef=.int .u8 c.toNat
end
mutual
/-- The handles of a block forgotten. -/
def AV.kill (κ:Nat):AV->AV
 | .ptr key off=>if key=κ then .top else .ptr key off
 | .rs key hi=>if key=κ then .top else .rs key hi
 | .rv key lo hi sz=>if key=κ then .top else .rv key lo hi sz
 | .rp key i off=>if key=κ then .top else .rp key i off
 | .mp key=>if key=κ then .top else .mp key
 | .it key=>if key=κ then .top else .it key
 | .bufh key n=>if key=κ then .top else .bufh key n
 | .agg cs=>.agg (AV.killL κ cs)
 | .clo f caps=>.clo f (AV.killL κ caps)
 | .whn b v=>.whn b (AV.kill κ v)
 | .pv p=>.pv p
 | .nils=>.nils
 | .opq φ=>.opq φ
 | .fix x=>.fix x
 | .top=>.top
def AV.killL (κ:Nat):List AV->List AV
 | []=>[]
 | c::r=>AV.kill κ c::AV.killL κ r
end
theorem AV.killL_eq (κ:Nat) (cs:List AV):AV.killL κ cs=cs.map (AV.kill κ):=by
 induction cs with
 | nil=>rfl
 | cons c r ih=>simp [AV.killL,ih]
def ABlk.le:ABlk->ABlk->Prop
 | .cells _,.cells _=>True
 | .typed t _,.typed t' _=>t=t'
 | .buf e bs,.buf e' bs'=>e=e'/\bs=bs'
 | .cells _,.obj _=>True
 | .obj _,.cells _=>True
 | .obj _,.obj _=>True
 | .row k es,.row k' es'=>k=k'/\es.length<=es'.length
 | .map _,.map _=>True
 | .iter s _,.iter s' _=>s=s'
 | _,_=>False
theorem ABlk.le_var {B B':ABlk} (h:B.le B') (hv:B.isVar=true):B'.isVar=true:=by
 cases B <;> cases B' <;> first | rfl | exact h.elim | (simp [ABlk.isVar] at hv)
section
variable {w w':World} {M M':Nat->Prop} {L L':Locs} {H H':AHeap} {S S':(List PV->Prop × PV)->Value->Prop}
theorem AVRel.keepKill (κ:Nat) (hk:Keeps w M w' M') (hs:∀ φ x,S φ x->S' φ x)
 (hc:∀ key B,key≠κ->hget H key=some B->∃ B',hget H' key=some B'/\B.le B'/\L' key=L key/\(L key=none->B=B'))
 {v:AV} {x:Value} (h:AVRel w M L H S v x):AVRel w' M' L' H' S' (v.kill κ) x:=by
 induction h with
 | pv p v h=>exact .pv p v (h.keep hk)
 | nils=>exact .nils
 | ptr key off B b cap h1 hv h2=>
   by_cases e:key=κ
   · simp only [AV.kill,e,if_true];exact .top _
   · simp only [AV.kill,e,if_false]
     obtain ⟨B',hB,hle,hL,_⟩:=hc key _ e h1
     exact .ptr key off B' b cap hB (ABlk.le_var hle hv) (hL.trans h2)
 | rsN key k h1 h2=>
   by_cases e:key=κ
   · simp only [AV.kill,e,if_true];exact .top _
   · simp only [AV.kill,e,if_false]
     obtain ⟨B',hB,hle,hL,he⟩:=hc key _ e h1
     rw [<- he h2] at hB
     exact .rsN key k hB (hL.trans h2)
 | rs key hi k es b cap h1 h2 h3=>
   by_cases e:key=κ
   · simp only [AV.kill,e,if_true];exact .top _
   · simp only [AV.kill,e,if_false]
     obtain ⟨B',hB,hle,hL,_⟩:=hc key _ e h1
     cases B' with
     | cells=>exact hle.elim
     | typed=>exact hle.elim
     | buf=>exact hle.elim
     | obj=>exact hle.elim
     | map=>exact hle.elim
     | iter=>exact hle.elim
     | row k' es'=>obtain ⟨rfl,hl⟩:=hle;exact .rs key hi k es' b cap hB (hL.trans h2) (Nat.le_trans h3 hl)
 | rv key lo hi sz k es b cap cap' a h1 h2 h3 h4 h5 h6 h7=>
   by_cases e:key=κ
   · simp only [AV.kill,e,if_true];exact .top _
   · simp only [AV.kill,e,if_false]
     obtain ⟨B',hB,hle,hL,_⟩:=hc key _ e h1
     cases B' with
     | cells=>exact hle.elim
     | typed=>exact hle.elim
     | buf=>exact hle.elim
     | obj=>exact hle.elim
     | map=>exact hle.elim
     | iter=>exact hle.elim
     | row k' es'=>obtain ⟨rfl,hl⟩:=hle;exact .rv key lo hi sz k es' b cap cap' a hB (hL.trans h2) h3 (Nat.le_trans h4 hl) h5 h6 h7
 | rp key i off k es b cap h1 h2 h3=>
   by_cases e:key=κ
   · simp only [AV.kill,e,if_true];exact .top _
   · simp only [AV.kill,e,if_false]
     obtain ⟨B',hB,hle,hL,_⟩:=hc key _ e h1
     cases B' with
     | cells=>exact hle.elim
     | typed=>exact hle.elim
     | buf=>exact hle.elim
     | obj=>exact hle.elim
     | map=>exact hle.elim
     | iter=>exact hle.elim
     | row k' es'=>obtain ⟨rfl,hl⟩:=hle;exact .rp key i off k es' b cap hB (hL.trans h2) (Nat.lt_of_lt_of_le h3 hl)
 | mp key es b cap h1 h2=>
   by_cases e:key=κ
   · simp only [AV.kill,e,if_true];exact .top _
   · simp only [AV.kill,e,if_false]
     obtain ⟨B',hB,hle,hL,_⟩:=hc key _ e h1
     cases B' with
     | map es'=>exact .mp key es' b cap hB (hL.trans h2)
     | _=>exact hle.elim
 | bufN key e h1 h2=>
   by_cases e:key=κ
   · simp only [AV.kill,e,if_true];exact .top _
   · simp only [AV.kill,e,if_false]
     obtain ⟨B',hB,hle,hL,he⟩:=hc key _ e h1
     rw [<- he h2] at hB
     exact .bufN key _ hB (hL.trans h2)
 | buf key e bs b cap h1 h2=>
   by_cases e:key=κ
   · simp only [AV.kill,e,if_true];exact .top _
   · simp only [AV.kill,e,if_false]
     obtain ⟨B',hB,hle,hL,_⟩:=hc key _ e h1
     cases B' with
     | buf e' bs'=>obtain ⟨rfl,rfl⟩:=hle;exact .buf key _ _ b cap hB (hL.trans h2)
     | _=>exact hle.elim
 | it key s pos b cap h1 h2=>
   by_cases e:key=κ
   · simp only [AV.kill,e,if_true];exact .top _
   · simp only [AV.kill,e,if_false]
     obtain ⟨B',hB,hle,hL,_⟩:=hc key _ e h1
     cases B' with
     | iter s' pos'=>exact .it key s' pos' b cap hB (hL.trans h2)
     | _=>exact hle.elim
 | agg cs vs hz _ ih=>
   simp only [AV.kill,AV.killL_eq]
   refine .agg _ _ (by simpa using hz) (fun i c hc'=>?_)
   rw [List.getElem?_map] at hc'
   obtain ⟨d,hd,rfl⟩:=Option.map_eq_some_iff.1 hc'
   exact ih i d hd
 | clo f caps vs hz _ ih=>
   simp only [AV.kill,AV.killL_eq]
   refine .clo _ _ _ (by simpa using hz) (fun i c hc'=>?_)
   rw [List.getElem?_map] at hc'
   obtain ⟨d,hd,rfl⟩:=Option.map_eq_some_iff.1 hc'
   exact ih i d hd
 | whnT v x _ ih=>exact .whnT _ _ ih
 | whnF v=>exact .whnF _
 | opq φ x h=>exact .opq φ x (hs φ x h)
 | fix x h1=>exact .fix x h1
 | top x=>exact .top x
theorem AVRel.keep (hk:Keeps w M w' M') (hs:∀ φ x,S φ x->S' φ x)
 (hc:∀ key B,hget H key=some B->∃ B',hget H' key=some B'/\B.le B'/\L' key=L key/\(L key=none->B=B'))
 {v:AV} {x:Value} (h:AVRel w M L H S v x):AVRel w' M' L' H' S' v x:=by
 induction h with
 | pv p v h=>exact .pv p v (h.keep hk)
 | nils=>exact .nils
 | ptr key off B b cap h1 hv h2=>
   obtain ⟨B',hB,hle,hL,_⟩:=hc key _ h1
   exact .ptr key off B' b cap hB (ABlk.le_var hle hv) (hL.trans h2)
 | rsN key k h1 h2=>
   obtain ⟨B',hB,hle,hL,he⟩:=hc key _ h1
   rw [<- he h2] at hB
   exact .rsN key k hB (hL.trans h2)
 | rs key hi k es b cap h1 h2 h3=>
   obtain ⟨B',hB,hle,hL,_⟩:=hc key _ h1
   cases B' with
   | cells=>exact hle.elim
   | typed=>exact hle.elim
   | buf=>exact hle.elim
   | obj=>exact hle.elim
   | map=>exact hle.elim
   | iter=>exact hle.elim
   | row k' es'=>obtain ⟨rfl,hl⟩:=hle;exact .rs key hi k es' b cap hB (hL.trans h2) (Nat.le_trans h3 hl)
 | rv key lo hi sz k es b cap cap' a h1 h2 h3 h4 h5 h6 h7=>
   obtain ⟨B',hB,hle,hL,_⟩:=hc key _ h1
   cases B' with
   | cells=>exact hle.elim
   | typed=>exact hle.elim
   | buf=>exact hle.elim
   | obj=>exact hle.elim
   | map=>exact hle.elim
   | iter=>exact hle.elim
   | row k' es'=>obtain ⟨rfl,hl⟩:=hle;exact .rv key lo hi sz k es' b cap cap' a hB (hL.trans h2) h3 (Nat.le_trans h4 hl) h5 h6 h7
 | rp key i off k es b cap h1 h2 h3=>
   obtain ⟨B',hB,hle,hL,_⟩:=hc key _ h1
   cases B' with
   | cells=>exact hle.elim
   | typed=>exact hle.elim
   | buf=>exact hle.elim
   | obj=>exact hle.elim
   | map=>exact hle.elim
   | iter=>exact hle.elim
   | row k' es'=>obtain ⟨rfl,hl⟩:=hle;exact .rp key i off k es' b cap hB (hL.trans h2) (Nat.lt_of_lt_of_le h3 hl)
 | mp key es b cap h1 h2=>
   obtain ⟨B',hB,hle,hL,_⟩:=hc key _ h1
   cases B' with
   | map es'=>exact .mp key es' b cap hB (hL.trans h2)
   | _=>exact hle.elim
 | bufN key e h1 h2=>
   obtain ⟨B',hB,hle,hL,he⟩:=hc key _ h1
   rw [<- he h2] at hB
   exact .bufN key _ hB (hL.trans h2)
 | buf key e bs b cap h1 h2=>
   obtain ⟨B',hB,hle,hL,_⟩:=hc key _ h1
   cases B' with
   | buf e' bs'=>obtain ⟨rfl,rfl⟩:=hle;exact .buf key _ _ b cap hB (hL.trans h2)
   | _=>exact hle.elim
 | it key s pos b cap h1 h2=>
   obtain ⟨B',hB,hle,hL,_⟩:=hc key _ h1
   cases B' with
   | iter s' pos'=>exact .it key s' pos' b cap hB (hL.trans h2)
   | _=>exact hle.elim
 | agg cs vs hz _ ih=>exact .agg _ _ hz ih
 | clo f caps vs hz _ ih=>exact .clo _ _ _ hz ih
 | whnT v x _ ih=>exact .whnT _ _ ih
 | whnF v=>exact .whnF _
 | opq φ x h=>exact .opq φ x (hs φ x h)
 | fix x h1=>exact .fix x h1
 | top x=>exact .top x
end
structure ASt where
 ρ:Nat->AV
 H:AHeap
def upd (ρ:Nat->AV) (d:Nat) (v:AV):Nat->AV:=fun t=>if t=d then v else ρ t
def look:List (Nat × AV)->Nat->AV
 | [],_=>.top
 | (i,v)::r,t=>if t=i then v else look r t
abbrev PSpec:=List PV->Prop × PV
abbrev ESpec:=Nat->List AV->ASt->(AV->ASt->Prop)->Prop
abbrev QSpec:=List AV->AHeap->Prop × (AV->Prop)
structure Ctx where
 P:Program
 N:Nat
 Φ:FuncId->PSpec
 Θ:FuncId->Option QSpec
 Ψ:FuncId->Option ESpec
 rows:List Nat
 pins:List Nat:=[]
 outer:Bool:=false
def noSpec:PSpec:=fun _=>(False,default)
def szOf (P:Program) (t:TypeId):Option Nat:=(P.info? t).map (·.size)
def bytesT (P:Program) (t:TypeId):Option Nat:=(P.info? t).map (·.bytes)
def zeroT (P:Program) (t:TypeId):Option Value:=(P.info? t).bind (·.zero)
def isAggD:TypeDesc->Bool
 | .struct _ | .array _ _=>true
 | _=>false
def fieldAt (P:Program) (s:TypeId) (f:Nat):Option (Nat × TypeId):=
 match P.underlying s with
 | some (.struct fs)=>(fs[f]?).map fun x=>(x.offset,x.type)
 | _=>none
def ofV1:Value->AV
 | .int k n=>.pv (.int k n)
 | .bool b=>.pv (.bool b)
 | .string s=>.pv (.str s.data.toList)
 | .nilIface=>.pv .nilI
 | .pointer none=>.pv .nilP
 | .slice none 0 0=>.nils
 | _=>.top
def ofV:Value->AV
 | .agg cs=>.agg (cs.toList.map ofV1)
 | v=>ofV1 v
def opndV (ρ:Nat->AV):Operand->AV
 | .tmp t=>ρ t
 | .const v=>ofV v
 | .func f=>.pv (.fn f [])
 | .global _=>.top
def stripC:AV->Prop
 | .whn b _=>b=true
 | _=>True
def stripV:AV->AV
 | .whn _ v=>v
 | v=>v
def oc (ρ:Nat->AV) (x:Operand):Prop:=stripC (opndV ρ x)
def ox (ρ:Nat->AV) (x:Operand):AV:=stripV (opndV ρ x)
def partL (agg:Bool) (n:Nat) (cs:List PV) (off:Nat):PV:=
 if agg then .agg ((cs.drop off).take n) else cs.getD off default
def partA (agg:Bool) (n:Nat) (cs:List AV) (off:Nat):AV:=
 if agg then .agg ((cs.drop off).take n) else cs.getD off .top
def partP (P:Program) (t:TypeId) (e:PV) (off:Nat):Prop × AV:=
 match (P.underlying t).map isAggD,szOf P t with
 | some g,some n=>(off+n<=e.cells.length/\(g=false->n=1),.pv (partL g n e.cells off))
 | _,_=>(False,.top)
def partC (P:Program) (t:TypeId) (cs:List AV) (off:Nat):Prop × AV:=
 match (P.underlying t).map isAggD,szOf P t with
 | some g,some n=>(off+n<=cs.length/\(g=false->n=1),partA g n cs off)
 | _,_=>(False,.top)
def boxP:List PV->PV
 | [c]=>c
 | cs=>.agg cs
def frz (H:AHeap):Nat->AV->PV
 | _,.pv p=>p
 | _,.nils=>.sl []
 | _,.rs key hi=>match hget H key with
   | some (.row _ es)=>.sl (es.take hi)
   | _=>default
 | _,.rv key lo hi _=>match hget H key with
   | some (.row _ es)=>.sl ((es.take hi).drop lo)
   | _=>default
 | n+1,.agg cs=>.agg (cs.map (frz H n))
 | n+1,.ptr key off=>match hget H key with
   | some (.cells cs)=>.pp (boxP (cs.map (frz H n))) off
   | _=>default
 | n+1,.clo f caps=>.fn f (caps.map (frz H n))
 | _,_=>default
def frzOk (H:AHeap):Nat->AV->Prop
 | _,.pv _=>True
 | _,.nils=>True
 | _,.rs key hi=>match hget H key with
   | some (.row _ es)=>hi<=es.length
   | _=>False
 | _,.rv key lo hi sz=>match hget H key with
   | some (.row k es)=>sz=k/\lo<=hi/\hi<=es.length
   | _=>False
 | n+1,.agg cs=>∀ c,c∈cs->c.one=true/\frzOk H n c
 | n+1,.ptr key _=>match hget H key with
   | some (.cells cs)=>∀ c,c∈cs->c.one=true/\frzOk H n c
   | _=>False
 | n+1,.clo _ caps=>∀ c,c∈caps->frzOk H n c
 | _,_=>False
mutual
/-- No handle stands in it. -/
def AV.free:AV->Bool
 | .pv _ | .nils | .opq _ | .top=>true
 | .agg cs=>AV.freeL cs
 | .clo _ caps=>AV.freeL caps
 | .whn _ v=>AV.free v
 | _=>false
def AV.freeL:List AV->Bool
 | []=>true
 | c::r=>AV.free c&&AV.freeL r
end
def PV.flat1:PV->Bool
 | .bool _ | .int _ _ | .str _ | .nilI | .nilP=>true
 | _=>false
def PV.flat:PV->Bool
 | .tup vs=>vs.all PV.flat1
 | .agg vs=>vs.all PV.flat1
 | p=>p.flat1
def srcA (H:AHeap):AV->Option (List PV)
 | .pv (.sl es)=>some es
 | .pv (.str s)=>some (s.map fun b=>.int .u8 b.toNat)
 | .nils=>some []
 | .rs key hi=>match hget H key with
   | some (.row _ es)=>some (es.take hi)
   | _=>none
 | .rv key lo hi sz=>match hget H key with
   | some (.row k es)=>if sz=k then some ((es.take hi).drop lo) else none
   | _=>none
 | _=>none
def allW (k:Nat) (es:List PV):Prop:=∀ e,e∈es->e.width=k
def keyKind:Option TypeDesc->PV->Bool
 | some (.int k),.int k' _=>k' == k
 | some .string,.str _=>true
 | some .bool,.bool _=>true
 | _,_=>false
def keyEq1:PV->PV->Bool
 | .int _ a,.int _ b=>a == b
 | .str a,.str b=>a == b
 | .bool a,.bool b=>a == b
 | _,_=>false
def keyEqL:List PV->List PV->Bool
 | [],[]=>true
 | x::r,y::s=>keyEq1 x y&&keyEqL r s
 | _,_=>false
def keyEqB:PV->PV->Bool
 | .agg a,.agg b=>keyEqL a b
 | .int _ a,.int _ b=>a == b
 | .str a,.str b=>a == b
 | .bool a,.bool b=>a == b
 | _,_=>false
def flatFs (P:Program):List Field->Nat->List PV->Bool
 | [],_,[]=>true
 | f::fs,i,c::cs=>f.offset == i&&f.name != "_" && keyKind (P.underlying f.type) c&&flatFs P fs (i+1) cs
 | _,_,_=>false
def flatB (P:Program) (t:TypeId) (cs:List PV):Bool:=
 match P.underlying t with
 | some (.struct fs)=>!P.stoodInHeld t&&!P.eqGuardType P.depth t&&flatFs P fs.toList 0 cs
 | some (.array n e)=>n == cs.length&&P.cellsOf e == 1&&(P.info? e).isSome&&!P.eqGuardType P.depth t&&cs.all (keyKind (P.underlying e))
 | _=>false
def flatN (P:Program):List Field->Nat->List PV->Bool
 | [],_,[]=>true
 | [],_,_::_=>false
 | f::fs,i,cs=>f.offset == i&&f.name != "_" &&
   match P.underlying f.type with
   | some (.struct gs)=>!P.stoodInHeld f.type&&((P.info? f.type).isSome&&P.cellsOf f.type == gs.size)&&decide (gs.size<=cs.length)&&flatFs P gs.toList 0 (cs.take gs.size)&&flatN P fs (i+gs.size) (cs.drop gs.size)
   | k=>match cs with
     | []=>false
     | c::r=>keyKind k c&&flatN P fs (i+1) r
def flatD (P:Program) (t:TypeId) (cs:List PV):Bool:=
 flatB P t cs||(match P.underlying t with
  | some (.struct fs)=>!P.stoodInHeld t&&!P.eqGuardType P.depth t&&flatN P fs.toList 0 cs
  | _=>false)
def keyOkB (P:Program) (t:TypeId):PV->Bool
 | .agg cs=>flatB P t cs
 | p=>keyKind (P.underlying t) p
def binI (op:BinOp) (k:IntKind) (a b:Int):Prop × PV:=
 match op with
 | .add=>(True,.int k (k.wrap (a+b)))
 | .sub=>(True,.int k (k.wrap (a-b)))
 | .mul=>(True,.int k (k.wrap (a * b)))
 | .quo=>(b≠0,.int k (k.wrap (a.tdiv b)))
 | .rem=>(b≠0,.int k (a.tmod b))
 | .shr=>(b=1,.int k (a / 2))
 | .eql=>(True,.bool (a == b))
 | .neq=>(True,.bool (a != b))
 | .lss=>(True,.bool (decide (a<b)))
 | .leq=>(True,.bool (decide (a<=b)))
 | .gtr=>(True,.bool (decide (b<a)))
 | .geq=>(True,.bool (decide (b<=a)))
 | _=>(False,default)
def binS (op:BinOp) (a b:List UInt8):Prop × PV:=
 match op with
 | .add=>(a.length+b.length<=9223372036854775807,.str (a++b))
 | .eql=>(True,.bool (a == b))
 | .neq=>(True,.bool (!(a == b)))
 | .lss=>(True,.bool (Op.bytesLess a b))
 | .leq=>(True,.bool (Op.bytesLess a b||a == b))
 | .gtr=>(True,.bool (!(Op.bytesLess a b||a == b)))
 | .geq=>(True,.bool (!Op.bytesLess a b))
 | _=>(False,default)
def isBoolD:Option TypeDesc->Bool
 | some .bool=>true
 | _=>false
def isIfaceD:Option TypeDesc->Bool
 | some (.interface _)=>true
 | _=>false
def isPtrD:Option TypeDesc->Bool
 | some (.pointer _)=>true
 | _=>false
def eqP (d:Option TypeDesc) (c:Bool):PV->PV->Prop × Bool
 | .bool a,.bool b=>(isBoolD d=true,a == b)
 | .nilI,.nilI=>(isIfaceD d=true/\c=true,true)
 | .nilI,.iface _ _=>(isIfaceD d=true,false)
 | .iface _ _,.nilI=>(isIfaceD d=true,false)
 | .nilP,.nilP=>(isPtrD d=true,true)
 | .nilP,.pp _ _=>(isPtrD d=true,false)
 | .pp _ _,.nilP=>(isPtrD d=true,false)
 | _,_=>(False,false)
def binP (op:BinOp) (d:Option TypeDesc) (c:Bool):PV->PV->Prop × PV
 | .int k a,.int k' b=>(k=k'/\(binI op k a b).1,(binI op k a b).2)
 | .str a,.str b=>binS op a b
 | p,q=>match op with
   | .eql=>((eqP d c p q).1,.bool (eqP d c p q).2)
   | .neq=>((eqP d c p q).1,.bool (!(eqP d c p q).2))
   | _=>(False,default)
def binA (op:BinOp) (d:Option TypeDesc) (c:Bool):AV->AV->Prop × AV
 | .pv p,.pv q=>((binP op d c p q).1,.pv (binP op d c p q).2)
 | _,_=>(False,.top)
def binT (P:Program) (op:BinOp) (t:TypeId) (c:Bool):AV->AV->Prop × AV
 | .pv (.agg a),.pv (.agg b)=>(flatD P t a=true/\flatD P t b=true/\(op=.eql\/op=.neq),.pv (.bool (match op with | .neq=>!keyEqL a b | _=>keyEqL a b)))
 | v,w=>binA op (P.underlying t) c v w
def isC:Operand->Bool
 | .const _=>true
 | _=>false
def unP (op:UnOp):PV->Prop × PV
 | .bool b=>(op=.not,.bool (!b))
 | .int k n=>(op=.neg,.int k (k.wrap (0-n)))
 | _=>(False,default)
def unA (op:UnOp):AV->Prop × AV
 | .pv p=>((unP op p).1,.pv (unP op p).2)
 | _=>(False,.top)
def pickA (ρ:Nat->AV) (c a b:Operand):Prop × AV:=
 match ox ρ c,ox ρ a,ox ρ b with
 | .pv (.bool t),.pv (.bool x),.pv (.bool y)=>(oc ρ c/\(t=true->oc ρ a)/\(t=false->oc ρ b),.pv (.bool (bif t then x else y)))
 | .pv (.bool true),.pv (.bool x),_=>(oc ρ c/\oc ρ a,.pv (.bool x))
 | .pv (.bool false),_,.pv (.bool y)=>(oc ρ c/\oc ρ b,.pv (.bool y))
 | _,_,_=>(False,.top)
def convP (src dst:Option TypeDesc):PV->Prop × PV
 | .int _ n=>match src,dst with
   | some _,some (.int k)=>(True,.int k (k.wrap n))
   | _,_=>(False,default)
 | .str s=>match src,dst with
   | some .string,some .string=>(True,.str s)
   | _,_=>(False,default)
 | _=>(False,default)
def isStrV:AV->Bool
 | .pv (.str _)=>true
 | _=>false
def isU8:PV->Bool
 | .int .u8 _=>true
 | _=>false
def toByte:PV->UInt8
 | .int _ n=>UInt8.ofNat n.toNat
 | _=>0
def isByteD:Option TypeDesc->Bool
 | some (.int .u8)=>true
 | _=>false
def convA (P:Program) (H:AHeap) (src dst:TypeId) (v:AV):Prop × AV:=
 match P.underlying src,P.underlying dst with
 | some (.slice e),some .string=>match srcA H v with
   | some es=>(isByteD (P.underlying e)=true/\isStrV v=false/\es.all isU8=true,.pv (.str (es.map toByte)))
   | none=>(False,.top)
 | ds,dd=>match v with
   | .pv p=>((convP ds dd p).1,.pv (convP ds dd p).2)
   | _=>(False,.top)
def extractA (i:Nat):AV->Prop × AV
 | .pv (.tup vs)=>(i<vs.length,.pv (vs.getD i default))
 | _=>(False,.top)
def fieldV (P:Program) (t:TypeId) (f:Nat) (x:AV):Prop × AV:=
 match fieldAt P t f,x with
 | some (off,ft),.pv (.agg cs)=>partP P ft (.agg cs) off
 | some (off,ft),.agg cs=>partC P ft cs off
 | _,_=>(False,.top)
def addOff (n:Nat):AV->Prop × AV
 | .ptr key off=>(True,.ptr key (off+n))
 | .rp key i off=>(True,.rp key i (off+n))
 | .pv (.pp e off)=>(True,.pv (.pp e (off+n)))
 | _=>(False,.top)
def fieldAddrA (P:Program) (t:TypeId) (f:Nat) (x:AV):Prop × AV:=
 match fieldAt P t f with
 | some (off,ft)=>((addOff off x).1/\(szOf P ft).isSome/\szOf P ft≠some 0,(addOff off x).2)
 | none=>(False,.top)
def indexAddrA (P:Program) (H:AHeap) (t:TypeId) (x i:AV):Prop × AV:=
 match P.underlying t,x,i with
 | some (.slice e),.pv (.sl es),.pv (.int _ n)=>(0<=n/\n<es.length/\szOf P e=some (PV.nth es n.toNat).width,.pv (.pp (PV.nth es n.toNat) 0))
 | some (.slice e),.rs key hi,.pv (.int _ n)=>match hget H key with
   | some (.row k _)=>(0<=n/\n<hi/\szOf P e=some k,.rp key n.toNat 0)
   | _=>(False,.top)
 | some (.slice e),.rv key lo hi sz,.pv (.int _ n)=>match hget H key with
   | some (.row k _)=>(sz=k/\0<=n/\n<(hi:Int)-lo/\szOf P e=some k,.rp key (lo+n.toNat) 0)
   | _=>(False,.top)
 | some (.array len e),y,.pv (.int _ n)=>match szOf P e with
   | some sz=>(0<=n/\n<len/\(addOff (n.toNat * sz) y).1,(addOff (n.toNat * sz) y).2)
   | none=>(False,.top)
 | _,_,_=>(False,.top)
def indexA (P:Program) (t:TypeId) (x i:AV):Prop × AV:=
 match P.underlying t,x,i with
 | some .string,.pv (.str s),.pv (.int _ n)=>(0<=n/\n<s.length,.pv (.int .u8 (s.getD n.toNat 0).toNat))
 | some (.array len e),.pv (.agg cs),.pv (.int _ n)=>match szOf P e with
   | some sz=>(0<=n/\n<len/\(partP P e (.agg cs) (n.toNat * sz)).1,(partP P e (.agg cs) (n.toNat * sz)).2)
   | none=>(False,.top)
 | some (.array len e),.agg cs,.pv (.int _ n)=>match szOf P e with
   | some sz=>(0<=n/\n<len/\(partC P e cs (n.toNat * sz)).1,(partC P e cs (n.toNat * sz)).2)
   | none=>(False,.top)
 | _,_,_=>(False,.top)
def loadA (P:Program) (H:AHeap) (t:TypeId):AV->Prop × AV
 | .ptr key off=>match hget H key with
   | some (.cells cs)=>partC P t cs off
   | _=>(False,.top)
 | .rp key i off=>match hget H key with
   | some (.row _ es)=>(i<es.length/\(partP P t (PV.nth es i) off).1,(partP P t (PV.nth es i) off).2)
   | _=>(False,.top)
 | .pv (.pp e off)=>partP P t e off
 | _=>(False,.top)
def nilCheckA:AV->Prop × AV
 | .ptr key off=>(True,.ptr key off)
 | .rp key i off=>(True,.rp key i off)
 | .pv (.pp e off)=>(True,.pv (.pp e off))
 | .pv (.fn f cs)=>(True,.pv (.fn f cs))
 | .clo f cs=>(True,.clo f cs)
 | _=>(False,.top)
def natOf:Option AV->Nat->Option Int
 | none,d=>some d
 | some (.pv (.int _ n)),_=>some n
 | _,_=>none
def sliceA (P:Program) (t:TypeId) (x:AV) (lo hi mx:Option AV):Prop × AV:=
 match P.underlying t,x,mx with
 | some .string,.pv (.str s),none=>match natOf lo 0,natOf hi s.length with
   | some l,some h=>(0<=l/\l<=h/\h<=s.length,.pv (.str ((s.take h.toNat).drop l.toNat)))
   | _,_=>(False,.top)
 | some (.slice e),.pv (.sl es),none=>match natOf lo 0,natOf hi es.length with
   | some l,some h=>(0<=l/\l<=h/\h<=es.length/\(szOf P e).isSome/\(∀ p,p∈es->szOf P e=some p.width),.pv (.sl ((es.take h.toNat).drop l.toNat)))
   | _,_=>(False,.top)
 | some (.slice e),.nils,none=>match natOf lo 0,natOf hi 0 with
   | some l,some h=>(l=0/\h=0/\(szOf P e).isSome,.pv (.sl []))
   | _,_=>(False,.top)
 | some (.slice e),.rs key n,none=>match lo with
   | none=>match natOf hi n with
     | some h=>(0<=h/\h<=n/\(szOf P e).isSome,.rs key h.toNat)
     | none=>(False,.top)
   | some _=>match natOf lo 0,natOf hi n,szOf P e with
     | some l,some h,some sz=>(0<=l/\l<=h/\h<=n/\0<n,.rv key l.toNat h.toNat sz)
     | _,_,_=>(False,.top)
 | _,_,_=>(False,.top)
def isStrD:Option TypeDesc->Bool
 | some .string=>true
 | _=>false
def isSliceD:Option TypeDesc->Bool
 | some (.slice _)=>true
 | _=>false
def lenA (d:Option TypeDesc) (H:AHeap):AV->Prop × AV
 | .pv (.str s)=>(isStrD d=true,.pv (.int .i64 s.length))
 | .pv (.sl es)=>(isSliceD d=true,.pv (.int .i64 es.length))
 | .nils=>(isSliceD d=true,.pv (.int .i64 0))
 | .rs key hi=>match hget H key with
   | some (.row _ _)=>(isSliceD d=true,.pv (.int .i64 hi))
   | _=>(False,.top)
 | .rv key lo hi _=>match hget H key with
   | some (.row _ _)=>(isSliceD d=true,.pv (.int .i64 ((hi-lo:Nat):Int)))
   | _=>(False,.top)
 | _=>(False,.top)
def foldI (pick:Int->Int->Int) (k:IntKind):Int->List AV->Option (IntKind × Int)
 | a,[]=>some (k,a)
 | a,.pv (.int _ b)::r=>foldI pick k (pick a b) r
 | _,_=>none
def minmaxA (pick:Int->Int->Int):List AV->Prop × AV
 | .pv (.int k a)::r=>match foldI pick k a r with
   | some (k,a)=>(True,.pv (.int k a))
   | none=>(False,.top)
 | _=>(False,.top)
def ifaceA (P:Program) (t:TypeId):AV->Prop × AV
 | .pv p=>(match P.underlying t with | some (.interface _)=>False | some _=>True | none=>False,.pv (.iface t p))
 | _=>(False,.top)
def pvL:List AV->Option (List PV)
 | []=>some []
 | .pv p::r=>(pvL r).map (p:: ·)
 | _::_=>none
def makeFuncA (H:AHeap) (fn:Fn) (first caps:List AV):Prop × AV:=
 match fn,first with
 | .func f,[]=>match pvL caps with
   | some ps=>(True,.pv (.fn f ps))
   | none=>(True,.clo f caps)
 | .func f,x::r=>match caps with
   | []=>(AV.freeL (x::r)=true/\∀ a,a∈x::r->frzOk H 4 a,.pv (.mv f ((x::r).map (frz H 4))))
   | _::_=>(False,.top)
 | _,_=>(False,.top)
def putL:Nat->List AV->List AV->List AV
 | _,[],cs=>cs
 | off,v::vs,cs=>putL (off+1) vs (cs.set off v)
def cellsA:AV->List AV
 | .pv (.agg cs)=>cs.map AV.pv
 | .agg cs=>cs
 | v=>[v]
def fillA (place:Nat->Option (Nat × Nat)) (cells:List AV):List (Nat × AV)->Option (List AV)
 | []=>some cells
 | (i,v)::rest=>match place i with
   | none=>none
   | some (off,size)=>
     if (cellsA v).length=size/\off+size<=cells.length then fillA place (putL off (cellsA v) cells) rest else none
def packA (cs:List AV):AV:=
 match pvL cs with
 | some ps=>.pv (.agg ps)
 | none=>.agg cs
def fieldPlaces (P:Program) (fs:List Field):Nat->Option (Nat × Nat):=fun i=>
 match fs[i]? with
 | some f=>(szOf P f.type).map fun n=>(f.offset,n)
 | none=>none
def buildA (P:Program) (t:TypeId) (parts:List (Nat × AV)):Prop × AV:=
 match zeroT P t with
 | some z=>match P.underlying t with
   | some (.struct fs)=>match fillA (fieldPlaces P fs.toList) (cellsA (ofV z)) parts with
     | some cs=>(fs.toList.all (fun f=>(szOf P f.type).isSome)=true/\parts.all (fun x=>(cellsA x.2).all AV.one)=true/\(cellsA (ofV z)).all AV.one=true,packA cs)
     | none=>(False,.top)
   | some (.array _ e)=>match szOf P e with
     | some n=>match fillA (fun i=>some (i * n,n)) (cellsA (ofV z)) parts with
       | some cs=>(parts.all (fun x=>(cellsA x.2).all AV.one)=true/\(cellsA (ofV z)).all AV.one=true,packA cs)
       | none=>(False,.top)
     | none=>(False,.top)
   | _=>(False,.top)
 | none=>(False,.top)
def idxOk:Nat->List Nat->Bool
 | _,[]=>true
 | i,x::r=>(x == i)&&idxOk (i+1) r
def elemOk (H:AHeap) (k:Nat):List AV->Prop
 | []=>True
 | v::r=>(v.free=true/\frzOk H 4 v/\(frz H 4 v).width=k/\(frz H 4 v).cells.all PV.one=true)/\elemOk H k r
def buildSliceA (P:Program) (H:AHeap) (t:TypeId) (len:Nat) (parts:List (Nat × AV)):Prop × AV:=
 match P.underlying t with
 | some (.slice e)=>match szOf P e,zeroT P e with
   | some k,some z=>(idxOk 0 (parts.map (·.1))=true/\parts.length=len/\len * k<=16777216/\0<k/\elemOk H k (parts.map (·.2)),.pv (.sl ((parts.map (·.2)).map (frz H 4))))
   | _,_=>(False,.top)
 | _=>(False,.top)
def packK:AV->AV
 | .agg cs=>match pvL cs with
   | some ps=>bif ps.all PV.one then .pv (.agg ps) else .agg cs
   | none=>.agg cs
 | v=>v
def mget (k:PV):List (PV × PV)->Option PV
 | []=>none
 | (k',v)::r=>if keyEqB k k' then some v else mget k r
def mput (k v:PV):List (PV × PV)->List (PV × PV)
 | []=>[(k,v)]
 | (k',v')::r=>if keyEqB k k' then (k,v)::r else (k',v')::mput k v r
def mdel (k:PV):List (PV × PV)->List (PV × PV)
 | []=>[]
 | (k',v')::r=>if keyEqB k k' then r else (k',v')::mdel k r
def zvP:Value->Option PV
 | .int k n=>some (.int k n)
 | .bool b=>some (.bool b)
 | .string s=>some (.str s.data.toList)
 | .slice none 0 0=>some (.sl [])
 | _=>none
def mval (z:PV) (k:PV) (es:List (PV × PV)):PV:=(mget k es).getD z
def lookupA (P:Program) (H:AHeap) (t:TypeId) (m k:AV) (ok:Bool):Prop × AV:=
 match P.underlying t,m,packK k with
 | some (.map kt e),.mp key,.pv kp=>match hget H key,(zeroT P e).bind zvP with
   | some (.map es),some zp=>(keyOkB P kt kp=true/\(∀ p,p∈es->keyOkB P kt p.1=true),.pv (bif ok then .tup [mval zp kp es,.bool (mget kp es).isSome] else mval zp kp es))
   | _,_=>(False,.top)
 | _,_,_=>(False,.top)
def calleeA:AV->Option (FuncId × List AV)
 | .pv (.fn f caps)=>some (f,caps.map AV.pv)
 | .clo f caps=>some (f,caps)
 | _=>none
def callP (C:Ctx) (H:AHeap) (c:AV) (args:List AV):Prop × AV:=
 match c with
 | .opq φ=>((∀ a,a∈args->frzOk H 4 a)/\(φ (args.map (frz H 4))).1/\((φ (args.map (frz H 4))).2.flat=true\/AV.freeL args=true),.pv (φ (args.map (frz H 4))).2)
 | .pv (.mv f fs)=>((∀ a,a∈fs.map AV.pv++args->frzOk H 4 a)/\(C.Φ f ((fs.map AV.pv++args).map (frz H 4))).1/\
       ((C.Φ f ((fs.map AV.pv++args).map (frz H 4))).2.flat=true\/AV.freeL (fs.map AV.pv++args)=true),.pv (C.Φ f ((fs.map AV.pv++args).map (frz H 4))).2)
 | c=>match calleeA c with
   | some (f,caps)=>((∀ a,a∈args++caps->frzOk H 4 a)/\(C.Φ f ((args++caps).map (frz H 4))).1/\
       ((C.Φ f ((args++caps).map (frz H 4))).2.flat=true\/AV.freeL (args++caps)=true),.pv (C.Φ f ((args++caps).map (frz H 4))).2)
   | none=>(False,.top)
def allC (ρ:Nat->AV):List Operand->Prop
 | []=>True
 | x::r=>oc ρ x/\allC ρ r
def aopP (C:Ctx) (ρ:Nat->AV) (H:AHeap):Op->Prop × AV
 | .move x | .assign x=>(True,opndV ρ x)
 | .pick c a b=>pickA ρ c a b
 | .binOp op t x y _=>(oc ρ x/\oc ρ y/\(binT C.P op t (isC x||isC y) (ox ρ x) (ox ρ y)).1,(binT C.P op t (isC x||isC y) (ox ρ x) (ox ρ y)).2)
 | .unOp op _ x=>(oc ρ x/\(unA op (ox ρ x)).1,(unA op (ox ρ x)).2)
 | .convert s d x=>(oc ρ x/\(convA C.P H s d (ox ρ x)).1,(convA C.P H s d (ox ρ x)).2)
 | .extract x i=>(oc ρ x/\(extractA i (ox ρ x)).1,(extractA i (ox ρ x)).2)
 | .field t x f=>(oc ρ x/\(fieldV C.P t f (ox ρ x)).1,(fieldV C.P t f (ox ρ x)).2)
 | .fieldAddr t x f=>(oc ρ x/\(fieldAddrA C.P t f (ox ρ x)).1,(fieldAddrA C.P t f (ox ρ x)).2)
 | .indexAddr t x i=>(oc ρ x/\oc ρ i/\(indexAddrA C.P H t (ox ρ x) (ox ρ i)).1,(indexAddrA C.P H t (ox ρ x) (ox ρ i)).2)
 | .index t x i=>(oc ρ x/\oc ρ i/\(indexA C.P t (ox ρ x) (ox ρ i)).1,(indexA C.P t (ox ρ x) (ox ρ i)).2)
 | .load t x=>(oc ρ x/\(loadA C.P H t (ox ρ x)).1,(loadA C.P H t (ox ρ x)).2)
 | .lookup t m k ok=>(oc ρ m/\oc ρ k/\(lookupA C.P H t (ox ρ m) (ox ρ k) ok).1,(lookupA C.P H t (ox ρ m) (ox ρ k) ok).2)
 | .nilCheck x=>(oc ρ x/\(nilCheckA (ox ρ x)).1,(nilCheckA (ox ρ x)).2)
 | .slice t x lo hi mx=>(oc ρ x/\allC ρ (lo.toList++hi.toList++mx.toList)/\(sliceA C.P t (ox ρ x) (lo.map (ox ρ)) (hi.map (ox ρ)) (mx.map (ox ρ))).1,(sliceA C.P t (ox ρ x) (lo.map (ox ρ)) (hi.map (ox ρ)) (mx.map (ox ρ))).2)
 | .makeInterface t x=>(oc ρ x/\(ifaceA C.P t (ox ρ x)).1,(ifaceA C.P t (ox ρ x)).2)
 | .makeFunc fn first caps=>(allC ρ (first.toList++caps.toList)/\(makeFuncA H fn (first.toList.map (ox ρ)) (caps.toList.map (ox ρ))).1,(makeFuncA H fn (first.toList.map (ox ρ)) (caps.toList.map (ox ρ))).2)
 | .build t parts=>(allC ρ (parts.toList.map (·.2))/\(buildA C.P t (parts.toList.map fun x=>(x.1,ox ρ x.2))).1,(buildA C.P t (parts.toList.map fun x=>(x.1,ox ρ x.2))).2)
 | .buildSlice t len parts=>(allC ρ (parts.toList.map (·.2))/\(buildSliceA C.P H t len (parts.toList.map fun x=>(x.1,ox ρ x.2))).1,(buildSliceA C.P H t len (parts.toList.map fun x=>(x.1,ox ρ x.2))).2)
 | .call { callee:=.builtin .len,args,argTypes }=>match args.toList,argTypes.toList with
   | [x],[t]=>(oc ρ x/\(lenA (C.P.underlying t) H (ox ρ x)).1,(lenA (C.P.underlying t) H (ox ρ x)).2)
   | _,_=>(False,.top)
 | .call { callee:=.builtin .min,args, .. }=>(allC ρ args.toList/\(minmaxA (fun a b=>if b<a then b else a) (args.toList.map (ox ρ))).1,(minmaxA (fun a b=>if b<a then b else a) (args.toList.map (ox ρ))).2)
 | .call { callee:=.builtin .max,args, .. }=>(allC ρ args.toList/\(minmaxA (fun a b=>if b>a then b else a) (args.toList.map (ox ρ))).1,(minmaxA (fun a b=>if b>a then b else a) (args.toList.map (ox ρ))).2)
 | .call { callee:=.value f,args, .. }=>(oc ρ f/\allC ρ args.toList/\(callP C H (ox ρ f) (args.toList.map (ox ρ))).1,(callP C H (ox ρ f) (args.toList.map (ox ρ))).2)
 | _=>(False,.top)
structure Glob where
 P:Program
 nG:Nat
 I:World->Prop
 stable:∀ w w':World,I w->(∀ b,b<nG->w'.heap[b]?=w.heap[b]?)->w.heap.size<=w'.heap.size->I w'
structure Ext (M:Nat->Prop) (w w':World):Prop where
 os:w'.os=w.os
 tape:w'.tape=w.tape
 output:w'.output=w.output
 size:w.heap.size<=w'.heap.size
 block:∀ b,b<w.heap.size->¬ M b->w'.heap[b]?=w.heap[b]?
 frozen:∀ a:Addr,a.block<w.heap.size->¬ M a.block->w'.frozen? a=w.frozen? a
theorem Ext.of {M:Nat->Prop} {w w':World} (h1:w'.os=w.os) (h2:w'.tape=w.tape) (h3:w'.output=w.output) (h4:w.heap.size<=w'.heap.size) (h5:∀ b,b<w.heap.size->¬ M b->w'.heap[b]?=w.heap[b]?):Ext M w w':=
 ⟨h1,h2,h3,h4,h5,fun a ha hn=>by unfold World.frozen?;rw [h5 a.block ha hn]⟩
theorem Ext.refl (M:Nat->Prop) (w:World):Ext M w w:=.of rfl rfl rfl (Nat.le_refl _) (fun _ _ _=>rfl)
theorem Ext.trans {M:Nat->Prop} {a b c:World} (h:Ext M a b) (k:Ext M b c):Ext M a c:=
 .of (k.os.trans h.os) (k.tape.trans h.tape) (k.output.trans h.output) (Nat.le_trans h.size k.size) (fun i hi hm=>(k.block i (Nat.lt_of_lt_of_le hi h.size) hm).trans (h.block i hi hm))
theorem Ext.trans' {M M':Nat->Prop} {a b c:World} (h:Ext M a b) (k:Ext M' b c) (hm:∀ i,M' i->M i\/a.heap.size<=i):Ext M a c:=
 .of (k.os.trans h.os) (k.tape.trans h.tape) (k.output.trans h.output) (Nat.le_trans h.size k.size) (fun i hi hn=>
   (k.block i (Nat.lt_of_lt_of_le hi h.size) (fun hM=>(hm i hM).elim hn (fun hge=>absurd hi (Nat.not_lt.2 hge)))).trans (h.block i hi hn))
theorem frozen_alloc (w:World) (c:Array Value) (t:TypeId) (a:Addr):(w.alloc (.cells c t)).frozen? a=w.frozen? a:=by
 unfold World.frozen? World.alloc
 simp only [Array.getElem?_push]
 by_cases h:a.block=w.heap.size
 · rw [if_pos h,h]
   simp
 · rw [if_neg h]
structure Base where
 w0:World
 X:Nat->Prop
 M0:Nat->Prop
 L0:Locs
 ds:List Deferred
def Mut (E:Base) (L:Locs) (H:AHeap) (b:Nat):Prop:=E.X b\/Own L H b
structure Rel (G:Glob) (E:Base) (S:(List PV->Prop × PV)->Value->Prop) (N:Nat) (st:ASt) (a:Array Value) (w:World) (L:Locs):Prop where
 size:a.size=N
 ext:Ext E.M0 E.w0 w
 inv:G.I w
 glob:G.nG<=E.w0.heap.size
 old:∀ b,E.X b->b<E.w0.heap.size/\¬ E.M0 b
 m0:∀ b,E.M0 b->G.nG<=b
 own:∀ key B b cap,hget st.H key=some B->L key=some (b,cap)->¬ E.X b/\G.nG<=b/\(E.M0 b\/E.w0.heap.size<=b)
 inj:∀ k1 k2 B1 B2 b c1 c2,hget st.H k1=some B1->hget st.H k2=some B2->L k1=some (b,c1)->L k2=some (b,c2)->k1=k2
 blk:∀ key B,hget st.H key=some B->BRel w (Mut E L st.H) L st.H S key B
 env:∀ s,AVRel w (Mut E L st.H) L st.H S (st.ρ s) (a.getD s undef)
 fix:∀ κ b c,E.L0 κ=some (b,c)->L κ=some (b,c)/\∃ B,hget st.H κ=some B
def OpYields (P:Program) (o:Oper) (a:Act) (w:World) (R:Value->World->Prop):Prop:=
 match (execOp a.eval o).run P w with
 | .ok (.value v) w'=>R v w'
 | .ok .skip w'=>R undef w'
 | .ok (.enter f args) w'=>Calls P f args w' (fun e w''=>∃ v,e=.returned v/\R v w'')
 | _=>False
theorem OpYields.wp {P:Program} {o:Oper} {a:Act} {w:World} {R:Value->World->Prop} {next:Act->World->Prop} {Q:Exit->Act->World->Prop}
 (h:OpYields P o a w R) (hn:∀ v w',R v w'->next (a.put o.dst v) w'):o.wp P a w next Q:=by
 unfold OpYields at h
 unfold Oper.wp
 generalize (execOp a.eval o).run P w=r at * 
 cases r with
 | halt x w'=>exact h.elim
 | ok n w'=>
   cases n <;> simp only [Oper.upon] at h ⊢
   case value v=>exact hn _ _ h
   case skip=>exact hn _ _ h
   case enter f args=>
    refine h.mono fun e w'' ⟨v,he,hr⟩=>?_
    subst he
    exact hn _ _ hr
theorem OpYields.of_run {P:Program} {o:Oper} {a:Act} {w w':World} {v:Value} {R:Value->World->Prop}
 (h:(execOp a.eval o).run P w=.ok (.value v) w') (hr:R v w'):OpYields P o a w R:=by
 unfold OpYields;rw [h];exact hr
theorem OpYields.mono {P:Program} {o:Oper} {a:Act} {w:World} {R R':Value->World->Prop} (h:OpYields P o a w R) (hr:∀ v w',R v w'->R' v w'):OpYields P o a w R':=by
 unfold OpYields at * 
 generalize (execOp a.eval o).run P w=r at * 
 cases r with
 | halt x w'=>exact h.elim
 | ok n w'=>
   cases n <;> simp only at h ⊢
   case value v=>exact hr _ _ h
   case skip=>exact hr _ _ h
   case enter f args=>exact h.mono fun e w'' ⟨v,he,h'⟩=>⟨v,he,hr _ _ h'⟩
section
variable {w:World} {M:Nat->Prop} {L:Locs} {H:AHeap} {S:(List PV->Prop × PV)->Value->Prop}
theorem ofV1_rel (v:Value):AVRel w M L H S (ofV1 v) v:=by
 unfold ofV1
 split
 · exact .pv _ _ (.int _ _)
 · exact .pv _ _ (.bool _)
 · rename_i s;exact .pv _ _ (by have:=PVRel.str (w:=w) (M:=M) s.data.toList;simpa using this)
 · exact .pv _ _ .nilI
 · exact .pv _ _ .nilP
 · exact .nils
 · exact .top _
theorem ofV_rel (v:Value):AVRel w M L H S (ofV v) v:=by
 unfold ofV
 split
 · rename_i cs
   refine .agg _ _ (by simp) (fun i c hc=>?_)
   rw [List.getElem?_map] at hc
   obtain ⟨d,hd,rfl⟩:=Option.map_eq_some_iff.1 hc
   have:cs.getD i undef=d:=by
    rw [Array.getElem?_toList] at hd
    simp [Array.getD_eq_getD_getElem?,hd]
   rw [this];exact ofV1_rel d
 · exact ofV1_rel _
theorem opnd_rel {ρ:Nat->AV} {a:Act} (he:∀ s,AVRel w M L H S (ρ s) (a.tmps.getD s undef)) (x:Operand):AVRel w M L H S (opndV ρ x) (a.eval x):=by
 cases x with
 | tmp t=>exact he t
 | const v=>exact ofV_rel v
 | global g=>exact .top _
 | func f=>exact .pv _ _ (.fn f [] #[] rfl (by simp))
theorem strip_rel {v:AV} {x:Value} (h:AVRel w M L H S v x) (hc:stripC v):AVRel w M L H S (stripV v) x:=by
 cases v <;> first
  | exact h
  | (rename_i b v'
     have hb:b=true:=hc
     subst hb
     cases h with
     | whnT _ _ h=>exact h)
theorem ox_rel {ρ:Nat->AV} {a:Act} (he:∀ s,AVRel w M L H S (ρ s) (a.tmps.getD s undef)) (x:Operand) (hc:oc ρ x):AVRel w M L H S (ox ρ x) (a.eval x):=
 strip_rel (opnd_rel he x) hc
end
theorem pv_inv {w:World} {M:Nat->Prop} {L:Locs} {H:AHeap} {S:(List PV->Prop × PV)->Value->Prop} {p:PV} {v:Value} (h:AVRel w M L H S (.pv p) v):PVRel w M p v:=by
 cases h;assumption
theorem int_inv {w:World} {M:Nat->Prop} {L:Locs} {H:AHeap} {S:(List PV->Prop × PV)->Value->Prop} {k:IntKind} {n:Int} {v:Value} (h:AVRel w M L H S (.pv (.int k n)) v):v=.int k n:=by
 have:=pv_inv h;cases this;rfl
theorem bool_inv {w:World} {M:Nat->Prop} {L:Locs} {H:AHeap} {S:(List PV->Prop × PV)->Value->Prop} {b:Bool} {v:Value} (h:AVRel w M L H S (.pv (.bool b)) v):v=.bool b:=by
 have:=pv_inv h;cases this;rfl
section
variable {w:World} {M:Nat->Prop} {L:Locs} {H:AHeap} {S:(List PV->Prop × PV)->Value->Prop}
theorem ptr_inv {key off:Nat} {x:Value} (h:AVRel w M L H S (.ptr key off) x):∃ B b cap,hget H key=some B/\B.isVar=true/\L key=some (b,cap)/\x=.pointer (some ⟨b,off,none⟩):=by
 cases h;exact ⟨_,_,_,‹_›,‹_›,‹_›,rfl⟩
theorem rp_inv {key i off:Nat} {x:Value} (h:AVRel w M L H S (.rp key i off) x):
 ∃ k es b cap,hget H key=some (.row k es)/\L key=some (b,cap)/\i<es.length/\x=.pointer (some ⟨b,i * k+off,none⟩):=by
 cases h;exact ⟨_,_,_,_,‹_›,‹_›,‹_›,rfl⟩
theorem it_inv {key:Nat} {x:Value} (h:AVRel w M L H S (.it key) x):∃ s pos b cap,hget H key=some (.iter s pos)/\L key=some (b,cap)/\x=.pointer (some ⟨b,0,none⟩):=by
 cases h;exact ⟨_,_,_,_,‹_›,‹_›,rfl⟩
theorem mp_inv {key:Nat} {x:Value} (h:AVRel w M L H S (.mp key) x):∃ es b cap,hget H key=some (.map es)/\L key=some (b,cap)/\x=.map (some b):=by
 cases h;exact ⟨_,_,_,‹_›,‹_›,rfl⟩
theorem rs_inv {key hi:Nat} {x:Value} (h:AVRel w M L H S (.rs key hi) x):
 (∃ k,hget H key=some (.row k [])/\L key=none/\hi=0/\x=.slice none 0 0)\/
 (∃ k es b cap,hget H key=some (.row k es)/\L key=some (b,cap)/\hi<=es.length/\x=.slice (some ⟨b,0,none⟩) hi cap):=by
 cases h
 · exact .inl ⟨_,‹_›,‹_›,rfl,rfl⟩
 · exact .inr ⟨_,_,_,_,‹_›,‹_›,‹_›,rfl⟩
theorem rv_inv {key lo hi sz:Nat} {x:Value} (h:AVRel w M L H S (.rv key lo hi sz) x):
 ∃ k es b cap cap' a,hget H key=some (.row k es)/\L key=some (b,cap)/\lo<=hi/\hi<=es.length/\hi-lo<=cap'/\cap'<=maxLen/\(lo<hi->a=some ⟨b,lo * sz,none⟩)/\x=.slice a (hi-lo) cap':=by
 cases h;exact ⟨_,_,_,_,_,_,‹_›,‹_›,‹_›,‹_›,‹_›,‹_›,‹_›,rfl⟩
theorem pp_inv {e:PV} {off:Nat} {x:Value} (h:AVRel w M L H S (.pv (.pp e off)) x):
 ∃ (b o:Nat) (val:Nat->Value),x=.pointer (some ⟨b,o+off,none⟩)/\(∀ j c,e.cells[j]?=some c->¬ M b/\c.one=true/\w.cell? ⟨b,o+j,none⟩=some (val j))/\(∀ j c,e.cells[j]?=some c->PVRel w M c (val j)):=by
 have:=pv_inv h
 cases this;exact ⟨_,_,_,rfl,‹_›,‹_›⟩
theorem sl_inv {es:List PV} {x:Value} (h:AVRel w M L H S (.pv (.sl es)) x):
 ∃ (a:Option Addr) (cap k b o:Nat) (val:Nat->Nat->Value),x=.slice a es.length cap/\es.length<=cap/\cap<=maxLen/\(∀ e,e∈es->e.width=k)/\(es≠[]->a=some ⟨b,o,none⟩)/\
  (∀ i e j c,es[i]?=some e->e.cells[j]?=some c->¬ M b/\c.one=true/\w.cell? ⟨b,o+i * k+j,none⟩=some (val i j))/\
  (∀ i e j c,es[i]?=some e->e.cells[j]?=some c->PVRel w M c (val i j)):=by
 have:=pv_inv h
 cases this;exact ⟨_,_,_,_,_,_,rfl,‹_›,‹_›,‹_›,‹_›,‹_›,‹_›⟩
end
section
variable {w:World} {M:Nat->Prop} {L:Locs} {H:AHeap} {S:(List PV->Prop × PV)->Value->Prop} {P:Program}
theorem run_asInt (k:IntKind) (n:Int):(asIntOf (.int k n)).run P w=.ok (k,n) w:=rfl
theorem binI_run {op:BinOp} {k:IntKind} {a b:Int} {t:TypeId} (h:(binI op k a b).1):
 ∃ v,(Go.binOp op t (.int k a) (.int k b)).run P w=.ok v w/\PVRel w M (binI op k a b).2 v:=by
 cases op <;> simp only [binI] at h ⊢
 case add=>exact ⟨_,by simp [Go.binOp,Op.intArith],.int _ _⟩
 case sub=>exact ⟨_,by simp [Go.binOp,Op.intArith],.int _ _⟩
 case mul=>exact ⟨_,by simp [Go.binOp,Op.intArith],.int _ _⟩
 case quo=>exact ⟨_,by simp [Go.binOp,Op.intDiv,h],.int _ _⟩
 case rem=>exact ⟨_,by simp [Go.binOp,Op.intDiv,h],.int _ _⟩
 case shr=>
  subst h
  have e:min (1:Int).toNat k.bits=1:=by cases k <;> decide
  exact ⟨.int k (a / 2),by simp only [Go.binOp,Op.shift,if_neg (show ¬ (1:Int)<0 by decide),e,Int.pow_one,Int.fdiv_eq_ediv_of_nonneg a (show (0:Int)<=2 by decide),Sem.run_pure],.int _ _⟩
 case eql=>exact ⟨_,by simp [Go.binOp,Op.intCmp],.bool _⟩
 case neq=>exact ⟨_,by simp [Go.binOp,Op.intCmp],.bool _⟩
 case lss=>exact ⟨_,by simp [Go.binOp,Op.intCmp],.bool _⟩
 case leq=>exact ⟨_,by simp [Go.binOp,Op.intCmp],.bool _⟩
 case gtr=>exact ⟨_,by simp [Go.binOp,Op.intCmp],.bool _⟩
 case geq=>exact ⟨_,by simp [Go.binOp,Op.intCmp],.bool _⟩
theorem ba_toList (s:List UInt8):(⟨s.toArray⟩:ByteArray).toList=s:=by
 rw [ByteArray.toList_eq]
theorem ba_append (a b:List UInt8):(⟨a.toArray⟩++⟨b.toArray⟩:ByteArray)=⟨(a++b).toArray⟩:=by
 rw [ByteArray.ext_iff];simp [ByteArray.data_append]
theorem binS_run {op:BinOp} {a b:List UInt8} {t:TypeId} (h:(binS op a b).1):
 ∃ v,(Go.binOp op t (.string ⟨a.toArray⟩) (.string ⟨b.toArray⟩)).run P w=.ok v w/\PVRel w M (binS op a b).2 v:=by
 cases op <;> simp only [binS] at h ⊢
 case add=>
  refine ⟨.string ⟨(a++b).toArray⟩,?_,.str _⟩
  have hh:¬ ((a.length+b.length:Nat):Int)>IntKind.i64.max:=by
   have:IntKind.i64.max=9223372036854775807:=by decide
   omega
  have hs:∀ l:List UInt8,(⟨l.toArray⟩:ByteArray).size=l.length:=fun l=>by simp [ByteArray.size]
  simp only [Go.binOp,Op.stringOp,hs,if_neg hh,ba_append,Sem.run_pure]
 case eql=>exact ⟨_,by simp [Go.binOp,Op.stringOp],.bool _⟩
 case neq=>exact ⟨_,by simp [Go.binOp,Op.stringOp],.bool _⟩
 case lss=>exact ⟨_,by simp [Go.binOp,Op.stringOp],.bool _⟩
 case leq=>exact ⟨_,by simp [Go.binOp,Op.stringOp],.bool _⟩
 case gtr=>exact ⟨_,by simp [Go.binOp,Op.stringOp],.bool _⟩
 case geq=>exact ⟨_,by simp [Go.binOp,Op.stringOp],.bool _⟩
end
section
variable {w:World} {M:Nat->Prop} {L:Locs} {H:AHeap} {S:(List PV->Prop × PV)->Value->Prop} {P:Program}
theorem run_szOf {t:TypeId} {n:Nat} (h:szOf P t=some n) (w:World):(sizeOf t).run P w=.ok n w:=by
 unfold szOf at h
 obtain ⟨i,hi,rfl⟩:=Option.map_eq_some_iff.1 h
 simp [sizeOf,typeInfo,hi]
theorem run_isAggD {t:TypeId} {g:Bool} (h:(P.underlying t).map isAggD=some g) (w:World):(isAgg t).run P w=.ok g w:=by
 obtain ⟨d,hd,rfl⟩:=Option.map_eq_some_iff.1 h
 unfold isAgg
 simp only [Sem.run_bind,run_underlying hd,Result.andThen_ok]
 cases d <;> simp [isAggD]
theorem run_loadVar {t:TypeId} {g:Bool} {n b o:Nat} (hg:(P.underlying t).map isAggD=some g) (hn:szOf P t=some n) (h1:g=false->n=1) (val:Nat->Value)
 (hc:∀ j,j<n->w.cell? ⟨b,o+j,none⟩=some (val j)):
 (loadVar t ⟨b,o,none⟩).run P w=.ok (if g then .agg ((List.range n).map val).toArray else val 0) w:=by
 unfold loadVar
 simp only [Sem.run_bind,run_isAggD hg,Result.andThen_ok]
 cases g with
 | true=>
   have:=run_loadCells (P:=P) w ⟨b,o,none⟩ n val (fun j hj=>by rw [Addr.add_lit];exact hc j hj)
   simp only [if_true,Sem.run_bind,run_szOf hn,Result.andThen_ok,this,Sem.run_pure]
 | false=>
   have hn1:=h1 rfl
   subst hn1
   have:=hc 0 (by omega)
   simp only [Nat.add_zero] at this
   simp only [Bool.false_eq_true,if_false,run_load,this]
theorem getD_range (n:Nat) (val:Nat->Value) (j:Nat) (hj:j<n):(((List.range n).map val).toArray).getD j undef=val j:=by
 simp [Array.getD_eq_getD_getElem?,hj]
theorem load_pure {t:TypeId} {e:PV} {off b o:Nat} (val:Nat->Value) (hp:(partP P t e off).1)
 (h1:∀ j c,e.cells[j]?=some c->c.one=true/\w.cell? ⟨b,o+j,none⟩=some (val j)) (h2:∀ j c,e.cells[j]?=some c->PVRel w M c (val j)):
 ∃ v,(loadVar t ⟨b,o+off,none⟩).run P w=.ok v w/\AVRel w M L H S (partP P t e off).2 v:=by
 unfold partP at hp ⊢
 split at hp
 · rename_i g n hg hn
   obtain ⟨hlen,hone⟩:=hp
   refine ⟨_,run_loadVar hg hn hone (fun j=>val (off+j)) (fun j hj=>?_),?_⟩
   · have hlt:off+j<e.cells.length:=by omega
     have:=(h1 (off+j) _ (List.getElem?_eq_getElem hlt)).2
     rw [Nat.add_assoc];exact this
   · refine .pv _ _ ?_
     unfold partL
     cases g with
     | true=>
       simp only [if_true]
       refine .agg _ _ (by simp;omega) (fun c hc=>?_) (fun i c hc=>?_)
       · obtain ⟨i,hi⟩:=List.mem_iff_getElem?.1 hc
         rw [List.getElem?_take] at hi
         split at hi
         · rw [List.getElem?_drop] at hi;exact (h1 _ _ hi).1
         · cases hi
       · rw [List.getElem?_take] at hc
         split at hc
         · rename_i hlt
           rw [List.getElem?_drop] at hc
           rw [getD_range n _ i hlt]
           exact h2 _ _ hc
         · cases hc
     | false=>
       have:=hone rfl
       subst this
       simp only [Bool.false_eq_true,if_false,Nat.add_zero]
       have hlt:off<e.cells.length:=by omega
       have hh:=List.getElem?_eq_getElem hlt
       have he:e.cells.getD off default=e.cells[off]:=by simp [List.getD_eq_getElem?_getD,hh]
       rw [he]
       exact h2 _ _ hh
 · exact hp.elim
theorem load_own {t:TypeId} {cs:List AV} {off b:Nat} {arr:Array Value} {et:TypeId} (hp:(partC P t cs off).1)
 (hb:w.heap[b]?=some (.cells arr et (0,0))) (hs:arr.size=cs.length) (hr:∀ j c,cs[j]?=some c->AVRel w M L H S c (arr.getD j undef)):
 ∃ v,(loadVar t ⟨b,off,none⟩).run P w=.ok v w/\AVRel w M L H S (partC P t cs off).2 v:=by
 unfold partC at hp ⊢
 split at hp
 · rename_i g n hg hn
   obtain ⟨hlen,hone⟩:=hp
   refine ⟨_,run_loadVar hg hn hone (fun j=>arr.getD (off+j) undef) (fun j hj=>?_),?_⟩
   · rw [cell_of_row w b (off+j) arr et _ hb]
     have hlt:off+j<arr.size:=by omega
     simp [Array.getD_eq_getD_getElem?,Array.getElem?_eq_getElem hlt]
   · unfold partA
     cases g with
     | true=>
       simp only [if_true]
       refine .agg _ _ (by simp;omega) (fun i c hc=>?_)
       rw [List.getElem?_take] at hc
       split at hc
       · rename_i hlt
         rw [List.getElem?_drop] at hc
         rw [getD_range n _ i hlt]
         exact hr _ _ hc
       · cases hc
     | false=>
       have:=hone rfl
       subst this
       simp only [Bool.false_eq_true,if_false,Nat.add_zero]
       have hlt:off<cs.length:=by omega
       have hh:=List.getElem?_eq_getElem hlt
       have he:cs.getD off .top=cs[off]:=by simp [List.getD_eq_getElem?_getD,hh]
       rw [he]
       exact hr _ _ hh
 · exact hp.elim
theorem run_part {t:TypeId} {g:Bool} {n off:Nat} {vs:Array Value} (hg:(P.underlying t).map isAggD=some g) (hn:szOf P t=some n) (h1:g=false->n=1) (hl:off+n<=vs.size):
 (part t vs off).run P w=.ok (if g then .agg (vs.extract off (off+n)) else vs.getD off undef) w:=by
 unfold part
 simp only [Sem.run_bind,run_isAggD hg,Result.andThen_ok]
 cases g with
 | true=>simp only [if_true,Sem.run_bind,run_szOf hn,Result.andThen_ok,Sem.run_pure]
 | false=>
   have:=h1 rfl
   subst this
   have hlt:off<vs.size:=by omega
   simp [Array.getD_eq_getD_getElem?,Array.getElem?_eq_getElem hlt]
theorem getD_extract (vs:Array Value) (off n i:Nat) (hi:i<n):(vs.extract off (off+n)).getD i undef=vs.getD (off+i) undef:=by
 simp only [Array.getD_eq_getD_getElem?,Array.getElem?_extract]
 split
 · rfl
 · rename_i h
   have:vs.size<=off+i:=by omega
   simp [Array.getElem?_eq_none this]
theorem part_pure {t:TypeId} {cs:List PV} {off:Nat} {vs:Array Value} (hp:(partP P t (.agg cs) off).1) (hs:vs.size=cs.length) (ho:∀ c,c∈cs->c.one=true)
 (hr:∀ i c,cs[i]?=some c->PVRel w M c (vs.getD i undef)):
 ∃ v,(part t vs off).run P w=.ok v w/\AVRel w M L H S (partP P t (.agg cs) off).2 v:=by
 unfold partP at hp ⊢
 split at hp
 · rename_i g n hg hn
   obtain ⟨hlen,hone⟩:=hp
   simp only [PV.cells] at hlen ⊢
   refine ⟨_,run_part hg hn hone (by omega),.pv _ _ ?_⟩
   unfold partL
   cases g with
   | true=>
     simp only [if_true]
     refine .agg _ _ (by simp;omega) (fun c hc=>ho c (List.mem_of_mem_drop (List.mem_of_mem_take hc))) (fun i c hc=>?_)
     rw [List.getElem?_take] at hc
     split at hc
     · rename_i hlt
       rw [List.getElem?_drop] at hc
       rw [getD_extract vs off n i hlt]
       exact hr _ _ hc
     · cases hc
   | false=>
     have:=hone rfl
     subst this
     simp only [Bool.false_eq_true,if_false]
     have hlt:off<cs.length:=by omega
     have hh:=List.getElem?_eq_getElem hlt
     have he:cs.getD off default=cs[off]:=by simp [List.getD_eq_getElem?_getD,hh]
     rw [he]
     exact hr _ _ hh
 · exact hp.elim
theorem part_own {t:TypeId} {cs:List AV} {off:Nat} {vs:Array Value} (hp:(partC P t cs off).1) (hs:vs.size=cs.length)
 (hr:∀ i c,cs[i]?=some c->AVRel w M L H S c (vs.getD i undef)):
 ∃ v,(part t vs off).run P w=.ok v w/\AVRel w M L H S (partC P t cs off).2 v:=by
 unfold partC at hp ⊢
 split at hp
 · rename_i g n hg hn
   obtain ⟨hlen,hone⟩:=hp
   refine ⟨_,run_part hg hn hone (by omega),?_⟩
   unfold partA
   cases g with
   | true=>
     simp only [if_true]
     refine .agg _ _ (by simp;omega) (fun i c hc=>?_)
     rw [List.getElem?_take] at hc
     split at hc
     · rename_i hlt
       rw [List.getElem?_drop] at hc
       rw [getD_extract vs off n i hlt]
       exact hr _ _ hc
     · cases hc
   | false=>
     have:=hone rfl
     subst this
     simp only [Bool.false_eq_true,if_false]
     have hlt:off<cs.length:=by omega
     have hh:=List.getElem?_eq_getElem hlt
     have he:cs.getD off .top=cs[off]:=by simp [List.getD_eq_getElem?_getD,hh]
     rw [he]
     exact hr _ _ hh
 · exact hp.elim
end
section
variable {w:World} {M:Nat->Prop} {L:Locs} {H:AHeap} {S:(List PV->Prop × PV)->Value->Prop} {P:Program}
theorem isBoolD_eq {d:Option TypeDesc} (h:isBoolD d=true):d=some .bool:=by
 unfold isBoolD at h;split at h <;> simp_all
theorem isIfaceD_eq {d:Option TypeDesc} (h:isIfaceD d=true):∃ ms,d=some (.interface ms):=by
 unfold isIfaceD at h;split at h <;> simp_all
theorem isPtrD_eq {d:Option TypeDesc} (h:isPtrD d=true):∃ e,d=some (.pointer e):=by
 unfold isPtrD at h;split at h <;> simp_all
theorem eqIn_bool (d:Nat) {t:TypeId} (a b:Bool) (h:P.underlying t=some .bool):(Op.equalIn (d+1) t (.bool a) (.bool b)).run P w=.ok (a == b) w:=by
 simp only [Op.equalIn,Sem.run_bind,run_underlying h,Result.andThen_ok];rfl
theorem eqIn_nn (d:Nat) {t:TypeId} {ms:Array (String × TypeId)} (h:P.underlying t=some (.interface ms)):(Op.equalIn (d+1) t .nilIface .nilIface).run P w=.ok true w:=by
 simp only [Op.equalIn,Sem.run_bind,run_underlying h,Result.andThen_ok];rfl
theorem eqIn_ni (d:Nat) {t u:TypeId} {v:Value} {ms:Array (String × TypeId)} (h:P.underlying t=some (.interface ms)):(Op.equalIn (d+1) t .nilIface (.iface u v)).run P w=.ok false w:=by
 simp only [Op.equalIn,Sem.run_bind,run_underlying h,Result.andThen_ok];rfl
theorem eqIn_in (d:Nat) {t u:TypeId} {v:Value} {ms:Array (String × TypeId)} (h:P.underlying t=some (.interface ms)):(Op.equalIn (d+1) t (.iface u v) .nilIface).run P w=.ok false w:=by
 simp only [Op.equalIn,Sem.run_bind,run_underlying h,Result.andThen_ok];rfl
theorem eqIn_pn (d:Nat) {t e:TypeId} {b:Option Addr} (h:P.underlying t=some (.pointer e)):(Op.equalIn (d+1) t (.pointer none) (.pointer b)).run P w=.ok b.isNone w:=by
 simp only [Op.equalIn,Sem.run_bind,run_underlying h,Result.andThen_ok];rfl
theorem eqIn_np (d:Nat) {t e:TypeId} {b:Addr} (h:P.underlying t=some (.pointer e)):(Op.equalIn (d+1) t (.pointer (some b)) (.pointer none)).run P w=.ok false w:=by
 simp only [Op.equalIn,Sem.run_bind,run_underlying h,Result.andThen_ok];rfl
theorem eqP_run {t:TypeId} {c:Bool} {p q:PV} {x y:Value} (h:(eqP (P.underlying t) c p q).1) (hx:PVRel w M p x) (hy:PVRel w M q y):
 (Op.equal t x y).run P w=.ok (eqP (P.underlying t) c p q).2 w/\(∀ k n,x≠.int k n)/\(∀ s,x≠.string s)/\(∀ k b,x≠.float k b)/\(∀ k a b,x≠.complex k a b)/\(∀ cs,x≠.agg cs)/\
   ((x=.nilIface/\y=.nilIface)->c=true):=by
 unfold eqP at h ⊢
 split at h
 · cases hx;cases hy
   exact ⟨eqIn_bool 9999 _ _ (isBoolD_eq h),by simp,by simp,by simp,by simp,by simp,by simp⟩
 · cases hx;cases hy
   obtain ⟨ms,hm⟩:=isIfaceD_eq h.1
   exact ⟨eqIn_nn 9999 hm,by simp,by simp,by simp,by simp,by simp,fun _=>h.2⟩
 · cases hx;cases hy
   obtain ⟨ms,hm⟩:=isIfaceD_eq h
   exact ⟨eqIn_ni 9999 hm,by simp,by simp,by simp,by simp,by simp,by simp⟩
 · cases hx;cases hy
   obtain ⟨ms,hm⟩:=isIfaceD_eq h
   exact ⟨eqIn_in 9999 hm,by simp,by simp,by simp,by simp,by simp,by simp⟩
 · cases hx;cases hy
   obtain ⟨ms,hm⟩:=isPtrD_eq h
   exact ⟨eqIn_pn 9999 hm,by simp,by simp,by simp,by simp,by simp,by simp⟩
 · cases hx;cases hy
   obtain ⟨ms,hm⟩:=isPtrD_eq h
   exact ⟨eqIn_pn 9999 hm,by simp,by simp,by simp,by simp,by simp,by simp⟩
 · cases hx;cases hy
   obtain ⟨ms,hm⟩:=isPtrD_eq h
   exact ⟨eqIn_np 9999 hm,by simp,by simp,by simp,by simp,by simp,by simp⟩
 · exact h.elim
theorem binP_run {op:BinOp} {t ty:TypeId} {ox oy:Operand} {p q:PV} {x y:Value} (h:(binP op (P.underlying t) (isC ox||isC oy) p q).1) (hx:PVRel w M p x) (hy:PVRel w M q y):
 ∃ v,(do eqGuard op t ox oy x y;Go.binOp op t x y:Sem Value).run P w=.ok v w/\PVRel w M (binP op (P.underlying t) (isC ox||isC oy) p q).2 v:=by
 unfold binP at h ⊢
 split at h
 · rename_i k a k' b
   obtain ⟨rfl,h⟩:=h
   cases hx;cases hy
   obtain ⟨v,hv,hr⟩:=binI_run (w:=w) (M:=M) (P:=P) (t:=t) h
   refine ⟨v,?_,hr⟩
   have hg:(eqGuard op t ox oy (.int k a) (.int k b)).run P w=.ok () w:=by
    unfold eqGuard;cases op <;> simp
   simp only [Sem.run_bind,hg,Result.andThen_ok,hv]
 · rename_i a b
   cases hx;cases hy
   obtain ⟨v,hv,hr⟩:=binS_run (w:=w) (M:=M) (P:=P) (t:=t) h
   refine ⟨v,?_,hr⟩
   have hg:(eqGuard op t ox oy (.string ⟨a.toArray⟩) (.string ⟨b.toArray⟩)).run P w=.ok () w:=by
    unfold eqGuard;cases op <;> simp
   simp only [Sem.run_bind,hg,Result.andThen_ok,hv]
 · have key:∀ (hh:(eqP (P.underlying t) (isC ox||isC oy) p q).1) (op:BinOp) (hop:op=.eql\/op=.neq),(eqGuard op t ox oy x y).run P w=.ok () w:=by
     intro hh op hop
     obtain ⟨_,_,_,_,_,ha,hn⟩:=eqP_run hh hx hy
     unfold eqGuard
     rcases hop with rfl | rfl
     all_goals
      simp only [Bool.not_true,Bool.false_eq_true,if_false]
      split
      · have hc:=hn ⟨rfl,rfl⟩
        cases ox <;> cases oy <;> simp_all [isC]
      · exact absurd rfl (ha _)
      · rfl
   cases op <;> simp only at h <;> try exact h.elim
   case eql=>
    obtain ⟨h1,h2,h3,h4,h5,h6,_⟩:=eqP_run h hx hy
    refine ⟨.bool (eqP (P.underlying t) (isC ox||isC oy) p q).2,?_,.bool _⟩
    simp only [Sem.run_bind,key h .eql (.inl rfl),Result.andThen_ok]
    have:Go.binOp .eql t x y=(do pure (.bool (<- Op.equal t x y))):=by
     cases x <;> first | exact absurd rfl (h2 _ _) | exact absurd rfl (h3 _) | exact absurd rfl (h4 _ _) | exact absurd rfl (h5 _ _ _) | (cases y <;> rfl)
    rw [this]
    simp [h1]
   case neq=>
    obtain ⟨h1,h2,h3,h4,h5,h6,_⟩:=eqP_run h hx hy
    refine ⟨.bool (!(eqP (P.underlying t) (isC ox||isC oy) p q).2),?_,.bool _⟩
    simp only [Sem.run_bind,key h .neq (.inr rfl),Result.andThen_ok]
    have:Go.binOp .neq t x y=(do pure (.bool (!(<- Op.equal t x y)))):=by
     cases x <;> first | exact absurd rfl (h2 _ _) | exact absurd rfl (h3 _) | exact absurd rfl (h4 _ _) | exact absurd rfl (h5 _ _ _) | (cases y <;> rfl)
    rw [this]
    simp [h1]
theorem unP_run {op:UnOp} {p:PV} {x:Value} (h:(unP op p).1) (hx:PVRel w M p x):∃ v,(Op.unary op x).run P w=.ok v w/\PVRel w M (unP op p).2 v:=by
 unfold unP at h ⊢
 split at h
 · cases hx
   have h:op=.not:=h
   subst h
   exact ⟨_,rfl,.bool _⟩
 · cases hx
   have h:op=.neg:=h
   subst h
   exact ⟨_,rfl,.int _ _⟩
 · exact h.elim
theorem convP_run {s d:TypeId} {p:PV} {x:Value} (h:(convP (P.underlying s) (P.underlying d) p).1) (hx:PVRel w M p x):
 ∃ v,(Go.convert s d x).run P w=.ok v w/\PVRel w M (convP (P.underlying s) (P.underlying d) p).2 v:=by
 unfold convP at h ⊢
 split at h
 · split at h
   · rename_i ds k hs hd
     cases hx
     refine ⟨_,?_,.int _ _⟩
     unfold Go.convert
     simp only [Sem.run_bind,run_underlying hs,run_underlying hd,Result.andThen_ok]
     rfl
   · exact h.elim
 · split at h
   · rename_i hs hd
     cases hx
     refine ⟨_,?_,.str _⟩
     unfold Go.convert
     simp only [Sem.run_bind,run_underlying hs,run_underlying hd,Result.andThen_ok]
     rfl
   · exact h.elim
 · exact h.elim
theorem extractA_run {i:Nat} {v:AV} {x:Value} (h:(extractA i v).1) (hx:AVRel w M L H S v x):∃ y,(Instr.extract x i).run P w=.ok y w/\AVRel w M L H S (extractA i v).2 y:=by
 unfold extractA at h ⊢
 split at h
 · rename_i vs
   have hp:=pv_inv hx
   cases hp with
   | tup _ vs' hs hr=>
     have h:i<vs.length:=h
     have hlt:i<vs'.size:=by omega
     refine ⟨vs'.getD i undef,?_,.pv _ _ ?_⟩
     · simp [Instr.extract,Array.getElem?_eq_getElem hlt,Array.getD_eq_getD_getElem?]
     · have hh:=List.getElem?_eq_getElem h
       have he:vs.getD i default=vs[i]:=by simp [List.getD_eq_getElem?_getD,hh]
       simp only [he]
       exact hr _ _ hh
 · exact h.elim
theorem fieldAt_spec {t:TypeId} {f off:Nat} {ft:TypeId} (h:fieldAt P t f=some (off,ft)):∃ fs x,P.underlying t=some (.struct fs)/\fs[f]?=some x/\x.offset=off/\x.type=ft:=by
 unfold fieldAt at h
 split at h
 · rename_i fs hfs
   obtain ⟨x,hx,he⟩:=Option.map_eq_some_iff.1 h
   simp only [Prod.mk.injEq] at he
   exact ⟨fs,x,hfs,hx,he.1,he.2⟩
 · cases h
theorem fieldV_run {t:TypeId} {f:Nat} {v:AV} {x:Value} (h:(fieldV P t f v).1) (hx:AVRel w M L H S v x):∃ y,(Instr.field t x f).run P w=.ok y w/\AVRel w M L H S (fieldV P t f v).2 y:=by
 unfold fieldV at h ⊢
 split at h
 · rename_i off ft cs hf
   obtain ⟨fs,fx,h1,h2,rfl,rfl⟩:=fieldAt_spec hf
   have hp:=pv_inv hx
   cases hp with
   | agg _ vs hs ho hr=>
     obtain ⟨y,hy,hyr⟩:=part_pure (w:=w) (M:=M) (L:=L) (H:=H) (S:=S) h hs ho hr
     refine ⟨y,?_,hyr⟩
     unfold Instr.field
     simp only [Sem.run_bind,run_underlying h1,Result.andThen_ok,h2,asAgg,Sem.run_pure,hy]
 · rename_i off ft cs hf
   obtain ⟨fs,fx,h1,h2,rfl,rfl⟩:=fieldAt_spec hf
   cases hx with
   | agg _ vs hs hr=>
     obtain ⟨y,hy,hyr⟩:=part_own (w:=w) (M:=M) (L:=L) (H:=H) (S:=S) h hs hr
     refine ⟨y,?_,hyr⟩
     unfold Instr.field
     simp only [Sem.run_bind,run_underlying h1,Result.andThen_ok,h2,asAgg,Sem.run_pure,hy]
 · exact h.elim
theorem addOff_rel {n:Nat} {v:AV} {x:Value} (h:(addOff n v).1) (hx:AVRel w M L H S v x):∃ b o,x=.pointer (some ⟨b,o,none⟩)/\AVRel w M L H S (addOff n v).2 (.pointer (some ⟨b,o+n,none⟩)):=by
 unfold addOff at h ⊢
 split at h
 · obtain ⟨B,b,cap,h1,hv,h2,rfl⟩:=ptr_inv hx
   exact ⟨b,_,rfl,.ptr _ _ B b cap h1 hv h2⟩
 · obtain ⟨k,es,b,cap,h1,h2,h3,rfl⟩:=rp_inv hx
   exact ⟨b,_,rfl,by rw [Nat.add_assoc];exact .rp _ _ _ k es b cap h1 h2 h3⟩
 · obtain ⟨b,o,val,rfl,h1,h2⟩:=pp_inv hx
   exact ⟨b,_,rfl,.pv _ _ (by rw [Nat.add_assoc];exact .pp _ _ b o val h1 h2)⟩
 · exact h.elim
theorem fieldAddrA_run {t:TypeId} {f:Nat} {v:AV} {x:Value} (h:(fieldAddrA P t f v).1) (hx:AVRel w M L H S v x):∃ y,(Instr.fieldAt t x f).run P w=.ok y w/\AVRel w M L H S (fieldAddrA P t f v).2 y:=by
 unfold fieldAddrA at h ⊢
 split at h
 · rename_i off ft hf
   obtain ⟨fs,fx,h1,h2,rfl,rfl⟩:=fieldAt_spec hf
   obtain ⟨ha,hsz,hnz⟩:=h
   obtain ⟨b,o,rfl,hr⟩:=addOff_rel ha hx
   obtain ⟨n,hn⟩:=Option.isSome_iff_exists.1 hsz
   refine ⟨_,?_,hr⟩
   have hne:n≠0:=fun e=>hnz (by rw [hn,e])
   unfold Instr.fieldAt
   simp only [Sem.run_bind,run_underlying h1,Result.andThen_ok,h2,Instr.sureAddr,Sem.run_pure,fieldPlace,run_szOf hn,if_neg hne,Addr.add_lit]
 · exact h.elim
end
end Go.AM
