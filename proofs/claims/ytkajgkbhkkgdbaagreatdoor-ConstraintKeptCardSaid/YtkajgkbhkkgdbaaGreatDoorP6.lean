/-
  A part of a proof.
-/
import Derived.Test.YtkajgkbhkkgdbaaGreatDoorP5
import Derived.Test.YtkajgkbhkkgdbaaGreatDoorRB
namespace Go.AM
open Go Go.RowKit Go.Shelf Go.Proofs
set_option maxRecDepth 100000
theorem row_rel {w:World} {X:Nat->Prop} {base:Nat} {e:TypeId} {v:Value} {l:List Int} (h:w.ownsRow base e 1 v l.length (l.map (Value.int .i64))) (hX:∀ b,X b->b<base):PVRel w X (.sl (l.map intV)) v:=by
 rcases h.2 with ⟨rfl,h0⟩ | ⟨g,cap,cur,rfl,hb,hg,hc,hm,hz,ht⟩
 · obtain rfl:=List.length_eq_zero_iff.1 h0
   exact .sl [] none 0 0 0 0 (fun _ _=>undef) (by simp) (by simp [maxLen]) (by simp) (by simp) (by simp) (by simp)
 · have hl:l.length=(l.map intV).length:=by simp
   have key:∀ (i:Nat) (x:Int),l[i]?=some x->cur[i]?=some (Value.int .i64 x):=fun i x hx=>by
    have h1:(l.map (Value.int .i64))[i]?=some (Value.int .i64 x):=by simp [hx]
    rw [<- ht,List.getElem?_take,Nat.mul_one] at h1
    split at h1
    · rw [<- Array.getElem?_toList];exact h1
    · cases h1
   rw [hl]
   refine .sl _ _ _ 1 g 0 (fun i j=>.int .i64 (l.getD i 0)) (by simpa using hc) hm ?_ (fun _=>rfl) ?_ ?_
   · intro p hp
     simp only [List.mem_map] at hp
     obtain ⟨a,_,rfl⟩:=hp
     rfl
   all_goals
    intro i p j c hp hcc
    simp only [List.getElem?_map,Option.map_eq_some_iff] at hp
    obtain ⟨a,ha,rfl⟩:=hp
    have hj:j=0:=by
     simp only [PV.cells,intV] at hcc
     cases j with
     | zero=>rfl
     | succ j=>simp at hcc
    subst hj
    simp only [PV.cells,intV,List.getElem?_cons_zero,Option.some.injEq] at hcc
    subst hcc
   · refine ⟨fun hb'=>absurd (hX _ hb') (by omega),rfl,?_⟩
     simp only [World.cell?,hg,List.getD_eq_getElem?_getD,ha,Option.getD_some]
     simpa using key i a ha
   · simp only [List.getD_eq_getElem?_getD,ha,Option.getD_some]
     exact .int _ _
noncomputable def partsCS:PSpec:=on_s (fun s=>s.length<=1000000000000) (fun s=>.sl ((partsR s).map intV))
theorem w_partsCS:PSound GG 121 partsCS:=by
 refine PSound.of_shelf ⟨_,Tryz.func121,by kernel_rfl,by kernel_rfl⟩ fun args ha X w vs hi hg hx har=>?_
 obtain ⟨s,rfl,h0⟩:=on_s_inv ha
 obtain ⟨v,rfl,hv⟩:=arel1 har
 obtain rfl:=rel_str hv
 refine (partsC_calls s h0 w hi.1.1 hi.1.2).mono ?_
 rintro e w' ⟨v,rfl,hr,hb⟩
 exact ⟨v,rfl,row_rel hr (fun b h=>by have:=hx b h;omega),hb⟩
end Go.AM
