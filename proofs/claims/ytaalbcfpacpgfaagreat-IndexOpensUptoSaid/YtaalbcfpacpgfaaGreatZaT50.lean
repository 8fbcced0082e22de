/- Texts T49 T50 of the proof, joined. -/
import Derived.Test.YtaalbcfpacpgfaaGreatZaTY
set_option linter.unusedVariables false
set_option linter.unusedSimpArgs false
namespace Go.Typ
open Go.RowKit Go.Lib Go.Vfs Go.Par
mutual
def renT (f:Int→Int):Ty→Ty
 | .mk k n s ts=>if k=1 then .mk 1 (f n) ⟨#[]⟩ [] else .mk k 0 s (renL f ts)
def renL (f:Int→Int):List Ty→List Ty
 | []=>[]
 | t :: ts=>renT f t :: renL f ts
end
theorem renL_map (f:Int→Int) (ts:List Ty):renL f ts=ts.map (renT f):=by
 induction ts with
 | nil=>rfl
 | cons t ts ih=>rw [renL,ih,List.map_cons]
theorem renT_eq (f:Int→Int) (T:Ty):renT f T=if T.kind=1 then .mk 1 (f T.num) ⟨#[]⟩ [] else .mk T.kind 0 T.name (T.args.map (renT f)):=by
 obtain ⟨k,n,s,ts⟩:=T;rw [renT,renL_map];rfl
theorem metV_mem (met:List Int) (n:Int):n∈metV met n:=by
 unfold metV;split
 ·assumption
 ·simp
theorem metV_pre (met:List Int) (n:Int):met <+: metV met n:=by
 unfold metV;split
 ·exact List.prefix_refl _
 ·exact List.prefix_append _ _
theorem idxOf_left {n:Int}:∀ {a:List Int},n∈a→∀ b,(a ++ b).idxOf n=a.idxOf n
 | [],h,_=>by simp at h
 | x :: a,h,b=>by
  rw [List.cons_append,List.idxOf_cons,List.idxOf_cons]
  by_cases e:(x == n)=true
  ·rw [e];rfl
  ·simp only [Bool.not_eq_true] at e
   rw [e]
   have hx:¬ n=x:=fun h2=>by rw [h2] at e;simp at e
   simp only [cond_false]
   rw [idxOf_left ((List.mem_cons.1 h).resolve_left hx) b]
theorem idxOf_pre {n:Int} {a L:List Int} (h:n∈a) (hp:a <+: L):L.idxOf n=a.idxOf n:=by
 obtain ⟨b,rfl⟩:=hp;exact idxOf_left h b
theorem idxOf_snoc {n:Int}:∀ {met:List Int},n ∉ met→(met ++ [n]).idxOf n=met.length
 | [],_=>by simp
 | x :: met,h=>by
  have hx:(x == n)=false:=by simpa using fun e=>h (by simp [e])
  rw [List.cons_append,List.idxOf_cons,hx]
  simp only [cond_false,List.length_cons]
  rw [idxOf_snoc (fun h2=>h (by simp [h2]))]
theorem metV_idx (met:List Int) (n:Int):(metV met n).idxOf n=met.idxOf n:=by
 by_cases h:n∈met
 ·unfold metV;rw [if_pos h]
 ·unfold metV;rw [if_neg h,idxOf_new h,idxOf_snoc h]
theorem close_pre (T:Ty):∀ met:List Int,met <+: (closeT T met).2:=by
 induction T using Ty.ind with
 | h T ih =>
  intro met
  rw [closeT_eq]
  split
  ·exact metV_pre _ _
  ·have key:∀ ts:List Ty,(∀ t∈ts,∀ met:List Int,met <+: (closeT t met).2)→∀ met:List Int,met <+: (closeL ts met).2:=by
    intro ts
    induction ts with
    | nil=>intro _ met;rw [closeL];exact List.prefix_refl _
    | cons t ts ih2=>intro h met;rw [closeL];exact (h t (by simp) met).trans (ih2 (fun x hx=>h x (by simp [hx])) _)
   exact key _ (fun t ht=>by obtain ⟨i,hi,rfl⟩:=List.getElem_of_mem ht;exact ih i hi) met
theorem closeL_pre:∀ (ts:List Ty) (met:List Int),met <+: (closeL ts met).2
 | [],met=>by rw [closeL];exact List.prefix_refl _
 | t :: ts,met=>by rw [closeL];exact (close_pre t met).trans (closeL_pre ts _)
theorem close_ren (T:Ty):∀ (met L:List Int),(closeT T met).2 <+: L→(closeT T met).1=renT (fun n=>(L.idxOf n:Int)) T:=by
 induction T using Ty.ind with
 | h T ih =>
  intro met L hL
  rw [renT_eq]
  rw [closeT_eq] at hL ⊢
  split
  ·rename_i hk
   rw [if_pos hk] at hL
   simp only at hL ⊢
   rw [idxOf_pre (metV_mem met T.num) hL,metV_idx]
  ·rename_i hk
   rw [if_neg hk] at hL
   simp only at hL ⊢
   have key:∀ ts:List Ty,(∀ t∈ts,∀ (met L:List Int),(closeT t met).2 <+: L→(closeT t met).1=renT (fun n=>(L.idxOf n:Int)) t)→∀ met:List Int,(closeL ts met).2 <+: L→(closeL ts met).1=ts.map (renT (fun n=>(L.idxOf n:Int))):=by
    intro ts
    induction ts with
    | nil=>intro _ met _;rw [closeL];rfl
    | cons t ts ih2 =>
     intro h met hL
     rw [closeL] at hL ⊢
     simp only at hL ⊢
     rw [List.map_cons,h t (by simp) met L ((closeL_pre ts _).trans hL),ih2 (fun x hx=>h x (by simp [hx])) _ hL]
   rw [key T.args (fun t ht=>by obtain ⟨i,hi,rfl⟩:=List.getElem_of_mem ht;exact ih i hi) met hL]
theorem close_mem (T:Ty):∀ (met:List Int),∀ x∈T.list,x.kind=1→T.args=[]∨¬ T.kind=1→(∀ y∈T.list,y.kind=1→y.args=[])→x.num∈(closeT T met).2:=by
 induction T using Ty.ind with
 | h T ih =>
  intro met x hx hk hT hl
  rw [T.list_eq] at hx
  rw [closeT_eq]
  rcases List.mem_cons.1 hx with rfl|hx
  ·rw [if_pos hk];exact metV_mem _ _
  ·have hk1:¬ T.kind=1:=by
    rcases hT with h|h
    ·rw [h] at hx;simp [listL] at hx
    ·exact h
   rw [if_neg hk1]
   have key:∀ ts:List Ty,(∀ t∈ts,∀ met:List Int,∀ x∈t.list,x.kind=1→x.num∈(closeT t met).2)→∀ met:List Int,∀ x∈listL ts,x.kind=1→x.num∈(closeL ts met).2:=by
    intro ts
    induction ts with
    | nil=>intro _ met x hx;simp [listL] at hx
    | cons t ts ih2 =>
     intro h met x hx hk
     rw [closeL]
     rw [listL] at hx
     rcases List.mem_append.1 hx with hx|hx
     ·exact (closeL_pre ts _).subset (h t (by simp) met x hx hk)
     ·exact ih2 (fun y hy=>h y (by simp [hy])) _ x hx hk
   refine key T.args (fun t ht met x hx hk=>?_) met x hx hk
   have htl:∀ y∈t.list,y∈T.list:=fun y hy=>by rw [T.list_eq];exact List.mem_cons_of_mem _ (mem_listL ht hy)
   obtain ⟨i,hi,rfl⟩:=List.getElem_of_mem ht
   refine ih i hi met x hx hk ?_ (fun y hy=>hl y (htl y hy))
   by_cases h1:T.args[i].kind=1
   ·exact .inl (hl _ (htl _ (by rw [Ty.list_eq];exact List.mem_cons_self)) h1)
   ·exact .inr h1
end Go.Typ
namespace Go.Proofs.YtaalbcfpacpgfaaGreat
open Go.RowKit Go.Lib Go.Vfs Go.Par Go.Typ Go.Shelf
structure Closed (T R:Ty) (L:List Int):Prop where
 right:rightT R=true
 again:closeR R=R
 vars:(closeT R []).2=(List.range L.length).map (fun i:Nat=>(i:Int))
 inTo:instT T R=true
 inFrom:instT R T=true
 leafTo:meetsT (fun _ U=>U.args=[]) T R
 leafFrom:meetsT (fun _ U=>U.args=[]) R T
 len:L.length≤300
end Go.Proofs.YtaalbcfpacpgfaaGreat
