/- The log's frames, as Open walks them. -/
import Derived.Test.YtaalbcfpacpgfaaGreatZaK3
set_option linter.unusedVariables false
set_option linter.unusedSimpArgs false
namespace Go.Proofs.YtaalbcfpacpgfaaGreat
open Go.RowKit Go.Lib Go.Vfs Go.Par Go.Shelf
theorem tw_next {α:Type} (p:α→Bool):∀ (l:List α) (x:α),l[(l.takeWhile p).length]? = some x→p x=false
 | [],x,h=>by simp at h
 | a :: l,x,h=>by
  rw [List.takeWhile_cons] at h
  split at h
  ·rw [List.length_cons,List.getElem?_cons_succ] at h
   exact tw_next p l x h
  ·rename_i hp
   simp at h
   subst h
   simpa using hp
theorem tw_all {α:Type} (p:α→Bool):∀ (l:List α) (x:α),x∈l.takeWhile p→p x=true
 | [],x,h=>by simp at h
 | a :: l,x,h=>by
  rw [List.takeWhile_cons] at h
  split at h
  ·rename_i hp
   rcases List.mem_cons.1 h with h|h
   ·subst h;exact hp
   ·exact tw_all p l x h
  ·simp at h
structure LogCh (d:List UInt8) (g:Nat) (E:Nat→Nat) (ps:List (List UInt8)):Prop where
 zero:E 0=0
 next:∀ k,k < ps.length→frAt (d.drop (E k)) 0=some ⟨g,ps.getD k [],0,E (k+1) - E k⟩∧E k < E (k+1)∧E (k+1)≤d.length
 last:frAt (d.drop (E ps.length)) 0=none∨∃ y,frAt (d.drop (E ps.length)) 0=some y∧y.gen≠g
 le:∀ k,E k≤d.length
 len:ps.length≤d.length+1
theorem logCh (d:List UInt8) (g:Nat):∃ E,LogCh d g E (pays (sameGen g (frs d)))∧E (pays (sameGen g (frs d))).length=endOf (sameGen g (frs d)):=by
 obtain ⟨T,hT⟩:∃ T,T=sameGen g (frs d):=⟨_,rfl⟩
 have hpre:T <+: frs d:=by rw [hT];exact List.takeWhile_prefix _
 have hle:=hpre.length_le
 have hlen:=frs_length d
 have hpl:(pays T).length=T.length:=by simp [pays]
 have htk:∀ k,k≤T.length→T.take k=(frs d).take k:=fun k hk=>by
  have e:=List.prefix_iff_eq_take.1 hpre
  rw [e,List.take_take,Nat.min_eq_left hk]
 have hget:∀ k,k < T.length→(frs d)[k]? = T[k]?:=fun k hk=>by
  have e:=List.prefix_iff_eq_take.1 hpre
  conv=>rhs;rw [e]
  rw [List.getElem?_take_of_lt hk]
 rw [←hT]
 refine ⟨fun k=>endOf (T.take k),⟨rfl,fun k hk=>?_,?_,fun k=>endOf_le,by omega⟩,by simp only;rw [hpl,List.take_length]⟩
 ·rw [hpl] at hk
  have h1:=frs_drop (b:=d) (k:=k) (by omega)
  rw [←htk k (by omega),hget k hk] at h1
  have hx:T[k]? = some T[k]:=List.getElem?_eq_getElem hk
  have hg:T[k].1.gen=g:=by
   have hm:∀ y∈T,y.1.gen=g:=fun y hy=>by
    rw [hT] at hy
    have h2:=tw_all (fun x:FrOf d=>x.1.gen == g) (frs d) y hy
    simpa using h2
   exact hm _ (List.getElem_mem hk)
  have he:endOf (T.take (k+1))=T[k].1.stop:=endOf_take hx
  have hgr:=endOf_grows (b:=d) (k:=k) (x:=T[k]) (by rw [hget k hk];exact hx)
  rw [←htk k (by omega)] at hgr
  rw [hx] at h1
  have hpk:(pays T).getD k []=T[k].1.pay:=by unfold pays;simp [List.getD_eq_getElem?_getD,List.getElem?_map,hx]
  refine ⟨?_,?_,?_⟩
  ·rw [h1,he,hpk,←hg]
   rfl
  ·omega
  ·rw [he];exact (frAt_some T[k].2).2.2.1
 ·rw [hpl]
  have h1:=frs_drop (b:=d) (k:=T.length) hle
  rw [←htk _ (Nat.le_refl _)] at h1
  cases hx:(frs d)[T.length]? with
  | none=>rw [hx] at h1;exact .inl h1
  | some y =>
   rw [hx] at h1
   refine .inr ⟨_,h1,?_⟩
   have h2:=tw_next (fun x:FrOf d=>x.1.gen == g) (frs d) y (by have h3:=hx;rw [hT] at h3;exact h3)
   simpa using h2
structure RLog (m:Nat) (ps:List (List UInt8)) (k:Nat) (v:Value) (us:List Value) (W:World):Prop where
 len:us.length=k
 own:Par.Own W m 24 v us
 cells:∀ i,i < k→SegS (fun b=>m≤b∧b < W.heap.size∧v.ownBlock≠some b) W (us.getD i (.bool false)) (byteCells (ps.getD i []))
theorem RLog.nil (m:Nat) (ps:List (List UInt8)) (W:World):RLog m ps 0 (.slice none 0 0) [] W:=⟨rfl,Par.Own.nil _ _ _,fun i hi=>by omega⟩
theorem RLog.below {m k:Nat} {ps:List (List UInt8)} {v:Value} {us:List Value} {W W':World} (h:RLog m ps k v us W) (hb:Below W.heap.size W W'):RLog m ps k v us W' :=
 ⟨h.len,h.own.below hb,fun i hi=>(h.cells i hi).keep fun b ⟨b1,b2,b3⟩=>⟨⟨b1,by have:=hb.size;omega,b3⟩,hb.block b b2⟩⟩
theorem RLog.next {m k:Nat} {ps:List (List UInt8)} {v:Value} {us:List Value} {wr w2 w3:World} (h:RLog m ps k v us wr) (hm:m≤wr.heap.size) {u:Value} (hb:Below wr.heap.size wr w2) (hu:Par.Own w2 wr.heap.size 5 u (byteCells (ps.getD k [])))
  {v':Value} (o:Obj) (hown:Par.Own w3 m 24 v' (us ++ [u])) (hg:(w2.alloc o).grownBy w3 v.ownBlock) (hat:v'.ownBlock=v.ownBlock∨v'.ownBlock=some (w2.heap.size+1)):RLog m ps (k+1) v' (us ++ [u]) w3:=by
 have hz2:=hb.size
 have hv:∀ g,v.ownBlock=some g→m≤g∧g < wr.heap.size:=fun g e=>h.own.lt g e
 have hzg:=hg.size
 have hal:(w2.alloc o).heap.size=w2.heap.size+1:=by simp
 have hv':∀ b,b < wr.heap.size→v.ownBlock≠some b→v'.ownBlock≠some b:=by
  intro b hlt hne e
  rcases hat with e1|e1
  ·exact hne (e1.symm.trans e)
  ·rw [e1] at e;cases e;omega
 refine ⟨by simp [h.len],hown,fun i hi=>?_⟩
 by_cases hik:i < k
 ·rw [show (us ++ [u]).getD i (.bool false)=us.getD i (.bool false) by simp [List.getD_eq_getElem?_getD,List.getElem?_append,h.len,hik]]
  refine (h.cells i hik).keep fun b ⟨b1,b2,b3⟩=>⟨⟨b1,by omega,hv' b b2 b3⟩,?_⟩
  rw [hg.block b (by omega) (fun e=>b3 e.symm),Below.heap_alloc _ _ _ (by omega),hb.block b b2]
 ·have:i=k:=by omega
  subst this
  rw [show (us ++ [u]).getD i (.bool false)=u by simp [List.getD_eq_getElem?_getD,List.getElem?_append,h.len]]
  have hs:=Own.outS hu (F:=fun k=>k < wr.heap.size) (fun k hk=>hk)
  refine hs.keep fun b ⟨b1,b2⟩=>⟨⟨by omega,by omega,fun e=>?_⟩,?_⟩
  ·rcases hat with e1 | e1
   ·have:=hv b (e1.symm.trans e);omega
   ·rw [e1] at e;cases e;omega
  ·rw [hg.block b (by omega) (fun e=>by have:=hv b e.symm;omega),Below.heap_alloc _ _ _ (by omega)]
theorem RLog.set {m k:Nat} {ps:List (List UInt8)} {v:Value} {us:List Value} {W:World} (h:RLog m ps k v us W) (a:Addr) (ha:a.block < m) (x:Value):RLog m ps k v us (W.setCell a x):=by
 have hne:v.ownBlock≠some a.block:=fun e=>by have:=h.own.lt _ e;omega
 refine ⟨h.len,ownsRow_setCell_other h.own hne x,fun i hi=>(h.cells i hi).keep fun b ⟨b1,b2,b3⟩=>⟨⟨b1,by simpa [World.setCell] using b2,b3⟩,Below.heap_setCell _ _ _ _ (fun e=>by omega)⟩⟩
theorem RLog.rows {m k:Nat} {ps:List (List UInt8)} {v:Value} {us:List Value} {W:World} (h:RLog m ps k v us W) (hk:k=ps.length):RowsAt (fun b=>m≤b∧b < W.heap.size) W v ps:=by
 subst hk
 refine ⟨us,h.len,?_,fun i hi=>(h.cells i hi).keep fun b hb=>⟨⟨hb.1,hb.2.1⟩,rfl⟩⟩
 have:=Own.outS h.own (F:=fun k=>k < m) (fun k hk=>hk)
 exact this.keep fun b hb=>⟨⟨by have:=hb.2;omega,hb.1⟩,rfl⟩
def KpL (w w4 W:World):Prop:=w4.heap.size≤W.heap.size∧∀ b,b < w4.heap.size→b≠w.heap.size+2→W.heap[b]? = w4.heap[b]?
theorem KpL.refl (w w4:World):KpL w w4 w4:=⟨Nat.le_refl _,fun _ _ _=>rfl⟩
theorem KpL.below {w w4 W W':World} (h:KpL w w4 W) (hb:Below w4.heap.size W W'):KpL w w4 W':=⟨by have:=hb.size;have:=h.1;omega,fun b h1 h2=>(hb.block b h1).trans (h.2 b h1 h2)⟩
theorem KpL.set {w w4 W:World} (h:KpL w w4 W) (i:Nat) (x:Value):KpL w w4 (W.setCell ⟨w.heap.size+1+1,i,none⟩ x):=⟨by simpa [World.setCell] using h.1,fun b h1 h2=>(Below.heap_setCell _ _ _ _ (fun e=>h2 e)).trans (h.2 b h1 h2)⟩
end Go.Proofs.YtaalbcfpacpgfaaGreat
