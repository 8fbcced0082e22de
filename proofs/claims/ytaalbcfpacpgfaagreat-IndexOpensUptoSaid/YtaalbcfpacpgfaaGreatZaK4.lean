/- The reference's has; the box of the journal that Open makes. -/
import Derived.Deep.RegionWith
import Derived.Deep.DeepCutAuto
import Derived.BigRegion
import Derived.Test.YtaalbcfpacpgfaaGreatZaK3b
import Derived.Test.YtaalbcfpacpgfaaGreatZaV36
import Derived.Test.YtaalbcfpacpgfaaGreatZaM5
import Derived.Test.YtaalbcfpacpgfaaGreatZaV38
set_option linter.unusedVariables false
set_option linter.unusedSimpArgs false
namespace Go.Proofs.YtaalbcfpacpgfaaGreat
open Go.RowKit Go.Lib Go.Vfs Go.Par Go.Shelf
set_option maxRecDepth 20000 in
set_option maxHeartbeats 2000000 in
theorem rhas_any (st:St) (v:Value) (S:Nat→Prop) (w:World) (hS:∀ b,S b→b < w.heap.size) (h:RefS S w v st.files) (s:List UInt8) (hn:nameB s=true) (hs:s.length≤9223372036854775807) (hd:∀ f∈st.files,f.data.length≤1000000) :
  Calls Tryz.prog 95 #[.agg #[.int .i64 st.power,v],.string ⟨s.toArray⟩] w fun e w'=>e=.returned (.bool (hasF st.files s))∧Below w.heap.size w w':=by
 obtain ⟨A,c,rfl,-⟩:=h.form
 have b1:=Box1.start w st.power (.slice A st.files.length c)
 have HRD:=Lib.hid (rread_any st _ S _ (fun b hb=>by have:=hS b hb;have:=b1.size;omega) (b1.old hS h) s hs hd)
 have HB0:=Lib.hid b1.below
 have hz0:=b1.below.size
 clear b1
 clear hd h
 obtain ⟨B,hB⟩:∃ B,B=hasF st.files s:=⟨_,rfl⟩
 have HB:=Lib.hid hB
 rw [←hB]
 cases hf:findL File.name s st.files with
 | none =>
  rw [stFind_none hn hf] at HRD
  have hb:B=false:=by rw [hB,hasF_find,hf];rfl
  subst hb
  clear hf hB HB
  go_enter Tryz.func95,Tryz.ntmps95
  go_wp2_with fail
  refine HRD.out.mono ?_
  rintro e w1 ⟨hb1,rfl⟩
  have HB1:=Lib.hid (HB0.out.trans (hb1.mono hz0))
  clear hb1 HRD
  go_wp2
  go_ret
  exact ⟨rfl,HB1.out⟩
 | some f =>
  rw [stFind_of hn hf] at HRD
  have hb:B=true:=by rw [hB,hasF_find,hf];rfl
  subst hb
  clear hf hB HB
  go_enter Tryz.func95,Tryz.ntmps95
  go_wp2_with fail
  refine HRD.out.mono ?_
  rintro e w1 ⟨hb1,u,rfl,hu⟩
  obtain ⟨Au,cu,rfl⟩:=hu.form
  have HB1:=Lib.hid (HB0.out.trans (hb1.mono hz0))
  clear hb1 HRD hu
  go_wp2
  go_ret
  exact ⟨rfl,HB1.out⟩
theorem cells_setCell {w:World} {b:Nat} {xs:Array Value} {t:TypeId} (h:w.heap[b]? = some (.cells xs t (0,0))) (i:Nat) (x:Value):(w.setCell ⟨b,i,none⟩ x).heap[b]? = some (.cells (xs.setIfInBounds i x) t (0,0)):=by
 have hlt:=lt_of_block h
 have h':w.heap[b]=.cells xs t (0,0):=by simpa [Array.getElem?_eq_getElem hlt] using h
 show (w.heap.modify b _)[b]? = _
 rw [Array.getElem?_eq_getElem (by simpa using hlt),Array.getElem_modify_self,h']
 rfl
structure RJI (w:World) (pw:Int) (v:Value) (pj:Int) (vj:Value) (gen:Int) (bv rv:Value) (W:World):Prop where
 below:Below w.heap.size w W
 size:w.heap.size+3≤W.heap.size
 h0:W.heap[w.heap.size]? = some (.cells #[.int .i64 pw,v] 33 (0,0))
 h1:W.heap[w.heap.size+1]? = some (.cells #[.int .i64 0,.slice none 0 0,.int .i64 0,.slice none 0 0,.slice none 0 0] 44 (0,0))
 h2:W.heap[w.heap.size+2]? = some (.cells #[.int .i64 pj,vj,.int .i64 gen,bv,rv] 44 (0,0))
section
variable {w W W':World} {pw pj gen:Int} {v vj bv rv:Value}
theorem RJI.go (h:RJI w pw v pj vj gen bv rv W) (hb:Below W.heap.size W W'):RJI w pw v pj vj gen bv rv W':=by
 have hz:=h.size
 have hzz:=hb.size
 exact ⟨h.below.trans (hb.mono (by omega)),by omega,(hb.block _ (by omega)).trans h.h0,(hb.block _ (by omega)).trans h.h1,(hb.block _ (by omega)).trans h.h2⟩
theorem RJI.cells (h:RJI w pw v pj vj gen bv rv W) :
  W.cell? ⟨w.heap.size,0,none⟩=some (.int .i64 pw)∧W.cell? ⟨w.heap.size,1,none⟩=some v ∧
  W.cell? ⟨w.heap.size+1+1,0,none⟩=some (.int .i64 pj)∧W.cell? ⟨w.heap.size+1+1,1,none⟩=some vj∧W.cell? ⟨w.heap.size+1+1,2,none⟩=some (.int .i64 gen)∧W.cell? ⟨w.heap.size+1+1,3,none⟩=some bv∧W.cell? ⟨w.heap.size+1+1,4,none⟩=some rv ∧
  W.frozen? ⟨w.heap.size+1+1,0,none⟩=false∧W.frozen? ⟨w.heap.size+1+1,1,none⟩=false∧W.frozen? ⟨w.heap.size+1+1,2,none⟩=false∧W.frozen? ⟨w.heap.size+1+1,3,none⟩=false∧W.frozen? ⟨w.heap.size+1+1,4,none⟩=false∧W.frozen? ⟨w.heap.size+1,0,none⟩=false∧W.frozen? ⟨w.heap.size+1,1,none⟩=false∧W.frozen? ⟨w.heap.size+1,2,none⟩=false∧W.frozen? ⟨w.heap.size+1,3,none⟩=false∧W.frozen? ⟨w.heap.size+1,4,none⟩=false∧W.cell? ⟨w.heap.size+1,0,none⟩=some (.int .i64 0)∧W.cell? ⟨w.heap.size+1,1,none⟩=some (.slice none 0 0)∧W.cell? ⟨w.heap.size+1,2,none⟩=some (.int .i64 0)∧W.cell? ⟨w.heap.size+1,3,none⟩=some (.slice none 0 0)∧W.cell? ⟨w.heap.size+1,4,none⟩=some (.slice none 0 0):=by
 have h0:=h.h0
 have h1:=h.h1
 have h2:=h.h2
 simp [World.cell?,World.frozen?,h0,h1,h2]
theorem RJI.start (w:World) (pw:Int) (A:Option Addr) (n c:Nat):RJI w pw (.slice A n c) pw (.slice A n c) 0 (.slice none 0 0) (.slice none 0 0)
  (((w.alloc (.cells #[.int .i64 pw,.slice A n c] 33)).alloc (.cells #[.int .i64 0,.slice none 0 0,.int .i64 0,.slice none 0 0,.slice none 0 0] 44)).alloc (.cells #[.int .i64 pw,.slice A n c,.int .i64 0,.slice none 0 0,.slice none 0 0] 44)):=by
 have b1:=box_below w (.cells #[.int .i64 pw,.slice A n c] 33)
 have b2:=box_below (w.alloc (.cells #[.int .i64 pw,.slice A n c] 33)) (.cells #[.int .i64 0,.slice none 0 0,.int .i64 0,.slice none 0 0,.slice none 0 0] 44)
 have b3:=box_below ((w.alloc (.cells #[.int .i64 pw,.slice A n c] 33)).alloc (.cells #[.int .i64 0,.slice none 0 0,.int .i64 0,.slice none 0 0,.slice none 0 0] 44)) (.cells #[.int .i64 pw,.slice A n c,.int .i64 0,.slice none 0 0,.slice none 0 0] 44)
 have e1:(w.alloc (.cells #[.int .i64 pw,.slice A n c] 33)).heap.size=w.heap.size+1:=by simp
 have e2:((w.alloc (.cells #[.int .i64 pw,.slice A n c] 33)).alloc (.cells #[.int .i64 0,.slice none 0 0,.int .i64 0,.slice none 0 0,.slice none 0 0] 44)).heap.size=w.heap.size+2:=by simp
 refine ⟨(b1.trans (b2.mono (by omega))).trans (b3.mono (by omega)),by simp,?_,?_,?_⟩
 ·rw [b3.block _ (by omega),b2.block _ (by omega)];exact heap_alloc_new w _
 ·rw [b3.block _ (by omega),←e1];exact heap_alloc_new _ _
 ·rw [show w.heap.size+2=((w.alloc (.cells #[.int .i64 pw,.slice A n c] 33)).alloc (.cells #[.int .i64 0,.slice none 0 0,.int .i64 0,.slice none 0 0,.slice none 0 0] 44)).heap.size from e2.symm]
  exact heap_alloc_new _ _
theorem RJI.kept (h:RJI w pw v pj vj gen bv rv W) (hk:Kept (fun b=>b=w.heap.size+2) W W') {pj' gen':Int} {vj' bv' rv':Value} (h2:W'.heap[w.heap.size+2]? = some (.cells #[.int .i64 pj',vj',.int .i64 gen',bv',rv'] 44 (0,0))):RJI w pw v pj' vj' gen' bv' rv' W':=by
 have hz:=h.size
 have hks:=hk.size
 exact ⟨h.below.trans (hk.below (by omega) (fun k hk=>by omega)),by omega,(hk.block _ (by omega) (by omega)).trans h.h0,(hk.block _ (by omega) (by omega)).trans h.h1,h2⟩
theorem RJI.files (h:RJI w pw v pj vj gen bv rv W) (pj':Int) (vj':Value):RJI w pw v pj' vj' gen bv rv ((W.setCell ⟨w.heap.size+1+1,0,none⟩ (.int .i64 pj')).setCell ⟨w.heap.size+1+1,1,none⟩ vj'):=by
 refine h.kept (((Kept.refl (fun b=>b=w.heap.size+2) W).setCell (p:=⟨w.heap.size+2,0,none⟩) (.inl rfl) _).setCell (p:=⟨w.heap.size+2,1,none⟩) (.inl rfl) _) ?_
 have h2:=cells_setCell (cells_setCell h.h2 0 (.int .i64 pj')) 1 vj'
 simpa using h2
theorem RJI.base (h:RJI w pw v pj vj gen bv rv W) (g:Int) (u:Value):RJI w pw v pj vj g u rv ((W.setCell ⟨w.heap.size+1+1,2,none⟩ (.int .i64 g)).setCell ⟨w.heap.size+1+1,3,none⟩ u):=by
 refine h.kept (((Kept.refl (fun b=>b=w.heap.size+2) W).setCell (p:=⟨w.heap.size+2,2,none⟩) (.inl rfl) _).setCell (p:=⟨w.heap.size+2,3,none⟩) (.inl rfl) _) ?_
 have h2:=cells_setCell (cells_setCell h.h2 2 (.int .i64 g)) 3 u
 simpa using h2
theorem RJI.far (h:RJI w pw v pj vj gen bv rv W) {n:Nat} (hn:w.heap.size+3≤n) (hb:Below n W W'):RJI w pw v pj vj gen bv rv W':=by
 have hz:=h.size
 have hzz:=hb.size
 exact ⟨h.below.trans (hb.mono (by omega)),by omega,(hb.block _ (by omega)).trans h.h0,(hb.block _ (by omega)).trans h.h1,(hb.block _ (by omega)).trans h.h2⟩
theorem RJI.rest (h:RJI w pw v pj vj gen bv rv W) (u:Value):RJI w pw v pj vj gen bv u (W.setCell ⟨w.heap.size+1+1,4,none⟩ u):=by
 refine h.kept ((Kept.refl (fun b=>b=w.heap.size+2) W).setCell (p:=⟨w.heap.size+2,4,none⟩) (.inl rfl) _) ?_
 have h2:=cells_setCell h.h2 4 u
 simpa using h2
def Mid3 (S:Nat→Prop) (w W:World) (b:Nat):Prop:=S b∨(w.heap.size+3≤b∧b < W.heap.size)
end
theorem RefS.mid3 {S:Nat→Prop} {w W:World} {v:Value} {fs:List File} (h:RefS S W v fs):RefS (Mid3 S w W) W v fs:=h.sub fun b hb=>.inl hb
theorem RefS.mid3N {S:Nat→Prop} {w W W':World} {v:Value} {fs:List File} (h:RefS (New S W W') W' v fs) (hz:w.heap.size+3≤W.heap.size):RefS (Mid3 S w W') W' v fs:=h.sub fun b hb=>by
 rcases hb with hb|hb
 ·exact .inl hb
 ·exact .inr ⟨by omega,hb.2⟩
theorem RefS.mid3K {S:Nat→Prop} {w W W':World} {v:Value} {fs:List File} {F:Nat→Prop} (h:RefS (Mid3 S w W) W v fs) (hS:∀ b,S b→b < w.heap.size) (hz:w.heap.size+3≤W.heap.size) (hk:Kept F W W') (hF:∀ k,F k→w.heap.size≤k∧k < w.heap.size+3):RefS (Mid3 S w W') W' v fs:=h.keep fun b hb=>by
 have hks:=hk.size
 rcases hb with hb|hb
 ·have:=hS b hb
  exact ⟨.inl hb,hk.block b (by omega) (fun hf=>by have:=hF b hf;omega)⟩
 ·exact ⟨.inr ⟨hb.1,by omega⟩,hk.block b hb.2 (fun hf=>by have:=hF b hf;omega)⟩
theorem RefS.mid3B {S:Nat→Prop} {w W W':World} {v:Value} {fs:List File} (h:RefS (Mid3 S w W) W v fs) (hS:∀ b,S b→b < w.heap.size) (hz:w.heap.size+3≤W.heap.size) (hb:Below W.heap.size W W'):RefS (Mid3 S w W') W' v fs:=h.keep fun b hm=>by
 have hbs:=hb.size
 rcases hm with hm|hm
 ·have:=hS b hm
  exact ⟨.inl hm,hb.block b (by omega)⟩
 ·exact ⟨.inr ⟨hm.1,by omega⟩,hb.block b hm.2⟩
theorem setF (w W:World) (a0 a1:Value):Kept (fun b=>b=w.heap.size+2) W ((W.setCell ⟨w.heap.size+1+1,0,none⟩ a0).setCell ⟨w.heap.size+1+1,1,none⟩ a1) :=
 ((Kept.refl (fun b=>b=w.heap.size+2) W).setCell (p:=⟨w.heap.size+2,0,none⟩) (.inl rfl) _).setCell (p:=⟨w.heap.size+2,1,none⟩) (.inl rfl) _
theorem setB (w W:World) (a0 a1:Value):Kept (fun b=>b=w.heap.size+2) W ((W.setCell ⟨w.heap.size+1+1,2,none⟩ a0).setCell ⟨w.heap.size+1+1,3,none⟩ a1) :=
 ((Kept.refl (fun b=>b=w.heap.size+2) W).setCell (p:=⟨w.heap.size+2,2,none⟩) (.inl rfl) _).setCell (p:=⟨w.heap.size+2,3,none⟩) (.inl rfl) _
def Up3 (w W:World) (b:Nat):Prop:=w.heap.size+3≤b∧b < W.heap.size
theorem RowsAt.up {w W W':World} {v:Value} {ls:List (List UInt8)} (h:RowsAt (Up3 w W) W v ls) (hb:Below W.heap.size W W'):RowsAt (Up3 w W') W' v ls:=h.keep fun b hm=>⟨⟨hm.1,by have:=hb.size;have:=hm.2;omega⟩,hb.block b hm.2⟩
theorem RowsAt.upK {w W W':World} {v:Value} {ls:List (List UInt8)} {F:Nat→Prop} (h:RowsAt (Up3 w W) W v ls) (hk:Kept F W W') (hF:∀ k,F k→k < w.heap.size+3):RowsAt (Up3 w W') W' v ls:=h.keep fun b hm=>⟨⟨hm.1,by have:=hk.size;have:=hm.2;omega⟩,hk.block b hm.2 (fun hf=>by have:=hF b hf;have:=hm.1;omega)⟩
def ROPost (w:World) (S:Nat→Prop) (r:St × Except Int (Nat × List (List UInt8) × List (List UInt8))) (e:Ending) (w':World):Prop :=
 ∃ (v' bv rv:Value) (gen er:Int),e=.returned (.tuple #[.agg #[.int .i64 r.1.power,v',.int .i64 gen,bv,rv],.int .i64 er])∧RefS (New S w w') w' v' r.1.files∧Below w.heap.size w w'∧(∃ A m c,bv=.slice A m c)∧(∃ A m c,rv=.slice A m c)∧match r.2 with
  | .error n=>er=n
  | .ok x=>er=0∧gen=(x.1:Nat)∧RowsAt (fun b=>w.heap.size≤b∧b < w'.heap.size) w' bv x.2.1∧RowsAt (fun b=>w.heap.size≤b∧b < w'.heap.size) w' rv x.2.2
theorem ret5 (w W:World) (a0 a1 a2 a3 a4:Value):Kept (fun b=>b=w.heap.size+1) W (((((W.setCell ⟨w.heap.size+1,0,none⟩ a0).setCell ⟨w.heap.size+1,1,none⟩ a1).setCell ⟨w.heap.size+1,2,none⟩ a2).setCell ⟨w.heap.size+1,3,none⟩ a3).setCell ⟨w.heap.size+1,4,none⟩ a4) :=
 (((((Kept.refl (fun b=>b=w.heap.size+1) W).setCell (p:=⟨w.heap.size+1,0,none⟩) (.inl rfl) _).setCell (p:=⟨w.heap.size+1,1,none⟩) (.inl rfl) _).setCell (p:=⟨w.heap.size+1,2,none⟩) (.inl rfl) _).setCell (p:=⟨w.heap.size+1,3,none⟩) (.inl rfl) _).setCell (p:=⟨w.heap.size+1,4,none⟩) (.inl rfl) _
theorem RefS.new3 {S:Nat→Prop} {w W W':World} {v:Value} {fs:List File} (h:RefS (Mid3 S w W) W v fs) (hS:∀ b,S b→b < w.heap.size) (hz:w.heap.size+3≤W.heap.size) (hk:Kept (fun b=>b=w.heap.size+1) W W'):RefS (New S w W') W' v fs:=(h.mid3K hS hz hk (fun k hk=>by omega)).sub fun b hb=>by
 rcases hb with hb|hb
 ·exact .inl hb
 ·exact .inr ⟨by omega,hb.2⟩
section
variable {w W:World} {S:Nat→Prop} {pw:Int} {v:Value} {T:St} {A1 Ab Ar:Option Addr} {n1 c1 nb cb nr cr g:Nat} {base ps:List (List UInt8)}
theorem ro_ok (HJ:RJI w pw v T.power (.slice A1 n1 c1) g (.slice Ab nb cb) (.slice Ar nr cr) W) (hS:∀ b,S b→b < w.heap.size) (HR:RefS (Mid3 S w W) W (.slice A1 n1 c1) T.files) (HB:RowsAt (Up3 w W) W (.slice Ab nb cb) base) (HQ:RowsAt (Up3 w W) W (.slice Ar nr cr) ps) :
  ROPost w S (T,.ok (g,base,ps)) (.returned (.tuple #[.agg #[.int .i64 T.power,.slice A1 n1 c1,.int .i64 g,.slice Ab nb cb,.slice Ar nr cr],.int .i64 0])) (((((W.setCell ⟨w.heap.size+1,0,none⟩ (.int .i64 T.power)).setCell ⟨w.heap.size+1,1,none⟩ (.slice A1 n1 c1)).setCell ⟨w.heap.size+1,2,none⟩ (.int .i64 g)).setCell ⟨w.heap.size+1,3,none⟩ (.slice Ab nb cb)).setCell ⟨w.heap.size+1,4,none⟩ (.slice Ar nr cr)):=by
 have hk5:=ret5 w W (.int .i64 T.power) (.slice A1 n1 c1) (.int .i64 g) (.slice Ab nb cb) (.slice Ar nr cr)
 have up:∀ {v:Value} {ls:List (List UInt8)},RowsAt (Up3 w W) W v ls→RowsAt (fun b=>w.heap.size≤b∧b < ((((((W.setCell ⟨w.heap.size+1,0,none⟩ (.int .i64 T.power)).setCell ⟨w.heap.size+1,1,none⟩ (.slice A1 n1 c1)).setCell ⟨w.heap.size+1,2,none⟩ (.int .i64 g)).setCell ⟨w.heap.size+1,3,none⟩ (.slice Ab nb cb)).setCell ⟨w.heap.size+1,4,none⟩ (.slice Ar nr cr))).heap.size) (((((W.setCell ⟨w.heap.size+1,0,none⟩ (.int .i64 T.power)).setCell ⟨w.heap.size+1,1,none⟩ (.slice A1 n1 c1)).setCell ⟨w.heap.size+1,2,none⟩ (.int .i64 g)).setCell ⟨w.heap.size+1,3,none⟩ (.slice Ab nb cb)).setCell ⟨w.heap.size+1,4,none⟩ (.slice Ar nr cr)) v ls:=fun h=>(RowsAt.upK h hk5 (fun k hk=>by omega)).keep fun b hb=>⟨⟨by have:=hb.1;omega,hb.2⟩,rfl⟩
 exact ⟨_,_,_,_,_,rfl,RefS.new3 HR hS HJ.size hk5,HJ.below.trans (hk5.below (by have:=HJ.size;omega) (fun k hk=>by omega)),⟨_,_,_,rfl⟩,⟨_,_,_,rfl⟩,rfl,rfl,up HB,up HQ⟩
theorem ro_er (er:Int) (HJ:RJI w pw v T.power (.slice A1 n1 c1) g (.slice Ab nb cb) (.slice Ar nr cr) W) (hS:∀ b,S b→b < w.heap.size) (HR:RefS (Mid3 S w W) W (.slice A1 n1 c1) T.files) :
  ROPost w S (T,.error er) (.returned (.tuple #[.agg #[.int .i64 T.power,.slice A1 n1 c1,.int .i64 g,.slice Ab nb cb,.slice Ar nr cr],.int .i64 er])) (((((W.setCell ⟨w.heap.size+1,0,none⟩ (.int .i64 T.power)).setCell ⟨w.heap.size+1,1,none⟩ (.slice A1 n1 c1)).setCell ⟨w.heap.size+1,2,none⟩ (.int .i64 g)).setCell ⟨w.heap.size+1,3,none⟩ (.slice Ab nb cb)).setCell ⟨w.heap.size+1,4,none⟩ (.slice Ar nr cr)):=by
 have hk5:=ret5 w W (.int .i64 T.power) (.slice A1 n1 c1) (.int .i64 g) (.slice Ab nb cb) (.slice Ar nr cr)
 exact ⟨_,_,_,_,_,rfl,RefS.new3 HR hS HJ.size hk5,HJ.below.trans (hk5.below (by have:=HJ.size;omega) (fun k hk=>by omega)),⟨_,_,_,rfl⟩,⟨_,_,_,rfl⟩,rfl⟩
end
theorem open1_find (st:St) (t:List UInt8) (ht:t≠nNext):findL File.name t (open1 st).1.files=findL File.name t st.files:=by
 unfold open1
 split
 ·unfold stRemove
  split
  ·rfl
  ·unfold doSt
   split
   ·rfl
   ·exact findL_dropL_ne ht _
 ·rfl
theorem open1_bounds (st:St) (hp:st.power≤9223372036854775807) (hl:st.files.length≤900000) (hd:∀ f∈st.files,f.data.length≤800000):(open1 st).1.power≤9223372036854775807∧(open1 st).1.files.length≤900000∧∀ f∈(open1 st).1.files,f.data.length≤1000000:=by
 have hd1:∀ f∈st.files,f.data.length≤1000000:=fun f hf=>by have:=hd f hf;omega
 unfold open1
 split
 ·unfold stRemove
  split
  ·exact ⟨hp,hl,hd1⟩
  ·unfold doSt
   split
   ·exact ⟨hp,hl,hd1⟩
   ·refine ⟨?_,?_,fun f hf=>hd1 f (mem_dropL.1 hf).1⟩
    ·simp only [dec];split <;> omega
    ·refine Nat.le_trans ?_ hl
     unfold dropL
     exact List.length_filter_le _ _
 ·exact ⟨hp,hl,hd1⟩
set_option maxRecDepth 20000 in
set_option maxHeartbeats 4000000 in
theorem open_any (st:St) (hp:st.power≤9223372036854775807) (A:Option Addr) (c:Nat) (S:Nat→Prop) (w:World) (hS:∀ b,S b→b < w.heap.size) (h:RefS S w (.slice A st.files.length c) st.files) (hl:st.files.length≤900000) (hd:∀ f∈st.files,f.data.length≤800000) :
  Calls Tryz.prog 56 #[.agg #[.int .i64 st.power,.slice A st.files.length c]] w (ROPost w S (openSt st)):=by
 have h0:=RJI.start w st.power A st.files.length c
 have hd1:∀ f∈st.files,f.data.length≤1000000:=fun f hf=>by have:=hd f hf;omega
 have HHAS:=Lib.hid (rhas_any st _ S _ (fun b hb=>by have:=hS b hb;have:=h0.size;omega) (h.below hS h0.below) nNext (by decide) (by decide) hd1)
 have HREM:Hid (∀ W pj vj gen bv rv,RJI w st.power (.slice A st.files.length c) pj vj gen bv rv W→Calls Tryz.prog 96 #[.agg #[.int .i64 st.power,.slice A st.files.length c],.string ⟨#[110,101,120,116]⟩] W (RPost W S (stRemove st nNext))):=Lib.hid fun W pj vj gen bv rv hW =>
  rremove_any st hp _ S W (fun b hb=>by have:=hS b hb;have:=hW.size;omega) (h.below hS hW.below) nNext (by decide) hl
 have HHB:Hid (∀ W pj vj gen bv rv,RJI w st.power (.slice A st.files.length c) pj vj gen bv rv W→Calls Tryz.prog 95 #[.agg #[.int .i64 st.power,.slice A st.files.length c],.string ⟨#[98,97,115,101]⟩] W fun e w'=>e=.returned (.bool (hasF st.files nBase))∧Below W.heap.size W w'):=Lib.hid fun W pj vj gen bv rv hW =>
  rhas_any st _ S W (fun b hb=>by have:=hS b hb;have:=hW.size;omega) (h.below hS hW.below) nBase (by decide) (by decide) hd1
 have H0:=Lib.hid h0
 have H:=Lib.hid h
 have HS:=Lib.hid hS
 have HDT:=Lib.hid hd
 clear h0 h hS hd hd1
 obtain ⟨P,hP⟩:∃ P,P=ROPost w S (openSt st):=⟨_,rfl⟩
 rw [←hP]
 have HP:=Lib.hid hP
 clear hP
 by_cases he1:(open1 st).2=0
 case neg =>
  have hh:hasF st.files nNext=true:=by
   cases h:hasF st.files nNext with
   | true=>rfl
   | false=>exfalso;apply he1;unfold open1;rw [h];rfl
  have e1:open1 st=stRemove st nNext:=by unfold open1;rw [if_pos hh]
  have HOS:Hid (openSt st=((open1 st).1,.error (open1 st).2)):=Lib.hid (by unfold openSt;rw [if_neg he1])
  rw [←e1] at HREM
  rw [hh] at HHAS
  have her:((open1 st).2 != 0)=true:=by simpa using he1
  clear he1 hh e1 HHB
  generalize open1 st=st1 at *
  go_enter Tryz.func56,Tryz.ntmps56
  go_wp2_with fail
  refine HHAS.out.mono ?_
  rintro e w1 ⟨rfl,hb1⟩
  have HI1:=Lib.hid (H0.out.go hb1)
  clear hb1 HHAS H0
  obtain ⟨x0,x1,x2,x3,x4,x5,x6,x7,x8,x9,x10,x11,x12,x13,x14,x15,x16,x17,x18,x19,x20,x21⟩:=HI1.out.cells
  go_wp2_with fail
  refine (HREM.out w1 _ _ _ _ _ HI1.out).mono ?_
  rintro e w2 ⟨v2,rfl,hr2,hb2⟩
  obtain ⟨A2,c2,rfl,-⟩:=hr2.form
  have hi2:=((HI1.out.go hb2).go (box_below w2 (.cells #[.int .i64 st1.1.power,.slice A2 st1.1.files.length c2] 33)))
  have HI3:=Lib.hid (hi2.files st1.1.power (.slice A2 st1.1.files.length c2))
  obtain ⟨y0,y1,y2,y3,y4,y5,y6,y7,y8,y9,y10,y11,y12,y13,y14,y15,y16,y17,y18,y19,y20,y21⟩:=hi2.cells
  have HR2:=Lib.hid (RefS.mid3N hr2 HI1.out.size)
  have HI2:=Lib.hid hi2
  have HSZ:=Lib.hid (show w.heap.size+3≤w2.heap.size by have:=HI1.out.size;have:=hb2.size;omega)
  clear hi2 hr2 hb2 x0  x1  x2  x3  x4  x5  x6  x7  x8  x9  x10  x11  x12  x13  x14  x15  x16  x17  x18  x19  x20  x21
  go_wp2
  refine bodyPost_ret (v:=.tuple #[.agg #[.int .i64 st1.1.power,.slice A2 st1.1.files.length c2,.int .i64 0,.slice none 0 0,.slice none 0 0],.int .i64 st1.2]) (by simp [results,Tryz.results56,go_sem,y0,y1,y2,y3,y4,y5,y6,y7,y8,y9,y10,y11,y12,y13,y14,y15,y16,y17,y18,y19,y20,y21]) rfl ?_
  rw [HP.out,HOS.out]
  have hk5:=ret5 w ((((w2.alloc (.cells #[.int .i64 st1.1.power,.slice A2 st1.1.files.length c2] 33)).setCell ⟨w.heap.size+1+1,0,none⟩ (.int .i64 st1.1.power)).setCell ⟨w.heap.size+1+1,1,none⟩ (.slice A2 st1.1.files.length c2))) (.int .i64 st1.1.power) (.slice A2 st1.1.files.length c2) (.int .i64 0) (.slice none 0 0) (.slice none 0 0)
  refine ⟨_,_,_,_,_,rfl,RefS.new3 ?_ HS.out HI3.out.size hk5,HI3.out.below.trans (hk5.below (by have:=HI3.out.size;omega) (fun k hk=>by omega)),⟨_,_,_,rfl⟩,⟨_,_,_,rfl⟩,rfl⟩
  exact (RefS.mid3B HR2.out HS.out HSZ.out (box_below w2 _)).mid3K HS.out (by have:=HSZ.out;simp;omega) (setF w _ _ _) (fun k hk=>by omega)
 case pos =>
  obtain ⟨st1,hst1⟩:∃ st1,st1=(open1 st).1:=⟨_,rfl⟩
  have HOS:Hid (openSt st=match openBase st1 with
   | none=>(st1,.error 200)
   | some x=>if (open2 st1 x.1).2=0 then ((open2 st1 x.1).1,.ok (x.1,x.2,openRecs st1 x.1)) else ((open2 st1 x.1).1,.error (open2 st1 x.1).2)):=Lib.hid (by unfold openSt;rw [if_pos he1,←hst1];cases openBase st1 <;> rfl)
  have HNO:Hid (hasF st.files nNext=false→st1=st):=Lib.hid fun h=>by rw [hst1];unfold open1;rw [h];rfl
  have HYE:Hid (hasF st.files nNext=true→stRemove st nNext=(st1,0)):=Lib.hid fun h=>by
   rw [hst1,←he1];unfold open1;rw [h];rfl
  have HFB:Hid (findL File.name nBase st1.files=findL File.name nBase st.files):=Lib.hid (by rw [hst1];exact open1_find st _ (by decide))
  have HFL:Hid (findL File.name nLog st1.files=findL File.name nLog st.files):=Lib.hid (by rw [hst1];exact open1_find st _ (by decide))
  have HST1:Hid (st1.power≤9223372036854775807∧st1.files.length≤900000∧∀ f∈st1.files,f.data.length≤1000000):=Lib.hid (by rw [hst1];exact open1_bounds st hp hl HDT.out)
  clear hst1 he1
  go_enter Tryz.func56,Tryz.ntmps56
  go_wp2_with fail
  refine HHAS.out.mono ?_
  rintro e w1 ⟨rfl,hb1⟩
  have HI1:=Lib.hid (H0.out.go hb1)
  clear hb1 HHAS H0
  obtain ⟨x0,x1,x2,x3,x4,x5,x6,x7,x8,x9,x10,x11,x12,x13,x14,x15,x16,x17,x18,x19,x20,x21⟩:=HI1.out.cells
  go_upto_if 24 with fail
  go_cut [] (fun W=>∃ A1 c1,Hid (RJI w st.power (.slice A st.files.length c) st1.power (.slice A1 st1.files.length c1) 0 (.slice none 0 0) (.slice none 0 0) W)∧Hid (RefS (Mid3 S w W) W (.slice A1 st1.files.length c1) st1.files))
  case first =>
   cases hh:hasF st.files nNext
   ·have e1:=HNO.out hh
    subst e1
    have HI:=Lib.hid (RefS.mid3 (w:=w) (h:=(H.out.below HS.out HI1.out.below)))
    clear hh
    go_wp2
    go_meet
    exact ⟨_,_,HI1,HI⟩
   ·have HR:=Lib.hid (HREM.out w1 _ _ _ _ _ HI1.out)
    rw [HYE.out hh] at HR
    clear hh
    go_wp2_with fail
    refine HR.out.mono ?_
    rintro e w2 ⟨v2,rfl,hr2,hb2⟩
    obtain ⟨A2,c2,rfl,-⟩:=hr2.form
    have hi2:=((HI1.out.go hb2).go (box_below w2 (.cells #[.int .i64 st1.power,.slice A2 st1.files.length c2] 33)))
    have HI3:=Lib.hid (hi2.files st1.power (.slice A2 st1.files.length c2))
    clear x0 x1 x2 x3 x4 x5 x6 x7 x8 x9 x10 x11 x12 x13 x14 x15 x16 x17 x18 x19 x20 x21
    obtain ⟨y0,y1,y2,y3,y4,y5,y6,y7,y8,y9,y10,y11,y12,y13,y14,y15,y16,y17,y18,y19,y20,y21⟩:=hi2.cells
    have HR2:=Lib.hid (RefS.mid3N hr2 HI1.out.size)
    have HSZ:=Lib.hid (show w.heap.size+3≤w2.heap.size by have:=HI1.out.size;have:=hb2.size;omega)
    clear hi2 hr2 hb2
    go_wp2
    go_meet
    exact ⟨_,_,HI3,Lib.hid ((RefS.mid3B HR2.out HS.out HSZ.out (box_below w2 _)).mid3K HS.out (by have:=HSZ.out;simp;omega) (setF w _ _ _) (fun k hk=>by omega))⟩
  case rest =>
   obtain ⟨A1,c1,HJ1,HR1⟩:=hcut
   obtain ⟨W1,rfl⟩:∃ W1,W1=wc:=⟨_,rfl⟩
   clear x0 x1 x2 x3 x4 x5 x6 x7 x8 x9 x10 x11 x12 x13 x14 x15 x16 x17 x18 x19 x20 x21 HREM HNO HYE HI1
   obtain ⟨x0,x1,x2,x3,x4,x5,x6,x7,x8,x9,x10,x11,x12,x13,x14,x15,x16,x17,x18,x19,x20,x21⟩:=HJ1.out.cells
   go_wp2_with fail
   refine (HHB.out W1 _ _ _ _ _ HJ1.out).mono ?_
   rintro e w2 ⟨rfl,hb2⟩
   have HJ2:=Lib.hid (HJ1.out.go hb2)
   have HR2:=Lib.hid (RefS.mid3B HR1.out HS.out HJ1.out.size hb2)
   clear x0 x1 x2 x3 x4 x5 x6 x7 x8 x9 x10 x11 x12 x13 x14 x15 x16 x17 x18 x19 x20 x21 hb2 HJ1 HR1 HHB
   obtain ⟨x0,x1,x2,x3,x4,x5,x6,x7,x8,x9,x10,x11,x12,x13,x14,x15,x16,x17,x18,x19,x20,x21⟩:=HJ2.out.cells
   have HRB:=Lib.hid (rread_any st _ S w2 (fun b hb=>by have:=HS.out b hb;have:=HJ2.out.size;omega) (H.out.below HS.out HJ2.out.below) nBase (by decide) (fun f hf=>by have:=HDT.out f hf;omega))
   have HOSB:=Lib.hid (show openBase st1=match findL File.name nBase st.files with | none=>some (0,[]) | some f=>baseOf f.data from by unfold openBase;rw [HFB.out];cases findL File.name nBase st.files <;> rfl)
   clear HFB
   go_upto_if 37 with fail
   go_cut [] (fun W=>∃ (g:Nat) (base:List (List UInt8)) (Ab:Option Addr) (nb cb:Nat),Hid (openBase st1=some (g,base))∧Hid (RJI w st.power (.slice A st.files.length c) st1.power (.slice A1 st1.files.length c1) g (.slice Ab nb cb) (.slice none 0 0) W)∧Hid (RefS (Mid3 S w W) W (.slice A1 st1.files.length c1) st1.files)∧Hid (RowsAt (Up3 w W) W (.slice Ab nb cb) base))
   case first =>
    cases hfb:findL File.name nBase st.files with
    | none =>
     have hh:hasF st.files nBase=false:=by rw [hasF_find,hfb];rfl
     rw [hfb] at HOSB
     rw [hh]
     clear hh hfb HRB
     go_wp2
     go_meet
     exact ⟨0,[],none,0,0,HOSB,HJ2,HR2,Lib.hid (rows_nil _ _)⟩
    | some f =>
     have hh:hasF st.files nBase=true:=by rw [hasF_find,hfb];rfl
     rw [hfb] at HOSB
     rw [stFind_of (by decide) hfb] at HRB
     have hfl:=HDT.out f (findL_inR hfb)
     rw [hh]
     clear hh hfb
     obtain ⟨d,hdd⟩:∃ d,d=f.data:=⟨_,rfl⟩
     simp only at HOSB
     unfold ReadPost at HRB
     simp only at HRB
     rw [←hdd] at HOSB HRB hfl
     clear hdd
     go_wp2_with fail
     refine HRB.out.mono ?_
     rintro e w3 ⟨hb3,u3,rfl,hu3⟩
     obtain ⟨A3,c3,hf3⟩:=hu3.form
     rw [byteCells_length] at hf3
     subst hf3
     have HJ3:=Lib.hid (HJ2.out.go hb3)
     have HR3:=Lib.hid (RefS.mid3B HR2.out HS.out HJ2.out.size hb3)
     have HBS:=Lib.hid (base_any A3 c3 d w3 (Own.seg hu3) hfl)
     clear hb3 hu3 HRB x0 x1 x2 x3 x4 x5 x6 x7 x8 x9 x10 x11 x12 x13 x14 x15 x16 x17 x18 x19 x20 x21 HJ2 HR2
     obtain ⟨x0,x1,x2,x3,x4,x5,x6,x7,x8,x9,x10,x11,x12,x13,x14,x15,x16,x17,x18,x19,x20,x21⟩:=HJ3.out.cells
     cases hbo:baseOf d with
     | none =>
      rw [hbo] at HBS HOSB
      have HOE:Hid (openSt st=(st1,.error 200)):=Lib.hid (by rw [HOS.out,HOSB.out])
      clear hbo
      go_wp2_with fail
      refine HBS.out.mono ?_
      rintro e w4 ⟨hb4,g4,u4,⟨A4,m4,c4,rfl⟩,rfl⟩
      have HJ4:=Lib.hid (HJ3.out.go hb4)
      have HR4:=Lib.hid (RefS.mid3B HR3.out HS.out HJ3.out.size hb4)
      clear hb4 HBS x0 x1 x2 x3 x4 x5 x6 x7 x8 x9 x10 x11 x12 x13 x14 x15 x16 x17 x18 x19 x20 x21 HJ3 HR3
      obtain ⟨x0,x1,x2,x3,x4,x5,x6,x7,x8,x9,x10,x11,x12,x13,x14,x15,x16,x17,x18,x19,x20,x21⟩:=HJ4.out.cells
      go_wp2
      refine bodyPost_ret (v:=.tuple #[.agg #[.int .i64 st1.power,.slice A1 st1.files.length c1,.int .i64 0,.slice none 0 0,.slice none 0 0],.int .i64 200]) (by simp [results,Tryz.results56,go_sem,x0,x1,x2,x3,x4,x5,x6,x7,x8,x9,x10,x11,x12,x13,x14,x15,x16,x17,x18,x19,x20,x21]) rfl ?_
      rw [HP.out,HOE.out]
      have hk5:=ret5 w w4 (.int .i64 st1.power) (.slice A1 st1.files.length c1) (.int .i64 0) (.slice none 0 0) (.slice none 0 0)
      exact ⟨_,_,_,_,_,rfl,RefS.new3 HR4.out HS.out HJ4.out.size hk5,HJ4.out.below.trans (hk5.below (by have:=HJ4.out.size;omega) (fun k hk=>by omega)),⟨_,_,_,rfl⟩,⟨_,_,_,rfl⟩,rfl⟩
     | some x =>
      obtain ⟨g,ps⟩:=x
      rw [hbo] at HBS HOSB
      clear hbo
      go_wp2_with fail
      refine HBS.out.mono ?_
      rintro e w4 ⟨hb4,u4,rfl,hr4⟩
      simp only at hr4
      simp only
      obtain ⟨A4,m4,c4,rfl⟩:∃ A m c,u4=.slice A m c:=by
       obtain ⟨vs,-,⟨A',c',e,-⟩,-⟩:=hr4
       exact ⟨_,_,_,e⟩
      have HJ4:=Lib.hid (HJ3.out.go hb4)
      have HR4:=Lib.hid (RefS.mid3B HR3.out HS.out HJ3.out.size hb4)
      have HW4:Hid (RowsAt (Up3 w w4) w4 (.slice A4 m4 c4) ps):=Lib.hid (hr4.keep fun b hb=>⟨⟨by have:=HJ3.out.size;omega,hb.2⟩,rfl⟩)
      clear hb4 hr4 HBS x0 x1 x2 x3 x4 x5 x6 x7 x8 x9 x10 x11 x12 x13 x14 x15 x16 x17 x18 x19 x20 x21 HJ3 HR3
      obtain ⟨x0,x1,x2,x3,x4,x5,x6,x7,x8,x9,x10,x11,x12,x13,x14,x15,x16,x17,x18,x19,x20,x21⟩:=HJ4.out.cells
      go_wp2
      go_meet
      exact ⟨g,ps,A4,m4,c4,HOSB,Lib.hid (HJ4.out.base _ _),Lib.hid (RefS.mid3K HR4.out HS.out HJ4.out.size (setB w _ _ _) (fun k hk=>by omega)),Lib.hid (RowsAt.upK HW4.out (setB w _ _ _) (fun k hk=>by omega))⟩
   case rest =>
    obtain ⟨g,base,Ab,nb,cb,HOB,HJ3,HR3,HB3⟩:=hcut
    obtain ⟨W3,rfl⟩:∃ W3,W3=wc:=⟨_,rfl⟩
    clear x0 x1 x2 x3 x4 x5 x6 x7 x8 x9 x10 x11 x12 x13 x14 x15 x16 x17 x18 x19 x20 x21 HRB HOSB HJ2 HR2
    have HRL:=Lib.hid (rread_any st _ S W3 (fun b hb=>by have:=HS.out b hb;have:=HJ3.out.size;omega) (H.out.below HS.out HJ3.out.below) nLog (by decide) (fun f hf=>by have:=HDT.out f hf;omega))
    obtain ⟨x0,x1,x2,x3,x4,x5,x6,x7,x8,x9,x10,x11,x12,x13,x14,x15,x16,x17,x18,x19,x20,x21⟩:=HJ3.out.cells
    obtain ⟨d,hdd⟩:∃ d,d=match findL File.name nLog st.files with|none=>[]|some f=>f.data:=⟨_,rfl⟩
    have HREC:Hid (openRecs st1 g=pays (sameGen g (frs d))):=Lib.hid (by
     unfold openRecs;rw [HFL.out,hdd]
     cases findL File.name nLog st.files <;> rfl)
    have HO2:Hid (open2 st1 g=if endOf (sameGen g (frs d)) < d.length then stTruncate st1 nLog (endOf (sameGen g (frs d)):Nat) else (st1,0)):=Lib.hid (by
     unfold open2;rw [HFL.out,hdd]
     cases findL File.name nLog st.files <;> rfl)
    have HDL:Hid (d.length≤800000):=Lib.hid (by
     rw [hdd]
     cases hf:findL File.name nLog st.files with
     | none=>simp
     | some f=>exact HDT.out f (findL_inR hf))
    have HRD:Hid (Calls Tryz.prog 97 #[.agg #[.int .i64 st.power,.slice A st.files.length c],.string ⟨#[108,111,103]⟩] W3 fun e w'=>∃ A5 c5 er,e=.returned (.tuple #[.slice A5 d.length c5,.int .i64 er])∧Below W3.heap.size W3 w'∧SegS (fun b=>W3.heap.size≤b∧b < w'.heap.size) w' (.slice A5 d.length c5) (byteCells d)):=Lib.hid (by
     refine Calls.mono HRL.out ?_
     rintro e w' ⟨hb,hr⟩
     cases hf:findL File.name nLog st.files with
     | none =>
      rw [hf] at hdd
      rw [stFind_none (by decide) hf] at hr
      subst hdd
      exact ⟨none,0,11,hr,hb,⟨none,0,rfl,by simp [byteCells],by simp [maxLen],fun h=>by simp [byteCells] at h⟩⟩
     | some f =>
      rw [hf] at hdd
      rw [stFind_of (by decide) hf] at hr
      simp only at hdd
      obtain ⟨u,rfl,hu⟩:=hr
      rw [←hdd] at hu
      obtain ⟨A5,c5,hform⟩:=hu.form
      rw [byteCells_length] at hform
      subst hform
      refine ⟨A5,c5,0,rfl,hb,?_⟩
      have:=Own.outS hu (F:=fun k=>k < W3.heap.size) (fun k hk=>hk)
      exact this.keep fun b hb=>⟨⟨by have:=hb.2;omega,hb.1⟩,rfl⟩)
    clear hdd HRL HFL HDT
    obtain ⟨E,hE,hEe⟩:=logCh d g
    obtain ⟨ps,hps⟩:∃ ps,ps=pays (sameGen g (frs d)):=⟨_,rfl⟩
    rw [←hps] at hE hEe HREC
    rw [←hEe] at HO2
    have HE:=Lib.hid hE
    clear hps hEe hE
    go_wp2_with fail
    refine HRD.out.mono ?_
    rintro e w4 ⟨A5,c5,er5,rfl,hb4,hs4⟩
    have HJ4:=Lib.hid (HJ3.out.go hb4)
    have HR4:=Lib.hid (RefS.mid3B HR3.out HS.out HJ3.out.size hb4)
    have HB4:=Lib.hid (RowsAt.up HB3.out hb4)
    have HS4:Hid (SegS (Up3 w w4) w4 (.slice A5 d.length c5) (byteCells d)):=Lib.hid (hs4.keep fun b hb=>⟨⟨by have:=HJ3.out.size;omega,hb.2⟩,rfl⟩)
    clear hb4 hs4 HRD x0 x1 x2 x3 x4 x5 x6 x7 x8 x9 x10 x11 x12 x13 x14 x15 x16 x17 x18 x19 x20 x21 HJ3 HR3 HB3
    have HOSO:=HOS.out
    rw [HOB.out] at HOSO
    simp only at HOSO
    rw [HO2.out,HREC.out] at HOSO
    have HOF:=Lib.hid HOSO
    clear HOSO HO2 HREC HOB HOS
    have H4Z:=Lib.hid HJ4.out.size
    obtain ⟨x0,x1,x2,x3,x4,x5,x6,x7,x8,x9,x10,x11,x12,x13,x14,x15,x16,x17,x18,x19,x20,x21⟩:=HJ4.out.cells
    go_wp2
    go_loopw [14] (fun av wr=>∃ (k:Nat) (us:List Value) (Ar:Option Addr) (cr a:Nat),k≤ps.length∧av=.int .i64 (a:Nat)∧Hid (a=E k)∧Hid (RJI w st.power (.slice A st.files.length c) st1.power (.slice A1 st1.files.length c1) g (.slice Ab nb cb) (.slice Ar k cr) wr)∧Hid (KpL w w4 wr)∧Hid (RLog w4.heap.size ps k (.slice Ar k cr) us wr)) (fun av _=>d.length - (intOf av).toNat)
    case atStart=>exact ⟨0,[],none,0,0,by omega,rfl,Lib.hid HE.out.zero.symm,HJ4,Lib.hid (KpL.refl _ _),Lib.hid (RLog.nil _ _ _)⟩
    case round =>
     obtain ⟨k,us,Ar,cr,a,hk,rfl,HA,HJk,HKk,HLk⟩:=hrel
     clear x0 x1 x2 x3 x4 x5 x6 x7 x8 x9 x10 x11 x12 x13 x14 x15 x16 x17 x18 x19 x20 x21
     have hale:a≤d.length:=by rw [HA.out];exact HE.out.le k
     have hzk:=HKk.out.1
     have hz3:=H4Z.out
     have hsg:Seg wr wr.heap.size (.slice A5 d.length c5) (byteCells d):=(HS4.out.keep (w':=wr) (S':=Up3 w w4) fun b hb=>⟨hb,HKk.out.2 b hb.2 (by have:=hb.1;omega)⟩).seg fun b hb=>by have:=hb.2;omega
     obtain ⟨A6,c6,e6,s6⟩:=seg_drop hsg a hale
     obtain ⟨M6,hM6⟩:∃ M6,M6=d.length - a:=⟨_,rfl⟩
     rw [←hM6] at e6 s6
     have hs6:∀ w',(Instr.slice 24 (.slice A5 d.length c5) (some (.int .i64 (a:Nat))) none none).run Tryz.prog w'=.ok (.slice A6 M6 c6) w':=fun w'=>by
      have:=slice_from A5 d.length c5 a w' hale
      rw [e6] at this
      exact this
     have hnx:=next_any A6 c6 (d.drop a) wr (by rw [List.length_drop,←hM6];exact s6) (by rw [List.length_drop];have:=HDL.out;omega)
     rw [List.length_drop,←hM6] at hnx
     clear s6 e6 hM6 hsg
     by_cases hlt:k < ps.length
     ·obtain ⟨hn1,hn2,hn3⟩:=HE.out.next k hlt
      rw [←HA.out] at hn1 hn2
      rw [hn1] at hnx
      obtain ⟨p,hp⟩:∃ p,p=ps.getD k []:=⟨_,rfl⟩
      obtain ⟨n,hn⟩:∃ n,n=E (k+1) - a:=⟨_,rfl⟩
      rw [←hp,←hn] at hnx
      have HPP:=Lib.hid hp
      have HNN:Hid (a+n=E (k+1)):=Lib.hid (by omega)
      have hanl:a+n≤d.length:=by omega
      have hnp:0 < n:=by omega
      have HNX:=Lib.hid hnx
      clear hnx hn1 hn2 hn3 hp hn
      go_wp2_with fail
      refine HNX.out.mono ?_
      rintro e w7 ⟨hb7,A7,c7,rfl,hu7⟩
      simp only at hu7
      simp only
      have HJ7:=Lib.hid (HJk.out.go hb7)
      obtain ⟨x0,x1,x2,x3,x4,x5,x6,x7,x8,x9,x10,x11,x12,x13,x14,x15,x16,x17,x18,x19,x20,x21⟩:=HJ7.out.cells
      have HB7:=Lib.hid hb7
      have hown2:=(HLk.out.own.below hb7).alloc (.cells #[.slice A7 p.length c7] 24)
      have hone:=one_slices (Own.outS hu7 (F:=fun _=>False) (fun _ h=>h.elim))
      have hsg2:=Seg.new w7 24 #[.slice A7 p.length c7] [.slice A7 p.length c7] rfl (by simp [maxLen])
      have hz7:=hb7.size
      have hlen:=HLk.out.len
      have HU7:=Lib.hid hu7
      have hpl:=HE.out.len
      have hdl:=HDL.out
      clear hu7 hb7 HNX
      go_wp2_with (at_builtin;refine wpList_app _ rfl _ _ _ rfl w4.heap.size 24 _ rowE _ _ rfl hown2 _ _ _ rfl hsg2 (fun x hx=>by simp at hx;subst hx;exact hone) ?c1 ?c2 ?_)
      case c1=>simp;omega
      case c2=>simp;omega
      intro v8 w8 hown8 hg8 hat8
      have hbb:Below w4.heap.size wr w8:=((HB7.out.mono hzk).alloc (by omega) _).trans (own_grown hown2 (by simp;omega) hg8)
      have hJ8:=HJk.out.far hz3 hbb
      have hK8:=HKk.out.below hbb
      have hL8:=HLk.out.next hzk HB7.out (by rw [←HPP.out];exact HU7.out) _ hown8 hg8 hat8
      obtain ⟨A8,c8,hform8⟩:=hL8.own.form
      rw [hL8.len] at hform8
      have HJ8:=Lib.hid hJ8;have HK8:=Lib.hid hK8;have HL8:=Lib.hid hL8
      clear x0 x1 x2 x3 x4 x5 x6 x7 x8 x9 x10 x11 x12 x13 x14 x15 x16 x17 x18 x19 x20 x21 hown8 hg8 hat8 hown2 hone hsg2 hbb hJ8 hK8 hL8 HU7 HB7 HJ7
      subst hform8
      obtain ⟨x0,x1,x2,x3,x4,x5,x6,x7,x8,x9,x10,x11,x12,x13,x14,x15,x16,x17,x18,x19,x20,x21⟩:=HJ8.out.cells
      go_wp2
      go_roundw
      case rel=>exact ⟨k+1,_,A8,c8,a+n,by omega,by go_num,HNN,Lib.hid (HJ8.out.rest _),Lib.hid (HK8.out.set 4 _),Lib.hid (HL8.out.set _ (by show w.heap.size+1+1 < _;omega) _)⟩
      case measure=>simp [intOf];omega
     ·have hke:k=ps.length:=by omega
      have HEL:=HE.out.last
      rw [←hke,←HA.out] at HEL
      have HBR:Hid (Calls Tryz.prog 99 #[.slice A6 M6 c6] wr fun e w'=>Below wr.heap.size wr w'∧∃ (gz n:Int) (A:Option Addr) (m c:Nat) (okb:Bool),e=.returned (.tuple #[.int .i64 gz,.slice A m c,.int .i64 n,.bool okb])∧(okb=false∨(okb=true∧¬ gz=(g:Int)))):=Lib.hid (by
       refine Calls.mono hnx ?_
       rcases HEL with he|⟨y,he,hy⟩
       ·rw [he]
        rintro e w' ⟨hb,gz,n,A,m,c,rfl⟩
        exact ⟨hb,gz,n,A,m,c,false,rfl,.inl rfl⟩
       ·rw [he]
        rintro e w' ⟨hb,A,c,rfl,-⟩
        exact ⟨hb,_,_,_,_,_,_,rfl,.inr ⟨rfl,by omega⟩⟩)
      have HKE:=Lib.hid hke
      have HAE:Hid (E ps.length=a):=Lib.hid (by rw [←hke,HA.out])
      clear HEL hnx hke
      go_wp2_with fail
      refine HBR.out.mono ?_
      rintro e w7 ⟨hb7,gz,n7,A7,m7,c7,okb,rfl,hbr⟩
      have HJ7:=Lib.hid (HJk.out.go hb7)
      have hk7:=HKk.out.below (hb7.mono hzk)
      have HL7:=Lib.hid (HLk.out.below hb7)
      have HR7:Hid (RefS (Mid3 S w w7) w7 (.slice A1 st1.files.length c1) st1.files):=Lib.hid (HR4.out.keep fun b hb=>by
       have h1:=hk7.1
       rcases hb with hb|hb
       ·have:=HS.out b hb
        exact ⟨.inl hb,hk7.2 b (by omega) (by omega)⟩
       ·exact ⟨.inr ⟨hb.1,by omega⟩,hk7.2 b hb.2 (by omega)⟩)
      have HB7:Hid (RowsAt (Up3 w w7) w7 (.slice Ab nb cb) base):=Lib.hid (HB4.out.keep fun b hb=>by
       have h1:=hk7.1
       have h2:=hb.1;have h3:=hb.2
       exact ⟨⟨h2,by omega⟩,hk7.2 b h3 (by omega)⟩)
      have HP7:Hid (RowsAt (Up3 w w7) w7 (.slice Ar k cr) ps):=Lib.hid ((HL7.out.rows HKE.out).keep fun b hb=>⟨⟨by have:=hb.1;omega,hb.2⟩,rfl⟩)
      clear hb7 hk7 HL7 HBR HLk HKk HJk HR4 HB4 HS4 HJ4 HA
      obtain ⟨x0,x1,x2,x3,x4,x5,x6,x7,x8,x9,x10,x11,x12,x13,x14,x15,x16,x17,x18,x19,x20,x21⟩:=HJ7.out.cells
      by_cases hal:a < d.length
      ·have hali:(a:Int) < (d.length:Nat):=by omega
       have htr:=rtruncate_any st1 HST1.out.1 _ (Mid3 S w w7) w7 (fun b hb=>by
        rcases hb with hb|hb
        ·have:=HS.out b hb;have:=HJ7.out.size;omega
        ·exact hb.2) HR7.out nLog (by decide) HST1.out.2.1 HST1.out.2.2 (a:Nat)
       have HOT:Hid (openSt st=if (stTruncate st1 nLog (a:Nat)).2=0 then ((stTruncate st1 nLog (a:Nat)).1,.ok (g,base,ps)) else ((stTruncate st1 nLog (a:Nat)).1,.error (stTruncate st1 nLog (a:Nat)).2)):=Lib.hid (by rw [HOF.out,HAE.out,if_pos hal])
       generalize stTruncate st1 nLog (a:Nat)=T at *
       obtain ⟨T,er⟩:=T
       have HTR:=Lib.hid htr
       simp only at HOT
       clear htr HOF HAE hal
       rcases hbr with rfl|⟨rfl,hne⟩
       all_goals (
        go_wp2_with fail
        refine HTR.out.mono ?_
        rintro e w8 ⟨v8,rfl,hr8,hb8⟩
        obtain ⟨A8,c8,rfl,-⟩:=hr8.form
        simp only at hr8
        simp only
        have hm8:RefS (Mid3 S w w8) w8 (.slice A8 T.files.length c8) T.files:=hr8.sub fun b hb=>by
         have:=hb8.size;have:=HJ7.out.size
         rcases hb with (hb|hb)|hb
         ·exact .inl hb
         ·exact .inr ⟨hb.1,by omega⟩
         ·exact .inr ⟨by omega,hb.2⟩
        have hz8:w.heap.size+3≤w8.heap.size:=by have:=hb8.size;have:=HJ7.out.size;omega
        have hi8:=((HJ7.out.go hb8).go (box_below w8 (.cells #[.int .i64 T.power,.slice A8 T.files.length c8] 33)))
        have HJ9:=Lib.hid (hi8.files T.power (.slice A8 T.files.length c8))
        have hkf:=setF w (w8.alloc (.cells #[.int .i64 T.power,.slice A8 T.files.length c8] 33)) (.int .i64 T.power) (.slice A8 T.files.length c8)
        have HR9:=Lib.hid ((RefS.mid3B hm8 HS.out hz8 (box_below w8 (.cells #[.int .i64 T.power,.slice A8 T.files.length c8] 33))).mid3K HS.out (by simp;omega) hkf (fun k hk=>by omega))
        have HB9:=Lib.hid (RowsAt.upK (RowsAt.up (RowsAt.up HB7.out hb8) (box_below w8 (.cells #[.int .i64 T.power,.slice A8 T.files.length c8] 33))) hkf (fun k hk=>by omega))
        have HP9:=Lib.hid (RowsAt.upK (RowsAt.up (RowsAt.up HP7.out hb8) (box_below w8 (.cells #[.int .i64 T.power,.slice A8 T.files.length c8] 33))) hkf (fun k hk=>by omega))
        clear x0 x1 x2 x3 x4 x5 x6 x7 x8 x9 x10 x11 x12 x13 x14 x15 x16 x17 x18 x19 x20 x21
        obtain ⟨x0,x1,x2,x3,x4,x5,x6,x7,x8,x9,x10,x11,x12,x13,x14,x15,x16,x17,x18,x19,x20,x21⟩:=hi8.cells
        clear hr8 hb8 hm8 hi8 hkf HTR
        by_cases he:er=0
        ·subst he
         rw [if_pos rfl] at HOT
         go_wp2
         refine bodyPost_ret (v:=.tuple #[.agg #[.int .i64 T.power,.slice A8 T.files.length c8,.int .i64 g,.slice Ab nb cb,.slice Ar k cr],.int .i64 0]) (by simp [results,Tryz.results56,go_sem,x0,x1,x2,x3,x4,x5,x6,x7,x8,x9,x10,x11,x12,x13,x14,x15,x16,x17,x18,x19,x20,x21]) rfl ?_
         rw [HP.out,HOT.out]
         exact ro_ok HJ9.out HS.out HR9.out HB9.out HP9.out
        ·rw [if_neg he] at HOT
         have hef:(er != 0)=true:=by simpa using he
         go_wp2
         refine bodyPost_ret (v:=.tuple #[.agg #[.int .i64 T.power,.slice A8 T.files.length c8,.int .i64 g,.slice Ab nb cb,.slice Ar k cr],.int .i64 er]) (by simp [results,Tryz.results56,go_sem,x0,x1,x2,x3,x4,x5,x6,x7,x8,x9,x10,x11,x12,x13,x14,x15,x16,x17,x18,x19,x20,x21]) rfl ?_
         rw [HP.out,HOT.out]
         exact ro_er er HJ9.out HS.out HR9.out)
      ·have hali:¬ (a:Int) < (d.length:Nat):=by omega
       have HOE:Hid (openSt st=(st1,.ok (g,base,ps))):=Lib.hid (by rw [HOF.out,HAE.out,if_neg hal];rfl)
       have hk5:=ret5 w w7 (.int .i64 st1.power) (.slice A1 st1.files.length c1) (.int .i64 g) (.slice Ab nb cb) (.slice Ar k cr)
       have HFIN:Hid (ROPost w S (openSt st) (.returned (.tuple #[.agg #[.int .i64 st1.power,.slice A1 st1.files.length c1,.int .i64 g,.slice Ab nb cb,.slice Ar k cr],.int .i64 0])) (((((w7.setCell ⟨w.heap.size+1,0,none⟩ (.int .i64 st1.power)).setCell ⟨w.heap.size+1,1,none⟩ (.slice A1 st1.files.length c1)).setCell ⟨w.heap.size+1,2,none⟩ (.int .i64 g)).setCell ⟨w.heap.size+1,3,none⟩ (.slice Ab nb cb)).setCell ⟨w.heap.size+1,4,none⟩ (.slice Ar k cr))):=Lib.hid (by
        rw [HOE.out]
        have up:∀ {v:Value} {ls:List (List UInt8)},RowsAt (Up3 w w7) w7 v ls→RowsAt (fun b=>w.heap.size≤b∧b < ((((((w7.setCell ⟨w.heap.size+1,0,none⟩ (.int .i64 st1.power)).setCell ⟨w.heap.size+1,1,none⟩ (.slice A1 st1.files.length c1)).setCell ⟨w.heap.size+1,2,none⟩ (.int .i64 g)).setCell ⟨w.heap.size+1,3,none⟩ (.slice Ab nb cb)).setCell ⟨w.heap.size+1,4,none⟩ (.slice Ar k cr))).heap.size) _ v ls:=fun h=>(RowsAt.upK h hk5 (fun k hk=>by omega)).keep fun b hb=>⟨⟨by have:=hb.1;omega,hb.2⟩,rfl⟩
        exact ⟨_,_,_,_,_,rfl,RefS.new3 HR7.out HS.out HJ7.out.size hk5,HJ7.out.below.trans (hk5.below (by have:=HJ7.out.size;omega) (fun k hk=>by omega)),⟨_,_,_,rfl⟩,⟨_,_,_,rfl⟩,rfl,rfl,up HB7.out,up HP7.out⟩)
       clear hk5 HOF HOE HAE hal
       rcases hbr with rfl|⟨rfl,hne⟩
       all_goals (
        go_wp2
        refine bodyPost_ret (v:=.tuple #[.agg #[.int .i64 st1.power,.slice A1 st1.files.length c1,.int .i64 g,.slice Ab nb cb,.slice Ar k cr],.int .i64 0]) (by simp [results,Tryz.results56,go_sem,x0,x1,x2,x3,x4,x5,x6,x7,x8,x9,x10,x11,x12,x13,x14,x15,x16,x17,x18,x19,x20,x21]) rfl ?_
        rw [HP.out]
        exact HFIN.out)
end Go.Proofs.YtaalbcfpacpgfaaGreat
