/- Merged of V16 V17 VP V18 V19 VA V20 V21 V22 V23 V24 V25 V26 V27. -/
import Derived.Lib.SmallJoins
import Derived.Lib.SlBytesConst
import Derived.HandedShaped
import Derived.Deep.RegionWith
import Derived.Test.YtaalbcfpacpgfaaGreatZaM2
set_option linter.unusedVariables false
set_option linter.unusedSimpArgs false
namespace Go.Proofs.YtaalbcfpacpgfaaGreat
open Go.RowKit Go.Par Go.Vfs
set_option maxHeartbeats 400000 in
theorem copyBytes_any (v:Value) (l:List UInt8) (B:Nat) (w:World) (hsg:Seg w B v (Lib.byteCells l)) (hB:B≤w.heap.size) (hl:l.length≤1000000) :
  Calls Tryz.prog 12 #[v] w fun e w'=>∃ u,e=.returned u∧Par.Own w' w.heap.size 5 u (Lib.byteCells l)∧Below w.heap.size w w':=by
 have hown:=Par.Own.new w w.heap.size 5 #[] [] rfl (Nat.le_refl _) (by simp)
 have hb0:Below w.heap.size w (w.alloc (.cells #[] 5)):=(Below.refl _ w).alloc (Nat.le_refl _) _
 have hsg1:=hsg.below (hb0.mono hB)
 clear hsg
 go_enter Tryz.func12,Tryz.ntmps12
 go_wp2_with (at_builtin;refine wpList_app _ rfl _ _ _ rfl w.heap.size 5 _ byteE _ _ rfl hown _ v _ rfl hsg1 (one_bytes _) ?c1 ?c2 ?_)
 case c1=>rw [Lib.byteCells_length];simp only [List.length_nil];omega
 case c2=>first | omega | (simp;done) | (simp;omega)
 intro v3 w3 hown4 hg3 hat3
 go_wp2
 go_ret
 exact ⟨_,rfl,by simpa using hown4,below_app hb0 hown hg3 (by simp)⟩
set_option maxHeartbeats 400000 in
theorem sameBytes_any (u v:Value) (xs ys:List UInt8) (B:Nat) (w:World) (hu:Seg w B u (Lib.byteCells xs)) (hv:Seg w B v (Lib.byteCells ys)) :
  Calls Tryz.prog 40 #[u,v] w fun e w'=>e=.returned (.bool (decide (xs=ys)))∧∃ n,w'=w.drewN n:=by
 obtain ⟨A,c,rfl,hc,hm,ha⟩:=hu.open_bytes
 obtain ⟨A',c',rfl,hc',hm',ha'⟩:=hv.open_bytes
 clear hu hv
 by_cases hl:xs.length=ys.length
 ·have hne:((xs.length:Int) != (ys.length:Int))=false:=by simp [hl]
  have Hl:=Lib.hid hl
  clear hl
  go_enter Tryz.func40,Tryz.ntmps40
  go_wp2
  go_loopw [5] (fun i wr=>∃ k n:Nat,k≤xs.length∧i=.int .i64 k∧Agree k xs ys∧wr=w.drewN n) (fun i _=>xs.length - (intOf i).toNat)
  case atStart=>exact ⟨0,0,by omega,rfl,Agree.zero _ _,rfl⟩
  case round =>
   obtain ⟨k,n,hk,rfl,hal,rfl⟩:=hrel
   by_cases hlt:k < xs.length
   ·have hlt':k < ys.length:=by have:=Hl.out;omega
    obtain ⟨b,off,x,rfl,hb,hc1,hx,Hx⟩:=ha.byte hlt
    obtain ⟨b',off',y,rfl,hb',hc2,hy,Hy⟩:=ha'.byte hlt'
    have HA:=Lib.hid ha;clear ha
    have HA':=Lib.hid ha';clear ha'
    by_cases he:x=y
    ·have hbe:((x:Int) != (y:Int))=false:=by simp [he]
     have He:=Lib.hid he
     clear he
     go_wp2
     go_quiet (fail)
     go_wp2
     go_roundw
     case rel=>exact ⟨k+1,_,by omega,by go_num,hal.step hlt hlt' 0 (UInt8.toNat_inj.1 (by rw [Hx.out,Hy.out,He.out])),rfl⟩
     case measure=>simp [intOf];omega
    ·have hbe:((x:Int) != (y:Int))=true:=by simp;omega
     have He:=Lib.hid he
     clear he
     go_wp2
     go_quiet (fail)
     go_wp2
     go_ret
     refine ⟨ret_bool ?_,_,World.drewN_drewN _ _ _⟩
     have h1:=Hx.out
     have h2:=Hy.out
     have h3:=He.out
     simp
     rintro rfl
     exact h3 (h1.symm.trans h2)
   ·have hkl:k=xs.length:=by omega
    have Hk:=Lib.hid hkl
    clear hkl
    go_wp2
    go_ret
    refine ⟨ret_bool ?_,_,rfl⟩
    rw [Hk.out] at hal
    simp [hal.whole Hl.out]
 ·have hne:((xs.length:Int) != (ys.length:Int))=true:=by simp;omega
  have Hl:=Lib.hid hl
  clear hl
  go_enter Tryz.func40,Tryz.ntmps40
  go_wp2
  go_ret
  refine ⟨ret_bool ?_,0,rfl⟩
  have:=Hl.out
  simp
  rintro rfl
  exact this rfl
theorem Seg.open_strs {w:World} {B:Nat} {v:Value} {ls:List (List UInt8)} (h:Seg w B v (strs ls)) :
  ∃ A c,v=.slice A ls.length c∧ls.length≤c∧c≤9223372036854775807∧At w B A ls.length (fun i=>.string ⟨(ls.getD i []).toArray⟩):=by
 obtain ⟨A,c,rfl,h2,h3,h4⟩:=h
 rw [strs_length] at h2 h4
 refine ⟨A,c,by rw [strs_length],h2,by simpa [maxLen] using h3,fun i hi=>?_⟩
 obtain ⟨b,off,e,hb,hc⟩:=h4 (by omega)
 refine ⟨b,off,e,hb,(hc i hi).trans ?_⟩
 simp [strs,hi,List.getD_eq_getElem?_getD]
theorem At.str {w:World} {B n k:Nat} {A:Option Addr} {ls:List (List UInt8)} (h:At w B A n (fun i=>.string ⟨(ls.getD i []).toArray⟩)) (hk:k < n) :
  ∃ b off x,A=some ⟨b,off,none⟩∧b < B∧w.cell? ⟨b,off+k,none⟩=some (.string ⟨x.toArray⟩)∧Hid (ls.getD k []=x):=by
 obtain ⟨b,off,e,hb,hc⟩:=h k hk
 exact ⟨b,off,_,e,hb,hc,Lib.hid rfl⟩
open Go.RowKit Go.Lib Go.Vfs Go.Par
theorem Fsy.below {w w':World} {p:Nat} {st:St} {F:Nat→Prop} (h:Fsy w p st F) (hb:Below w.heap.size w w'):Fsy w' p st F:=h.keep fun k hk=>hb.block k (h.lt k hk)
theorem findL_cons {α:Type} {key:α→List UInt8} (s:List UInt8) (y:α) (l:List α):findL key s (y :: l)=if key y=s then some y else findL key s l:=by
 unfold findL
 rw [List.find?_cons]
 by_cases h:key y=s
 ·simp [h]
 ·have:(key y == s)=false:=beq_eq_false_iff_ne.2 h
  rw [this,if_neg h]
theorem findL_dropL_ne {α:Type} {key:α→List UInt8} {s t:List UInt8} (h:s≠t):∀ l:List α,findL key s (dropL key t l)=findL key s l
 | []=>rfl
 | y :: r=>by
  have ih:=findL_dropL_ne h r (key:=key)
  unfold dropL at ih ⊢
  rw [List.filter_cons]
  by_cases hy:key y=t
  ·have:(!(key y == t))=false:=by simp [hy]
   rw [this,findL_cons,if_neg (show ¬ key y=s from fun e=>h (e.symm.trans hy))]
   simpa using ih
  ·have:(!(key y == t))=true:=by simp [hy]
   rw [this,if_pos rfl,findL_cons,findL_cons,ih]
theorem stFind_of {st:St} {s:List UInt8} {f:File} (hn:nameB s=true) (h:findL File.name s st.files=some f):stFind st s=.ok f:=by unfold stFind;rw [hn,h];rfl
theorem stFind_none {st:St} {s:List UInt8} (hn:nameB s=true) (h:findL File.name s st.files=none):stFind st s=.error 11:=by unfold stFind;rw [hn,h];rfl
theorem stAppend_no {st:St} {s L:List UInt8} (h:nameB s=false):stAppend st s L=(st,10):=by unfold stAppend;rw [h];rfl
theorem name_len {s:List UInt8} (h:nameB s=true):s.length≤32:=by
 unfold nameB at h
 simp at h
 exact h.1.2
def st2 (a c x y:List UInt8):St:=⟨-1,appF c y [⟨a,x,0⟩]⟩
theorem below_drewN {n:Nat} {w w':World} (h:Below n w w') (k:Nat):Below n w (w'.drewN k):=⟨h.os,h.tape,h.output,h.size,h.block⟩
theorem Own.formB {w:World} {base:Nat} {e:TypeId} {v:Value} {l:List UInt8} (h:Par.Own w base e v (byteCells l)):∃ A c,v=.slice A l.length c:=by
 obtain ⟨A,c,e⟩:=h.form
 exact ⟨A,c,by rw [e,byteCells_length]⟩
theorem own_grown {w w':World} {base:Nat} {e:TypeId} {v:Value} {xs:List Value} (h:Par.Own w base e v xs) (hb:base≤w.heap.size) (hg:w.grownBy w' v.ownBlock):Below base w w' :=
 ((Kept.refl (fun k=>base≤k) w).grown hg (fun k e=>.inl (h.lt k e).1)).below hb (fun _ h=>h)
theorem slice_front (A:Option Addr) (n c N:Nat) (w:World) (h:N≤c):(Instr.slice 24 (.slice A n c) none (some (.int .i64 (N:Int))) none).run Tryz.prog w=.ok (.slice A N c) w:=by
 have ht':Tryz.prog.underlying 24=some (.slice (Tryz.prog.elem 24)):=by simp [Program.elem,Tryz.underlying24]
 have he:Tryz.prog.elem 24=5:=by simp [Program.elem,Tryz.underlying24]
 rw [run_slice_h w 24 _ _ _ ht' .i64 _ (by omega) (by omega),he,Tryz.sizeOf5]
 simp only [Result.andThen,sliced]
 cases A <;> simp [Addr.add]
theorem seg_front {w:World} {B:Nat} {A:Option Addr} {c:Nat} {l r:List UInt8} (h:Seg w B (.slice A (l ++ r).length c) (byteCells (l ++ r))):l.length≤c∧Seg w B (.slice A l.length c) (byteCells l):=by
 obtain ⟨A',c',e,h1,h2,h3⟩:=h
 rw [byteCells_length] at e h1 h3
 injection e with e1 e2 e3
 subst e1 e3
 have h4:l.length≤c:=by simp at h1;omega
 refine ⟨h4,A,c,by rw [byteCells_length],by rw [byteCells_length];exact h4,h2,fun hp=>?_⟩
 rw [byteCells_length] at hp
 obtain ⟨b,off,e,hb,hc⟩:=h3 (by simp;omega)
 refine ⟨b,off,e,hb,fun i hi=>?_⟩
 rw [byteCells_length] at hi
 rw [hc i (by simp;omega),byteCells_append,List.getElem?_append_left (by rw [byteCells_length];exact hi)]
end Go.Proofs.YtaalbcfpacpgfaaGreat
namespace Go.Par
open Go.RowKit Go.Lib
section
variable {P:Program} (w:World)
end
end Go.Par
namespace Go.Proofs.YtaalbcfpacpgfaaGreat
open Go.RowKit Go.Lib Go.Vfs Go.Par
def sizeP (ls:List (List UInt8)):Nat:=(ls.map fun l=>1+l.length).sum
theorem rowE:Elem Tryz.prog 22 24 (.slice none 0 0):=elem_of (b:=24) Tryz.underlying22 (by kernel_rfl) (by decide) rfl
structure Rowed (w:World) (ls:List (List UInt8)) (k:Nat) (v:Value) (us:List Value) (wr:World):Prop where
 below:Below w.heap.size w wr
 len:us.length=k
 own:Par.Own wr w.heap.size 24 v us
 cells:∀ i,i < k→SegS (fun b=>w.heap.size≤b∧b < wr.heap.size∧v.ownBlock≠some b) wr (us.getD i (.bool false)) (byteCells (ls.getD i []))
theorem one_slices {S:Nat→Prop} {w:World} {l:List UInt8} {u:Value} (h:SegS S w u (byteCells l)):u.oneCell'=true:=by
 obtain ⟨A,c,rfl,-⟩:=h
 rfl
theorem Rowed.next {w:World} {ls:List (List UInt8)} {k:Nat} {v:Value} {us:List Value} {wr w2 w3:World} (h:Rowed w ls k v us wr) {u:Value} (hb:Below wr.heap.size wr w2) (hu:Par.Own w2 wr.heap.size 5 u (byteCells (ls.getD k [])))
  {v':Value} (o:Obj) (hown:Par.Own w3 w.heap.size 24 v' (us ++ [u])) (hg:(w2.alloc o).grownBy w3 v.ownBlock) (hat:v'.ownBlock=v.ownBlock∨v'.ownBlock=some (w2.heap.size+1)):Rowed w ls (k+1) v' (us ++ [u]) w3:=by
 have hz:=h.below.size
 have hz2:=hb.size
 have hv:∀ g,v.ownBlock=some g→w.heap.size≤g∧g < wr.heap.size:=fun g e=>h.own.lt g e
 have hzg:=hg.size
 have hal:(w2.alloc o).heap.size=w2.heap.size+1:=by simp
 have hv':∀ b,b < wr.heap.size→v.ownBlock≠some b→v'.ownBlock≠some b:=by
  intro b hlt hne e
  rcases hat with e1|e1
  ·exact hne (e1.symm.trans e)
  ·rw [e1] at e;cases e;omega
 refine ⟨?_,by simp [h.len],hown,fun i hi=>?_⟩
 ·exact ((h.below.trans (hb.mono hz)).alloc (by omega) o).grown hg (by omega) (fun g e=>(hv g e).1)
 ·by_cases hik:i < k
  ·rw [show (us ++ [u]).getD i (.bool false)=us.getD i (.bool false) by simp [List.getD_eq_getElem?_getD,List.getElem?_append,h.len,hik]]
   refine (h.cells i hik).keep fun b ⟨b1,b2,b3⟩=>⟨⟨b1,by omega,hv' b b2 b3⟩,?_⟩
   rw [hg.block b (by omega) (fun e=>b3 e.symm),Below.heap_alloc _ _ _ (by omega),hb.block b b2]
  ·have:i=k:=by omega
   subst this
   rw [show (us ++ [u]).getD i (.bool false)=u by simp [List.getD_eq_getElem?_getD,List.getElem?_append,h.len]]
   have hs:=Own.outS hu (F:=fun k=>k < wr.heap.size) (fun k hk=>hk)
   refine hs.keep fun b ⟨b1,b2⟩=>⟨⟨by omega,by omega,fun e=>?_⟩,?_⟩
   ·rcases hat with e1 | e1
    ·have:=hv b (e1.symm.trans e);omega
    ·rw [e1] at e;cases e;omega
   ·rw [hg.block b (by omega) (fun e=>by have:=hv b e.symm;omega),Below.heap_alloc _ _ _ (by omega)]
theorem box_below (w:World) (o:Obj):Below w.heap.size w (w.alloc o):=(Below.refl _ w).alloc (Nat.le_refl _) _
theorem find_err {st:St} {s:List UInt8} {e:Int} (h:stFind st s=.error e):e≠0:=by
 unfold stFind at h
 split at h
 ·split at h
  ·cases h
  ·cases h;decide
 ·cases h;decide
structure Calm (fs:List File) (k d:Nat):Prop where
 files:fs.length≤k
 names:∀ f∈fs,nameB f.name=true
 data:∀ f∈fs,f.data.length≤d
 safe:∀ f∈fs,f.safe≤f.data.length
theorem Calm.nil:Calm [] 0 0:=⟨by simp,by simp,by simp,by simp⟩
theorem Calm.mono {fs:List File} {k d k' d':Nat} (h:Calm fs k d) (hk:k≤k') (hd:d≤d'):Calm fs k' d':=⟨Nat.le_trans h.files hk,h.names,fun f hf=>Nat.le_trans (h.data f hf) hd,h.safe⟩
theorem Calm.dropL {fs:List File} {k d:Nat} (h:Calm fs k d) (s:List UInt8):Calm (dropL File.name s fs) k d :=
 ⟨Nat.le_trans (List.length_filter_le _ _) h.files,fun g hg=>h.names g (mem_dropL.1 hg).1,fun g hg=>h.data g (mem_dropL.1 hg).1,fun g hg=>h.safe g (mem_dropL.1 hg).1⟩
theorem Calm.modest {st:St} {k d n:Nat} (h:Calm st.files k d) (hp:st.power≤9223372036854775807) (hk:k < 2147483648) (hd:d+n≤2147483648):Modest st n :=
 ⟨fun f hf=>by have:=h.data f hf;omega,by omega,by have:=h.files;omega,hp⟩
end Go.Proofs.YtaalbcfpacpgfaaGreat
