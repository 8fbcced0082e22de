/- Merged of Y7 Y8 Y9 Y10 Y11. -/
import Derived.BigRegion
import Derived.Deep.CutBlock
import Derived.Deep.RegionHeld
import Derived.Test.YtaalbcfpacpgfaaGreatZaXZ
import Derived.Test.YtaalbcfpacpgfaaGreatZaY4
import Derived.Test.YtaalbcfpacpgfaaGreatZaXA
set_option linter.unusedVariables false
set_option linter.unusedSimpArgs false
namespace Go.Proofs.YtaalbcfpacpgfaaGreat
open Go.RowKit Go.Lib Go.Vfs Go.Par Go.Typ Go.Shelf
theorem box3 {W:World} {b:Nat} {v0 v1 v2:Value} {t:TypeId} (h:W.heap[b]? = some (.cells #[v0,v1,v2] t (0,0))) :
  (W.cell? ⟨b,0,none⟩=some v0∧W.cell? ⟨b,1,none⟩=some v1∧W.cell? ⟨b,2,none⟩=some v2):=by
 simp [World.cell?,h]
theorem box3_frozen {W:World} {b:Nat} {v0 v1 v2:Value} {t:TypeId} (h:W.heap[b]? = some (.cells #[v0,v1,v2] t (0,0))) :
  (W.frozen? ⟨b,0,none⟩=false∧W.frozen? ⟨b,1,none⟩=false∧W.frozen? ⟨b,2,none⟩=false):=by
 simp [World.frozen?,h]
theorem put3 {W:World} {r:Nat} {u0 u1 u2 v0 v1 v2:Value} {t:TypeId} (hr:W.heap[r]? = some (.cells #[u0,u1,u2] t (0,0))) :
  (((W.setCell ⟨r,0,none⟩ v0).setCell ⟨r,1,none⟩ v1).setCell ⟨r,2,none⟩ v2).heap[r]? = some (.cells #[v0,v1,v2] t (0,0)):=by
 have h0:=cells_put hr 0 v0
 have h1:=cells_put h0 1 v1
 have h2:=cells_put h1 2 v2
 simpa using h2
theorem end3 {W:World} {r:Nat} {u0 u1 u2:Value} (v0 v1 v2:Value) {t:TypeId} (hr:W.heap[r]? = some (.cells #[u0,u1,u2] t (0,0))) :
  ∃ Wf,Wf=(((W.setCell ⟨r,0,none⟩ v0).setCell ⟨r,1,none⟩ v1).setCell ⟨r,2,none⟩ v2)∧Wf.heap[r]? = some (.cells #[v0,v1,v2] t (0,0))∧Kept (· = r) W Wf :=
 ⟨_,rfl,put3 hr,Kept.setCell (F:=(· = r)) (p:=⟨r,2,none⟩) (Kept.setCell (F:=(· = r)) (p:=⟨r,1,none⟩) (Kept.setCell (F:=(· = r)) (p:=⟨r,0,none⟩) (Kept.refl _ _) (.inl rfl) v0) (.inl rfl) v1) (.inl rfl) v2⟩
theorem sliced_tail {w:World} {B:Nat} {A:Option Addr} {c:Nat} {l:List UInt8} (h:Seg w B (.slice A l.length c) (byteCells l)) {n:Nat} (hn:n≤l.length) :
  ∃ A2 c2,sliced A n l.length c 1=.slice A2 (l.length - n) c2∧Seg w B (.slice A2 (l.drop n).length c2) (byteCells (l.drop n)):=by
 obtain ⟨-,A2,c2,e,h2⟩:=seg_sub h n l.length hn (Nat.le_refl _)
 refine ⟨A2,c2,e,?_⟩
 have:(l.drop n).take (l.length - n)=l.drop n:=List.take_of_length_le (by simp)
 rw [this] at h2
 rw [List.length_drop]
 exact h2
theorem slice_lB (A:Option Addr) (n c l:Nat) (w:World) (h:l≤n):(Instr.slice 24 (.slice A n c) (some (.int .i64 (l:Int))) none none).run Tryz.prog w=.ok (sliced A l n c 1) w:=by
 have ht':Tryz.prog.underlying 24=some (.slice (Tryz.prog.elem 24)):=by simp [Program.elem,Tryz.underlying24]
 have he:Tryz.prog.elem 24=5:=by simp [Program.elem,Tryz.underlying24]
 rw [run_slice_l w 24 _ _ _ ht' .i64 _ (by omega) (by omega),he,Tryz.sizeOf5]
 simp [Result.andThen]
def SNum (l:List UInt8) (n B:Nat) (left:Int) (bad:Bool) (w:World) (e:Ending) (w':World):Prop :=
 ∃ (A:Option Addr) (c:Nat) (l':List UInt8) (bad':Bool) (k:Nat),e=.returned (.tuple #[.agg #[.slice A l'.length c,.int .i64 left,.bool bad'],.int .i64 (k:Int)])∧Seg w' B (.slice A l'.length c) (byteCells l')∧Below w.heap.size w w' ∧
  ((n≤l.length∧l'=l.drop n∧k=numB (l.take n)∧bad'=bad)∨(l.length < n∧l'=l∧k=0∧bad'=true))
set_option maxRecDepth 20000 in
set_option maxHeartbeats 2000000 in
theorem snum_any (l:List UInt8) (n:Nat) (hn:n≤4) (B:Nat) (A:Option Addr) (c:Nat) (left:Int) (bad:Bool) (w:World) (hs:Seg w B (.slice A l.length c) (byteCells l)) (hB:B≤w.heap.size) (hl:l.length≤1000000000) :
  Calls Tryz.prog 129 #[.agg #[.slice A l.length c,.int .i64 left,.bool bad],.int .i64 (n:Int)] w (SNum l n B left bad w):=by
 obtain ⟨P,hP⟩:∃ P,P=SNum l n B left bad w:=⟨_,rfl⟩
 have HPO:=Lib.hid hP
 rw [←hP]
 clear hP
 obtain ⟨W2,hW2⟩:∃ W2,W2=(w.alloc (.cells #[.slice A l.length c,.int .i64 left,.bool bad] 192)).alloc (.cells #[.slice none 0 0,.int .i64 0,.bool false] 192):=⟨_,rfl⟩
 have hb2:Below w.heap.size w W2:=by rw [hW2];exact ((Below.refl _ _).alloc (Nat.le_refl _) _).alloc (by simp) _
 have hbx:W2.heap[w.heap.size]? = some (.cells #[.slice A l.length c,.int .i64 left,.bool bad] 192 (0,0)):=by
  rw [hW2,Below.heap_alloc _ _ _ (by simp)];exact heap_alloc_new _ _
 have hrs:W2.heap[w.heap.size+1]? = some (.cells #[.slice none 0 0,.int .i64 0,.bool false] 192 (0,0)):=by
  rw [hW2]
  have:=heap_alloc_new (w.alloc (.cells #[.slice A l.length c,.int .i64 left,.bool bad] 192)) (.cells #[.slice none 0 0,.int .i64 0,.bool false] 192)
  simpa using this
 have HS2:=Lib.hid (hs.below (hb2.mono hB))
 have HB2:=Lib.hid hb2;have HBX:=Lib.hid hbx;have HRS:=Lib.hid hrs
 have HZ2:Hid (W2.heap.size=w.heap.size+2):=Lib.hid (by rw [hW2];simp)
 obtain ⟨y0,y1,y2⟩:=box3 hbx
 rw [hW2] at y0 y1 y2
 clear hb2 hbx hrs hs
 have HEND:Hid (∀ (Wq:World) (A':Option Addr) (l':List UInt8) (c':Nat) (bad':Bool),Kept (fun g=>g=w.heap.size∨g=w.heap.size+1) W2 Wq→Wq.heap[w.heap.size+1]? = some (.cells #[.slice A' l'.length c',.int .i64 left,.bool bad'] 192 (0,0))→Seg W2 B (.slice A' l'.length c') (byteCells l')→Seg Wq B (.slice A' l'.length c') (byteCells l')∧Below w.heap.size w Wq):=Lib.hid fun Wq A' l' c' bad' hk hb hsg=>by
  refine ⟨hsg.keep fun b o hb=>World.cell?_of_block (w:=W2) (a:=⟨b,o,none⟩) (hk.block b (by have:=HZ2.out;omega) (by show ¬ (b=_∨b=_);omega)),HB2.out.trans (hk.below (by have:=HZ2.out;omega) (fun g hg=>by omega))⟩
 by_cases hlt:l.length < n
 ·have hd:(l.length:Int) < (n:Int):=by omega
  obtain ⟨q0,q1,q2⟩:=box3_frozen HBX.out
  rw [hW2] at q0 q1 q2
  go_enter Tryz.func129,Tryz.ntmps129
  go_upto_region 2 with fail
  rw [←hW2] at y0 y1 y2 q0 q1 q2 ⊢
  clear hW2
  obtain ⟨W3,hW3⟩:∃ W3,W3=W2.setCell ⟨w.heap.size,2,none⟩ (.bool true):=⟨_,rfl⟩
  have hk3:Kept (fun g=>g=w.heap.size∨g=w.heap.size+1) W2 W3:=by rw [hW3];exact (Kept.refl _ _).setCell (p:=⟨w.heap.size,2,none⟩) (.inl (.inl rfl)) _
  have hbx3:W3.heap[w.heap.size]? = some (.cells #[.slice A l.length c,.int .i64 left,.bool true] 192 (0,0)):=by
   rw [hW3];simpa using cells_put HBX.out 2 (.bool true)
  have hrs3:W3.heap[w.heap.size+1]? = some (.cells #[.slice none 0 0,.int .i64 0,.bool false] 192 (0,0)):=by
   rw [hW3,Below.heap_setCell _ _ _ _ (by simp)];exact HRS.out
  have HK3:=Lib.hid hk3;have HB3:=Lib.hid hbx3;have HR3:=Lib.hid hrs3
  clear hk3 hbx3 hrs3
  go_upto_region 3 with fail
  rw [←hW3]
  clear hW3 y0 y1 y2 q0 q1 q2
  obtain ⟨y0,y1,y2⟩:=box3 HB3.out
  obtain ⟨r0,r1,r2⟩:=box3 HR3.out
  obtain ⟨s0,s1,s2⟩:=box3_frozen HR3.out
  obtain ⟨Wf,hWf,hbf,hkf⟩:=end3 (.slice A l.length c) (.int .i64 left) (.bool true) HR3.out
  have HE:Hid (P (.returned (.tuple #[.agg #[.slice A l.length c,.int .i64 left,.bool true],.int .i64 0])) Wf):=Lib.hid (by
   rw [HPO.out]
   obtain ⟨h1,h2⟩:=HEND.out Wf A l c true (HK3.out.trans' (hkf.mono fun g _ hg=>.inr hg)) hbf HS2.out
   exact ⟨A,c,l,true,0,rfl,h1,h2,.inr ⟨hlt,rfl,rfl,rfl⟩⟩)
  have HBF:=Lib.hid hbf
  have HWF:=Lib.hid hWf
  clear hbf hkf hWf
  go_wp2
  rw [←HWF.out]
  obtain ⟨f0,f1,f2⟩:=box3 HBF.out
  refine bodyPost_ret (v:=.tuple #[.agg #[.slice A l.length c,.int .i64 left,.bool true],.int .i64 0]) (by simp [results,Tryz.results129,go_sem,f0,f1,f2]) rfl ?_
  exact HE.out
 ·have hle:n≤l.length:=by omega
  have hd:¬ ((l.length:Int) < (n:Int)):=by omega
  obtain ⟨A0,c0,e0,hc,hm,hat⟩:=HS2.out.open_bytes
  injection e0 with e1 _ e3
  subst e1 e3
  obtain ⟨A2,c2,hsl,hsg⟩:=sliced_tail HS2.out hle
  have hrun:=fun W=>slice_lB A l.length c n W hle
  obtain ⟨m,hm2⟩:∃ m,m=l.length - n:=⟨_,rfl⟩
  rw [hsl,←hm2] at hrun
  have HM:Hid ((l.drop n).length=m):=Lib.hid (by rw [List.length_drop,hm2])
  have HAT:=Lib.hid hat;have HSG:=Lib.hid hsg;have HRUN:=Lib.hid hrun
  clear hat hsg hsl hrun hm2
  go_enter Tryz.func129,Tryz.ntmps129
  go_upto_region 6 with fail
  rw [←hW2] at y0 y1 y2 ⊢
  clear hW2
  go_loopw [6,7] (fun sv iv W=>∃ k:Nat,k≤n∧iv=.int .i64 k∧sv=.int .i64 (numB (l.take k):Nat)∧W=W2) (fun _ iv _=>n - (RowKit.intOf iv).toNat)
  case atStart=>exact ⟨0,by omega,rfl,rfl,rfl⟩
  case round =>
   obtain ⟨k,hk,rfl,rfl,rfl⟩:=hrel
   by_cases hkn:k < n
   ·obtain ⟨b,off,x,rfl,hbb,hcl,hx,HX⟩:=HAT.out.byte (Nat.lt_of_lt_of_le hkn hle)
    have hnl:=numB_lt (l.take k)
    have htl:(l.take k).length=k:=by rw [List.length_take];omega
    have hp:256 ^ k≤256 ^ 3:=Nat.pow_le_pow_right (by omega) (by omega)
    rw [htl] at hnl
    have hnx:numB (l.take (k+1))=numB (l.take k) * 256+x:=by
     have hkm:k < l.length:=by omega
     have hx':=HX.out
     rw [List.getD_eq_getElem?_getD,List.getElem?_eq_getElem hkm] at hx'
     rw [List.take_succ_eq_append_getElem hkm,numB_snoc,←hx']
     rfl
    generalize numB (l.take k)=s at *
    have HNX:=Lib.hid hnx
    clear hnx htl
    have hs2:(s:Int)≤16777216:=by
     have:(256:Nat) ^ 3=16777216:=by decide
     omega
    clear hnl hp
    go_wp2
    go_roundw
    case rel=>exact ⟨k+1,by omega,by go_num,by rw [HNX.out];go_num,trivial⟩
    case measure=>simp [RowKit.intOf];omega
   ·have hkn':k=n:=by omega
    subst hkn'
    have hrun:=HRUN.out
    obtain ⟨W3,hW3⟩:∃ W3,W3=wr.setCell ⟨w.heap.size,0,none⟩ (.slice A2 m c2):=⟨_,rfl⟩
    have hk3:Kept (fun g=>g=w.heap.size∨g=w.heap.size+1) wr W3:=by rw [hW3];exact (Kept.refl _ _).setCell (p:=⟨w.heap.size,0,none⟩) (.inl (.inl rfl)) _
    have hbx3:W3.heap[w.heap.size]? = some (.cells #[.slice A2 m c2,.int .i64 left,.bool bad] 192 (0,0)):=by
     rw [hW3];simpa using cells_put HBX.out 0 (.slice A2 m c2)
    have hrs3:W3.heap[w.heap.size+1]? = some (.cells #[.slice none 0 0,.int .i64 0,.bool false] 192 (0,0)):=by
     rw [hW3,Below.heap_setCell _ _ _ _ (by simp)];exact HRS.out
    have HK3:=Lib.hid hk3;have HB3:=Lib.hid hbx3;have HR3:=Lib.hid hrs3
    obtain ⟨q0,q1,q2⟩:=box3_frozen HBX.out
    clear hk3 hbx3 hrs3 hkn
    go_upto_region 10 with fail
    rw [←hW3]
    clear hW3 y0 y1 y2 q0 q1 q2
    obtain ⟨y0,y1,y2⟩:=box3 HB3.out
    obtain ⟨r0,r1,r2⟩:=box3 HR3.out
    obtain ⟨s0,s1,s2⟩:=box3_frozen HR3.out
    obtain ⟨Wf,hWf,hbf,hkf⟩:=end3 (.slice A2 m c2) (.int .i64 left) (.bool bad) HR3.out
    have HE:Hid (P (.returned (.tuple #[.agg #[.slice A2 m c2,.int .i64 left,.bool bad],.int .i64 (numB (l.take k):Nat)])) Wf):=Lib.hid (by
     rw [HPO.out]
     obtain ⟨h1,h2⟩:=HEND.out Wf A2 (l.drop k) c2 bad (HK3.out.trans' (hkf.mono fun g _ hg=>.inr hg)) (by rw [HM.out];exact hbf) HSG.out
     exact ⟨A2,c2,l.drop k,bad,_,by rw [HM.out],h1,h2,.inl ⟨hle,rfl,rfl,rfl⟩⟩)
    have HBF:=Lib.hid hbf
    have HWF:=Lib.hid hWf
    clear hbf hkf hWf
    go_wp2
    rw [←HWF.out]
    obtain ⟨f0,f1,f2⟩:=box3 HBF.out
    refine bodyPost_ret (v:=.tuple #[.agg #[.slice A2 m c2,.int .i64 left,.bool bad],.int .i64 (numB (l.take k):Nat)]) (by simp [results,Tryz.results129,go_sem,f0,f1,f2]) rfl ?_
    exact HE.out
theorem slice_toB' (A:Option Addr) (n c N:Nat) (w:World) (h:N≤c):(Instr.slice 24 (.slice A n c) none (some (.int .i64 (N:Int))) none).run Tryz.prog w=.ok (.slice A N c) w:=by
 have ht':Tryz.prog.underlying 24=some (.slice (Tryz.prog.elem 24)):=by simp [Program.elem,Tryz.underlying24]
 have he:Tryz.prog.elem 24=5:=by simp [Program.elem,Tryz.underlying24]
 rw [run_slice_h w 24 _ _ _ ht' .i64 _ (by omega) (by omega),he,Tryz.sizeOf5]
 simp [Result.andThen,sliced,Addr.add]
theorem SNum.len {l:List UInt8} {n:Nat} {l':List UInt8} {bad bad':Bool} {k:Nat} (hn:n≤4) (h:(n≤l.length∧l'=l.drop n∧k=numB (l.take n)∧bad'=bad)∨(l.length < n∧l'=l∧k=0∧bad'=true)) :
  l'.length≤l.length∧k≤4294967295∧(n=1→k≤255)∧(bad=true→bad'=true):=by
 rcases h with ⟨h1,rfl,rfl,rfl⟩|⟨h1,rfl,rfl,rfl⟩
 ·have h2:=numB_lt (l.take n)
  rw [List.length_take,Nat.min_eq_left h1] at h2
  refine ⟨by simp,?_,fun e=>?_,fun h=>h⟩
  ·have:256 ^ n≤256 ^ 4:=Nat.pow_le_pow_right (by omega) hn
   omega
  ·subst e;omega
 ·exact ⟨Nat.le_refl _,by omega,fun _=>by omega,fun _=>rfl⟩
structure ScB (w:World) (B:Nat) (A:Option Addr) (c:Nat) (l:List UInt8) (left:Int) (bad:Bool) (W:World):Prop where
 box:W.heap[w.heap.size]? = some (.cells #[.slice A l.length c,.int .i64 left,.bool bad] 192 (0,0))
 res:W.heap[w.heap.size+1]? = some (.cells #[.slice none 0 0,.int .i64 0,.bool false] 192 (0,0))
 seg:Seg W B (.slice A l.length c) (byteCells l)
 blw:Below w.heap.size w W
 two:w.heap.size+2≤W.heap.size
theorem ScB.new {w:World} {B:Nat} {A:Option Addr} {c:Nat} {l:List UInt8} {left:Int} {bad:Bool} (hs:Seg w B (.slice A l.length c) (byteCells l)) (hB:B≤w.heap.size) :
  ScB w B A c l left bad ((w.alloc (.cells #[.slice A l.length c,.int .i64 left,.bool bad] 192)).alloc (.cells #[.slice none 0 0,.int .i64 0,.bool false] 192)):=by
 have hb:Below w.heap.size w ((w.alloc (.cells #[.slice A l.length c,.int .i64 left,.bool bad] 192)).alloc (.cells #[.slice none 0 0,.int .i64 0,.bool false] 192)):=((Below.refl _ _).alloc (Nat.le_refl _) _).alloc (by simp) _
 refine ⟨?_,?_,hs.below (hb.mono hB),hb,by simp⟩
 ·rw [Below.heap_alloc _ _ _ (by simp)];exact heap_alloc_new _ _
 ·have:=heap_alloc_new (w.alloc (.cells #[.slice A l.length c,.int .i64 left,.bool bad] 192)) (.cells #[.slice none 0 0,.int .i64 0,.bool false] 192)
  simpa using this
theorem ScB.t {w:World} {B:Nat} {A:Option Addr} {c:Nat} {l:List UInt8} {left:Int} {bad:Bool} {W W':World} (h:ScB w B A c l left bad W) (hB:B≤w.heap.size) (hb:Below W.heap.size W W'):ScB w B A c l left bad W' :=
 ⟨(hb.block _ (lt_blk h.box)).trans h.box,(hb.block _ (lt_blk h.res)).trans h.res,h.seg.below (hb.mono (by have:=h.two;omega)),h.blw.trans (hb.mono h.blw.size),by have:=h.two;have:=hb.size;omega⟩
theorem ScB.put {w:World} {B:Nat} {A A':Option Addr} {c c':Nat} {l l':List UInt8} {left left':Int} {bad bad':Bool} {W W':World} (h:ScB w B A c l left bad W) (hB:B≤w.heap.size) (hk:Kept (· = w.heap.size) W W')
  (hb:W'.heap[w.heap.size]? = some (.cells #[.slice A' l'.length c',.int .i64 left',.bool bad'] 192 (0,0))) (hs:Seg W B (.slice A' l'.length c') (byteCells l')):ScB w B A' c' l' left' bad' W':=by
 have hz:=hk.size
 have h2:=h.two
 refine ⟨hb,(hk.block _ (lt_blk h.res) (by show ¬ _=_;omega)).trans h.res,hs.keep fun b o hb=>World.cell?_of_block (w:=W) (a:=⟨b,o,none⟩) (hk.block b (by omega) (by show ¬ _=_;omega)),h.blw.trans (hk.below (by omega) (fun g hg=>by omega)),by omega⟩
theorem ScB.fin {w:World} {B:Nat} {A:Option Addr} {c:Nat} {l:List UInt8} {left:Int} {bad:Bool} {W W':World} (h:ScB w B A c l left bad W) (hB:B≤w.heap.size) (hk:Kept (· = w.heap.size+1) W W') :
  Seg W' B (.slice A l.length c) (byteCells l)∧Below w.heap.size w W':=by
 have hz:=hk.size
 have h2:=h.two
 exact ⟨h.seg.keep fun b o hb=>World.cell?_of_block (w:=W) (a:=⟨b,o,none⟩) (hk.block b (by omega) (by show ¬ _=_;omega)),h.blw.trans (hk.below (by omega) (fun g hg=>by omega))⟩
def SName (l:List UInt8) (B:Nat) (left:Int) (bad:Bool) (w:World) (e:Ending) (w':World):Prop :=
 ∃ (A:Option Addr) (c:Nat) (l':List UInt8) (bad':Bool) (s:ByteArray),e=.returned (.tuple #[.agg #[.slice A l'.length c,.int .i64 left,.bool bad'],.string s])∧Seg w' B (.slice A l'.length c) (byteCells l')∧Below w.heap.size w w' ∧
  l'.length≤l.length∧s.size≤255∧(∀ s0 l0,nmR l=some (s0,l0)→s=s0∧l'=l0∧bad'=bad)∧(nmR l=none→bad'=true)∧(bad=true→bad'=true)
set_option maxRecDepth 20000 in
set_option maxHeartbeats 2000000 in
theorem sname_any (l:List UInt8) (B:Nat) (A:Option Addr) (c:Nat) (left:Int) (bad:Bool) (w:World) (hs:Seg w B (.slice A l.length c) (byteCells l)) (hB:B≤w.heap.size) (hl:l.length≤1000000000) :
  Calls Tryz.prog 130 #[.agg #[.slice A l.length c,.int .i64 left,.bool bad]] w (SName l B left bad w):=by
 obtain ⟨P,hP⟩:∃ P,P=SName l B left bad w:=⟨_,rfl⟩
 have HPO:=Lib.hid hP
 rw [←hP]
 clear hP
 obtain ⟨W2,hW2⟩:∃ W2,W2=(w.alloc (.cells #[.slice A l.length c,.int .i64 left,.bool bad] 192)).alloc (.cells #[.slice none 0 0,.int .i64 0,.bool false] 192):=⟨_,rfl⟩
 have hx2:ScB w B A c l left bad W2:=by rw [hW2];exact ScB.new hs hB
 obtain ⟨y0,y1,y2⟩:=box3 hx2.box
 have HX2:=Lib.hid hx2
 have HNU:=Lib.hid (snum_any l 1 (by omega) B A c left bad W2 hx2.seg (Nat.le_trans hB hx2.blw.size) hl)
 have HB:=Lib.hid hB
 rw [hW2] at y0 y1 y2
 clear hs hx2
 go_enter Tryz.func130,Tryz.ntmps130
 go_wp2_with fail
 rw [←hW2]
 clear hW2 y0 y1 y2
 refine HNU.out.mono ?_
 rintro e w3 ⟨A3,c3,l3,bad3,k,rfl,hs3,hb3,hcase⟩
 obtain ⟨hl3,-,hk1,hbm⟩:=SNum.len (by omega) hcase
 have hk255:=hk1 rfl
 have HCASE:=Lib.hid hcase
 have hx3:=HX2.out.t HB.out hb3
 obtain ⟨W4,hW4,hbx4,hkp4⟩:=end3 (.slice A3 l3.length c3) (.int .i64 left) (.bool bad3) hx3.box
 have hx4:ScB w B A3 c3 l3 left bad3 W4:=hx3.put HB.out hkp4 hbx4 hs3
 have HX4:=Lib.hid hx4;have HW4:=Lib.hid hW4
 obtain ⟨y0,y1,y2⟩:=box3 hx3.box
 obtain ⟨q0,q1,q2⟩:=box3_frozen hx3.box
 have HBM:=Lib.hid hbm
 have hl3b:l3.length≤1000000000:=by omega
 clear hcase hk1 hs3 hb3 hx3 hx4 hkp4 hbx4 hW4 HNU hbm
 go_upto_region 2 with fail
 rw [←HW4.out]
 clear HW4 y0 y1 y2 q0 q1 q2
 have hx4:=HX4.out
 obtain ⟨y0,y1,y2⟩:=box3 hx4.box
 by_cases hlt:l3.length < k
 ·have hd:(l3.length:Int) < (k:Int):=by omega
  obtain ⟨q0,q1,q2⟩:=box3_frozen hx4.box
  obtain ⟨W5,hW5⟩:∃ W5,W5=W4.setCell ⟨w.heap.size,2,none⟩ (.bool true):=⟨_,rfl⟩
  have hx5:ScB w B A3 c3 l3 left true W5:=hx4.put HB.out (by rw [hW5];exact Kept.setCell (F:=(· = w.heap.size)) (p:=⟨w.heap.size,2,none⟩) (Kept.refl _ _) (.inl rfl) _) (by rw [hW5];simpa using cells_put hx4.box 2 (.bool true)) hx4.seg
  have HX5:=Lib.hid hx5
  clear hx4 hx5
  go_upto_region 4 with fail
  rw [←hW5]
  clear hW5 y0 y1 y2 q0 q1 q2
  obtain ⟨y0,y1,y2⟩:=box3 HX5.out.box
  obtain ⟨r0,r1,r2⟩:=box3 HX5.out.res
  obtain ⟨s0,s1,s2⟩:=box3_frozen HX5.out.res
  obtain ⟨Wf,hWf,hbf,hkf⟩:=end3 (.slice A3 l3.length c3) (.int .i64 left) (.bool true) HX5.out.res
  have HE:Hid (P (.returned (.tuple #[.agg #[.slice A3 l3.length c3,.int .i64 left,.bool true],.string ⟨#[]⟩])) Wf):=Lib.hid (by
   rw [HPO.out]
   obtain ⟨h1,h2⟩:=HX5.out.fin HB.out hkf
   refine ⟨A3,c3,l3,true,⟨#[]⟩,rfl,h1,h2,hl3,by decide,fun s0 l0 h=>?_,fun _=>rfl,fun _=>rfl⟩
   exfalso
   rcases HCASE.out with ⟨h3,h4,h5,h6⟩|⟨h3,h4,h5,h6⟩
   ·match l,h3 with
    | x :: l1,_ =>
     rw [nmR] at h
     have e1:numB ((x :: l1).take 1)=x.toNat:=by simp [numB]
     have e2:(x :: l1).drop 1=l1:=rfl
     rw [e1] at h5
     rw [e2] at h4
     rw [if_neg (by rw [←h5,←h4];omega)] at h
     cases h
   ·omega)
  have HBF:=Lib.hid hbf
  have HWF:=Lib.hid hWf
  clear hbf hkf hWf
  go_wp2
  rw [←HWF.out]
  obtain ⟨f0,f1,f2⟩:=box3 HBF.out
  refine bodyPost_ret (v:=.tuple #[.agg #[.slice A3 l3.length c3,.int .i64 left,.bool true],.string ⟨#[]⟩]) (by simp [results,Tryz.results130,go_sem,f0,f1,f2]) rfl ?_
  exact HE.out
 ·have hle:k≤l3.length:=by omega
  have hd:¬ ((l3.length:Int) < (k:Int)):=by omega
  obtain ⟨A0,c0,e0,hc,hm,-⟩:=hx4.seg.open_bytes
  injection e0 with e1 _ e3
  subst e1 e3
  obtain ⟨A5,c5,hsl,hsg⟩:=sliced_tail hx4.seg hle
  have hrun:=fun W=>slice_lB A3 l3.length c3 k W hle
  have hrun2:=fun W=>slice_toB' A3 l3.length c3 k W (by omega)
  obtain ⟨m,hm2⟩:∃ m,m=l3.length - k:=⟨_,rfl⟩
  rw [hsl,←hm2] at hrun
  have hml:(l3.drop k).length=m:=by rw [List.length_drop,hm2]
  have hfront:Seg W4 B (.slice A3 k c3) (byteCells (l3.take k)):=by
   obtain ⟨-,A2,c2,e1,h⟩:=seg_sub hx4.seg 0 k (Nat.zero_le _) hle
   have e2:sliced A3 0 k c3 1=.slice A3 k c3:=by unfold sliced;cases A3 with
    | none=>simp
    | some a=>simp [Addr.add]
   rw [e2,Nat.sub_zero] at e1
   injection e1 with e3 _ e4
   subst e3 e4
   simpa using h
  have hconv:=conv_segB hfront
  obtain ⟨W5,hW5⟩:∃ W5,W5=W4.setCell ⟨w.heap.size,0,none⟩ (.slice A5 m c5):=⟨_,rfl⟩
  have hx5:ScB w B A5 c5 (l3.drop k) left bad3 W5:=hx4.put HB.out (by rw [hW5];exact Kept.setCell (F:=(· = w.heap.size)) (p:=⟨w.heap.size,0,none⟩) (Kept.refl _ _) (.inl rfl) _) (by rw [hW5,hml];simpa using cells_put hx4.box 0 (.slice A5 m c5)) hsg
  have HX5:=Lib.hid hx5
  have HML:=Lib.hid hml
  obtain ⟨q0,q1,q2⟩:=box3_frozen hx4.box
  have HSZ:Hid ((⟨(l3.take k).toArray⟩:ByteArray).size=k):=Lib.hid (by show (l3.take k).toArray.size=k;rw [List.size_toArray,List.length_take];omega)
  clear hx4 hx5 hsg hsl hfront hm2 hml
  generalize hss:(⟨(l3.take k).toArray⟩:ByteArray)=s at *
  have HSS:=Lib.hid hss
  clear hss
  go_upto_region 7 with fail
  rw [←hW5]
  clear hW5 y0 y1 y2 q0 q1 q2 hrun hrun2 hconv
  obtain ⟨y0,y1,y2⟩:=box3 HX5.out.box
  obtain ⟨r0,r1,r2⟩:=box3 HX5.out.res
  obtain ⟨s0,s1,s2⟩:=box3_frozen HX5.out.res
  obtain ⟨Wf,hWf,hbf,hkf⟩:=end3 (.slice A5 m c5) (.int .i64 left) (.bool bad3) HX5.out.res
  have HE:Hid (P (.returned (.tuple #[.agg #[.slice A5 m c5,.int .i64 left,.bool bad3],.string s])) Wf):=Lib.hid (by
   rw [HPO.out]
   obtain ⟨h1,h2⟩:=HX5.out.fin HB.out hkf
   refine ⟨A5,c5,l3.drop k,bad3,s,by rw [HML.out],h1,h2,by rw [HML.out];have:=HML.out;rw [List.length_drop] at this;omega,by rw [HSZ.out];omega,fun s0 l0 h=>?_,fun h=>?_,HBM.out⟩
   ·rcases HCASE.out with ⟨h3,h4,h5,h6⟩ | ⟨h3,h4,h5,h6⟩
    ·match l,h3 with
     | x :: l1,_ =>
      rw [nmR] at h
      have e1:numB ((x :: l1).take 1)=x.toNat:=by simp [numB]
      have e2:(x :: l1).drop 1=l1:=rfl
      rw [e1] at h5
      rw [e2] at h4
      rw [if_pos (by rw [←h5,←h4];exact hle)] at h
      injection h with h
      injection h with h7 h8
      rw [←h7,←h8,←h5,←h4]
      exact ⟨HSS.out.symm,rfl,h6⟩
    ·have:l=[]:=List.eq_nil_of_length_eq_zero (by omega)
     subst this
     cases h
   ·rcases HCASE.out with ⟨h3,h4,h5,h6⟩ | ⟨h3,h4,h5,h6⟩
    ·match l,h3 with
     | x :: l1,_ =>
      rw [nmR] at h
      have e1:numB ((x :: l1).take 1)=x.toNat:=by simp [numB]
      have e2:(x :: l1).drop 1=l1:=rfl
      rw [e1] at h5
      rw [e2] at h4
      rw [if_pos (by rw [←h5,←h4];exact hle)] at h
      cases h
    ·exact h6)
  rw [HML.out] at y0
  have HBF:=Lib.hid hbf
  have HWF:=Lib.hid hWf
  clear hbf hkf hWf
  go_wp2
  rw [←HWF.out]
  obtain ⟨f0,f1,f2⟩:=box3 HBF.out
  refine bodyPost_ret (v:=.tuple #[.agg #[.slice A5 m c5,.int .i64 left,.bool bad3],.string s]) (by simp [results,Tryz.results130,go_sem,f0,f1,f2]) rfl ?_
  exact HE.out
structure TS (w:World) (B:Nat) (A:Option Addr) (c:Nat) (l:List UInt8) (lf:Int) (bad:Bool) (k num:Int) (s:ByteArray) (av:Value) (W:World):Prop where
 box:W.heap[w.heap.size]? = some (.cells #[.slice A l.length c,.int .i64 lf,.bool bad] 192 (0,0))
 res:W.heap[w.heap.size+1]? = some (.cells #[.slice none 0 0,.int .i64 0,.bool false] 192 (0,0))
 rty:W.heap[w.heap.size+1+1]? = some (.cells #[.int .i64 0,.int .i64 0,.string ⟨#[]⟩,.slice none 0 0] 61 (0,0))
 ty:W.heap[w.heap.size+1+1+1]? = some (.cells #[.int .i64 k,.int .i64 num,.string s,av] 61 (0,0))
 seg:Seg W B (.slice A l.length c) (byteCells l)
 blw:Below w.heap.size w W
 big:w.heap.size+4≤W.heap.size
section
variable {w:World} {B:Nat} {A A':Option Addr} {c c':Nat} {l l':List UInt8} {lf lf':Int} {bad bad':Bool} {k num:Int} {s:ByteArray} {av:Value} {W W':World}
theorem TS.t (h:TS w B A c l lf bad k num s av W) (hB:B≤w.heap.size) (hb:Below W.heap.size W W'):TS w B A c l lf bad k num s av W' :=
 ⟨(hb.block _ (lt_blk h.box)).trans h.box,(hb.block _ (lt_blk h.res)).trans h.res,(hb.block _ (lt_blk h.rty)).trans h.rty,(hb.block _ (lt_blk h.ty)).trans h.ty,h.seg.below (hb.mono (by have:=h.big;omega)),h.blw.trans (hb.mono h.blw.size),by have:=h.big;have:=hb.size;omega⟩
theorem TS.put (h:TS w B A c l lf bad k num s av W) (hB:B≤w.heap.size) (hk:Kept (· = w.heap.size) W W')
  (hb:W'.heap[w.heap.size]? = some (.cells #[.slice A' l'.length c',.int .i64 lf',.bool bad'] 192 (0,0))) (hs:Seg W B (.slice A' l'.length c') (byteCells l')):TS w B A' c' l' lf' bad' k num s av W':=by
 have hz:=hk.size
 have h2:=h.big
 refine ⟨hb,(hk.block _ (lt_blk h.res) (by show ¬ _=_;omega)).trans h.res,(hk.block _ (lt_blk h.rty) (by show ¬ _=_;omega)).trans h.rty,(hk.block _ (lt_blk h.ty) (by show ¬ _=_;omega)).trans h.ty,hs.keep fun b o hb=>World.cell?_of_block (w:=W) (a:=⟨b,o,none⟩) (hk.block b (by omega) (by show ¬ _=_;omega)),h.blw.trans (hk.below (by omega) (fun g hg=>by omega)),by omega⟩
theorem TS.putTy {k' num':Int} {s':ByteArray} {av':Value} (h:TS w B A c l lf bad k num s av W) (hB:B≤w.heap.size) (hk:Kept (· = w.heap.size+1+1+1) W W')
  (hb:W'.heap[w.heap.size+1+1+1]? = some (.cells #[.int .i64 k',.int .i64 num',.string s',av'] 61 (0,0))):TS w B A c l lf bad k' num' s' av' W':=by
 have hz:=hk.size
 have h2:=h.big
 refine ⟨(hk.block _ (lt_blk h.box) (by show ¬ _=_;omega)).trans h.box,(hk.block _ (lt_blk h.res) (by show ¬ _=_;omega)).trans h.res,(hk.block _ (lt_blk h.rty) (by show ¬ _=_;omega)).trans h.rty,hb,h.seg.keep fun b o hb=>World.cell?_of_block (w:=W) (a:=⟨b,o,none⟩) (hk.block b (by omega) (by show ¬ _=_;omega)),h.blw.trans (hk.below (by omega) (fun g hg=>by omega)),by omega⟩
theorem TS.setTy (h:TS w B A c l lf bad k num s av W) (hB:B≤w.heap.size) {i:Nat} {x:Value} {k' num':Int} {s':ByteArray} {av':Value}
  (hb:(W.setCell ⟨w.heap.size+1+1+1,i,none⟩ x).heap[w.heap.size+1+1+1]? = some (.cells #[.int .i64 k',.int .i64 num',.string s',av'] 61 (0,0))):TS w B A c l lf bad k' num' s' av' (W.setCell ⟨w.heap.size+1+1+1,i,none⟩ x) :=
 h.putTy hB (Kept.setCell (F:=(· = w.heap.size+1+1+1)) (p:=⟨w.heap.size+1+1+1,i,none⟩) (Kept.refl _ _) (.inl rfl) x) hb
theorem TS.setK (h:TS w B A c l lf bad k num s av W) (hB:B≤w.heap.size) (k':Int):TS w B A c l lf bad k' num s av (W.setCell ⟨w.heap.size+1+1+1,0,none⟩ (.int .i64 k')):=h.setTy hB (by simpa using cells_put h.ty 0 (.int .i64 k'))
theorem TS.setNum (h:TS w B A c l lf bad k num s av W) (hB:B≤w.heap.size) (n':Int):TS w B A c l lf bad k n' s av (W.setCell ⟨w.heap.size+1+1+1,1,none⟩ (.int .i64 n')):=h.setTy hB (by simpa using cells_put h.ty 1 (.int .i64 n'))
theorem TS.setName (h:TS w B A c l lf bad k num s av W) (hB:B≤w.heap.size) (s':ByteArray):TS w B A c l lf bad k num s' av (W.setCell ⟨w.heap.size+1+1+1,2,none⟩ (.string s')):=h.setTy hB (by simpa using cells_put h.ty 2 (.string s'))
theorem TS.setArgs (h:TS w B A c l lf bad k num s av W) (hB:B≤w.heap.size) (av':Value):TS w B A c l lf bad k num s av' (W.setCell ⟨w.heap.size+1+1+1,3,none⟩ av'):=h.setTy hB (by simpa using cells_put h.ty 3 av')
theorem TS.setLf (h:TS w B A c l lf bad k num s av W) (hB:B≤w.heap.size) (x:Int):TS w B A c l x bad k num s av (W.setCell ⟨w.heap.size,1,none⟩ (.int .i64 x)) :=
 h.put hB (Kept.setCell (F:=(· = w.heap.size)) (p:=⟨w.heap.size,1,none⟩) (Kept.refl _ _) (.inl rfl) _) (by simpa using cells_put h.box 1 (.int .i64 x)) h.seg
theorem TS.setBad (h:TS w B A c l lf bad k num s av W) (hB:B≤w.heap.size) (x:Bool):TS w B A c l lf x k num s av (W.setCell ⟨w.heap.size,2,none⟩ (.bool x)) :=
 h.put hB (Kept.setCell (F:=(· = w.heap.size)) (p:=⟨w.heap.size,2,none⟩) (Kept.refl _ _) (.inl rfl) _) (by simpa using cells_put h.box 2 (.bool x)) h.seg
end
theorem TS.grown {w:World} {B:Nat} {A:Option Addr} {c:Nat} {l:List UInt8} {lf:Int} {bad:Bool} {k num:Int} {s:ByteArray} {av:Value} {W W':World} {o:Obj} {rv:Value} (h:TS w B A c l lf bad k num s av W) (hB:B≤w.heap.size)
  (hg:(W.alloc o).grownBy W' rv.ownBlock) (hr:∀ g,rv.ownBlock=some g→w.heap.size+4≤g):TS w B A c l lf bad k num s av W':=by
 have h1:=h.big
 have key:∀ g,g < w.heap.size+4→W'.heap[g]? = W.heap[g]?:=fun g hlt=>(hg.block g (by simp;omega) (fun e=>by have:=hr g e.symm;omega)).trans (Below.heap_alloc _ _ _ (by omega))
 have hz:=hg.size
 simp at hz
 exact ⟨(key _ (by omega)).trans h.box,(key _ (by omega)).trans h.res,(key _ (by omega)).trans h.rty,(key _ (by omega)).trans h.ty,h.seg.keep fun b o hb=>World.cell?_of_block (w:=W) (a:=⟨b,o,none⟩) (key b (by omega)),below_grow h.blw h.blw.size _ hg (fun g e=>by have:=hr g e;omega),by omega⟩
def STyp (l:List UInt8) (q:Nat) (bad:Bool) (B:Nat) (X:Option (Ty × Nat × List UInt8)) (w:World) (e:Ending) (w':World):Prop :=
 ∃ (T:Ty) (A2:Option Addr) (c2:Nat) (A:Option Addr) (c:Nat) (l':List UInt8) (lf:Int) (bad':Bool),e=.returned (.tuple #[.agg #[.slice A l'.length c,.int .i64 lf,.bool bad'],tyV T.kind T.num T.name A2 T.args.length c2]) ∧
  TyAt (fun g=>w.heap.size≤g∧g < w'.heap.size) w' (tyV T.kind T.num T.name A2 T.args.length c2) T∧T.args.length≤255∧Seg w' B (.slice A l'.length c) (byteCells l')∧Below w.heap.size w w'∧l'.length≤l.length ∧
  (bad'=false→∃ q':Nat,bad=false∧X=some (T,q',l')∧lf=300 - (q':Int)∧q≤q'∧q'≤300)∧(bad'=true→bad=true∨X=none)
theorem TS.fin {w:World} {B:Nat} {A:Option Addr} {c:Nat} {l l0:List UInt8} {lf:Int} {bad bd:Bool} {k num:Int} {s:ByteArray} {A2:Option Addr} {c2:Nat} {ts:List Ty} {W W':World} {q:Nat} {X:Option (Ty × Nat × List UInt8)} (h:TS w B A c l lf bad k num s (.slice A2 ts.length c2) W) (hB:B≤w.heap.size)
  (hk:Kept (fun g=>g=w.heap.size+1∨g=w.heap.size+1+1) W W') (hT:TyAt (fun g=>w.heap.size+4≤g∧g < W.heap.size) W (tyV k num s A2 ts.length c2) (.mk k num s ts)) (hl:ts.length≤255) (hl0:l.length≤l0.length)
  (h1:bad=false→∃ q':Nat,bd=false∧X=some (.mk k num s ts,q',l)∧lf=300 - (q':Int)∧q≤q'∧q'≤300) (h2:bad=true→bd=true∨X=none) :
  STyp l0 q bd B X w (.returned (.tuple #[.agg #[.slice A l.length c,.int .i64 lf,.bool bad],.agg #[.int .i64 k,.int .i64 num,.string s,.slice A2 ts.length c2]])) W':=by
 have hz:=hk.size
 have hb:=h.big
 exact ⟨.mk k num s ts,A2,c2,A,c,l,lf,bad,rfl,hT.keep fun g hg=>⟨⟨by omega,by omega⟩,hk.block g hg.2 (by show ¬ (_∨_);omega)⟩,hl,h.seg.keep fun b o hb=>World.cell?_of_block (w:=W) (a:=⟨b,o,none⟩) (hk.block b (by omega) (by show ¬ (_∨_);omega)),h.blw.trans (hk.below (by omega) (fun g hg=>by omega)),hl0,h1,h2⟩
set_option maxRecDepth 20000 in
set_option maxHeartbeats 4000000 in
theorem styp_any (B:Nat) (f:Nat):∀ (l:List UInt8) (q:Nat) (bad:Bool) (A:Option Addr) (c:Nat) (lf:Int) (w:World),Seg w B (.slice A l.length c) (byteCells l)→B≤w.heap.size→l.length≤1000000000→lf=300 - (q:Int)→q≤300→301≤f+q →
  Calls Tryz.prog 131 #[.agg #[.slice A l.length c,.int .i64 lf,.bool bad]] w (STyp l q bad B (typQ f q l) w):=by
 induction f with
 | zero=>intro l q bad A c lf w hs hB hl hlf h1 h2;omega
 | succ f ih =>
  intro l q bad A c lf w hs hB hl hlf hq hf
  have IH:=Lib.hid ih
  have HBn:=Lib.hid hB
  clear ih
  obtain ⟨Y,hY⟩:∃ Y,Y=typQ (f+1) q l:=⟨_,rfl⟩
  have HY:=Lib.hid hY
  rw [←hY]
  clear hY
  obtain ⟨P,hP⟩:∃ P,P=STyp l q bad B Y w:=⟨_,rfl⟩
  have HPO:=Lib.hid hP
  rw [←hP]
  clear hP
  have hlf1:lf≤300 - (q:Int):=by omega
  have hlf2:300 - (q:Int)≤lf:=by omega
  clear hlf
  obtain ⟨W4,hW4⟩:∃ W4,W4=(((w.alloc (.cells #[.slice A l.length c,.int .i64 lf,.bool bad] 192)).alloc (.cells #[.slice none 0 0,.int .i64 0,.bool false] 192)).alloc (.cells #[.int .i64 0,.int .i64 0,.string ⟨#[]⟩,.slice none 0 0] 61)).alloc (.cells #[.int .i64 0,.int .i64 0,.string ⟨#[]⟩,.slice none 0 0] 61):=⟨_,rfl⟩
  have hT4:TS w B A c l lf bad 0 0 ⟨#[]⟩ (.slice none 0 0) W4:=by
   rw [hW4]
   have hb:=((((Below.refl w.heap.size w).alloc (Nat.le_refl _) (.cells #[.slice A l.length c,.int .i64 lf,.bool bad] 192)).alloc (by simp) (.cells #[.slice none 0 0,.int .i64 0,.bool false] 192)).alloc (by simp <;> omega) (.cells #[.int .i64 0,.int .i64 0,.string ⟨#[]⟩,.slice none 0 0] 61)).alloc (by simp <;> omega) (.cells #[.int .i64 0,.int .i64 0,.string ⟨#[]⟩,.slice none 0 0] 61)
   refine ⟨?_,?_,?_,?_,hs.below (hb.mono hB),hb,by simp⟩
   ·rw [Below.heap_alloc _ _ _ (by simp <;> omega),Below.heap_alloc _ _ _ (by simp <;> omega),Below.heap_alloc _ _ _ (by simp)];exact heap_alloc_new _ _
   ·rw [Below.heap_alloc _ _ _ (by simp <;> omega),Below.heap_alloc _ _ _ (by simp)]
    simpa using heap_alloc_new (w.alloc (.cells #[.slice A l.length c,.int .i64 lf,.bool bad] 192)) (.cells #[.slice none 0 0,.int .i64 0,.bool false] 192)
   ·rw [Below.heap_alloc _ _ _ (by simp)]
    simpa using heap_alloc_new ((w.alloc (.cells #[.slice A l.length c,.int .i64 lf,.bool bad] 192)).alloc (.cells #[.slice none 0 0,.int .i64 0,.bool false] 192)) (.cells #[.int .i64 0,.int .i64 0,.string ⟨#[]⟩,.slice none 0 0] 61)
   ·simpa using heap_alloc_new (((w.alloc (.cells #[.slice A l.length c,.int .i64 lf,.bool bad] 192)).alloc (.cells #[.slice none 0 0,.int .i64 0,.bool false] 192)).alloc (.cells #[.int .i64 0,.int .i64 0,.string ⟨#[]⟩,.slice none 0 0] 61)) (.cells #[.int .i64 0,.int .i64 0,.string ⟨#[]⟩,.slice none 0 0] 61)
  have HT4:=Lib.hid hT4
  have HNU:=Lib.hid (snum_any l 1 (by omega) B A c lf bad W4 hT4.seg (by have:=hT4.big;omega) hl)
  obtain ⟨y0,y1,y2⟩:=box3 hT4.box
  rw [hW4] at y0 y1 y2
  clear hT4 hs hB
  have HENDB:Hid (∀ (W W':World) (A:Option Addr) (c:Nat) (l':List UInt8) (lf':Int) (k:Nat),TS w B A c l' lf' true k 0 ⟨#[]⟩ (.slice none 0 0) W→Kept (fun g=>g=w.heap.size+1∨g=w.heap.size+1+1) W W'→l'.length≤l.length→(bad=true∨Y=none)→P (.returned (.tuple #[.agg #[.slice A l'.length c,.int .i64 lf',.bool true],.agg #[.int .i64 (k:Int),.int .i64 0,.string ⟨#[]⟩,.slice none 0 0]])) W'):=Lib.hid fun W W' A c l' lf' k hT hk hl' hb=>by
   rw [HPO.out]
   exact TS.fin (A2:=none) (c2:=0) (ts:=[]) hT HBn.out hk (TyAt.leaf _ _ (k:Int) 0 ⟨#[]⟩ none 0 (by simp [maxLen]) (by decide)) (by decide) hl' (fun h=>by cases h) (fun _=>hb)
  go_enter Tryz.func131,Tryz.ntmps131
  go_wp2_with fail
  rw [←hW4]
  clear hW4 y0 y1 y2
  refine HNU.out.mono ?_
  rintro e w5 ⟨A5,c5,l5,bad5,k,rfl,hs5,hb5,hcase⟩
  obtain ⟨hl5,-,hk1,hbm⟩:=SNum.len (by omega) hcase
  have hk255:=hk1 rfl
  have HCASE:=Lib.hid hcase
  have hT5:=HT4.out.t HBn.out hb5
  obtain ⟨Wa,hWa,hba,hka⟩:=end3 (.slice A5 l5.length c5) (.int .i64 lf) (.bool bad5) hT5.box
  have hTa:=hT5.put HBn.out hka hba hs5
  obtain ⟨W6,hW6⟩:∃ W6,W6=Wa.setCell ⟨w.heap.size+1+1+1,0,none⟩ (.int .i64 (k:Int)):=⟨_,rfl⟩
  have hT6:TS w B A5 c5 l5 lf bad5 (k:Int) 0 ⟨#[]⟩ (.slice none 0 0) W6:=by rw [hW6];exact hTa.setK HBn.out _
  have HT6:=Lib.hid hT6
  have HBM:=Lib.hid hbm
  obtain ⟨y0,y1,y2⟩:=box3 hT5.box
  obtain ⟨z0,z1,z2,z3⟩:=box4 hT5.ty
  obtain ⟨q0,q1,q2⟩:=box3_frozen hT5.box
  obtain ⟨f0,f1,f2,f3⟩:=box4_frozen hT5.ty
  clear hcase hk1 hs5 hb5 hT5 hka hba hTa HNU HT4 hbm hT6
  go_upto_region 3 with fail
  rw [←hWa,←hW6]
  clear hWa hW6 y0 y1 y2 z0 z1 z2 z3 q0 q1 q2 f0 f1 f2 f3
  obtain ⟨y0,y1,y2⟩:=box3 HT6.out.box
  obtain ⟨q0,q1,q2⟩:=box3_frozen HT6.out.box
  obtain ⟨W7,hW7⟩:∃ W7,W7=W6.setCell ⟨w.heap.size,1,none⟩ (.int .i64 (lf - 1)):=⟨_,rfl⟩
  have HT7:Hid (TS w B A5 c5 l5 (lf - 1) bad5 (k:Int) 0 ⟨#[]⟩ (.slice none 0 0) W7):=Lib.hid (by rw [hW7];exact HT6.out.setLf HBn.out _)
  go_upto_region 4 with fail
  rw [←hW7]
  clear hW7 y0 y1 y2 q0 q1 q2 HT6
  obtain ⟨y0,y1,y2⟩:=box3 HT7.out.box
  obtain ⟨q0,q1,q2⟩:=box3_frozen HT7.out.box
  by_cases hq3:q=300
  ·have hneg:lf - 1 < 0:=by omega
   have HYN:Hid (bad=true∨Y=none):=Lib.hid (.inr (by rw [HY.out,typQ,if_pos (by omega)]))
   obtain ⟨WW,hWW⟩:∃ WW,WW=W7.setCell ⟨w.heap.size,2,none⟩ (.bool true):=⟨_,rfl⟩
   have HT:Hid (TS w B A5 c5 l5 (lf - 1) true (k:Int) 0 ⟨#[]⟩ (.slice none 0 0) WW):=Lib.hid (by rw [hWW];exact HT7.out.setBad HBn.out true)
   obtain ⟨b0,b1,b2⟩:=box3 HT.out.box
   rw [hWW] at b0 b1 b2
   go_upto_region 7 with fail
   rw [←hWW]
   clear hWW y0 y1 y2 q0 q1 q2 b0 b1 b2 HT7
   have HTD:=Lib.hid (HT.out.t HBn.out ((Below.refl _ _).drew))
   generalize hWd:WW.drew=Wd at *
   obtain ⟨r0,r1,r2⟩:=box3 HTD.out.res
   obtain ⟨t0,t1,t2,t3⟩:=box4 HTD.out.rty
   obtain ⟨s0,s1,s2⟩:=box3_frozen HTD.out.res
   obtain ⟨v0,v1,v2,v3⟩:=box4_frozen HTD.out.rty
   refine wp_region_held (S:=fun W:World=>W.heap[w.heap.size]? = Wd.heap[w.heap.size]?∧W.heap[w.heap.size+1+1+1]? = Wd.heap[w.heap.size+1+1+1]?) (by kernel_rfl) ?_
   rw [show ({ heap:=WW.heap,tape:=WW.tape,drawn:=WW.drawn+1,os:=WW.os,output:=WW.output }:World)=Wd from hWd]
   clear hWd
   refine takeD (i:=0) (s:=26) (v:=.agg #[.slice A5 l5.length c5,.int .i64 (lf - 1),.bool true]) rfl rfl (by kernel_rfl) (by kernel_rfl) (by kernel_rfl) (fun _ _ _ h=>h) (Or.inl ⟨by rfl,fun w' hS=>by obtain ⟨hA,hB⟩:=hS;obtain ⟨e0,e1,e2⟩:=box3 (hA.trans HTD.out.box);go_simp⟩) ⟨rfl,rfl⟩ ?_
   try simp only [List.setIfInBounds_toArray,List.set_cons_zero,List.set_cons_succ]
   refine takeD (i:=1) (s:=27) (v:=.agg #[.int .i64 (k:Int),.int .i64 0,.string ⟨#[]⟩,.slice none 0 0]) rfl rfl (by kernel_rfl) (by kernel_rfl) (by kernel_rfl) (fun _ _ _ h=>h) (Or.inl ⟨by rfl,fun w' hS=>by obtain ⟨hA,hB⟩:=hS;obtain ⟨e0,e1,e2,e3⟩:=box4 (hB.trans HTD.out.ty);go_simp⟩) ⟨rfl,rfl⟩ ?_
   try simp only [List.setIfInBounds_toArray,List.set_cons_zero,List.set_cons_succ]
   refine wpAnyH_all (rs:=[2]) (by kernel_rfl) (by simp) ?_
   intro i hi
   simp only [List.mem_cons,List.not_mem_nil,or_false] at hi
   subst hi
   obtain ⟨Wa,hWa,hba,hka⟩:=end3 (.slice A5 l5.length c5) (.int .i64 (lf - 1)) (.bool true) HTD.out.res
   have hra:=(hka.block _ (lt_blk HTD.out.rty) (by show ¬ _=_;omega)).trans HTD.out.rty
   obtain ⟨Wb,hWb,hbb,hkb⟩:=end4 (.int .i64 (k:Int)) (.int .i64 0) (.string ⟨#[]⟩) (.slice none 0 0) hra
   have hf3:=(hkb.block _ (lt_blk hba) (by show ¬ _=_;omega)).trans hba
   have hf4:=hbb
   have hkk:Kept (fun g=>g=w.heap.size+1∨g=w.heap.size+1+1) Wd Wb:=(hka.mono fun g _ h=>.inl h).trans' (hkb.mono fun g _ h=>.inr h)
   obtain ⟨v0,v1,v2,v3⟩:=box4_frozen hra
   obtain ⟨t0,t1,t2,t3⟩:=box4 hra
   have HSA:Hid (Wa.heap[w.heap.size]? = Wd.heap[w.heap.size]?∧Wa.heap[w.heap.size+1+1+1]? = Wd.heap[w.heap.size+1+1+1]?):=Lib.hid ⟨hka.block _ (lt_blk HTD.out.box) (by show ¬ _=_;omega),hka.block _ (lt_blk HTD.out.ty) (by show ¬ _=_;omega)⟩
   have HSB:Hid (Wb.heap[w.heap.size]? = Wd.heap[w.heap.size]?∧Wb.heap[w.heap.size+1+1+1]? = Wd.heap[w.heap.size+1+1+1]?):=Lib.hid ⟨hkk.block _ (lt_blk HTD.out.box) (by show ¬ (_∨_);omega),hkk.block _ (lt_blk HTD.out.ty) (by show ¬ (_∨_);omega)⟩
   have HWA:=Lib.hid hWa
   have HWB:=Lib.hid hWb
   have HF3:=Lib.hid hf3
   have HF4:=Lib.hid hf4
   have HE:=Lib.hid (HENDB.out Wd Wb A5 c5 l5 (lf - 1) k HTD.out hkk hl5 HYN.out)
   clear hWa hWb hf3 hf4 hba hbb hka hkb hkk hra
   refine wpOp_ofQ rfl rfl (fun K hK=>?_)
   go_simp
   rw [←HWA.out]
   refine hK _ _ ⟨HSA.out,?_⟩
   clear hK K
   try simp only [List.setIfInBounds_toArray,List.set_cons_zero,List.set_cons_succ]
   refine wpAnyH_all (rs:=[3]) (by kernel_rfl) (by simp) ?_
   intro i hi
   simp only [List.mem_cons,List.not_mem_nil,or_false] at hi
   subst hi
   refine wpOp_ofQ rfl rfl (fun K hK=>?_)
   go_simp
   rw [←HWB.out]
   refine hK _ _ ⟨HSB.out,?_⟩
   clear hK K
   try simp only [List.setIfInBounds_toArray,List.set_cons_zero,List.set_cons_succ]
   refine wpAnyH_done (by kernel_rfl) ?_ _
   go_wp2
   obtain ⟨f0,f1,f2⟩:=box3 HF3.out
   obtain ⟨g0,g1,g2,g3⟩:=box4 HF4.out
   refine bodyPost_ret (v:=.tuple #[.agg #[.slice A5 l5.length c5,.int .i64 (lf - 1),.bool true],.agg #[.int .i64 (k:Int),.int .i64 0,.string ⟨#[]⟩,.slice none 0 0]]) (by simp [results,Tryz.results131,go_sem,f0,f1,f2,g0,g1,g2,g3]) rfl ?_
   exact HE.out
  have hq2:q+1≤300:=by omega
  have hnn:¬ (lf - 1 < 0):=by omega
  have HYB:Hid (Y=bodyQ (typQ f) (q+1) l):=Lib.hid (by rw [HY.out,typQ,if_neg (by omega)])
  cases bad5 with
  | true =>
   have HYN:Hid (bad=true∨Y=none):=Lib.hid (by
    rcases HCASE.out with ⟨h1,h2,h3,h4⟩|⟨h1,h2,h3,h4⟩
    ·exact .inl h4.symm
    ·have:l=[]:=List.eq_nil_of_length_eq_zero (by omega)
     right
     rw [HYB.out,this,bodyQ])
   obtain ⟨WW,hWW⟩:∃ WW,WW=W7:=⟨_,rfl⟩
   have HT:=HT7
   rw [←hWW] at HT
   go_upto_region 7 with fail
   rw [←hWW]
   clear hWW y0 y1 y2 q0 q1 q2 HT7
   have HTD:=Lib.hid (HT.out.t HBn.out ((Below.refl _ _).drew))
   generalize hWd:WW.drew=Wd at *
   obtain ⟨r0,r1,r2⟩:=box3 HTD.out.res
   obtain ⟨t0,t1,t2,t3⟩:=box4 HTD.out.rty
   obtain ⟨s0,s1,s2⟩:=box3_frozen HTD.out.res
   obtain ⟨v0,v1,v2,v3⟩:=box4_frozen HTD.out.rty
   refine wp_region_held (S:=fun W:World=>W.heap[w.heap.size]? = Wd.heap[w.heap.size]?∧W.heap[w.heap.size+1+1+1]? = Wd.heap[w.heap.size+1+1+1]?) (by kernel_rfl) ?_
   rw [show ({ heap:=WW.heap,tape:=WW.tape,drawn:=WW.drawn+1,os:=WW.os,output:=WW.output }:World)=Wd from hWd]
   clear hWd
   refine takeD (i:=0) (s:=26) (v:=.agg #[.slice A5 l5.length c5,.int .i64 (lf - 1),.bool true]) rfl rfl (by kernel_rfl) (by kernel_rfl) (by kernel_rfl) (fun _ _ _ h=>h) (Or.inl ⟨by rfl,fun w' hS=>by obtain ⟨hA,hB⟩:=hS;obtain ⟨e0,e1,e2⟩:=box3 (hA.trans HTD.out.box);go_simp⟩) ⟨rfl,rfl⟩ ?_
   try simp only [List.setIfInBounds_toArray,List.set_cons_zero,List.set_cons_succ]
   refine takeD (i:=1) (s:=27) (v:=.agg #[.int .i64 (k:Int),.int .i64 0,.string ⟨#[]⟩,.slice none 0 0]) rfl rfl (by kernel_rfl) (by kernel_rfl) (by kernel_rfl) (fun _ _ _ h=>h) (Or.inl ⟨by rfl,fun w' hS=>by obtain ⟨hA,hB⟩:=hS;obtain ⟨e0,e1,e2,e3⟩:=box4 (hB.trans HTD.out.ty);go_simp⟩) ⟨rfl,rfl⟩ ?_
   try simp only [List.setIfInBounds_toArray,List.set_cons_zero,List.set_cons_succ]
   refine wpAnyH_all (rs:=[2]) (by kernel_rfl) (by simp) ?_
   intro i hi
   simp only [List.mem_cons,List.not_mem_nil,or_false] at hi
   subst hi
   obtain ⟨Wa,hWa,hba,hka⟩:=end3 (.slice A5 l5.length c5) (.int .i64 (lf - 1)) (.bool true) HTD.out.res
   have hra:=(hka.block _ (lt_blk HTD.out.rty) (by show ¬ _=_;omega)).trans HTD.out.rty
   obtain ⟨Wb,hWb,hbb,hkb⟩:=end4 (.int .i64 (k:Int)) (.int .i64 0) (.string ⟨#[]⟩) (.slice none 0 0) hra
   have hf3:=(hkb.block _ (lt_blk hba) (by show ¬ _=_;omega)).trans hba
   have hf4:=hbb
   have hkk:Kept (fun g=>g=w.heap.size+1∨g=w.heap.size+1+1) Wd Wb:=(hka.mono fun g _ h=>.inl h).trans' (hkb.mono fun g _ h=>.inr h)
   obtain ⟨v0,v1,v2,v3⟩:=box4_frozen hra
   obtain ⟨t0,t1,t2,t3⟩:=box4 hra
   have HSA:Hid (Wa.heap[w.heap.size]? = Wd.heap[w.heap.size]?∧Wa.heap[w.heap.size+1+1+1]? = Wd.heap[w.heap.size+1+1+1]?):=Lib.hid ⟨hka.block _ (lt_blk HTD.out.box) (by show ¬ _=_;omega),hka.block _ (lt_blk HTD.out.ty) (by show ¬ _=_;omega)⟩
   have HSB:Hid (Wb.heap[w.heap.size]? = Wd.heap[w.heap.size]?∧Wb.heap[w.heap.size+1+1+1]? = Wd.heap[w.heap.size+1+1+1]?):=Lib.hid ⟨hkk.block _ (lt_blk HTD.out.box) (by show ¬ (_∨_);omega),hkk.block _ (lt_blk HTD.out.ty) (by show ¬ (_∨_);omega)⟩
   have HWA:=Lib.hid hWa
   have HWB:=Lib.hid hWb
   have HF3:=Lib.hid hf3
   have HF4:=Lib.hid hf4
   have HE:=Lib.hid (HENDB.out Wd Wb A5 c5 l5 (lf - 1) k HTD.out hkk hl5 HYN.out)
   clear hWa hWb hf3 hf4 hba hbb hka hkb hkk hra
   refine wpOp_ofQ rfl rfl (fun K hK=>?_)
   go_simp
   rw [←HWA.out]
   refine hK _ _ ⟨HSA.out,?_⟩
   clear hK K
   try simp only [List.setIfInBounds_toArray,List.set_cons_zero,List.set_cons_succ]
   refine wpAnyH_all (rs:=[3]) (by kernel_rfl) (by simp) ?_
   intro i hi
   simp only [List.mem_cons,List.not_mem_nil,or_false] at hi
   subst hi
   refine wpOp_ofQ rfl rfl (fun K hK=>?_)
   go_simp
   rw [←HWB.out]
   refine hK _ _ ⟨HSB.out,?_⟩
   clear hK K
   try simp only [List.setIfInBounds_toArray,List.set_cons_zero,List.set_cons_succ]
   refine wpAnyH_done (by kernel_rfl) ?_ _
   go_wp2
   obtain ⟨f0,f1,f2⟩:=box3 HF3.out
   obtain ⟨g0,g1,g2,g3⟩:=box4 HF4.out
   refine bodyPost_ret (v:=.tuple #[.agg #[.slice A5 l5.length c5,.int .i64 (lf - 1),.bool true],.agg #[.int .i64 (k:Int),.int .i64 0,.string ⟨#[]⟩,.slice none 0 0]]) (by simp [results,Tryz.results131,go_sem,f0,f1,f2,g0,g1,g2,g3]) rfl ?_
   exact HE.out
  | false =>
  have HG:Hid (bad=false∧Y=kindQ (typQ f) (q+1) k l5):=Lib.hid (by
   rcases HCASE.out with ⟨h1,h2,h3,h4⟩|⟨h1,h2,h3,h4⟩
   ·match l,h1 with
    | x :: l1,_ =>
     have e1:numB ((x :: l1).take 1)=x.toNat:=by simp [numB]
     have e2:(x :: l1).drop 1=l1:=rfl
     refine ⟨h4.symm,?_⟩
     rw [HYB.out,bodyQ,h3,h2,e1,e2]
   ·cases h4)
  clear HCASE HYB HBM HENDB
  obtain ⟨z0,z1,z2,z3⟩:=box4 HT7.out.ty
  have hl5b:l5.length≤1000000000:=by omega
  have hBW7:B≤W7.heap.size:=by have:=HT7.out.big;have:=HBn.out;omega
  by_cases hk1:k=1
  ·subst hk1
   have HNM:=Lib.hid (snum_any l5 4 (by omega) B A5 c5 (lf - 1) false W7 HT7.out.seg hBW7 hl5b)
   go_wp2_with fail
   refine HNM.out.mono ?_
   rintro e w8 ⟨A8,c8,l8,bad8,k8,rfl,hs8,hb8,hcase8⟩
   obtain ⟨hl8,-,-,-⟩:=SNum.len (by omega) hcase8
   have hT8:=HT7.out.t HBn.out hb8
   obtain ⟨Wa,hWa,hba,hka⟩:=end3 (.slice A8 l8.length c8) (.int .i64 (lf - 1)) (.bool bad8) hT8.box
   have hTa:=hT8.put HBn.out hka hba hs8
   obtain ⟨WW,hWW⟩:∃ WW,WW=Wa.setCell ⟨w.heap.size+1+1+1,1,none⟩ (.int .i64 (k8:Int)):=⟨_,rfl⟩
   have HT:Hid (TS w B A8 c8 l8 (lf - 1) bad8 1 (k8:Int) ⟨#[]⟩ (.slice none 0 0) WW):=Lib.hid (by rw [hWW];exact hTa.setNum HBn.out _)
   have HOK:Hid (bad8=false→∃ q':Nat,bad=false∧Y=some (.mk 1 (k8:Int) ⟨#[]⟩ [],q',l8)∧lf - 1=300 - (q':Int)∧q≤q'∧q'≤300):=Lib.hid fun e=>by
    rcases hcase8 with ⟨h1,h2,h3,h4⟩|⟨h1,h2,h3,h4⟩
    ·refine ⟨q+1,HG.out.1,?_,by omega,by omega,by omega⟩
     rw [HG.out.2,kindQ,if_pos rfl,if_pos h1,h2,h3]
    ·rw [h4] at e;cases e
   have HNO:Hid (bad8=true→bad=true∨Y=none):=Lib.hid fun e=>by
    rcases hcase8 with ⟨h1,h2,h3,h4⟩|⟨h1,h2,h3,h4⟩
    ·rw [h4] at e;cases e
    ·right;rw [HG.out.2,kindQ,if_pos rfl,if_neg (by omega)]
   have hle8:l8.length≤l.length:=by omega
   obtain ⟨a0,a1,a2⟩:=box3 hT8.box
   obtain ⟨b0,b1,b2,b3⟩:=box4 hT8.ty
   obtain ⟨c0',c1',c2'⟩:=box3_frozen hT8.box
   obtain ⟨d0,d1,d2,d3⟩:=box4_frozen hT8.ty
   clear y0 y1 y2 q0 q1 q2 z0 z1 z2 z3 HT7 hcase8 hs8 hb8 hT8 hba hka hTa HNM
   go_upto_region 10 with fail
   rw [←hWa,←hWW]
   clear hWa hWW a0 a1 a2 b0 b1 b2 b3 c0' c1' c2' d0 d1 d2 d3
   have HTD:=Lib.hid (HT.out.t HBn.out ((Below.refl _ _).drew))
   generalize hWd:WW.drew=Wd at *
   obtain ⟨r0,r1,r2⟩:=box3 HTD.out.res
   obtain ⟨t0,t1,t2,t3⟩:=box4 HTD.out.rty
   obtain ⟨s0,s1,s2⟩:=box3_frozen HTD.out.res
   obtain ⟨v0,v1,v2,v3⟩:=box4_frozen HTD.out.rty
   refine wp_region_held (S:=fun W:World=>W.heap[w.heap.size]? = Wd.heap[w.heap.size]?∧W.heap[w.heap.size+1+1+1]? = Wd.heap[w.heap.size+1+1+1]?) (by kernel_rfl) ?_
   rw [show ({ heap:=WW.heap,tape:=WW.tape,drawn:=WW.drawn+1,os:=WW.os,output:=WW.output }:World)=Wd from hWd]
   clear hWd
   refine takeD (i:=0) (s:=37) (v:=.agg #[.slice A8 l8.length c8,.int .i64 (lf - 1),.bool bad8]) rfl rfl (by kernel_rfl) (by kernel_rfl) (by kernel_rfl) (fun _ _ _ h=>h) (Or.inl ⟨by rfl,fun w' hS=>by obtain ⟨hA,hB⟩:=hS;obtain ⟨e0,e1,e2⟩:=box3 (hA.trans HTD.out.box);go_simp⟩) ⟨rfl,rfl⟩ ?_
   try simp only [List.setIfInBounds_toArray,List.set_cons_zero,List.set_cons_succ]
   refine takeD (i:=1) (s:=38) (v:=.agg #[.int .i64 1,.int .i64 (k8:Int),.string ⟨#[]⟩,.slice none 0 0]) rfl rfl (by kernel_rfl) (by kernel_rfl) (by kernel_rfl) (fun _ _ _ h=>h) (Or.inl ⟨by rfl,fun w' hS=>by obtain ⟨hA,hB⟩:=hS;obtain ⟨e0,e1,e2,e3⟩:=box4 (hB.trans HTD.out.ty);go_simp⟩) ⟨rfl,rfl⟩ ?_
   try simp only [List.setIfInBounds_toArray,List.set_cons_zero,List.set_cons_succ]
   refine wpAnyH_all (rs:=[2]) (by kernel_rfl) (by simp) ?_
   intro i hi
   simp only [List.mem_cons,List.not_mem_nil,or_false] at hi
   subst hi
   obtain ⟨Wa,hWa,hba,hka⟩:=end3 (.slice A8 l8.length c8) (.int .i64 (lf - 1)) (.bool bad8) HTD.out.res
   have hra:=(hka.block _ (lt_blk HTD.out.rty) (by show ¬ _=_;omega)).trans HTD.out.rty
   obtain ⟨Wb,hWb,hbb,hkb⟩:=end4 (.int .i64 1) (.int .i64 (k8:Int)) (.string ⟨#[]⟩) (.slice none 0 0) hra
   have hf3:=(hkb.block _ (lt_blk hba) (by show ¬ _=_;omega)).trans hba
   have hf4:=hbb
   have hkk:Kept (fun g=>g=w.heap.size+1∨g=w.heap.size+1+1) Wd Wb:=(hka.mono fun g _ h=>.inl h).trans' (hkb.mono fun g _ h=>.inr h)
   obtain ⟨v0,v1,v2,v3⟩:=box4_frozen hra
   obtain ⟨t0,t1,t2,t3⟩:=box4 hra
   have HSA:Hid (Wa.heap[w.heap.size]? = Wd.heap[w.heap.size]?∧Wa.heap[w.heap.size+1+1+1]? = Wd.heap[w.heap.size+1+1+1]?):=Lib.hid ⟨hka.block _ (lt_blk HTD.out.box) (by show ¬ _=_;omega),hka.block _ (lt_blk HTD.out.ty) (by show ¬ _=_;omega)⟩
   have HSB:Hid (Wb.heap[w.heap.size]? = Wd.heap[w.heap.size]?∧Wb.heap[w.heap.size+1+1+1]? = Wd.heap[w.heap.size+1+1+1]?):=Lib.hid ⟨hkk.block _ (lt_blk HTD.out.box) (by show ¬ (_∨_);omega),hkk.block _ (lt_blk HTD.out.ty) (by show ¬ (_∨_);omega)⟩
   have HWA:=Lib.hid hWa
   have HWB:=Lib.hid hWb
   have HF3:=Lib.hid hf3
   have HF4:=Lib.hid hf4
   have HE:Hid (P (.returned (.tuple #[.agg #[.slice A8 l8.length c8,.int .i64 (lf - 1),.bool bad8],.agg #[.int .i64 1,.int .i64 (k8:Int),.string ⟨#[]⟩,.slice none 0 0]])) Wb):=Lib.hid (by rw [HPO.out];exact TS.fin (A2:=none) (c2:=0) (ts:=[]) HTD.out HBn.out hkk (TyAt.leaf _ _ 1 (k8:Int) ⟨#[]⟩ none 0 (by simp [maxLen]) (by decide)) (by decide) hle8 HOK.out HNO.out)
   clear hWa hWb hf3 hf4 hba hbb hka hkb hkk hra
   refine wpOp_ofQ rfl rfl (fun K hK=>?_)
   go_simp
   rw [←HWA.out]
   refine hK _ _ ⟨HSA.out,?_⟩
   clear hK K
   try simp only [List.setIfInBounds_toArray,List.set_cons_zero,List.set_cons_succ]
   refine wpAnyH_all (rs:=[3]) (by kernel_rfl) (by simp) ?_
   intro i hi
   simp only [List.mem_cons,List.not_mem_nil,or_false] at hi
   subst hi
   refine wpOp_ofQ rfl rfl (fun K hK=>?_)
   go_simp
   rw [←HWB.out]
   refine hK _ _ ⟨HSB.out,?_⟩
   clear hK K
   try simp only [List.setIfInBounds_toArray,List.set_cons_zero,List.set_cons_succ]
   refine wpAnyH_done (by kernel_rfl) ?_ _
   go_wp2
   obtain ⟨f0,f1,f2⟩:=box3 HF3.out
   obtain ⟨g0,g1,g2,g3⟩:=box4 HF4.out
   refine bodyPost_ret (v:=.tuple #[.agg #[.slice A8 l8.length c8,.int .i64 (lf - 1),.bool bad8],.agg #[.int .i64 1,.int .i64 (k8:Int),.string ⟨#[]⟩,.slice none 0 0]]) (by simp [results,Tryz.results131,go_sem,f0,f1,f2,g0,g1,g2,g3]) rfl ?_
   exact HE.out
  have hk1i:¬ ((k:Int)=1):=by omega
  have hk1b:((k:Int) == 1)=false:=by simp;omega
  go_upto_if 41 with fail
  go_cut [] from 41 to 47 (fun wx=>∃ (A3:Option Addr) (c3:Nat) (l3:List UInt8) (bad3:Bool) (s:ByteArray),Hid (TS w B A3 c3 l3 (lf - 1) bad3 (k:Int) 0 s (.slice none 0 0) wx)∧s.size≤255∧l3.length≤l5.length∧Hid ((bad3=false→Y=argsR (typQ f) (k:Int) s (q+1) l3)∧(bad3=true→Y=none)))
  case first =>
   by_cases hk2:k=2
   ·subst hk2
    have HNM:=Lib.hid (sname_any l5 B A5 c5 (lf - 1) false W7 HT7.out.seg hBW7 hl5b)
    go_wp2_with fail
    refine HNM.out.mono ?_
    rintro e w8 ⟨A8,c8,l8,bad8,s8,rfl,hs8,hb8,hl8,hsz8,hok8,hno8,-⟩
    have hT8:=HT7.out.t HBn.out hb8
    obtain ⟨Wa,hWa,hba,hka⟩:=end3 (.slice A8 l8.length c8) (.int .i64 (lf - 1)) (.bool bad8) hT8.box
    have hTa:=hT8.put HBn.out hka hba hs8
    obtain ⟨WW,hWW⟩:∃ WW,WW=Wa.setCell ⟨w.heap.size+1+1+1,2,none⟩ (.string s8):=⟨_,rfl⟩
    have HT:Hid (TS w B A8 c8 l8 (lf - 1) bad8 2 0 s8 (.slice none 0 0) WW):=Lib.hid (by rw [hWW];exact hTa.setName HBn.out _)
    have HXX:Hid ((bad8=false→Y=argsR (typQ f) 2 s8 (q+1) l8)∧(bad8=true→Y=none)):=Lib.hid (by
     have hy:=HG.out.2
     rw [kindQ,if_neg (by decide),if_pos rfl] at hy
     cases hn:nmR l5 with
     | none =>
      rw [hn] at hy
      exact ⟨fun e=>(by have:=hno8 hn;rw [e] at this;cases this),fun _=>hy⟩
     | some y =>
      obtain ⟨s0,l0⟩:=y
      obtain ⟨h1,h2,h3⟩:=hok8 s0 l0 hn
      rw [hn] at hy
      exact ⟨fun _=>(by rw [hy,h1,h2]),fun e=>(by rw [h3] at e;cases e)⟩)
    obtain ⟨a0,a1,a2⟩:=box3 hT8.box
    obtain ⟨b0,b1,b2,b3⟩:=box4 hT8.ty
    obtain ⟨c0',c1',c2'⟩:=box3_frozen hT8.box
    obtain ⟨d0,d1,d2,d3⟩:=box4_frozen hT8.ty
    clear y0 y1 y2 q0 q1 q2 z0 z1 z2 z3 HT7 hok8 hno8 hs8 hb8 hT8 hba hka hTa HNM
    go_wp2
    rw [←hWa,←hWW]
    go_meet
    exact ⟨A8,c8,l8,bad8,s8,HT,hsz8,hl8,HXX⟩
   ·have hk2i:¬ ((k:Int)=2):=by omega
    have hk2b:((k:Int) == 2)=false:=by simp;omega
    have HXX:Hid (Y=argsR (typQ f) (k:Int) ⟨#[]⟩ (q+1) l5):=Lib.hid (by rw [HG.out.2,kindQ,if_neg hk1,if_neg hk2])
    go_wp2
    go_meet
    exact ⟨A5,c5,l5,false,⟨#[]⟩,HT7,by decide,Nat.le_refl _,Lib.hid ⟨fun _=>HXX.out,fun e=>by cases e⟩⟩
  case rest =>
   obtain ⟨A3,c3,l3,bad3,s,HT3,hss,hl3,HX3⟩:=hcut
   clear y0 y1 y2 q0 q1 q2 z0 z1 z2 z3 HT7 hk1b hk1i hBW7
   have hl3b:l3.length≤1000000000:=by omega
   have HNU2:=Lib.hid (snum_any l3 1 (by omega) B A3 c3 (lf - 1) bad3 wc HT3.out.seg (by have:=HT3.out.big;have:=HBn.out;omega) hl3b)
   obtain ⟨y0,y1,y2⟩:=box3 HT3.out.box
   go_wp2_with fail
   clear y0 y1 y2
   refine HNU2.out.mono ?_
   rintro e w9 ⟨A9,c9,l9,bad9,n,rfl,hs9,hb9,hcase9⟩
   obtain ⟨hl9,-,hn1,-⟩:=SNum.len (by omega) hcase9
   have hn255:=hn1 rfl
   have hT9:=HT3.out.t HBn.out hb9
   obtain ⟨Wa,hWa,hba,hka⟩:=end3 (.slice A9 l9.length c9) (.int .i64 (lf - 1)) (.bool bad9) hT9.box
   have HT:=Lib.hid (hT9.put HBn.out hka hba hs9)
   have HX9:Hid ((bad9=false→(∀ ts q' l',lstA (typQ f) n [] (q+1) l9=some (ts,q',l')→Y=some (.mk (k:Int) 0 s ts,q',l'))∧(lstA (typQ f) n [] (q+1) l9=none→Y=none))∧(bad9=true→Y=none)):=Lib.hid (by
    rcases hcase9 with ⟨h1,h2,h3,h4⟩|⟨h1,h2,h3,h4⟩
    ·match l3,h1 with
     | x :: l1,_ =>
      have e1:numB ((x :: l1).take 1)=x.toNat:=by simp [numB]
      have e2:(x :: l1).drop 1=l1:=rfl
      rw [e1] at h3
      rw [e2] at h2
      subst h4
      refine ⟨fun e=>?_,HX3.out.2⟩
      have hy:=HX3.out.1 e
      rw [argsR,←h3,←h2] at hy
      refine ⟨fun ts q' l' h=>?_,fun h=>?_⟩
      ·rw [h] at hy;exact hy
      ·rw [h] at hy;exact hy
    ·have:l3=[]:=List.eq_nil_of_length_eq_zero (by omega)
     refine ⟨fun e=>(by rw [h4] at e;cases e),fun _=>?_⟩
     cases hb3:bad3 with
     | true=>exact HX3.out.2 hb3
     | false=>rw [HX3.out.1 hb3,this,argsR])
   obtain ⟨a0,a1,a2⟩:=box3 hT9.box
   obtain ⟨c0',c1',c2'⟩:=box3_frozen hT9.box
   have hl9b:l9.length≤1000000000:=by omega
   have hl9l:l9.length≤l.length:=by omega
   clear hcase9 hn1 hs9 hb9 hT9 hba hka HNU2 HX3 HT3
   go_upto_region 15 with fail
   rw [←hWa]
   clear hWa a0 a1 a2 c0' c1' c2'
   go_loopw [6] (fun iv W=>∃ (m q2:Nat) (A2:Option Addr) (c2:Nat) (l2:List UInt8) (lf2:Int) (bad2:Bool) (ts:List Ty) (us:List Value) (Aav:Option Addr) (cav:Nat),m≤n∧iv=.int .i64 m∧Hid (TS w B A2 c2 l2 lf2 bad2 (k:Int) 0 s (.slice Aav m cav) W)∧Hid (RowK 61 4 TyAt (w.heap.size+4) (w.heap.size+4) W ts (.slice Aav m cav) us)∧ts.length=m∧l2.length≤l9.length ∧
    Hid ((bad2=false→bad9=false∧lf2=300 - (q2:Int)∧q+1≤q2∧q2≤300∧lstA (typQ f) (n - m) ts q2 l2=lstA (typQ f) n [] (q+1) l9)∧(bad2=true→bad9=true∨lstA (typQ f) n [] (q+1) l9=none))) (fun iv _=>n - (RowKit.intOf iv).toNat)
   case atStart =>
    exact ⟨0,q+1,A9,c9,l9,lf - 1,bad9,[],[],none,0,by omega,rfl,HT,Lib.hid ⟨rfl,World.ownsRow_nil _ _ _ _,by simp,fun i h=>by simp at h⟩,rfl,Nat.le_refl _,Lib.hid ⟨fun e=>⟨e,by omega,Nat.le_refl _,hq2,rfl⟩,fun e=>.inl e⟩⟩
   case round =>
    obtain ⟨m,q2,A2,c2,l2,lf2,bad2,ts,us,Aav,cav,hm,rfl,HTr,HR,hts,hl2,HXr⟩:=hrel
    obtain ⟨y0,y1,y2⟩:=box3 HTr.out.box
    by_cases hgo:m < n∧bad2=false
    ·obtain ⟨hlt,rfl⟩:=hgo
     obtain ⟨hb9f,hlf2',hq21,hq22,hls⟩:=HXr.out.1 rfl
     have HCA:=Lib.hid (IH.out l2 q2 false A2 c2 lf2 wr HTr.out.seg (by have:=HTr.out.big;have:=HBn.out;omega) (by omega) hlf2' hq22 (by omega))
     have HLS:=Lib.hid hls;have HB9F:=Lib.hid hb9f
     clear hls hlf2' hb9f
     go_wp2_with fail
     refine HCA.out.mono ?_
     rintro e w6 ⟨T,A6,c6,A7,c7,l7,lf7,bad7,rfl,hty,hargs,hs7,hb7,hl7,hok7,hno7⟩
     unfold tyV at hty ⊢
     go_upto_region 18 with fail
     obtain ⟨Wc,hWc⟩:∃ Wc,Wc=(w6.alloc (.cells #[.slice A7 l7.length c7,.int .i64 lf7,.bool bad7] 192)).alloc (.cells #[.int .i64 T.kind,.int .i64 T.num,.string T.name,.slice A6 T.args.length c6] 61):=⟨_,rfl⟩
     rw [←hWc]
     have hbc:Below w6.heap.size w6 Wc:=by rw [hWc];exact ((Below.refl _ _).alloc (Nat.le_refl _) _).alloc (by simp) _
     have hsc:Wc.heap[w6.heap.size]? = some (.cells #[.slice A7 l7.length c7,.int .i64 lf7,.bool bad7] 192 (0,0)):=by
      rw [hWc,Below.heap_alloc _ _ _ (by simp)];exact heap_alloc_new _ _
     have hta:Wc.heap[w6.heap.size+1]? = some (.cells #[.int .i64 T.kind,.int .i64 T.num,.string T.name,.slice A6 T.args.length c6] 61 (0,0)):=by
      rw [hWc]
      simpa using heap_alloc_new (w6.alloc (.cells #[.slice A7 l7.length c7,.int .i64 lf7,.bool bad7] 192)) (.cells #[.int .i64 T.kind,.int .i64 T.num,.string T.name,.slice A6 T.args.length c6] 61)
     have hTc:=(HTr.out.t HBn.out hb7).t HBn.out hbc
     have hbr:=HTr.out.big
     have hz67:=hb7.size
     have hzc:=hbc.size
     obtain ⟨Wb,hWb,hbb,hkb⟩:=end3 (.slice A7 l7.length c7) (.int .i64 lf7) (.bool bad7) hTc.box
     have hTb:=hTc.put HBn.out hkb hbb (hs7.below (hbc.mono (by have:=HBn.out;omega)))
     have hzb:=hkb.size
     have hrb:=RowK.above (R:=TyAt) TyAt.keep (w':=Wb) (RowK.below (R:=TyAt) TyAt.keep (RowK.below (R:=TyAt) TyAt.keep HR.out hb7) hbc) (Lo:=w.heap.size+4) (Nat.le_refl _) (Nat.le_refl _) (fun g h1 h2=>hkb.block g h2 (by show ¬ _=_;omega)) hkb.size
     have htyb:TyAt (fun g=>wr.heap.size≤g∧g < w6.heap.size) Wb (tyV T.kind T.num T.name A6 T.args.length c6) T:=hty.keep fun g hg=>⟨hg,(hkb.block g (by omega) (by show ¬ _=_;omega)).trans (hbc.block g hg.2)⟩
     have htab:=(hkb.block _ (lt_blk hta) (by show ¬ _=_;omega)).trans hta
     obtain ⟨us',hus⟩:∃ us',us'=us.flatMap flatC:=⟨_,rfl⟩
     have hown:=hrb.own
     rw [←hus,hts] at hown
     obtain ⟨q7,hq7⟩:∃ q7:Nat,bad7=false→(typQ f q2 l2=some (T,q7,l7)∧lf7=300 - (q7:Int)∧q2≤q7∧q7≤300):=by
      cases bad7 with
      | true=>exact ⟨0,fun e=>by cases e⟩
      | false=>obtain ⟨q',-,h⟩:=hok7 rfl;exact ⟨q',fun _=>h⟩
     have HNX:Hid ((bad7=false→bad9=false∧lf7=300 - (q7:Int)∧q+1≤q7∧q7≤300∧lstA (typQ f) (n - (m+1)) (ts ++ [T]) q7 l7=lstA (typQ f) n [] (q+1) l9)∧(bad7=true→bad9=true∨lstA (typQ f) n [] (q+1) l9=none)):=Lib.hid ⟨fun e=>by
       obtain ⟨h1,h2,h3,h4⟩:=hq7 e
       have hls:=HLS.out
       rw [show n - m=(n - (m+1))+1 by omega,lstA,h1] at hls
       exact ⟨HB9F.out,h2,by omega,h4,hls⟩,fun e=>by
       right
       have hls:=HLS.out
       rw [show n - m=(n - (m+1))+1 by omega,lstA,(hno7 e).resolve_left (by decide)] at hls
       exact hls.symm⟩
     have HTB:=Lib.hid hTb;have HRB:=Lib.hid hrb;have HTYB:=Lib.hid htyb;have HUS:=Lib.hid hus;have HTAB:=Lib.hid htab;have HWB:=Lib.hid hWb
     have HOL:Hid (∀ g,(Value.slice Aav m cav).ownBlock=some g→w.heap.size+4≤g∧g < wr.heap.size):=Lib.hid fun g e=>HR.out.lt g e
     have HNX8:Hid (∀ (v8:Value) (w8:World),w8.ownsRow (w.heap.size+4) 61 4 v8 (m+1) (us' ++ [.int .i64 T.kind,.int .i64 T.num,.string T.name,.slice A6 T.args.length c6])→(Wb.alloc (.cells #[.int .i64 T.kind,.int .i64 T.num,.string T.name,.slice A6 T.args.length c6] 61)).grownBy w8 (Value.slice Aav m cav).ownBlock→(v8.ownBlock=(Value.slice Aav m cav).ownBlock∨v8.ownBlock=some (Wb.alloc (.cells #[.int .i64 T.kind,.int .i64 T.num,.string T.name,.slice A6 T.args.length c6] 61)).heap.size) →
       Hid (TS w B A7 c7 l7 lf7 bad7 (k:Int) 0 s (.slice Aav m cav) w8)∧Hid (TS w B A7 c7 l7 lf7 bad7 (k:Int) 0 s v8 (w8.setCell ⟨w.heap.size+1+1+1,3,none⟩ v8))∧Hid (RowK 61 4 TyAt (w.heap.size+4) (w.heap.size+4) (w8.setCell ⟨w.heap.size+1+1+1,3,none⟩ v8) (ts ++ [T]) v8 (us ++ [tyV T.kind T.num T.name A6 T.args.length c6]))):=Lib.hid (by
      intro v8 w8 hown8 hg8 hat8
      have hT8:=HTB.out.grown HBn.out hg8 fun g e=>(HOL.out g e).1
      have hr8:=RowK.next (R:=TyAt) TyAt.keep HRB.out (u:=tyV T.kind T.num T.name A6 T.args.length c6) (x:=T) (v':=v8) (w3:=w8) HTYB.out (fun g hg=>⟨by omega,by omega,fun e=>by have:=(HOL.out g e).2;omega⟩) rfl _ (by rw [hts,←HUS.out];exact hown8) hg8 hat8
      exact ⟨Lib.hid hT8,Lib.hid (hT8.setArgs HBn.out v8),Lib.hid (RowK.above (R:=TyAt) TyAt.keep hr8 (Lo:=w.heap.size+4) (Nat.le_refl _) (Nat.le_refl _) (fun g h1 h2=>Below.heap_setCell _ _ _ _ (by show g≠w.heap.size+1+1+1;omega)) (by simp [World.setCell]))⟩)
     obtain ⟨a0,a1,a2⟩:=box3 hTc.box
     obtain ⟨b0,b1,b2⟩:=box3 hsc
     obtain ⟨c0',c1',c2'⟩:=box3_frozen hTc.box
     have hzwb:w.heap.size+4≤Wb.heap.size:=by omega
     clear hty hok7 hno7 hs7 hb7 hbc hsc hta hTc hbb hkb hTb hrb htyb htab hus hWb hWc hq7 HCA HLS y0 y1 y2
     go_upto_region 19 with fail
     rw [←HWB.out]
     clear HWB a0 a1 a2 b0 b1 b2 c0' c1' c2'
     obtain ⟨z0,z1,z2,z3⟩:=box4 HTB.out.ty
     obtain ⟨d0,d1,d2,d3⟩:=box4 HTAB.out
     go_wp2_with (at_builtin;refine wpList_appK _ rfl _ _ _ rfl (w.heap.size+4) _ 4 tyE _ m us' rfl (World.ownsRow.alloc hown _) ⟨Wb.heap.size,0,none⟩ 1 1 [.int .i64 T.kind,.int .i64 T.num,.string T.name,.slice A6 T.args.length c6] rfl rfl (cells_new _ _ _) (one4 _ _ _ _ _ _) (by omega) (by simp;omega) ?_;intro v8 w8 hown8 hg8 hat8;obtain ⟨A8,c8,rfl⟩:=ownsRow_form hown8;obtain ⟨HT8,HT9,HR9⟩:=HNX8.out _ _ hown8 hg8 hat8;obtain ⟨z0,z1,z2,z3⟩:=box4 HT8.out.ty;obtain ⟨f0,f1,f2,f3⟩:=box4_frozen HT8.out.ty)
     go_roundw
     case rel =>
      first | exact ⟨m+1,q7,A7,c7,l7,lf7,bad7,ts ++ [T],us ++ [tyV T.kind T.num T.name A6 T.args.length c6],A8,c8,by omega,by go_num,HT9,HR9,by rw [List.length_append,hts];rfl,by omega,HNX⟩ | skip
      try (repeat with_reducible apply Exists.intro)
      try refine ⟨?_,rfl⟩
      try exact ⟨m+1,q7,A7,c7,l7,lf7,bad7,ts ++ [T],us ++ [tyV T.kind T.num T.name A6 T.args.length c6],A8,c8,by omega,by go_num,HT9,HR9,by rw [List.length_append,hts];rfl,by omega,HNX⟩
     case measure=>simp [RowKit.intOf];omega
    ·have hex:(m < n∧bad2=true)∨¬ m < n:=by
      by_cases h:m < n
      ·left
       refine ⟨h,?_⟩
       cases bad2 with
       | true=>rfl
       | false=>exact absurd ⟨h,rfl⟩ hgo
      ·exact .inr h
     subst hts
     obtain ⟨A',c',e2,hty⟩:=HR.out.ty (k:Int) 0 s (by omega)
     injection e2 with e3 _ e4
     subst e3 e4
     obtain ⟨WW,hWW⟩:∃ WW,WW=wr:=⟨_,rfl⟩
     have HT:=HTr
     have HTY:Hid (TyAt (fun g=>w.heap.size+4≤g∧g < WW.heap.size) WW (tyV (k:Int) 0 s Aav ts.length cav) (.mk (k:Int) 0 s ts)):=Lib.hid (by rw [hWW];exact hty.sub fun g hg=>⟨by omega,hg.2⟩)
     rw [←hWW] at HT
     have HNOF:Hid (bad2=true→bad=true∨Y=none):=Lib.hid fun e=>by
      right
      cases hb9:bad9 with
      | true=>exact HX9.out.2 hb9
      | false =>
       rcases HXr.out.2 e with h|h
       ·rw [hb9] at h;cases h
       ·exact (HX9.out.1 hb9).2 h
     have HOKF:Hid (bad2=false→∃ q':Nat,bad=false∧Y=some (.mk (k:Int) 0 s ts,q',l2)∧lf2=300 - (q':Int)∧q≤q'∧q'≤300):=Lib.hid fun e=>by
      obtain ⟨h1,h2,h3,h4,h5⟩:=HXr.out.1 e
      have hmn:n - ts.length=0:=by
       rcases hex with h|h
       ·rw [e] at h;cases h.2
       ·omega
      rw [hmn,lstA] at h5
      exact ⟨q2,HG.out.1,(HX9.out.1 h1).1 _ _ _ h5.symm,h2,by omega,h4⟩
     have hfl:ts.length≤255:=by omega
     have hll:l2.length≤l.length:=by omega
     clear hty hgo HR
     rcases hex with ⟨hlt,hb2⟩|hge
     ·subst hb2
      go_upto_region 20 with fail
      rw [←hWW]
      clear hWW y0 y1 y2
      have HTD:=Lib.hid (HT.out.t HBn.out ((Below.refl _ _).drew))
      have HTYD:Hid (TyAt (fun g=>w.heap.size+4≤g∧g < WW.drew.heap.size) WW.drew (tyV (k:Int) 0 s Aav ts.length cav) (.mk (k:Int) 0 s ts)):=Lib.hid (HTY.out.keep fun g hg=>⟨hg,rfl⟩)
      generalize hWd:WW.drew=Wd at *
      obtain ⟨r0,r1,r2⟩:=box3 HTD.out.res
      obtain ⟨t0,t1,t2,t3⟩:=box4 HTD.out.rty
      obtain ⟨s0,s1,s2⟩:=box3_frozen HTD.out.res
      obtain ⟨v0,v1,v2,v3⟩:=box4_frozen HTD.out.rty
      refine wp_region_held (S:=fun W:World=>W.heap[w.heap.size]? = Wd.heap[w.heap.size]?∧W.heap[w.heap.size+1+1+1]? = Wd.heap[w.heap.size+1+1+1]?) (by kernel_rfl) ?_
      rw [show ({ heap:=WW.heap,tape:=WW.tape,drawn:=WW.drawn+1,os:=WW.os,output:=WW.output }:World)=Wd from hWd]
      clear hWd
      refine takeD (i:=0) (s:=75) (v:=.agg #[.slice A2 l2.length c2,.int .i64 lf2,.bool true]) rfl rfl (by kernel_rfl) (by kernel_rfl) (by kernel_rfl) (fun _ _ _ h=>h) (Or.inl ⟨by rfl,fun w' hS=>by obtain ⟨hA,hB⟩:=hS;obtain ⟨e0,e1,e2⟩:=box3 (hA.trans HTD.out.box);go_simp⟩) ⟨rfl,rfl⟩ ?_
      try simp only [List.setIfInBounds_toArray,List.set_cons_zero,List.set_cons_succ]
      refine takeD (i:=1) (s:=76) (v:=.agg #[.int .i64 (k:Int),.int .i64 0,.string s,.slice Aav ts.length cav]) rfl rfl (by kernel_rfl) (by kernel_rfl) (by kernel_rfl) (fun _ _ _ h=>h) (Or.inl ⟨by rfl,fun w' hS=>by obtain ⟨hA,hB⟩:=hS;obtain ⟨e0,e1,e2,e3⟩:=box4 (hB.trans HTD.out.ty);go_simp⟩) ⟨rfl,rfl⟩ ?_
      try simp only [List.setIfInBounds_toArray,List.set_cons_zero,List.set_cons_succ]
      refine wpAnyH_all (rs:=[2]) (by kernel_rfl) (by simp) ?_
      intro i hi
      simp only [List.mem_cons,List.not_mem_nil,or_false] at hi
      subst hi
      obtain ⟨Wa,hWa,hba,hka⟩:=end3 (.slice A2 l2.length c2) (.int .i64 lf2) (.bool true) HTD.out.res
      have hra:=(hka.block _ (lt_blk HTD.out.rty) (by show ¬ _=_;omega)).trans HTD.out.rty
      obtain ⟨Wb,hWb,hbb,hkb⟩:=end4 (.int .i64 (k:Int)) (.int .i64 0) (.string s) (.slice Aav ts.length cav) hra
      have hf3:=(hkb.block _ (lt_blk hba) (by show ¬ _=_;omega)).trans hba
      have hf4:=hbb
      have hkk:Kept (fun g=>g=w.heap.size+1∨g=w.heap.size+1+1) Wd Wb:=(hka.mono fun g _ h=>.inl h).trans' (hkb.mono fun g _ h=>.inr h)
      obtain ⟨v0,v1,v2,v3⟩:=box4_frozen hra
      obtain ⟨t0,t1,t2,t3⟩:=box4 hra
      have HSA:Hid (Wa.heap[w.heap.size]? = Wd.heap[w.heap.size]?∧Wa.heap[w.heap.size+1+1+1]? = Wd.heap[w.heap.size+1+1+1]?):=Lib.hid ⟨hka.block _ (lt_blk HTD.out.box) (by show ¬ _=_;omega),hka.block _ (lt_blk HTD.out.ty) (by show ¬ _=_;omega)⟩
      have HSB:Hid (Wb.heap[w.heap.size]? = Wd.heap[w.heap.size]?∧Wb.heap[w.heap.size+1+1+1]? = Wd.heap[w.heap.size+1+1+1]?):=Lib.hid ⟨hkk.block _ (lt_blk HTD.out.box) (by show ¬ (_∨_);omega),hkk.block _ (lt_blk HTD.out.ty) (by show ¬ (_∨_);omega)⟩
      have HWA:=Lib.hid hWa
      have HWB:=Lib.hid hWb
      have HF3:=Lib.hid hf3
      have HF4:=Lib.hid hf4
      have HE:Hid (P (.returned (.tuple #[.agg #[.slice A2 l2.length c2,.int .i64 lf2,.bool true],.agg #[.int .i64 (k:Int),.int .i64 0,.string s,.slice Aav ts.length cav]])) Wb):=Lib.hid (by rw [HPO.out];exact TS.fin (ts:=ts) HTD.out HBn.out hkk HTYD.out hfl hll HOKF.out HNOF.out)
      clear hWa hWb hf3 hf4 hba hbb hka hkb hkk hra
      refine wpOp_ofQ rfl rfl (fun K hK=>?_)
      go_simp
      rw [←HWA.out]
      refine hK _ _ ⟨HSA.out,?_⟩
      clear hK K
      try simp only [List.setIfInBounds_toArray,List.set_cons_zero,List.set_cons_succ]
      refine wpAnyH_all (rs:=[3]) (by kernel_rfl) (by simp) ?_
      intro i hi
      simp only [List.mem_cons,List.not_mem_nil,or_false] at hi
      subst hi
      refine wpOp_ofQ rfl rfl (fun K hK=>?_)
      go_simp
      rw [←HWB.out]
      refine hK _ _ ⟨HSB.out,?_⟩
      clear hK K
      try simp only [List.setIfInBounds_toArray,List.set_cons_zero,List.set_cons_succ]
      refine wpAnyH_done (by kernel_rfl) ?_ _
      go_wp2
      obtain ⟨f0,f1,f2⟩:=box3 HF3.out
      obtain ⟨g0,g1,g2,g3⟩:=box4 HF4.out
      refine bodyPost_ret (v:=.tuple #[.agg #[.slice A2 l2.length c2,.int .i64 lf2,.bool true],.agg #[.int .i64 (k:Int),.int .i64 0,.string s,.slice Aav ts.length cav]]) (by simp [results,Tryz.results131,go_sem,f0,f1,f2,g0,g1,g2,g3]) rfl ?_
      exact HE.out
     ·go_upto_region 20 with fail
      rw [←hWW]
      clear hWW y0 y1 y2
      have HTD:=Lib.hid (HT.out.t HBn.out ((Below.refl _ _).drew))
      have HTYD:Hid (TyAt (fun g=>w.heap.size+4≤g∧g < WW.drew.heap.size) WW.drew (tyV (k:Int) 0 s Aav ts.length cav) (.mk (k:Int) 0 s ts)):=Lib.hid (HTY.out.keep fun g hg=>⟨hg,rfl⟩)
      generalize hWd:WW.drew=Wd at *
      obtain ⟨r0,r1,r2⟩:=box3 HTD.out.res
      obtain ⟨t0,t1,t2,t3⟩:=box4 HTD.out.rty
      obtain ⟨s0,s1,s2⟩:=box3_frozen HTD.out.res
      obtain ⟨v0,v1,v2,v3⟩:=box4_frozen HTD.out.rty
      refine wp_region_held (S:=fun W:World=>W.heap[w.heap.size]? = Wd.heap[w.heap.size]?∧W.heap[w.heap.size+1+1+1]? = Wd.heap[w.heap.size+1+1+1]?) (by kernel_rfl) ?_
      rw [show ({ heap:=WW.heap,tape:=WW.tape,drawn:=WW.drawn+1,os:=WW.os,output:=WW.output }:World)=Wd from hWd]
      clear hWd
      refine takeD (i:=0) (s:=75) (v:=.agg #[.slice A2 l2.length c2,.int .i64 lf2,.bool bad2]) rfl rfl (by kernel_rfl) (by kernel_rfl) (by kernel_rfl) (fun _ _ _ h=>h) (Or.inl ⟨by rfl,fun w' hS=>by obtain ⟨hA,hB⟩:=hS;obtain ⟨e0,e1,e2⟩:=box3 (hA.trans HTD.out.box);go_simp⟩) ⟨rfl,rfl⟩ ?_
      try simp only [List.setIfInBounds_toArray,List.set_cons_zero,List.set_cons_succ]
      refine takeD (i:=1) (s:=76) (v:=.agg #[.int .i64 (k:Int),.int .i64 0,.string s,.slice Aav ts.length cav]) rfl rfl (by kernel_rfl) (by kernel_rfl) (by kernel_rfl) (fun _ _ _ h=>h) (Or.inl ⟨by rfl,fun w' hS=>by obtain ⟨hA,hB⟩:=hS;obtain ⟨e0,e1,e2,e3⟩:=box4 (hB.trans HTD.out.ty);go_simp⟩) ⟨rfl,rfl⟩ ?_
      try simp only [List.setIfInBounds_toArray,List.set_cons_zero,List.set_cons_succ]
      refine wpAnyH_all (rs:=[2]) (by kernel_rfl) (by simp) ?_
      intro i hi
      simp only [List.mem_cons,List.not_mem_nil,or_false] at hi
      subst hi
      obtain ⟨Wa,hWa,hba,hka⟩:=end3 (.slice A2 l2.length c2) (.int .i64 lf2) (.bool bad2) HTD.out.res
      have hra:=(hka.block _ (lt_blk HTD.out.rty) (by show ¬ _=_;omega)).trans HTD.out.rty
      obtain ⟨Wb,hWb,hbb,hkb⟩:=end4 (.int .i64 (k:Int)) (.int .i64 0) (.string s) (.slice Aav ts.length cav) hra
      have hf3:=(hkb.block _ (lt_blk hba) (by show ¬ _=_;omega)).trans hba
      have hf4:=hbb
      have hkk:Kept (fun g=>g=w.heap.size+1∨g=w.heap.size+1+1) Wd Wb:=(hka.mono fun g _ h=>.inl h).trans' (hkb.mono fun g _ h=>.inr h)
      obtain ⟨v0,v1,v2,v3⟩:=box4_frozen hra
      obtain ⟨t0,t1,t2,t3⟩:=box4 hra
      have HSA:Hid (Wa.heap[w.heap.size]? = Wd.heap[w.heap.size]?∧Wa.heap[w.heap.size+1+1+1]? = Wd.heap[w.heap.size+1+1+1]?):=Lib.hid ⟨hka.block _ (lt_blk HTD.out.box) (by show ¬ _=_;omega),hka.block _ (lt_blk HTD.out.ty) (by show ¬ _=_;omega)⟩
      have HSB:Hid (Wb.heap[w.heap.size]? = Wd.heap[w.heap.size]?∧Wb.heap[w.heap.size+1+1+1]? = Wd.heap[w.heap.size+1+1+1]?):=Lib.hid ⟨hkk.block _ (lt_blk HTD.out.box) (by show ¬ (_∨_);omega),hkk.block _ (lt_blk HTD.out.ty) (by show ¬ (_∨_);omega)⟩
      have HWA:=Lib.hid hWa
      have HWB:=Lib.hid hWb
      have HF3:=Lib.hid hf3
      have HF4:=Lib.hid hf4
      have HE:Hid (P (.returned (.tuple #[.agg #[.slice A2 l2.length c2,.int .i64 lf2,.bool bad2],.agg #[.int .i64 (k:Int),.int .i64 0,.string s,.slice Aav ts.length cav]])) Wb):=Lib.hid (by rw [HPO.out];exact TS.fin (ts:=ts) HTD.out HBn.out hkk HTYD.out hfl hll HOKF.out HNOF.out)
      clear hWa hWb hf3 hf4 hba hbb hka hkb hkk hra
      refine wpOp_ofQ rfl rfl (fun K hK=>?_)
      go_simp
      rw [←HWA.out]
      refine hK _ _ ⟨HSA.out,?_⟩
      clear hK K
      try simp only [List.setIfInBounds_toArray,List.set_cons_zero,List.set_cons_succ]
      refine wpAnyH_all (rs:=[3]) (by kernel_rfl) (by simp) ?_
      intro i hi
      simp only [List.mem_cons,List.not_mem_nil,or_false] at hi
      subst hi
      refine wpOp_ofQ rfl rfl (fun K hK=>?_)
      go_simp
      rw [←HWB.out]
      refine hK _ _ ⟨HSB.out,?_⟩
      clear hK K
      try simp only [List.setIfInBounds_toArray,List.set_cons_zero,List.set_cons_succ]
      refine wpAnyH_done (by kernel_rfl) ?_ _
      go_wp2
      obtain ⟨f0,f1,f2⟩:=box3 HF3.out
      obtain ⟨g0,g1,g2,g3⟩:=box4 HF4.out
      refine bodyPost_ret (v:=.tuple #[.agg #[.slice A2 l2.length c2,.int .i64 lf2,.bool bad2],.agg #[.int .i64 (k:Int),.int .i64 0,.string s,.slice Aav ts.length cav]]) (by simp [results,Tryz.results131,go_sem,f0,f1,f2,g0,g1,g2,g3]) rfl ?_
      exact HE.out
end Go.Proofs.YtaalbcfpacpgfaaGreat
namespace Go.Typ
open Go.RowKit Go.Lib Go.Vfs Go.Par
theorem lstA_ok {g:Nat→List UInt8→Option (Ty × Nat × List UInt8)} (hg:∀ q l T q' l',g q l=some (T,q',l')→q+T.parts=q'∧q'≤300∧NmB 255 T) :
  ∀ (n:Nat) (xs:List Ty) (q:Nat) (l:List UInt8) (ts:List Ty) (q':Nat) (l':List UInt8),lstA g n xs q l=some (ts,q',l')→q≤300→∃ us,ts=xs ++ us∧q+partsL us=q'∧q'≤300∧∀ t∈us,NmB 255 t:=by
 intro n
 induction n with
 | zero=>intro xs q l ts q' l' h hq;rw [lstA] at h;injection h with h;injection h with h1 h2;injection h2 with h2 h3;exact ⟨[],by simp [h1],by rw [partsL];omega,by omega,fun t ht=>by simp at ht⟩
 | succ n ih =>
  intro xs q l ts q' l' h hq
  rw [lstA] at h
  cases hx:g q l with
  | none=>rw [hx] at h;cases h
  | some x =>
   obtain ⟨T,q1,l1⟩:=x
   rw [hx] at h
   obtain ⟨h1,h2,h3⟩:=hg _ _ _ _ _ hx
   obtain ⟨us,e1,e2,e3,e4⟩:=ih _ _ _ _ _ _ h h2
   refine ⟨T :: us,by rw [e1];simp,by rw [partsL];omega,e3,fun t ht=>?_⟩
   rcases List.mem_cons.1 ht with rfl|ht
   ·exact h3
   ·exact e4 t ht
theorem argsR_ok {g:Nat→List UInt8→Option (Ty × Nat × List UInt8)} (hg:∀ q l T q' l',g q l=some (T,q',l')→q+T.parts=q'∧q'≤300∧NmB 255 T) {k:Int} {s:ByteArray} {q:Nat} {l:List UInt8} {T:Ty} {q':Nat} {l':List UInt8}
  (h:argsR g k s (q+1) l=some (T,q',l')) (hs:s.size≤255) (hq:q+1≤300):q+T.parts=q'∧q'≤300∧NmB 255 T:=by
 cases l with
 | nil=>cases h
 | cons c l =>
  rw [argsR] at h
  cases hx:lstA g c.toNat [] (q+1) l with
  | none=>rw [hx] at h;cases h
  | some x =>
   obtain ⟨ts,q1,l1⟩:=x
   rw [hx] at h
   simp only at h
   injection h with h;injection h with h1 h2;injection h2 with h2 h3
   obtain ⟨us,e1,e2,e3,e4⟩:=lstA_ok hg _ _ _ _ _ _ _ hx hq
   rw [List.nil_append] at e1
   subst e1
   rw [←h1,←h2]
   exact ⟨by show q+(1+partsL ts)=q1;omega,e3,NmB.mk hs e4⟩
theorem typQ_ok (f:Nat):∀ (q:Nat) (l:List UInt8) (T:Ty) (q':Nat) (l':List UInt8),typQ f q l=some (T,q',l')→q+T.parts=q'∧q'≤300∧NmB 255 T:=by
 induction f with
 | zero=>intro q l T q' l' h;cases h
 | succ f ih =>
  intro q l T q' l' h
  rw [typQ] at h
  split at h
  ·cases h
  rename_i hq
  cases l with
  | nil=>cases h
  | cons c l =>
   rw [bodyQ] at h
   unfold kindQ at h
   split at h
   ·split at h
    ·injection h with h;injection h with h1 h2;injection h2 with h2 h3
     rw [←h1,←h2]
     exact ⟨rfl,by omega,NmB.mk (by decide) fun t ht=>by simp at ht⟩
    ·cases h
   ·split at h
    ·cases hn:nmR l with
     | none=>rw [hn] at h;cases h
     | some x =>
      obtain ⟨s,l1⟩:=x
      rw [hn] at h
      exact argsR_ok ih h (nmR_wr hn).2 (by omega)
    ·exact argsR_ok ih h (by decide) (by omega)
end Go.Typ
namespace Go.Proofs.YtaalbcfpacpgfaaGreat
open Go.RowKit Go.Lib Go.Vfs Go.Par Go.Typ Go.Shelf
theorem RowK.keepP {α:Type} {e k:Nat} {R:(Nat→Prop)→World→Value→α→Prop} {L B p:Nat} {w w':World} {xs:List α} {v:Value} {us:List Value} (hK:∀ {S S':Nat→Prop} {w w':World} {v:Value} {x:α},R S w v x→(∀ b,S b→S' b∧w'.heap[b]? = w.heap[b]?)→R S' w' v x)
  (h:RowK e k R L B w xs v us) (hp:p < L) (hv:v.ownBlock≠some p) (hk:Kept (· = p) w w'):RowK e k R L B w' xs v us :=
 ⟨h.len,ownsRow_block h.own fun g e=>hk.block g (h.own.lt g e).2 (fun e2=>hv (by rw [e,e2])),h.size,fun i hi=>hK (h.each i hi) fun b hb=>⟨⟨hb.1,by have:=hk.size;omega,hb.2.2⟩,hk.block b hb.2.1 (by show ¬ b=p;omega)⟩⟩
structure RD (w wr:World) (A:Option Addr) (c:Nat) (l:List UInt8) (lf:Int) (bad:Bool) (nm:ByteArray) (k num:Int) (s:ByteArray) (av:Value) (W:World):Prop where
 box:W.heap[w.heap.size+1]? = some (.cells #[.slice A l.length c,.int .i64 lf,.bool bad] 192 (0,0))
 one:W.heap[wr.heap.size]? = some (.cells #[.string nm,.int .i64 k,.int .i64 num,.string s,av] 63 (0,0))
 seg:Seg W w.heap.size (.slice A l.length c) (byteCells l)
 kept:Kept (· = w.heap.size+1) wr W
 lt:w.heap.size+1 < wr.heap.size
section
variable {w wr:World} {A A':Option Addr} {c c':Nat} {l l':List UInt8} {lf lf':Int} {bad bad':Bool} {nm:ByteArray} {k num:Int} {s:ByteArray} {av:Value} {W W':World}
theorem RD.big (h:RD w wr A c l lf bad nm k num s av W):wr.heap.size < W.heap.size:=lt_blk h.one
theorem RD.t (h:RD w wr A c l lf bad nm k num s av W) (hb:Below W.heap.size W W'):RD w wr A c l lf bad nm k num s av W' :=
 ⟨(hb.block _ (lt_blk h.box)).trans h.box,(hb.block _ (lt_blk h.one)).trans h.one,h.seg.below (hb.mono (by have:=h.lt;have:=h.big;omega)),h.kept.trans' (Kept.of_below hb),h.lt⟩
theorem RD.put (h:RD w wr A c l lf bad nm k num s av W) (hk:Kept (· = w.heap.size+1) W W')
  (hb:W'.heap[w.heap.size+1]? = some (.cells #[.slice A' l'.length c',.int .i64 lf',.bool bad'] 192 (0,0))) (hs:Seg W w.heap.size (.slice A' l'.length c') (byteCells l')):RD w wr A' c' l' lf' bad' nm k num s av W':=by
 have h1:=h.lt;have h2:=h.big
 exact ⟨hb,(hk.block _ (lt_blk h.one) (by show ¬ _=_;omega)).trans h.one,hs.keep fun b o hb=>World.cell?_of_block (w:=W) (a:=⟨b,o,none⟩) (hk.block b (by omega) (by show ¬ _=_;omega)),h.kept.trans' hk,h1⟩
theorem RD.putOne {nm':ByteArray} {k' num':Int} {s':ByteArray} {av':Value} (h:RD w wr A c l lf bad nm k num s av W) (hk:Kept (· = wr.heap.size) W W')
  (hb:W'.heap[wr.heap.size]? = some (.cells #[.string nm',.int .i64 k',.int .i64 num',.string s',av'] 63 (0,0))):RD w wr A c l lf bad nm' k' num' s' av' W':=by
 have h1:=h.lt;have h2:=h.big
 have hz:=hk.size
 refine ⟨(hk.block _ (lt_blk h.box) (by show ¬ _=_;omega)).trans h.box,hb,h.seg.keep fun b o hb=>World.cell?_of_block (w:=W) (a:=⟨b,o,none⟩) (hk.block b (by omega) (by show ¬ _=_;omega)),?_,h1⟩
 exact ⟨hk.os.trans h.kept.os,hk.tape.trans h.kept.tape,hk.output.trans h.kept.output,by have:=h.kept.size;omega,fun g hg hp=>(hk.block g (by have:=h.kept.size;omega) (by show ¬ _=_;omega)).trans (h.kept.block g hg hp)⟩
end
theorem one1 {W:World} {r:Nat} {u0 u1 u2 u3 u4:Value} (v0:Value) {t:TypeId} (hr:W.heap[r]? = some (.cells #[u0,u1,u2,u3,u4] t (0,0))) :
  ∃ Wf,Wf=W.setCell ⟨r,0,none⟩ v0∧Wf.heap[r]? = some (.cells #[v0,u1,u2,u3,u4] t (0,0))∧Kept (· = r) W Wf :=
 ⟨_,rfl,by simpa using cells_put hr 0 v0,Kept.setCell (F:=(· = r)) (p:=⟨r,0,none⟩) (Kept.refl _ _) (.inl rfl) v0⟩
theorem one5s {W:World} {r:Nat} {u0 u1 u2 u3 u4:Value} (v1 v2 v3 v4:Value) {t:TypeId} (hr:W.heap[r]? = some (.cells #[u0,u1,u2,u3,u4] t (0,0))) :
  ∃ Wf,Wf=((((W.setCell ⟨r,1,none⟩ v1).setCell ⟨r,2,none⟩ v2).setCell ⟨r,3,none⟩ v3).setCell ⟨r,4,none⟩ v4)∧Wf.heap[r]? = some (.cells #[u0,v1,v2,v3,v4] t (0,0))∧Kept (· = r) W Wf :=
 ⟨_,rfl,by simpa using cells_put (cells_put (cells_put (cells_put hr 1 v1) 2 v2) 3 v3) 4 v4,Kept.setCell (F:=(· = r)) (p:=⟨r,4,none⟩) (Kept.setCell (F:=(· = r)) (p:=⟨r,3,none⟩) (Kept.setCell (F:=(· = r)) (p:=⟨r,2,none⟩) (Kept.setCell (F:=(· = r)) (p:=⟨r,1,none⟩) (Kept.refl _ _) (.inl rfl) v1) (.inl rfl) v2) (.inl rfl) v3) (.inl rfl) v4⟩
def RDec (L:List UInt8) (w:World) (e:Ending) (w':World):Prop :=
 Below w.heap.size w w'∧∃ v',e=.returned (.tuple #[v',.int .i64 (if (decX L).isSome then 0 else 140)])∧(∀ xs,decX L=some xs→ExsAt (fun g=>w.heap.size≤g∧g < w'.heap.size) w' v' xs)∧(decX L=none→v'=.slice none 0 0)
theorem rdec_none {L:List UInt8} {w W:World} (hb:Below w.heap.size w W) (h:decX L=none):RDec L w (.returned (.tuple #[.slice none 0 0,.int .i64 140])) W :=
 ⟨hb,.slice none 0 0,by rw [h];rfl,(fun xs e=>by rw [h] at e;cases e),fun _=>rfl⟩
set_option maxRecDepth 20000 in
set_option maxHeartbeats 4000000 in
theorem rdecode_any (L:List UInt8) (hL:L.length≤1000000) (v:Value) (w:World) (hsg:Seg w w.heap.size v (byteCells L)):Calls Tryz.prog 102 #[v] w (RDec L w):=by
 obtain ⟨P,hP⟩:∃ P,P=RDec L w:=⟨_,rfl⟩
 have HPO:=Lib.hid hP
 rw [←hP]
 clear hP
 obtain ⟨A,c,rfl,hc,hm,-⟩:=hsg.open_bytes
 obtain ⟨W2,hW2⟩:∃ W2,W2=(w.alloc (.cells #[] 63)).alloc (.cells #[.slice A L.length c,.int .i64 0,.bool false] 192):=⟨_,rfl⟩
 have hb2:Below w.heap.size w W2:=by rw [hW2];exact ((Below.refl _ _).alloc (Nat.le_refl _) _).alloc (by simp) _
 have hbx2:W2.heap[w.heap.size+1]? = some (.cells #[.slice A L.length c,.int .i64 0,.bool false] 192 (0,0)):=by
  rw [hW2];simpa using heap_alloc_new (w.alloc (.cells #[] 63)) (.cells #[.slice A L.length c,.int .i64 0,.bool false] 192)
 have HMK:Hid (RowK 63 5 ExAt (w.heap.size+2) w.heap.size W2 [] (.slice (some ⟨w.heap.size,0,none⟩) 0 0) []):=Lib.hid (by
  rw [hW2]
  exact RowK.below (R:=ExAt) ExAt.keep (RowK.made w (Nat.le_refl _)) ((Below.refl _ _).alloc (by simp) _))
 have HSG:=Lib.hid hsg
 have HB2:=Lib.hid hb2;have HBX2:=Lib.hid hbx2
 have hlt2:=lt_blk hbx2
 have HNU:=Lib.hid (snum_any L 2 (by omega) w.heap.size A c 0 false W2 (hsg.below hb2) hb2.size (by omega))
 obtain ⟨y0,y1,y2⟩:=box3 hbx2
 rw [hW2] at y0 y1 y2
 clear hsg hb2 hbx2 hc hm
 go_enter Tryz.func102,Tryz.ntmps102
 go_wp2_with fail
 rw [←hW2]
 clear hW2 y0 y1 y2
 refine HNU.out.mono ?_
 rintro e w3 ⟨A3,c3,l3,bad3,n,rfl,hs3,hb3,hcase⟩
 have hbx3:=(hb3.block _ (lt_blk HBX2.out)).trans HBX2.out
 obtain ⟨W4,hW4,hba,hka⟩:=end3 (.slice A3 l3.length c3) (.int .i64 0) (.bool bad3) hbx3
 have hz3:=hb3.size
 have hs4:Seg W4 w.heap.size (.slice A3 l3.length c3) (byteCells l3):=hs3.keep fun b o hb=>World.cell?_of_block (w:=w3) (a:=⟨b,o,none⟩) (hka.block b (by omega) (by show ¬ _=_;omega))
 have HB4:Hid (Below w.heap.size w W4):=Lib.hid ((HB2.out.trans (hb3.mono HB2.out.size)).trans (hka.below (by have:=HB2.out.size;omega) (fun g hg=>by omega)))
 have HR4:Hid (RowK 63 5 ExAt (w.heap.size+2) w.heap.size W4 [] (.slice (some ⟨w.heap.size,0,none⟩) 0 0) []):=Lib.hid (RowK.keepP (R:=ExAt) ExAt.keep (RowK.below (R:=ExAt) ExAt.keep HMK.out hb3) (p:=w.heap.size+1) (by omega) (by simp [Value.ownBlock]) hka)
 have HS4:=Lib.hid hs4;have HBX4:=Lib.hid hba
 obtain ⟨hl3,-,-,-⟩:=SNum.len (by omega) hcase
 have hn:n < 65536:=by
  rcases hcase with ⟨h1,h2,h3,h4⟩|⟨h1,h2,h3,h4⟩
  ·have:=numB_lt (L.take 2)
   rw [List.length_take,Nat.min_eq_left h1] at this
   omega
  ·omega
 have HX4:Hid ((bad3=false→(∀ xs l',exsQ n [] l3=some (xs,l')→decX L=if rightX xs=true∧encX xs=L then some xs else none)∧(exsQ n [] l3=none→decX L=none))∧(bad3=true→decX L=none)):=Lib.hid (by
  rw [←decQ_eq]
  rcases hcase with ⟨h1,rfl,rfl,rfl⟩|⟨h1,h2,h3,rfl⟩
  ·refine ⟨fun _=>⟨fun xs l' h=>?_,fun h=>?_⟩,fun e=>by cases e⟩
   ·rw [decQ,if_pos h1,h]
   ·rw [decQ,if_pos h1,h]
  ·exact ⟨(fun e=>by cases e),fun _=>by rw [decQ,if_neg (by omega)]⟩)
 obtain ⟨a0,a1,a2⟩:=box3 hbx3
 obtain ⟨q0,q1,q2⟩:=box3_frozen hbx3
 have hlt4:=lt_blk hba
 have hl3b:l3.length≤1000000:=by omega
 clear hcase hs3 hb3 hbx3 hba hka hs4 HNU HMK hl3
 go_upto_region 5 with fail
 rw [←hW4]
 clear hW4 a0 a1 a2 q0 q1 q2
 go_loopw [4,7] (fun sv iv W=>∃ (m:Nat) (A2:Option Addr) (c2:Nat) (l2:List UInt8) (lf2:Int) (bad2:Bool) (xs:List Ex) (us:List Value),m≤n∧iv=.int .i64 m∧W.heap[w.heap.size+1]? = some (.cells #[.slice A2 l2.length c2,.int .i64 lf2,.bool bad2] 192 (0,0))∧Hid (Seg W w.heap.size (.slice A2 l2.length c2) (byteCells l2))∧Hid (Below w.heap.size w W)∧Hid (RowK 63 5 ExAt (w.heap.size+2) w.heap.size W xs sv us)∧Hid (sv.ownBlock≠some (w.heap.size+1))∧xs.length=m∧l2.length≤1000000 ∧
  Hid ((bad2=false→bad3=false∧exsQ (n - m) xs l2=exsQ n [] l3∧∀ x∈xs,ExOk x)∧(bad2=true→bad3=true∨exsQ n [] l3=none))) (fun _ iv _=>n - (RowKit.intOf iv).toNat)
 case atStart=>exact ⟨0,A3,c3,l3,0,bad3,[],[],by omega,rfl,HBX4.out,HS4,HB4,HR4,Lib.hid (by simp [Value.ownBlock]),rfl,hl3b,Lib.hid ⟨fun e=>⟨e,rfl,fun x hx=>by simp at hx⟩,fun e=>.inl e⟩⟩
 case round =>
  obtain ⟨m,A2,c2,l2,lf2,bad2,xs,us,hmn,rfl,hbx,HSr,HBr,HRr,HVr,hxs,hl2,HXr⟩:=hrel
  obtain ⟨y0,y1,y2⟩:=box3 hbx
  have hltb:=lt_blk hbx
  have hzr:=HBr.out.size
  by_cases hgo:m < n∧bad2=false
  ·obtain ⟨hlt,rfl⟩:=hgo
   obtain ⟨hb3f,hls,hoks⟩:=HXr.out.1 rfl
   have HLS:=Lib.hid hls;have HOKS:=Lib.hid hoks;have HB3F:=Lib.hid hb3f
   obtain ⟨W5,hW5⟩:∃ W5,W5=(wr.setCell ⟨w.heap.size+1,1,none⟩ (.int .i64 300)).alloc (.cells #[.string ⟨#[]⟩,.int .i64 0,.int .i64 0,.string ⟨#[]⟩,.slice none 0 0] 63):=⟨_,rfl⟩
   have hszx:(wr.setCell ⟨w.heap.size+1,1,none⟩ (.int .i64 300)).heap.size=wr.heap.size:=by simp [World.setCell]
   have hk5:Kept (· = w.heap.size+1) wr W5:=by rw [hW5];exact (Kept.setCell (F:=(· = w.heap.size+1)) (p:=⟨w.heap.size+1,1,none⟩) (Kept.refl _ _) (.inl rfl) _).alloc _
   have hd5:RD w wr A2 c2 l2 300 false ⟨#[]⟩ 0 0 ⟨#[]⟩ (.slice none 0 0) W5:=by
    refine ⟨?_,?_,HSr.out.keep fun b o hb=>World.cell?_of_block (w:=wr) (a:=⟨b,o,none⟩) (hk5.block b (by omega) (by show ¬ _=_;omega)),hk5,hltb⟩
    ·rw [hW5,Below.heap_alloc _ _ _ (by rw [hszx];omega)];simpa using cells_put hbx 1 (.int .i64 300)
    ·have:=heap_alloc_new (wr.setCell ⟨w.heap.size+1,1,none⟩ (.int .i64 300)) (.cells #[.string ⟨#[]⟩,.int .i64 0,.int .i64 0,.string ⟨#[]⟩,.slice none 0 0] 63)
     rw [hszx] at this
     rw [hW5];exact this
   have HD5:=Lib.hid hd5
   have HNM:=Lib.hid (sname_any l2 w.heap.size A2 c2 300 false W5 hd5.seg (by have:=hd5.big;omega) (by omega))
   obtain ⟨q0,q1,q2⟩:=box3_frozen hbx
   clear hls hoks hb3f hk5 hd5 hszx
   go_upto_region 9 with fail
   rw [←hW5]
   clear hW5 q0 q1 q2 y0 y1 y2
   obtain ⟨y0,y1,y2⟩:=box3 HD5.out.box
   go_wp2_with fail
   refine HNM.out.mono ?_
   rintro e w6 ⟨A6,c6,l6,bad6,s6,rfl,hs6,hb6,hl6,hsz6,hok6,hno6,-⟩
   have hd6:=HD5.out.t hb6
   obtain ⟨W7,hW7,hba,hka⟩:=end3 (.slice A6 l6.length c6) (.int .i64 300) (.bool bad6) hd6.box
   have hd7:=hd6.put hka hba hs6
   obtain ⟨W8,hW8,hbb,hkb⟩:=one1 (.string s6) hd7.one
   have hd8:=hd7.putOne hkb hbb
   have HD8:=Lib.hid hd8
   have HTY:=Lib.hid (styp_any w.heap.size 301 l6 0 bad6 A6 c6 300 W8 hd8.seg (by have:=hd8.big;omega) (by omega) (by decide) (by omega) (by omega))
   obtain ⟨a0,a1,a2⟩:=box3 hd6.box
   obtain ⟨q0,q1,q2⟩:=box3_frozen hd6.box
   obtain ⟨b0,b1,b2,b3,b4⟩:=box5 hd6.one
   obtain ⟨f0,f1,f2,f3,f4⟩:=box5_frozen hd6.one
   have HOK6:=Lib.hid (And.intro hok6 hno6)
   clear y0 y1 y2 hs6 hb6 hd6 hba hka hd7 hbb hkb hd8 HNM HD5 hok6 hno6
   go_upto_region 10 with fail
   rw [←hW7,←hW8]
   clear hW7 hW8 a0 a1 a2 q0 q1 q2 b0 b1 b2 b3 b4 f0 f1 f2 f3 f4
   obtain ⟨y0,y1,y2⟩:=box3 HD8.out.box
   go_wp2_with fail
   refine HTY.out.mono ?_
   rintro e w9 ⟨T,A9,c9,A10,c10,l10,lf10,bad10,rfl,hty,hargs,hs10,hb9,hl10,hok10,hno10⟩
   unfold tyV at hty ⊢
   have hd9:=HD8.out.t hb9
   obtain ⟨W10,hW10,hba,hka⟩:=end3 (.slice A10 l10.length c10) (.int .i64 lf10) (.bool bad10) hd9.box
   have hd10:=hd9.put hka hba hs10
   obtain ⟨W11,hW11,hbb,hkb⟩:=one5s (.int .i64 T.kind) (.int .i64 T.num) (.string T.name) (.slice A9 T.args.length c9) hd10.one
   have hd11:=hd10.putOne hkb hbb
   have h8b:=HD8.out.big
   have hz9:=hb9.size
   have hz10:=hka.size
   have hz11:=hkb.size
   have hex:ExAt (fun g=>W8.heap.size≤g∧g < w9.heap.size) W11 (exV ⟨s6,T⟩ A9 c9) ⟨s6,T⟩:=⟨A9,c9,rfl,by show s6.size≤_;omega,hty.keep fun g hg=>⟨hg,(hkb.block g (by omega) (by show ¬ _=_;omega)).trans (hka.block g hg.2 (by show ¬ _=_;omega))⟩⟩
   have hrow:=RowK.keepP (R:=ExAt) ExAt.keep HRr.out (p:=w.heap.size+1) (by omega) HVr.out hd11.kept
   have HROW:=Lib.hid hrow;have HEX:=Lib.hid hex;have HD11:=Lib.hid hd11
   have HBL:Hid (Below w.heap.size w W11):=Lib.hid (HBr.out.trans (hd11.kept.below hzr (fun g hg=>by omega)))
   obtain ⟨us',hus⟩:∃ us',us'=us.flatMap flatC:=⟨_,rfl⟩
   have hown:=hrow.own
   rw [←hus,hxs] at hown
   have HUS:=Lib.hid hus
   have HNX:Hid ((bad10=false→bad3=false∧exsQ (n - (m+1)) (xs ++ [⟨s6,T⟩]) l10=exsQ n [] l3∧∀ x∈xs ++ [(⟨s6,T⟩:Ex)],ExOk x)∧(bad10=true→bad3=true∨exsQ n [] l3=none)):=Lib.hid (by
    have hls:=HLS.out
    rw [show n - m=(n - (m+1))+1 by omega,exsQ] at hls
    cases hn:nmR l2 with
    | none =>
     rw [hn] at hls
     have hb6:=HOK6.out.2 hn
     refine ⟨fun e=>?_,fun _=>.inr hls.symm⟩
     obtain ⟨q',h1,-⟩:=hok10 e
     rw [hb6] at h1;cases h1
    | some y =>
     obtain ⟨s0,l0⟩:=y
     obtain ⟨h1,h2,h3⟩:=HOK6.out.1 s0 l0 hn
     rw [hn] at hls
     simp only at hls
     subst h1 h2 h3
     refine ⟨fun e=>?_,fun e=>?_⟩
     ·obtain ⟨q',-,h4,-,-,h5⟩:=hok10 e
      rw [h4] at hls
      obtain ⟨h6,-,h7⟩:=typQ_ok _ _ _ _ _ _ h4
      refine ⟨HB3F.out,hls,fun x hx=>?_⟩
      rcases List.mem_append.1 hx with hx|hx
      ·exact HOKS.out x hx
      ·rw [List.mem_singleton.1 hx]
       exact ⟨by show T.parts≤_;omega,fun y hy=>by have:=h7 y hy;omega,by show s6.size≤_;omega⟩
     ·right
      have h4:=(hno10 e).resolve_left (by decide)
      rw [h4] at hls
      exact hls.symm)
   obtain ⟨a0,a1,a2⟩:=box3 hd9.box
   obtain ⟨q0,q1,q2⟩:=box3_frozen hd9.box
   obtain ⟨b0,b1,b2,b3,b4⟩:=box5 hd9.one
   obtain ⟨f0,f1,f2,f3,f4⟩:=box5_frozen hd9.one
   have hl10b:l10.length≤1000000:=by omega
   clear y0 y1 y2 hty hs10 hb9 hd9 hba hka hd10 hbb hkb hd11 HTY HD8 hok10 hno10 hrow hex hus HOK6 HLS HOKS
   go_upto_region 11 with fail
   rw [←hW10,←hW11]
   clear hW10 hW11 a0 a1 a2 q0 q1 q2 b0 b1 b2 b3 b4 f0 f1 f2 f3 f4
   obtain ⟨b0,b1,b2,b3,b4⟩:=box5 HD11.out.one
   have hz12:w.heap.size≤W11.heap.size:=by omega
   go_wp2_with (at_builtin;refine wpList_appK _ rfl _ _ _ rfl w.heap.size _ 5 exE _ m us' rfl (World.ownsRow.alloc hown _) ⟨W11.heap.size,0,none⟩ 1 1 [.string s6,.int .i64 T.kind,.int .i64 T.num,.string T.name,.slice A9 T.args.length c9] rfl rfl (cells_new _ _ _) (one5 _ _ _ _ _ _ _) (by omega) (by simp;omega) ?_;intro v12 w12 hown12 hg12 hat12)
   have hgr:=Gr.app hg12 hat12
   have hbx12:=(hgr.block (lt_blk HD11.out.box) (fun e=>HVr.out e)).trans HD11.out.box
   have HSG12:Hid (Seg w12 w.heap.size (.slice A10 l10.length c10) (byteCells l10)):=Lib.hid (HD11.out.seg.keep fun b o hb=>World.cell?_of_block (w:=W11) (a:=⟨b,o,none⟩) (hgr.block (g:=b) (by omega) (fun e=>by have:=(HROW.out.lt b e).1;omega)))
   have HB12:Hid (Below w.heap.size w w12):=Lib.hid (below_grow HBL.out hz12 _ hg12 (fun g e=>(hown.lt g e).1))
   have HR12:Hid (RowK 63 5 ExAt (w.heap.size+2) w.heap.size w12 (xs ++ [⟨s6,T⟩]) v12 (us ++ [exV ⟨s6,T⟩ A9 c9])):=Lib.hid (RowK.next (R:=ExAt) ExAt.keep HROW.out HEX.out (fun g hg=>⟨by omega,by omega,fun e=>by have:=(HRr.out.lt g e).2;omega⟩) rfl _ (by rw [hxs,←HUS.out];exact hown12) hg12 hat12)
   have HV12:Hid (v12.ownBlock≠some (w.heap.size+1)):=Lib.hid (by
    rcases hat12 with e|e
    ·rw [e];exact HVr.out
    ·rw [e];simp;omega)
   clear hgr hown12 hg12 hat12 hown b0 b1 b2 b3 b4
   go_wp2
   go_roundw
   case rel=>exact ⟨m+1,A10,c10,l10,lf10,bad10,xs ++ [⟨s6,T⟩],us ++ [exV ⟨s6,T⟩ A9 c9],by omega,by go_num,hbx12,HSG12,HB12,HR12,HV12,by rw [List.length_append,hxs];rfl,hl10b,HNX⟩
   case measure=>simp [RowKit.intOf];omega
  ·cases bad2 with
   | true =>
    have HN:Hid (decX L=none):=Lib.hid (by
     cases hb3:bad3 with
     | true=>exact HX4.out.2 hb3
     | false =>
      rcases HXr.out.2 rfl with h|h
      ·rw [hb3] at h;cases h
      ·exact (HX4.out.1 hb3).2 h)
    have HE:Hid (P (.returned (.tuple #[.slice none 0 0,.int .i64 140])) wr):=Lib.hid (by rw [HPO.out];exact rdec_none HBr.out HN.out)
    clear hgo
    by_cases hlt:m < n
    ·go_wp2
     exact HE.out
    ·go_wp2
     exact HE.out
   | false =>
    have hge:¬ m < n:=fun h=>hgo ⟨h,rfl⟩
    subst hxs
    obtain ⟨hb3f,hls,hoks⟩:=HXr.out.1 rfl
    rw [show n - xs.length=0 by omega,exsQ] at hls
    have HDX:=Lib.hid ((HX4.out.1 hb3f).1 _ _ hls.symm)
    obtain ⟨A5,c5,hf5,hc5,hm5⟩:=HRr.out.form
    have HEXF:Hid (ExsAt (fun g=>w.heap.size≤g∧g < wr.heap.size) wr (.slice A5 xs.length c5) xs):=Lib.hid (by rw [←hf5];exact HRr.out.exs.sub fun g hg=>⟨by rcases hg.1 with h | h <;> omega,hg.2⟩)
    have HEX:Hid (ExsAt (· < wr.heap.size) wr (.slice A5 xs.length c5) xs):=Lib.hid (HEXF.out.sub fun g hg=>hg.2)
    subst hf5
    have HEN:=Lib.hid (rencode14_any xs hoks _ wr HEX.out)
    clear hgo hls hoks hc5 hm5 hb3f HRr HVr
    go_wp2_with fail
    refine HEN.out.mono ?_
    rintro e w5 ⟨v5,h5e,hb5,he5,hn5⟩
    have HB5:Hid (Below w.heap.size w w5):=Lib.hid (HBr.out.trans (hb5.mono hzr))
    have HEX5:Hid (ExsAt (fun g=>w.heap.size≤g∧g < w5.heap.size) w5 (.slice A5 xs.length c5) xs):=Lib.hid (HEXF.out.keep fun g hg=>⟨⟨hg.1,by have:=hb5.size;omega⟩,hb5.block g hg.2⟩)
    cases hr:rightX xs with
    | false =>
     have HE:Hid (P (.returned (.tuple #[.slice none 0 0,.int .i64 140])) w5):=Lib.hid (by rw [HPO.out];exact rdec_none HB5.out (by rw [HDX.out,if_neg (by rw [hr];exact fun h=>by cases h.1)]))
     rw [hr] at h5e
     simp only [Bool.false_eq_true,if_false] at h5e
     subst h5e
     clear he5 hn5 hb5 hr HEN
     go_wp2
     exact HE.out
    | true =>
     have HSB:Hid (∀ W,Below w5.heap.size w5 W→Calls Tryz.prog 40 #[v5,.slice A L.length c] W fun e w'=>e=.returned (.bool (decide (encX xs=L)))∧Below W.heap.size W w'):=Lib.hid fun W h=>by
      refine (sameBytes_anyQ _ _ (encX xs) L w5.heap.size W ((he5 hr).seg.below h) (((HSG.out.below HB5.out).more HB5.out.size).below h)).mono ?_
      rintro e w' ⟨rfl,k,rfl⟩
      exact ⟨rfl,below_drewNQ (Below.refl _ _) _⟩
     rw [hr] at h5e
     simp only [if_true] at h5e
     subst h5e
     have HE1:Hid (∀ W,Below w5.heap.size w5 W→encX xs=L→P (.returned (.tuple #[.slice A5 xs.length c5,.int .i64 0])) W):=Lib.hid fun W h he=>by
      rw [HPO.out]
      have hx:decX L=some xs:=by rw [HDX.out,if_pos ⟨hr,he⟩]
      refine ⟨HB5.out.trans (h.mono HB5.out.size),_,by rw [hx];rfl,fun ys e=>?_,fun e=>by rw [hx] at e;cases e⟩
      rw [hx] at e
      injection e with e
      rw [←e]
      exact HEX5.out.keep fun g hg=>⟨⟨hg.1,by have:=h.size;omega⟩,h.block g hg.2⟩
     have HE2:Hid (∀ W,Below w5.heap.size w5 W→¬ encX xs=L→P (.returned (.tuple #[.slice none 0 0,.int .i64 140])) W):=Lib.hid fun W h he=>by
      rw [HPO.out]
      exact rdec_none (HB5.out.trans (h.mono HB5.out.size)) (by rw [HDX.out,if_neg fun h=>he h.2])
     have HB0:=Lib.hid (Below.refl w5.heap.size w5)
     clear he5 hn5 hb5 hr HEN
     by_cases he:encX xs=L
     ·have hdt:decide (encX xs=L)=true:=decide_eq_true he
      rw [hdt] at HSB
      have HHE:=Lib.hid he
      clear he hdt
      go_wp2_with fail
      refine (HSB.out _ HB0.out).mono ?_
      rintro e w7 ⟨rfl,hb7⟩
      have HF:=Lib.hid (HE1.out w7 hb7 HHE.out)
      clear hb7
      go_wp2
      exact HF.out
     ·have hdt:decide (encX xs=L)=false:=decide_eq_false he
      rw [hdt] at HSB
      have HHE:=Lib.hid he
      clear he hdt
      go_wp2_with fail
      refine (HSB.out _ HB0.out).mono ?_
      rintro e w7 ⟨rfl,hb7⟩
      have HF:=Lib.hid (HE2.out w7 hb7 HHE.out)
      clear hb7
      go_wp2
      exact HF.out
end Go.Proofs.YtaalbcfpacpgfaaGreat
