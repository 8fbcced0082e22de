/- The reference's index: Open. -/
import Derived.Deep.RegionHeld
import Derived.Test.YtaalbcfpacpgfaaGreatZaR3
import Derived.Test.YtaalbcfpacpgfaaGreatZaK7
import Derived.Test.YtaalbcfpacpgfaaGreatZaI6
set_option linter.unusedVariables false
set_option linter.unusedSimpArgs false
namespace Go.Proofs.YtaalbcfpacpgfaaGreat
open Go.RowKit Go.Lib Go.Vfs Go.Par Go.Typ Go.Shelf Go.Ix
structure RXI (w:World) (B:Nat) (pw gen:Int) (fv bv rv lv:Value) (W:World):Prop where
 below:Below w.heap.size w W
 lo:w.heap.size+2≤B
 size:B+2≤W.heap.size
 h1:W.heap[w.heap.size+1]? = some (.cells #[.int .i64 0,.slice none 0 0,.int .i64 0,.slice none 0 0,.slice none 0 0,.slice none 0 0] 47 (0,0))
 hj:W.heap[B]? = some (.cells #[.int .i64 pw,fv,.int .i64 gen,bv,rv] 44 (0,0))
 hx:W.heap[B+1]? = some (.cells #[.int .i64 pw,fv,.int .i64 gen,bv,rv,lv] 47 (0,0))
section
variable {w W W':World} {B:Nat} {pw gen:Int} {fv bv rv lv:Value}
theorem RXI.go (h:RXI w B pw gen fv bv rv lv W) (hb:Below W.heap.size W W'):RXI w B pw gen fv bv rv lv W':=by
 have hz:=h.size
 have hl:=h.lo
 have hzz:=hb.size
 exact ⟨h.below.trans (hb.mono (by omega)),hl,by omega,(hb.block _ (by omega)).trans h.h1,(hb.block _ (by omega)).trans h.hj,(hb.block _ (by omega)).trans h.hx⟩
theorem RXI.xcells (h:RXI w B pw gen fv bv rv lv W) :
  W.cell? ⟨B+1,0,none⟩=some (.int .i64 pw)∧W.cell? ⟨B+1,1,none⟩=some fv∧W.cell? ⟨B+1,2,none⟩=some (.int .i64 gen)∧W.cell? ⟨B+1,3,none⟩=some bv∧W.cell? ⟨B+1,4,none⟩=some rv∧W.cell? ⟨B+1,5,none⟩=some lv:=by
 have hx:=h.hx
 simp [World.cell?,hx]
theorem RXI.xfrozen (h:RXI w B pw gen fv bv rv lv W):W.frozen? ⟨B+1,5,none⟩=false:=by
 have hx:=h.hx
 simp [World.frozen?,hx]
theorem RXI.jcells (h:RXI w B pw gen fv bv rv lv W) :
  W.cell? ⟨B,0,none⟩=some (.int .i64 pw)∧W.cell? ⟨B,1,none⟩=some fv∧W.cell? ⟨B,2,none⟩=some (.int .i64 gen)∧W.cell? ⟨B,3,none⟩=some bv∧W.cell? ⟨B,4,none⟩=some rv:=by
 have hj:=h.hj
 simp [World.cell?,hj]
theorem RXI.rcells (h:RXI w B pw gen fv bv rv lv W) :
  (W.cell? ⟨w.heap.size+1,0,none⟩=some (.int .i64 0)∧W.cell? ⟨w.heap.size+1,1,none⟩=some (.slice none 0 0)∧W.cell? ⟨w.heap.size+1,2,none⟩=some (.int .i64 0)∧W.cell? ⟨w.heap.size+1,3,none⟩=some (.slice none 0 0)∧W.cell? ⟨w.heap.size+1,4,none⟩=some (.slice none 0 0)∧W.cell? ⟨w.heap.size+1,5,none⟩=some (.slice none 0 0)) ∧
  (W.frozen? ⟨w.heap.size+1,0,none⟩=false∧W.frozen? ⟨w.heap.size+1,1,none⟩=false∧W.frozen? ⟨w.heap.size+1,2,none⟩=false∧W.frozen? ⟨w.heap.size+1,3,none⟩=false∧W.frozen? ⟨w.heap.size+1,4,none⟩=false∧W.frozen? ⟨w.heap.size+1,5,none⟩=false):=by
 have h1:=h.h1
 simp [World.cell?,World.frozen?,h1]
theorem RXI.ret (h:RXI w B pw gen fv bv rv lv W):∃ Wf,Wf=((((((W.setCell ⟨w.heap.size+1,0,none⟩ (.int .i64 pw)).setCell ⟨w.heap.size+1,1,none⟩ fv).setCell ⟨w.heap.size+1,2,none⟩ (.int .i64 gen)).setCell ⟨w.heap.size+1,3,none⟩ bv).setCell ⟨w.heap.size+1,4,none⟩ rv).setCell ⟨w.heap.size+1,5,none⟩ lv) ∧
  (Wf.cell? ⟨w.heap.size+1,0,none⟩=some (.int .i64 pw)∧Wf.cell? ⟨w.heap.size+1,1,none⟩=some fv∧Wf.cell? ⟨w.heap.size+1,2,none⟩=some (.int .i64 gen)∧Wf.cell? ⟨w.heap.size+1,3,none⟩=some bv∧Wf.cell? ⟨w.heap.size+1,4,none⟩=some rv∧Wf.cell? ⟨w.heap.size+1,5,none⟩=some lv)∧Kept (· = w.heap.size+1) W Wf:=by
 have h6:=cells_put (cells_put (cells_put (cells_put (cells_put (cells_put h.h1 0 (.int .i64 pw)) 1 fv) 2 (.int .i64 gen)) 3 bv) 4 rv) 5 lv
 refine ⟨_,rfl,?_,?_⟩
 ·have h7:=h6
  simp only [List.setIfInBounds_toArray,List.set_cons_zero,List.set_cons_succ] at h7
  simp [World.cell?,h7]
 ·exact Kept.setCell (F:=(· = w.heap.size+1)) (p:=⟨w.heap.size+1,5,none⟩) (Kept.setCell (F:=(· = w.heap.size+1)) (p:=⟨w.heap.size+1,4,none⟩) (Kept.setCell (F:=(· = w.heap.size+1)) (p:=⟨w.heap.size+1,3,none⟩) (Kept.setCell (F:=(· = w.heap.size+1)) (p:=⟨w.heap.size+1,2,none⟩) (Kept.setCell (F:=(· = w.heap.size+1)) (p:=⟨w.heap.size+1,1,none⟩) (Kept.setCell (F:=(· = w.heap.size+1)) (p:=⟨w.heap.size+1,0,none⟩) (Kept.refl _ _) (.inl rfl) _) (.inl rfl) _) (.inl rfl) _) (.inl rfl) _) (.inl rfl) _) (.inl rfl) _
theorem RXI.setL (h:RXI w B pw gen fv bv rv lv W) (u:Value):RXI w B pw gen fv bv rv u (W.setCell ⟨B+1,5,none⟩ u)∧Kept (· = B+1) W (W.setCell ⟨B+1,5,none⟩ u):=by
 have hk:Kept (· = B+1) W (W.setCell ⟨B+1,5,none⟩ u):=(Kept.refl (· = B+1) _).setCell (p:=⟨B+1,5,none⟩) (.inl rfl) _
 have hz:=h.size
 have hl:=h.lo
 have hks:=hk.size
 have h6:=cells_put h.hx 5 u
 simp only [List.setIfInBounds_toArray,List.set_cons_zero,List.set_cons_succ] at h6
 exact ⟨⟨h.below.trans (hk.below (by omega) (fun k hk=>by omega)),hl,by omega,(hk.block _ (by omega) (by omega)).trans h.h1,(hk.block _ (by omega) (by omega)).trans h.hj,h6⟩,hk⟩
end
theorem RXI.start {w w0 w1:World} {pw gen:Int} {fv bv rv:Value} (hb0:Below w.heap.size w w0) (hz0:w0.heap.size=w.heap.size+2)
  (h1:w0.heap[w.heap.size+1]? = some (.cells #[.int .i64 0,.slice none 0 0,.int .i64 0,.slice none 0 0,.slice none 0 0,.slice none 0 0] 47 (0,0))) (hb:Below w0.heap.size w0 w1) :
  RXI w w1.heap.size pw gen fv bv rv (.slice none 0 0) ((w1.alloc (.cells #[.int .i64 pw,fv,.int .i64 gen,bv,rv] 44)).alloc (.cells #[.int .i64 pw,fv,.int .i64 gen,bv,rv,.slice none 0 0] 47)):=by
 have b1:=box_below w1 (.cells #[.int .i64 pw,fv,.int .i64 gen,bv,rv] 44)
 have b2:=box_below (w1.alloc (.cells #[.int .i64 pw,fv,.int .i64 gen,bv,rv] 44)) (.cells #[.int .i64 pw,fv,.int .i64 gen,bv,rv,.slice none 0 0] 47)
 have e1:(w1.alloc (.cells #[.int .i64 pw,fv,.int .i64 gen,bv,rv] 44)).heap.size=w1.heap.size+1:=by simp
 have hz:=hb.size
 refine ⟨(hb0.trans (hb.mono (by omega))).trans ((b1.mono (by omega)).trans (b2.mono (by omega))),by omega,by simp,?_,?_,?_⟩
 ·rw [b2.block _ (by omega),b1.block _ (by omega),hb.block _ (by omega)];exact h1
 ·rw [b2.block _ (by omega)];exact heap_alloc_new w1 _
 ·have:=heap_alloc_new (w1.alloc (.cells #[.int .i64 pw,fv,.int .i64 gen,bv,rv] 44)) (.cells #[.int .i64 pw,fv,.int .i64 gen,bv,rv,.slice none 0 0] 47)
  rw [e1] at this
  exact this
def RXRes (w w':World) (r:Except Int (Nat × List (List UInt8) × List (List UInt8))) (gen:Int) (bv rv:Value) (Al:Option Addr) (nl cl:Nat) (er:Int):Prop:=match r with
 | .error n=>er=n
 | .ok x=>match replay [] (x.2.1 ++ x.2.2) with
  | none=>er=200
  | some es=>er=0∧gen=(x.1:Nat)∧RowsAt (fun b=>w.heap.size≤b∧b < w'.heap.size) w' bv x.2.1∧RowsAt (fun b=>w.heap.size≤b∧b < w'.heap.size) w' rv x.2.2∧nl=es.length∧EntsAt (fun b=>w.heap.size≤b∧b < w'.heap.size) w' (.slice Al nl cl) es
def RXPost (w:World) (S:Nat→Prop) (r:St × Except Int (Nat × List (List UInt8) × List (List UInt8))) (e:Ending) (w':World):Prop :=
 ∃ (A:Option Addr) (n c:Nat) (gen:Int) (Ab:Option Addr) (nb cb:Nat) (Ar:Option Addr) (nr cr:Nat) (Al:Option Addr) (nl cl:Nat) (er:Int),e=.returned (.tuple #[.agg #[.int .i64 r.1.power,.slice A n c,.int .i64 gen,.slice Ab nb cb,.slice Ar nr cr,.slice Al nl cl],.int .i64 er]) ∧
  RefS (New S w w') w' (.slice A n c) r.1.files∧Below w.heap.size w w'∧RXRes w w' r.2 gen (.slice Ab nb cb) (.slice Ar nr cr) Al nl cl er
structure RXL (w w3:World) (B:Nat) (pw gen:Int) (fv bv rv:Value) (ls:List (List UInt8)) (k:Nat) (W:World):Prop where
 ex:∃ es Al cl,replay [] (ls.take k)=some es∧RXI w B pw gen fv bv rv (.slice Al es.length cl) W∧EntsAt (fun b=>w3.heap.size≤b∧b < W.heap.size) W (.slice Al es.length cl) es
 kept:Kept (· = B+1) w3 W
theorem rx_error {w W Wf:World} {S:Nat→Prop} {r:St × Except Int (Nat × List (List UInt8) × List (List UInt8))} {B:Nat} {gen:Int} {A:Option Addr} {n c:Nat} {Ab Ar Al:Option Addr} {nb cb nr cr nl cl:Nat} {er:Int} (hS:∀ b,S b→b < w.heap.size)
  (hx:RXI w B r.1.power gen (.slice A n c) (.slice Ab nb cb) (.slice Ar nr cr) (.slice Al nl cl) W) (hk:Kept (· = w.heap.size+1) W Wf) (hr:RefS (fun b=>S b∨(w.heap.size+2≤b∧b < W.heap.size)) W (.slice A n c) r.1.files)
  (hres:RXRes w Wf r.2 gen (.slice Ab nb cb) (.slice Ar nr cr) Al nl cl er) :
  RXPost w S r (.returned (.tuple #[.agg #[.int .i64 r.1.power,.slice A n c,.int .i64 gen,.slice Ab nb cb,.slice Ar nr cr,.slice Al nl cl],.int .i64 er])) Wf:=by
 have hz:=hx.size
 have hl:=hx.lo
 have hks:=hk.size
 refine ⟨A,n,c,gen,Ab,nb,cb,Ar,nr,cr,Al,nl,cl,er,rfl,?_,hx.below.trans (hk.below (by omega) (fun k hk=>by omega)),hres⟩
 refine RefS.keep hr fun b hb=>?_
 rcases hb with hb|hb
 ·exact ⟨.inl hb,hk.block b (by have:=hS b hb;omega) (by have:=hS b hb;omega)⟩
 ·exact ⟨.inr ⟨by omega,by omega⟩,hk.block b hb.2 (by omega)⟩
set_option maxRecDepth 20000 in
set_option maxHeartbeats 4000000 in
theorem rxopen_any (st:St) (hp:st.power≤9223372036854775807) (A:Option Addr) (c:Nat) (S:Nat→Prop) (w:World) (hS:∀ b,S b→b < w.heap.size) (h:RefS S w (.slice A st.files.length c) st.files) (hl:st.files.length≤900000) (hd:∀ f∈st.files,f.data.length≤800000)
  (hbd:∀ x,(openSt st).2=.ok x→x.2.1.length+x.2.2.length≤100000∧∀ l∈x.2.1 ++ x.2.2,l.length≤1000000) :
  Calls Tryz.prog 16 #[.agg #[.int .i64 st.power,.slice A st.files.length c]] w (RXPost w S (openSt st)):=by
 obtain ⟨W0,hW0⟩:∃ W0,W0=(w.alloc (.cells #[.int .i64 st.power,.slice A st.files.length c] 33)).alloc (.cells #[.int .i64 0,.slice none 0 0,.int .i64 0,.slice none 0 0,.slice none 0 0,.slice none 0 0] 47):=⟨_,rfl⟩
 have hb0:Below w.heap.size w W0:=by rw [hW0];exact ((Below.refl _ _).alloc (Nat.le_refl _) _).alloc (by simp) _
 have hz0:W0.heap.size=w.heap.size+2:=by rw [hW0];simp
 have hbx0:W0.heap[w.heap.size+1]? = some (.cells #[.int .i64 0,.slice none 0 0,.int .i64 0,.slice none 0 0,.slice none 0 0,.slice none 0 0] 47 (0,0)):=by
  rw [hW0]
  have:=heap_alloc_new (w.alloc (.cells #[.int .i64 st.power,.slice A st.files.length c] 33)) (.cells #[.int .i64 0,.slice none 0 0,.int .i64 0,.slice none 0 0,.slice none 0 0,.slice none 0 0] 47)
  rwa [World.size_alloc] at this
 have HOP:=Lib.hid (open_any st hp A c S W0 (fun b hb=>by have:=hS b hb;omega) (RefS.below h hS hb0) hl hd)
 obtain ⟨r,hr⟩:∃ r,r=openSt st:=⟨_,rfl⟩
 rw [←hr] at HOP hbd
 rw [←hr]
 have hrp:∀ n,r.2=.error n→n≠0:=fun n hn=>by rw [hr] at hn;exact openSt_err hn
 obtain ⟨P,hP⟩:∃ P,P=RXPost w S r:=⟨_,rfl⟩
 have HPO:=Lib.hid hP
 rw [←hP]
 have HBD:=Lib.hid hbd;have HERR:=Lib.hid hrp;have HS:=Lib.hid hS
 have HB0:=Lib.hid hb0;have HZ0:=Lib.hid hz0;have HBX0:=Lib.hid hbx0
 have hx0:W0.cell? ⟨w.heap.size,0,none⟩=some (.int .i64 st.power)∧W0.cell? ⟨w.heap.size,1,none⟩=some (.slice A st.files.length c):=by
  have hb:=heap_alloc_new w (.cells #[.int .i64 st.power,.slice A st.files.length c] 33)
  have b2:=box_below (w.alloc (.cells #[.int .i64 st.power,.slice A st.files.length c] 33)) (.cells #[.int .i64 0,.slice none 0 0,.int .i64 0,.slice none 0 0,.slice none 0 0,.slice none 0 0] 47)
  have hb':=(b2.block w.heap.size (by simp)).trans hb
  rw [hW0]
  simp [World.cell?,hb']
 obtain ⟨x0,x1⟩:=hx0
 rw [hW0] at x0 x1
 clear hP hr hS h hl hd hbd hrp hb0 hz0 hbx0 hp
 go_enter Tryz.func16,Tryz.ntmps16
 go_wp2_with fail
 rw [←hW0]
 rw [←hW0] at x0 x1
 clear hW0 x0 x1
 refine HOP.out.mono ?_
 intro e w1 ho
 obtain ⟨A1,n1,c1,gen,Ab,nb,cb,Ar,nr,cr,rfl,HRF,HBL,HRR⟩:=ho.both
 have HX2:=Lib.hid (RXI.start (pw:=r.1.power) (gen:=gen) (fv:=.slice A1 n1 c1) (bv:=.slice Ab nb cb) (rv:=.slice Ar nr cr) HB0.out HZ0.out HBX0.out HBL.out)
 obtain ⟨W2,hW2⟩:∃ W2,W2=((w1.alloc (.cells #[.int .i64 r.1.power,.slice A1 n1 c1,.int .i64 gen,.slice Ab nb cb,.slice Ar nr cr] 44)).alloc (.cells #[.int .i64 r.1.power,.slice A1 n1 c1,.int .i64 gen,.slice Ab nb cb,.slice Ar nr cr,.slice none 0 0] 47)):=⟨_,rfl⟩
 rw [←hW2] at HX2
 have hz1:=HBL.out.size
 have hz0:=HZ0.out
 have hw12:Below w1.heap.size w1 W2:=by rw [hW2];exact ((Below.refl _ _).alloc (Nat.le_refl _) _).alloc (by simp) _
 have hz2:W2.heap.size=w1.heap.size+2:=by rw [hW2];simp
 have HRF2:Hid (RefS (fun b=>S b∨(w.heap.size+2≤b∧b < w1.heap.size)) W2 (.slice A1 n1 c1) r.1.files):=Lib.hid (RefS.keep HRF.out fun b hb=>by
  rcases hb with hb|hb
  ·exact ⟨.inl hb,hw12.block b (by have:=HS.out b hb;omega)⟩
  ·exact ⟨.inr ⟨by omega,hb.2⟩,hw12.block b hb.2⟩)
 have HW12:=Lib.hid hw12;have HZ2:=Lib.hid hz2
 clear ho hw12 HOP HRF
 have HRR2:=Lib.hid HRR
 cases hr2:r.2 with
 | error n =>
  have hn0:(n != 0)=true:=by have:=HERR.out n hr2;simpa using this
  obtain ⟨Wf,hWf,⟨f0,f1,f2,f3,f4,f5⟩,hkf⟩:=HX2.out.ret
  have HE:Hid (P (.returned (.tuple #[.agg #[.int .i64 r.1.power,.slice A1 n1 c1,.int .i64 gen,.slice Ab nb cb,.slice Ar nr cr,.slice none 0 0],.int .i64 n])) Wf):=Lib.hid (by
   rw [HPO.out]
   refine rx_error HS.out HX2.out hkf (RefS.keep HRF2.out fun b hb=>⟨hb.imp id (fun h=>⟨h.1,by omega⟩),rfl⟩) ?_
   unfold RXRes;rw [hr2])
  obtain ⟨y0,y1,y2,y3,y4,y5⟩:=HX2.out.xcells
  obtain ⟨⟨s0,s1,s2,s3,s4,s5⟩,q0,q1,q2,q3,q4,q5⟩:=HX2.out.rcells
  rw [hW2] at y0 y1 y2 y3 y4 y5 s0 s1 s2 s3 s4 s5 q0 q1 q2 q3 q4 q5
  clear hkf HRR HRR2
  dsimp only [resErr]
  go_wp2
  rw [←hW2,←hWf]
  refine bodyPost_ret (v:=.tuple #[.agg #[.int .i64 r.1.power,.slice A1 n1 c1,.int .i64 gen,.slice Ab nb cb,.slice Ar nr cr,.slice none 0 0],.int .i64 n]) (by simp [results,Tryz.results16,go_sem,f0,f1,f2,f3,f4,f5]) rfl ?_
  exact HE.out
 | ok x =>
  have hrr:=HRR.out
  rw [hr2] at hrr
  obtain ⟨hgen,hbv,hrv⟩:=hrr
  have hbd:=HBD.out x hr2
  have hbv2:RowsAt (fun b=>w.heap.size+2≤b∧b < w1.heap.size) W2 (.slice Ab nb cb) x.2.1:=hbv.keep fun b hb=>⟨⟨by omega,hb.2⟩,HW12.out.block b hb.2⟩
  have hrv2:RowsAt (fun b=>w.heap.size+2≤b∧b < w1.heap.size) W2 (.slice Ar nr cr) x.2.2:=hrv.keep fun b hb=>⟨⟨by omega,hb.2⟩,HW12.out.block b hb.2⟩
  have HRC:=Lib.hid (rrecords_any r.1.power gen A1 Ab Ar n1 c1 nb cb nr cr x.2.1 x.2.2 W2 (hbv2.sub fun b hb=>by have:=hb.2;omega) (hrv2.sub fun b hb=>by have:=hb.2;omega) (by omega) (by omega) (fun l hl=>hbd.2 l (List.mem_append_left _ hl)) (fun l hl=>hbd.2 l (List.mem_append_right _ hl)))
  obtain ⟨ls,hls⟩:∃ ls,ls=x.2.1 ++ x.2.2:=⟨_,rfl⟩
  rw [←hls] at HRC
  have hll:ls.length≤100000:=by rw [hls,List.length_append];exact hbd.1
  have hle:∀ l∈ls,l.length≤1000000:=by rw [hls];exact hbd.2
  have HGEN:=Lib.hid hgen;have HBV:=Lib.hid hbv2;have HRV:=Lib.hid hrv2;have HLS:=Lib.hid hls;have HLL:=Lib.hid hll;have HLE:=Lib.hid hle
  obtain ⟨y0,y1,y2,y3,y4⟩:=HX2.out.jcells
  rw [hW2] at y0 y1 y2 y3 y4
  clear hgen hbv hrv hbd hbv2 hrv2 hls hll hle HRR HRR2
  dsimp only [resErr]
  go_wp2_with fail
  rw [←hW2]
  clear hW2 y0 y1 y2 y3 y4
  refine HRC.out.mono ?_
  rintro e w3 ⟨u3,rfl,hrows,hb3⟩
  have hz3:=hb3.size
  obtain ⟨A3,c3,rfl,hcl,hcm,-⟩:=(hrows.sub (S':=(· < w3.heap.size)) fun b hb=>hb.2).open_
  have HROWS:Hid (∀ W,Kept (· = w1.heap.size+1) w3 W→RowsAt (· < W.heap.size) W (.slice A3 ls.length c3) ls):=Lib.hid fun W hk=>hrows.keep fun b hb=>⟨by have:=hk.size;omega,hk.block b hb.2 (by omega)⟩
  have HI0:Hid (RXL w w3 w1.heap.size r.1.power gen (.slice A1 n1 c1) (.slice Ab nb cb) (.slice Ar nr cr) ls 0 w3):=Lib.hid ⟨⟨[],none,0,rfl,HX2.out.go hb3,EntsAt.nil _ _ _ _ (Nat.zero_le _)⟩,Kept.refl _ _⟩
  have HK23:Hid (∀ W,Kept (· = w1.heap.size+1) w3 W→Kept (· = w1.heap.size+1) W2 W):=Lib.hid fun W hk=>(Kept.of_below hb3).trans' hk
  have HZ3:Hid (w1.heap.size+2≤w3.heap.size):=Lib.hid (by omega)
  clear hrows hb3 hcl hcm HRC
  go_wp2
  go_loopw [8] (fun iv W=>∃ k:Nat,k≤ls.length∧iv=.int .i64 k∧Hid (RXL w w3 w1.heap.size r.1.power gen (.slice A1 n1 c1) (.slice Ab nb cb) (.slice Ar nr cr) ls k W)) (fun iv _=>ls.length - (RowKit.intOf iv).toNat)
  case atStart=>exact ⟨0,by omega,rfl,HI0⟩
  case round =>
   obtain ⟨k,hk,rfl,HI⟩:=hrel
   obtain ⟨es,Al,cl,hrep,hxi,hes⟩:=HI.out.ex
   have HREP:=Lib.hid hrep;have HXI:=Lib.hid hxi;have HES:=Lib.hid hes
   have hzk:=HI.out.kept.size
   have hz3':=HZ3.out
   have HFIN:Hid (∀ W Wf er,RXI w w1.heap.size r.1.power gen (.slice A1 n1 c1) (.slice Ab nb cb) (.slice Ar nr cr) (.slice Al es.length cl) W→Kept (· = w1.heap.size+1) w3 W→Kept (· = w.heap.size+1) W Wf→RXRes w Wf r.2 gen (.slice Ab nb cb) (.slice Ar nr cr) Al es.length cl er →
     P (.returned (.tuple #[.agg #[.int .i64 r.1.power,.slice A1 n1 c1,.int .i64 gen,.slice Ab nb cb,.slice Ar nr cr,.slice Al es.length cl],.int .i64 er])) Wf):=Lib.hid fun W Wf er h1 h2 h3 h4=>by
    rw [HPO.out]
    refine rx_error HS.out h1 h3 (RefS.keep HRF2.out fun b hb=>?_) h4
    have hk2:=HK23.out W h2
    have hz:=hk2.size
    have hw:=HZ2.out
    have hlo:=h1.lo
    refine ⟨hb.imp id (fun h=>⟨h.1,by omega⟩),?_⟩
    rcases hb with hb|hb
    ·have:=HS.out b hb
     exact hk2.block b (by omega) (by omega)
    ·exact hk2.block b (by omega) (by omega)
   clear hrep hxi hes
   by_cases hlt:k < ls.length
   ·obtain ⟨A',c',e,_,_,HR⟩:=(HROWS.out wr HI.out.kept).open_
    injection e with eA _ eC
    subst eA eC
    obtain ⟨b,off,Au,cu,rfl,hb,hck,hsk⟩:=HR.out wr (Below.refl _ _) k hlt
    obtain ⟨L,hL⟩:∃ L,L=ls.getD k []:=⟨_,rfl⟩
    rw [←hL] at hck hsk
    have hLl:L.length≤1000000:=by
     rw [hL,List.getD_eq_getElem?_getD,List.getElem?_eq_getElem hlt]
     exact HLE.out _ (List.getElem_mem hlt)
    have hel:es.length≤100000:=by
     have h1:=replay_le _ _ _ HREP.out
     have:=HLL.out
     rw [List.length_take] at h1
     simp at h1;omega
    have hd0:=Below.refl wr.heap.size wr
    have HD:Hid (Below wr.heap.size wr wr.drew):=Lib.hid ⟨hd0.os,hd0.tape,hd0.output,hd0.size,hd0.block⟩
    have HTK:=Lib.hid (rtake_any es L (.slice Al es.length cl) _ wr.drew (fun g=>w3.heap.size≤g∧g < wr.heap.size) (fun g hg=>hg.2) (HES.out.keep fun g hg=>⟨hg,rfl⟩) (hsk.below HD.out) hel hLl)
    clear hd0
    obtain ⟨z0,z1,z2,z3,z4,z5⟩:=HXI.out.xcells
    have hbl:w1.heap.size+1 < wr.heap.size:=by omega
    have HSK:Hid (∀ W':World,Below wr.heap.size wr W'→W'.cell? ⟨w1.heap.size+1,5,none⟩=some (.slice Al es.length cl)∧W'.cell? ⟨b,off+k,none⟩=some (.slice Au L.length cu)):=Lib.hid fun W' h=>⟨(h.cell (p:=⟨_,_,none⟩) hbl).trans z5,(h.cell (p:=⟨_,_,none⟩) hb).trans hck⟩
    have HL:=Lib.hid hL
    obtain ⟨en,hen⟩:∃ en,en=es.length:=⟨_,rfl⟩
    rw [←hen] at HXI HES HTK HSK HFIN z5
    have HEN:=Lib.hid hen
    generalize L.length=Ln at *
    clear hsk hL HR hen hel
    go_wp2_with fail
    go_region_held (fun W':World=>W'.cell? ⟨w1.heap.size+1,5,none⟩=some (.slice Al en cl)∧W'.cell? ⟨b,off+k,none⟩=some (.slice Au Ln cu))
     (first | exact HSK.out _ HD.out | exact HSK.out _ (by assumption)) ((go_at_call 58;refine HTK.out.mono ?_;rintro e w4 ⟨hb4,A4,n4,c4,ok4,rfl,hno4,hyes4⟩;have HB4:=HD.out.trans (hb4.mono HD.out.size)))
    have hx4:=HXI.out.go HB4
    have hk4:Kept (· = w1.heap.size+1) w3 w4:=HI.out.kept.trans' (Kept.of_below HB4)
    have hz4:=HB4.size
    cases hst:stepE es L with
    | none =>
     have hok:=hno4 hst
     subst hok
     obtain ⟨Wf,hWf,⟨f0,f1,f2,f3,f4,f5⟩,hkf⟩:=hx4.ret
     have HE:=Lib.hid (HFIN.out w4 Wf 200 hx4 hk4 hkf (by
      unfold RXRes
      rw [hr2]
      simp only
      rw [←HLS.out,replay_fail hlt HREP.out (by rw [←HL.out];exact hst)]
      trivial))
     obtain ⟨y0,y1,y2,y3,y4,y5⟩:=hx4.xcells
     obtain ⟨⟨s0,s1,s2,s3,s4,s5⟩,q0,q1,q2,q3,q4,q5⟩:=hx4.rcells
     clear hkf hx4 hk4 hno4 hyes4 hb4 HB4 hst z0 z1 z2 z3 z4 z5
     go_wp2
     rw [←hWf]
     refine bodyPost_ret (v:=.tuple #[.agg #[.int .i64 r.1.power,.slice A1 n1 c1,.int .i64 gen,.slice Ab nb cb,.slice Ar nr cr,.slice Al en cl],.int .i64 200]) (by simp [results,Tryz.results16,go_sem,f0,f1,f2,f3,f4,f5]) rfl ?_
     exact HE.out
    | some ys =>
     obtain ⟨rfl,rfl,hent⟩:=hyes4 ys hst
     obtain ⟨hx5,hk5⟩:=hx4.setL (.slice A4 ys.length c4)
     have hz5:=hk5.size
     have HNX:Hid (RXL w w3 w1.heap.size r.1.power gen (.slice A1 n1 c1) (.slice Ab nb cb) (.slice Ar nr cr) ls (k+1) (w4.setCell ⟨w1.heap.size+1,5,none⟩ (.slice A4 ys.length c4))):=Lib.hid ⟨⟨ys,A4,c4,replay_take hlt HREP.out (by rw [←HL.out];exact hst),hx5,hent.keep fun b hb=>by
      have hd:wr.drew.heap.size=wr.heap.size:=rfl
      rcases hb with hb|hb
      ·exact ⟨⟨hb.1,by omega⟩,hk5.block b (by omega) (by omega)⟩
      ·exact ⟨⟨by omega,by omega⟩,hk5.block b hb.2 (by omega)⟩⟩,hk4.trans' hk5⟩
     have q5:=hx4.xfrozen
     obtain ⟨y0,y1,y2,y3,y4,y5⟩:=hx4.xcells
     generalize ys.length=yn at *
     clear hx4 hk4 hx5 hk5 hz5 hent hno4 hyes4 hb4 HB4 hst z0 z1 z2 z3 z4 z5 y0 y1 y2 y3 y4
     go_wp2
     go_roundw
     case rel=>exact ⟨k+1,by omega,by go_num,HNX⟩
     case measure=>simp [RowKit.intOf];omega
   ·have hkl:k=ls.length:=by omega
    subst hkl
    have hrep:=HREP.out
    rw [List.take_length] at hrep
    obtain ⟨Wf,hWf,⟨f0,f1,f2,f3,f4,f5⟩,hkf⟩:=HXI.out.ret
    have HE:=Lib.hid (HFIN.out wr Wf 0 HXI.out HI.out.kept hkf (by
     unfold RXRes
     rw [hr2]
     simp only
     rw [←HLS.out,hrep]
     have hk2:=HK23.out wr HI.out.kept
     have hz:=hk2.size
     have hlo:=HXI.out.lo
     have hsz:=HXI.out.size
     have hfz:=hkf.size
     have hzw:=HZ2.out
     refine ⟨trivial,HGEN.out,HBV.out.keep fun b hb=>⟨⟨by omega,by omega⟩,?_⟩,HRV.out.keep fun b hb=>⟨⟨by omega,by omega⟩,?_⟩,rfl,HES.out.keep fun b hb=>⟨⟨by omega,by omega⟩,hkf.block b hb.2 (by omega)⟩⟩
     ·exact (hkf.block b (by omega) (by omega)).trans (hk2.block b (by omega) (by omega))
     ·exact (hkf.block b (by omega) (by omega)).trans (hk2.block b (by omega) (by omega))))
    obtain ⟨y0,y1,y2,y3,y4,y5⟩:=HXI.out.xcells
    obtain ⟨⟨s0,s1,s2,s3,s4,s5⟩,q0,q1,q2,q3,q4,q5⟩:=HXI.out.rcells
    generalize es.length=en at *
    clear hkf hrep HI HES HXI HREP HFIN
    go_wp2
    rw [←hWf]
    refine bodyPost_ret (v:=.tuple #[.agg #[.int .i64 r.1.power,.slice A1 n1 c1,.int .i64 gen,.slice Ab nb cb,.slice Ar nr cr,.slice Al en cl],.int .i64 0]) (by simp [results,Tryz.results16,go_sem,f0,f1,f2,f3,f4,f5]) rfl ?_
    exact HE.out
end Go.Proofs.YtaalbcfpacpgfaaGreat
