/- Texts K6 K7 of the proof, joined. -/
import Derived.Test.YtaalbcfpacpgfaaGreatZaK4
import Derived.Test.YtaalbcfpacpgfaaGreatZaJF
set_option linter.unusedVariables false
set_option linter.unusedSimpArgs false
namespace Go.Proofs.YtaalbcfpacpgfaaGreat
open Go.RowKit Go.Lib Go.Vfs Go.Par Go.Shelf
set_option maxRecDepth 20000 in
set_option maxHeartbeats 2000000 in
theorem rrecords_any (pw g:Int) (A1 Ab Ar:Option Addr) (n1 c1 nb cb nr cr:Nat) (base ps:List (List UInt8)) (w:World) (hb:RowsAt (· < w.heap.size) w (.slice Ab nb cb) base) (hr:RowsAt (· < w.heap.size) w (.slice Ar nr cr) ps) (hlb:base.length≤1048576) (hlp:ps.length≤1048576) (hdb:∀ l∈base,l.length≤1000000) (hdp:∀ l∈ps,l.length≤1000000) :
  Calls Tryz.prog 57 #[.agg #[.int .i64 pw,.slice A1 n1 c1,.int .i64 g,.slice Ab nb cb,.slice Ar nr cr]] w fun e w'=>∃ u,e=.returned u∧RowsAt (fun b=>w.heap.size≤b∧b < w'.heap.size) w' u (base ++ ps)∧Below w.heap.size w w':=by
 have b0:=box_below w (.cells #[.int .i64 pw,.slice A1 n1 c1,.int .i64 g,.slice Ab nb cb,.slice Ar nr cr] 44)
 have h0:=heap_alloc_new w (.cells #[.int .i64 pw,.slice A1 n1 c1,.int .i64 g,.slice Ab nb cb,.slice Ar nr cr] 44)
 have e0:(w.alloc (.cells #[.int .i64 pw,.slice A1 n1 c1,.int .i64 g,.slice Ab nb cb,.slice Ar nr cr] 44)).heap.size=w.heap.size+1:=by simp
 have hb1:RowsAt (· < w.heap.size) (w.alloc (.cells #[.int .i64 pw,.slice A1 n1 c1,.int .i64 g,.slice Ab nb cb,.slice Ar nr cr] 44)) (.slice Ab nb cb) base:=hb.keep fun b hb=>⟨hb,b0.block b hb⟩
 have HC1:=Lib.hid (copyRowsX_any _ base w.heap.size _ hb1 (by omega) hlb hdb)
 have HB0:=Lib.hid b0;have HH0:=Lib.hid h0;have HE0:=Lib.hid e0
 have HR:=Lib.hid hr
 have HDP:=Lib.hid hdp
 clear hb hb1 b0 h0 e0 hr hdb hdp
 go_enter Tryz.func57,Tryz.ntmps57
 go_wp2_with fail
 refine HC1.out.mono ?_
 rintro e w2 ⟨u,us,rfl,hx⟩
 obtain ⟨Au,cu,hform⟩:=hx.own.form
 have hlen:=hx.len
 rw [hlen] at hform
 have HX:=Lib.hid hx
 have B2:=Lib.hid (HB0.out.trans (hx.below.mono HB0.out.size))
 have hh:w2.heap[w.heap.size]? = some (.cells #[.int .i64 pw,.slice A1 n1 c1,.int .i64 g,.slice Ab nb cb,.slice Ar nr cr] 44 (0,0)):=(hx.below.block _ (by rw [HE0.out];omega)).trans HH0.out
 have x4:w2.cell? ⟨w.heap.size,4,none⟩=some (.slice Ar nr cr):=by simp [World.cell?,hh]
 have hz2:=B2.out.size
 have hr2:RowsAt (· < w.heap.size) w2 (.slice Ar nr cr) ps:=HR.out.keep fun b hb=>⟨hb,B2.out.block b hb⟩
 have HC2:=Lib.hid (copyRowsX_any _ ps w.heap.size w2 hr2 hz2 hlp HDP.out)
 obtain ⟨nB,hnB⟩:∃ nB,nB=base.length:=⟨_,rfl⟩
 rw [←hnB] at hform hlen
 have HNB:=Lib.hid hnB
 clear hx hr2 hh HC1 hnB
 subst hform
 go_wp2_with fail
 refine HC2.out.mono ?_
 rintro e w3 ⟨u2,us2,rfl,hx2⟩
 have hown3:=HX.out.own.below hx2.below
 have hsg3:=Own.seg hx2.own
 have hone:∀ x∈us2,x.oneCell'=true:=fun x hx=>by
  obtain ⟨i,hi,rfl⟩:=List.mem_iff_getElem.1 hx
  have:=hx2.cells i (by rw [←hx2.len];exact hi)
  rw [show us2.getD i (.bool false)=us2[i] by simp [List.getD_eq_getElem?_getD,hi]] at this
  exact one_slices this
 obtain ⟨Au2,cu2,hform2⟩:=hx2.own.form
 have hlen2:=hx2.len
 rw [hlen2] at hform2
 obtain ⟨nP,hnP⟩:∃ nP,nP=ps.length:=⟨_,rfl⟩
 rw [←hnP] at hform2 hlen2
 have HNP:=Lib.hid hnP
 have HX2:=Lib.hid hx2
 have hz3:=hx2.below.size
 clear hx2 hnP HC2
 subst hform2
 have hnb:nB≤1048576:=by rw [HNB.out];exact hlb
 have hnp:nP≤1048576:=by rw [HNP.out];exact hlp
 have hz1:(w.alloc (.cells #[.int .i64 pw,.slice A1 n1 c1,.int .i64 g,.slice Ab nb cb,.slice Ar nr cr] 44)).heap.size≤w3.heap.size:=by rw [HE0.out];have:=HX.out.below.size;rw [HE0.out] at this;omega
 go_wp2_with (at_builtin;refine wpList_app _ rfl _ _ _ rfl _ 24 _ rowE _ _ rfl hown3 _ _ _ rfl hsg3 hone ?c1 ?c2 ?_)
 case c1=>rw [hlen,hlen2];omega
 case c2=>exact hz1
 intro v4 w4 hown4 hg4 hat4
 have HO4:=Lib.hid hown4;have HG4:=Lib.hid hg4
 clear hg4 hat4 hown4 hone hsg3 hown3
 obtain ⟨A4,c4,hf4⟩:=HO4.out.form
 subst hf4
 go_wp2
 go_ret
 have hX:=HX.out;have hX2:=HX2.out;have hO:=HO4.out;have hG:=HG4.out
 have e0:=HE0.out
 have s12:=hX.below.size
 have hgs:=hG.size
 have hv:∀ g,(Value.slice Au nB cu).ownBlock=some g→w.heap.size+1≤g∧g < w2.heap.size:=fun g e=>by
  have:=hX.own.lt g e
  rw [e0] at this
  exact this
 have hb23:Below w3.heap.size w3 w3:=Below.refl _ _
 refine ⟨_,rfl,⟨us ++ us2,by rw [List.length_append,List.length_append,hlen,hlen2,HNB.out,HNP.out],?_,fun i hi=>?_⟩,?_⟩
 ·have:=Own.outS hO (F:=fun k=>k < w.heap.size+1) (fun k hk=>by first | exact hk | (rw [e0];exact hk) | (simpa using hk))
  exact this.keep fun b hb=>⟨⟨by have:=hb.2;omega,hb.1⟩,rfl⟩
 ·by_cases hib:i < nB
  ·have hc:=hX.cells i (by rw [←HNB.out];exact hib)
   rw [show (us ++ us2).getD i (.bool false)=us.getD i (.bool false) by simp [List.getD_eq_getElem?_getD,List.getElem?_append,hlen,hib],
    show (base ++ ps).getD i []=base.getD i [] by simp [List.getD_eq_getElem?_getD,List.getElem?_append,←HNB.out,hib]]
   refine hc.keep fun b ⟨b1,b2,b3⟩=>⟨⟨by omega,by omega⟩,?_⟩
   rw [hG.block b (by omega) (fun e=>b3 e.symm),hX2.below.block b b2]
  ·have hil:i - nB < ps.length:=by rw [List.length_append,←HNB.out] at hi;omega
   have hc:=hX2.cells (i - nB) hil
   rw [show (us ++ us2).getD i (.bool false)=us2.getD (i - nB) (.bool false) by simp [List.getD_eq_getElem?_getD,List.getElem?_append,hlen,hib],
    show (base ++ ps).getD i []=ps.getD (i - nB) [] by simp [List.getD_eq_getElem?_getD,List.getElem?_append,←HNB.out,hib]]
   refine hc.keep fun b ⟨b1,b2,b3⟩=>⟨⟨by omega,by omega⟩,?_⟩
   exact hG.block b b2 (fun e=>by have:=hv b e.symm;omega)
 ·have hw4:Below w.heap.size w3 w4:=own_grown ((hX.own.below hX2.below).base (by omega)) (by omega) hG
  exact (B2.out.trans (hX2.below.mono hz2)).trans hw4
def resErr (r:Except Int (Nat × List (List UInt8) × List (List UInt8))):Int:=match r with | .error n=>n | .ok _=>0
def RRes (w w':World) (r:Except Int (Nat × List (List UInt8) × List (List UInt8))) (gen:Int) (bv rv:Value):Prop:=match r with
 | .error _=>True
 | .ok x=>gen=(x.1:Nat)∧RowsAt (fun b=>w.heap.size≤b∧b < w'.heap.size) w' bv x.2.1∧RowsAt (fun b=>w.heap.size≤b∧b < w'.heap.size) w' rv x.2.2
theorem ROPost.both {w w':World} {S:Nat→Prop} {r:St × Except Int (Nat × List (List UInt8) × List (List UInt8))} {e:Ending} (h:ROPost w S r e w'):∃ A n c gen Ab nb cb Ar nr cr,e=.returned (.tuple #[.agg #[.int .i64 r.1.power,.slice A n c,.int .i64 gen,.slice Ab nb cb,.slice Ar nr cr],.int .i64 (resErr r.2)])∧Hid (RefS (New S w w') w' (.slice A n c) r.1.files)∧Hid (Below w.heap.size w w')∧Hid (RRes w w' r.2 gen (.slice Ab nb cb) (.slice Ar nr cr)):=by
 obtain ⟨v',bv,rv,gen,er,rfl,h1,h2,⟨Ab,nb,cb,rfl⟩,⟨Ar,nr,cr,rfl⟩,h3⟩:=h
 obtain ⟨A,c,rfl,-,-⟩:=h1.form
 obtain ⟨s,res⟩:=r
 cases res with
 | error n=>simp only at h3;subst h3;exact ⟨A,_,c,gen,Ab,nb,cb,Ar,nr,cr,rfl,Lib.hid h1,Lib.hid h2,Lib.hid trivial⟩
 | ok x =>
  obtain ⟨rfl,h4,h5,h6⟩:=h3
  exact ⟨A,_,c,gen,Ab,nb,cb,Ar,nr,cr,rfl,Lib.hid h1,Lib.hid h2,Lib.hid ⟨h4,h5,h6⟩⟩
end Go.Proofs.YtaalbcfpacpgfaaGreat
