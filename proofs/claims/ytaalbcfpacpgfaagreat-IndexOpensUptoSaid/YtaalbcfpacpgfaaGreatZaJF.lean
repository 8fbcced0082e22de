/- Merged of J20 J23 J24 J26. -/
import Derived.Laws.BitsAllLaws
import Derived.Laws.BitsLemmas
import Derived.Test.YtaalbcfpacpgfaaGreatZaJE
set_option linter.unusedVariables false
set_option linter.unusedSimpArgs false
namespace Go.Proofs.YtaalbcfpacpgfaaGreat
open Go.RowKit Go.Lib Go.Vfs Go.Par Go.Shelf
structure RowedX (w:World) (ls:List (List UInt8)) (k:Nat) (v:Value) (us:List Value) (wr:World):Prop extends Rowed w ls k v us wr where
 each:∀ i,i < k→Par.Own wr w.heap.size 5 (us.getD i (.bool false)) (byteCells (ls.getD i []))
 sep:∀ i j,i < j→j < k→∀ g,(us.getD i (.bool false)).ownBlock=some g→(us.getD j (.bool false)).ownBlock≠some g
 vsep:∀ i,i < k→∀ g,(us.getD i (.bool false)).ownBlock=some g→v.ownBlock≠some g
theorem RowedX.zero {w wr:World} {ls:List (List UInt8)} {v:Value} (hb:Below w.heap.size w wr) (ho:Par.Own wr w.heap.size 24 v []):RowedX w ls 0 v [] wr :=
 ⟨⟨hb,rfl,ho,fun i hi=>by omega⟩,fun i hi=>by omega,fun i j _ hj=>by omega,fun i hi=>by omega⟩
theorem own_turn {w w':World} {B:Nat} {e:TypeId} {v:Value} {xs:List Value} (h:Par.Own w B e v xs) (hk:∀ g,v.ownBlock=some g→w'.heap[g]? = w.heap[g]?):Par.Own w' B e v xs:=by
 unfold Par.Own at *
 exact ownsRow_block h hk
theorem RowedX.next {w:World} {ls:List (List UInt8)} {k:Nat} {v:Value} {us:List Value} {wr w2 w3:World} (h:RowedX w ls k v us wr) {u:Value} (hb:Below wr.heap.size wr w2) (hu:Par.Own w2 wr.heap.size 5 u (byteCells (ls.getD k [])))
  {v':Value} (o:Obj) (hown:Par.Own w3 w.heap.size 24 v' (us ++ [u])) (hg:(w2.alloc o).grownBy w3 v.ownBlock) (hat:v'.ownBlock=v.ownBlock∨v'.ownBlock=some (w2.heap.size+1)):RowedX w ls (k+1) v' (us ++ [u]) w3:=by
 have hn:=h.toRowed.next hb hu o hown hg hat
 have hz:=h.below.size
 have hz2:=hb.size
 have hal:(w2.alloc o).heap.size=w2.heap.size+1:=by simp
 have lo:∀ i,i < k→(us ++ [u]).getD i (.bool false)=us.getD i (.bool false):=fun i hi=>by simp [List.getD_eq_getElem?_getD,List.getElem?_append,h.len,hi]
 have hi':(us ++ [u]).getD k (.bool false)=u:=by simp [List.getD_eq_getElem?_getD,List.getElem?_append,h.len]
 have hlt:∀ i,i < k→∀ g,(us.getD i (.bool false)).ownBlock=some g→w.heap.size≤g∧g < wr.heap.size:=fun i hi g e=>(h.each i hi).lt g e
 have hul:∀ g,u.ownBlock=some g→wr.heap.size≤g∧g < w2.heap.size:=fun g e=>hu.lt g e
 have hv:∀ g,v.ownBlock=some g→g < wr.heap.size:=fun g e=>(h.own.lt g e).2
 refine ⟨hn,fun i hi=>?_,fun i j hij hj g e=>?_,fun i hi g e=>?_⟩
 ·by_cases hik:i < k
  ·rw [lo i hik]
   refine own_turn (h.each i hik) fun g e=>?_
   have:=hlt i hik g e
   rw [hg.block g (by omega) (fun e2=>h.vsep i hik g e e2.symm),Below.heap_alloc _ _ _ (by omega),hb.block g this.2]
  ·have:i=k:=by omega
   subst this
   rw [hi']
   refine own_turn (hu.base hz) fun g e=>?_
   have:=hul g e
   rw [hg.block g (by omega) (fun e2=>by have:=hv g e2.symm;omega),Below.heap_alloc _ _ _ (by omega)]
 ·by_cases hjk:j < k
  ·rw [lo i (by omega)] at e
   rw [lo j hjk]
   exact h.sep i j hij hjk g e
  ·have:j=k:=by omega
   subst this
   rw [lo i hij] at e
   rw [hi']
   intro e2
   have:=hlt i hij g e
   have:=hul g e2
   omega
 ·by_cases hik:i < k
  ·rw [lo i hik] at e
   rcases hat with e1|e1
   ·rw [e1];exact h.vsep i hik g e
   ·rw [e1];intro e2;injection e2 with e2;have:=hlt i hik g e;omega
  ·have:i=k:=by omega
   subst this
   rw [hi'] at e
   have:=hul g e
   rcases hat with e1|e1
   ·rw [e1];intro e2;have:=hv g e2;omega
   ·rw [e1];intro e2;injection e2 with e2;omega
set_option maxRecDepth 20000 in
set_option maxHeartbeats 2000000 in
theorem copyRowsX_any (v:Value) (ls:List (List UInt8)) (B:Nat) (w:World) (hsg:RowsAt (· < B) w v ls) (hB:B≤w.heap.size) (hl:ls.length≤1048576) (hll:∀ l∈ls,l.length≤1000000) :
  Calls Tryz.prog 101 #[v] w fun e w'=>∃ u us,e=.returned u∧RowedX w ls ls.length u us w':=by
 obtain ⟨vs,hvl,⟨A,c,rfl,hc,hm,hat⟩,hrows⟩:=hsg
 have hm':c≤9223372036854775807:=by simpa [maxLen] using hm
 have HAT:=Lib.hid hat;clear hat
 have HR:=Lib.hid hrows;clear hrows
 have HVL:=Lib.hid hvl;clear hvl
 have HLL:=Lib.hid hll;clear hll
 have hown:=Par.Own.new w w.heap.size 24 #[] [] rfl (Nat.le_refl _) (by simp)
 have hb0:Below w.heap.size w (w.alloc (.cells #[] 24)):=(Below.refl _ w).alloc (Nat.le_refl _) _
 have H0:Hid (RowedX w ls 0 _ [] _):=Lib.hid (RowedX.zero hb0 hown)
 clear hown hb0
 go_enter Tryz.func101,Tryz.ntmps101
 go_wp2
 go_loopw [3,4] (fun s i wr=>∃ (k:Nat) (us:List Value),k≤vs.length∧i=.int .i64 k∧Hid (RowedX w ls k s us wr)) (fun _ i _=>vs.length - (intOf i).toNat)
 case atStart=>exact ⟨0,[],by omega,rfl,H0⟩
 case round =>
  obtain ⟨k,us,hk,rfl,HRk⟩:=hrel
  obtain ⟨As,cs,hform⟩:=HRk.out.own.form
  rw [HRk.out.len] at hform
  subst hform
  by_cases hlt:k < vs.length
  ·obtain ⟨b,off,rfl,hb,hcell⟩:=HAT.out (by omega)
   have hck:wr.cell? ⟨b,off+k,none⟩=some (vs.getD k (.bool false)):=by
    rw [HRk.out.below.cell (p:=⟨b,off+k,none⟩) (by show b < _;omega),hcell k hlt,List.getD_eq_getElem?_getD,List.getElem?_eq_getElem hlt]
    rfl
   have hsk:Seg wr B (vs.getD k (.bool false)) (byteCells (ls.getD k [])):=Seg.below (B:=B) (HR.out k (by rw [←HVL.out];exact hlt)) (HRk.out.below.mono hB)
   have hkl:k < ls.length:=by rw [←HVL.out];exact hlt
   have hL:(ls.getD k []).length≤1000000:=by
    rw [List.getD_eq_getElem?_getD,List.getElem?_eq_getElem hkl]
    exact HLL.out _ (List.getElem_mem hkl)
   generalize hLe:ls.getD k []=L at *
   have HLe:=Lib.hid hLe
   have HSK:=Lib.hid hsk
   clear hsk hcell hLe
   obtain ⟨Au,cu,hcu,-⟩:=HSK.out
   have hz:=HRk.out.below.size
   generalize vs.getD k (.bool false)=u at *
   subst hcu
   go_wp2_with fail
   refine (copyBytes_any _ L B wr HSK.out (by omega) hL).mono ?_
   rintro e w2 ⟨u2,rfl,hu2,hb2⟩
   have hown2:=(HRk.out.own.below hb2).alloc (.cells #[u2] 24)
   have hone:=one_slices (Own.outS hu2 (F:=fun _=>False) (fun _ h=>h.elim))
   have hsg2:=Seg.new w2 24 #[u2] [u2] rfl (by simp [maxLen])
   obtain ⟨A2,c2,hform2⟩:=hu2.form
   have HU2:=Lib.hid hu2;have HB2:=Lib.hid hb2
   have hz2:=hb2.size
   have hlen:=HRk.out.len
   have HLEN:=Lib.hid hlen
   clear hu2 hb2 HSK
   subst hform2
   go_wp2_with (at_builtin;refine wpList_app _ rfl _ _ _ rfl w.heap.size 24 _ rowE _ _ rfl hown2 _ _ _ rfl hsg2 (fun x hx=>by simp at hx;subst hx;exact hone) ?c1 ?c2 ?_)
   case c1=>simp;omega
   case c2=>simp;omega
   intro v3 w3 hown4 hg3 hat3
   have HN:=Lib.hid (HRk.out.next HB2.out (by rw [HLe.out];exact HU2.out) _ hown4 hg3 hat3)
   clear hown4 hg3 hat3
   obtain ⟨A3,c3,hform3⟩:=HN.out.own.form
   subst hform3
   clear HU2 HB2 hown2 hone hsg2
   go_wp2
   go_roundw
   case rel=>exact ⟨k+1,_,by omega,by go_num,HN⟩
   case measure=>simp [intOf];omega
  ·have hkl:k=vs.length:=by omega
   have HKL:=Lib.hid hkl
   clear hkl
   go_wp2
   go_ret
   have hkl:=HKL.out
   have hfin:=HRk.out
   rw [hkl,HVL.out] at hfin
   exact ⟨_,us,by rw [hkl,HVL.out];rfl,hfin⟩
def lgOf (g:Nat) (xs:List (List UInt8)) (s:Nat):Option File:=if xs=[] then none else some ⟨nLog,encR g xs,s⟩
theorem V3.opn0 {fs:List File} {bs lg:Option File} {pw:Int} (h:V3 fs none bs lg) {g:Nat} {ps:List (List UInt8)} (hb:baseOk bs=some (g,ps)) (hl:logBad lg g=false):openSt ⟨pw,fs⟩=(⟨pw,fs⟩,.ok (g,ps,logRecs lg g)):=by
 have e2:openBase ⟨pw,fs⟩=some (g,ps):=by unfold openBase;simp only [h.bs];exact hb
 have e3:openRecs ⟨pw,fs⟩ g=logRecs lg g:=by unfold openRecs logRecs;simp only [h.lg];rfl
 have e4:open2 ⟨pw,fs⟩ g=(⟨pw,fs⟩,0):=by
  unfold open2
  simp only [h.lg]
  cases lg with
  | none=>rfl
  | some f =>
   simp only [logBad,decide_eq_false_iff_not] at hl
   simp only [if_neg hl]
 unfold openSt
 simp only [h.op1,e2,if_pos,e3,e4]
theorem logRecs_whole {g:Nat} (hg:g < 4294967296) {xs:List (List UInt8)} (hp:∀ p∈xs,p.length≤65536) (s:Nat):logRecs (lgOf g xs s) g=xs∧logBad (lgOf g xs s) g=false:=by
 unfold lgOf
 by_cases hx:xs=[]
 ·rw [if_pos hx,hx];exact ⟨rfl,rfl⟩
 ·rw [if_neg hx]
  have h:=frs_enc (b:=encR g xs) (q:=[]) hg (List.append_nil _).symm hp (frAt_end (Nat.le_refl _))
  unfold logRecs logBad
  simp only
  rw [sameGen_all (gens_frL h),pays_frL h,endOf_frL h]
  simp
theorem OpenPost.held {B:Nat} {w0 w w':World} {p:Nat} {F:Nat→Prop} {st:St} {g:Nat} {ps ls:List (List UInt8)} {e:Ending} (h:OpenPost w p F (st,.ok (g,ps,ls)) e w') (hb:Below B w0 w) (hB:B≤w0.heap.size) (hF:∀ k,F k→B≤k):∃ pj F' G,e=.returned (.tuple #[.pointer (some ⟨pj,0,none⟩),.int .i64 0])∧JH B w0 w' pj p st g ps ls F' G:=by
 obtain ⟨F',h1,h2,h3,pj,G,rfl,h4,h5⟩:=h
 have hz:=hb.size
 exact ⟨pj,F',G,rfl,h4,fun k hk=>by
  rcases h3 k hk with a|a
  ·exact hF k a
  ·omega,fun k hk=>by have:=h5 k hk;omega,hb.trans (h2.below (by omega) hF)⟩
end Go.Proofs.YtaalbcfpacpgfaaGreat
