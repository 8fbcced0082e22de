/- The reference's base. -/
import Derived.Test.YtaalbcfpacpgfaaGreatZaK2
set_option linter.unusedVariables false
set_option linter.unusedSimpArgs false
namespace Go.Proofs.YtaalbcfpacpgfaaGreat
open Go.RowKit Go.Lib Go.Vfs Go.Par Go.Shelf
theorem frAt_drop {b:List UInt8} {o:Nat} (ho:o≤b.length):frAt (b.drop o) 0=(frAt b o).map fun x=>⟨x.gen,x.pay,0,x.stop - o⟩:=by
 unfold frAt
 simp only [Nat.zero_add,Nat.add_zero,List.drop_drop,List.length_drop,List.drop_zero]
 by_cases h1:b.length < o+12
 ·rw [if_pos h1,if_pos (by omega)];rfl
 ·rw [if_neg h1,if_neg (by omega)]
  by_cases h2:65536 < num4 (b.drop (o+4))∨b.length < o+12+num4 (b.drop (o+4))
  ·rw [if_pos h2,if_pos (by omega)];rfl
  ·rw [if_neg h2,if_neg (by omega)]
   by_cases h3:crc (List.take 8 (b.drop o) ++ List.take (num4 (b.drop (o+4))) (b.drop (o+12)))=num4 (b.drop (o+8))
   ·rw [if_neg (by simpa using h3),if_neg (by simpa using h3)]
    simp only [Option.map_some]
    congr 2
    omega
   ·rw [if_pos h3,if_pos h3];rfl
theorem frsF_chain {b:List UInt8}:∀ (f i k:Nat),b.length < i+f→i≤b.length→k≤(frsF b f i).length→((frsF b f i)[k]?).map (·.1)=frAt b (if k=0 then i else endOf ((frsF b f i).take k)):=by
 intro f
 induction f with
 | zero=>intro i k h1 h2;omega
 | succ f ih =>
  intro i k h1 h2 hk
  cases hf:frAt b i with
  | none =>
   rw [frsF_none hf] at hk ⊢
   have:k=0:=by simpa using hk
   subst this
   simp [hf]
  | some x =>
   obtain ⟨s1,s2,s3,-⟩:=frAt_some hf
   rw [frsF_some hf] at hk ⊢
   cases k with
   | zero=>simp [hf]
   | succ k =>
    rw [if_neg (by omega),List.getElem?_cons_succ,List.take_succ_cons]
    rw [ih x.stop k (by omega) s3 (by simpa using hk)]
    congr 1
    split
    ·rename_i h0;subst h0;simp [endOf]
    ·rename_i h0
     unfold endOf
     rw [List.getLast?_cons]
     cases hg:(List.take k (frsF b f x.stop)).getLast? with
     | none =>
      rw [List.getLast?_eq_none_iff] at hg
      have:=congrArg List.length hg
      simp at this hk
      rcases this with h|h
      ·exact absurd h h0
      ·rw [h] at hk;simp at hk;exact absurd hk h0
     | some y=>simp
theorem endOf_nil {b:List UInt8}:endOf ([]:List (FrOf b))=0:=rfl
theorem frs_chain {b:List UInt8} {k:Nat} (hk:k≤(frs b).length):frAt b (endOf ((frs b).take k))=((frs b)[k]?).map (·.1):=by
 have h:=frsF_chain (b:=b) (b.length+1) 0 k (by omega) (by omega) hk
 unfold frs
 rw [h]
 congr 1
 split
 ·rename_i h0;subst h0;rfl
 ·rfl
theorem frs_drop {b:List UInt8} {k:Nat} (hk:k≤(frs b).length):frAt (b.drop (endOf ((frs b).take k))) 0=((frs b)[k]?).map fun x=>⟨x.1.gen,x.1.pay,0,x.1.stop - endOf ((frs b).take k)⟩:=by
 rw [frAt_drop endOf_le,frs_chain hk,Option.map_map]
 rfl
theorem endOf_take {b:List UInt8} {k:Nat} {x:FrOf b} {l:List (FrOf b)} (h:l[k]? = some x):endOf (l.take (k+1))=x.1.stop:=by
 obtain ⟨hk,hx⟩:=List.getElem?_eq_some_iff.1 h
 rw [List.take_succ_eq_append_getElem hk,endOf_snoc,hx]
theorem endOf_grows {b:List UInt8} {k:Nat} {x:FrOf b} (h:(frs b)[k]? = some x):endOf ((frs b).take k)+12≤x.1.stop:=by
 obtain ⟨hk,hx⟩:=List.getElem?_eq_some_iff.1 h
 have h2:=frs_chain (b:=b) (k:=k) (by omega)
 rw [h] at h2
 have h3:x.1.stop=_:=(frAt_some h2).2.1
 omega
def BasePost (w:World) (o:Option (Nat × List (List UInt8))) (e:Ending) (w':World):Prop:=Below w.heap.size w w'∧match o with
 | none=>∃ (g:Int) (u:Value),(∃ A m c,u=.slice A m c)∧e=.returned (.tuple #[.int .i64 g,u,.bool false])
 | some x=>∃ u,e=.returned (.tuple #[.int .i64 (x.1:Nat),u,.bool true])∧RowsAt (fun b=>w.heap.size≤b∧b < w'.heap.size) w' u x.2
structure Chain (b:List UInt8) (x:Fr) (E:Nat→Nat) (zs:List Fr):Prop where
 first:frAt b 0=some x
 len:zs.length≤b.length
 base:baseOf b=if x.pay.length=4∧(∀ y∈zs,y.gen=x.gen)∧E zs.length=b.length∧zs.length=num4 x.pay then some (x.gen,zs.map (·.pay)) else none
 next:∀ k,k≤zs.length→frAt (b.drop (E k)) 0=(zs[k]?).map fun y=>⟨y.gen,y.pay,0,y.stop - E k⟩
 grows:∀ k y,zs[k]? = some y→E k+12≤y.stop∧E (k+1)=y.stop∧y.stop≤b.length
 zero:E 0=x.stop
 stop:x.stop≤b.length
theorem chain {b:List UInt8}:(frAt b 0=none∧baseOf b=none)∨∃ x E zs,Chain b x E zs:=by
 have hc0:=frs_chain (b:=b) (k:=0) (by omega)
 simp only [List.take_zero,endOf_nil] at hc0
 have hlen:=frs_length b
 cases hfr:frs b with
 | nil =>
  rw [hfr] at hc0
  exact .inl ⟨hc0,by unfold baseOf;rw [hfr]⟩
 | cons x xs =>
  rw [hfr] at hc0 hlen
  refine .inr ⟨x.1,fun k=>endOf ((x :: xs).take (k+1)),xs.map (·.1),hc0,by simpa using hlen,?_,fun k hk=>?_,fun k y hy=>?_,endOf_take (l:=x :: xs) (k:=0) rfl,(frAt_some x.2).2.2.1⟩
  ·unfold baseOf
   rw [hfr]
   have h1:(∀ y∈xs.map (·.1),y.gen=x.1.gen)↔∀ y∈xs,y.1.gen=x.1.gen:=by simp
   have h2:(x :: xs).take (xs.length+1)=x :: xs:=List.take_of_length_le (by simp)
   simp only [List.length_map,List.map_map]
   rw [h2]
   simp only [h1]
   rfl
  ·rw [List.length_map] at hk
   have:=frs_drop (b:=b) (k:=k+1) (by rw [hfr];simp;omega)
   rw [hfr,List.getElem?_cons_succ] at this
   rw [this,List.getElem?_map,Option.map_map]
   rfl
  ·rw [List.getElem?_map] at hy
   cases hz:xs[k]? with
   | none=>rw [hz] at hy;cases hy
   | some z =>
    rw [hz] at hy
    cases hy
    have h1:(x :: xs)[k+1]? = some z:=by simpa using hz
    refine ⟨?_,endOf_take h1,(frAt_some z.2).2.2.1⟩
    rw [←hfr] at h1
    have:=endOf_grows h1
    rw [hfr] at this
    exact this
set_option maxRecDepth 20000 in
set_option maxHeartbeats 2000000 in
theorem base_any (A:Option Addr) (c:Nat) (b:List UInt8) (w:World) (h:Seg w w.heap.size (.slice A b.length c) (byteCells b)) (hl:b.length≤800000) :
  Calls Tryz.prog 98 #[.slice A b.length c] w (BasePost w (baseOf b)):=by
 have H:=Lib.hid h
 have HNX:=Lib.hid (next_any A c b w h hl)
 clear h
 obtain ⟨P,hP⟩:∃ P,P=BasePost w (baseOf b):=⟨_,rfl⟩
 rw [←hP]
 have HP:=Lib.hid hP
 clear hP
 rcases chain (b:=b) with ⟨hc0,hbo⟩|⟨x,E,zs,hC⟩
 ·have HBB:=Lib.hid hbo
  clear hbo
  rw [hc0] at HNX
  clear hc0
  go_enter Tryz.func98,Tryz.ntmps98
  go_wp2_with fail
  refine HNX.out.mono ?_
  rintro e w1 ⟨hb1,g,n,A1,m1,c1,rfl⟩
  have HB1:=Lib.hid hb1
  clear hb1 HNX
  go_wp2
  go_ret3
  rw [HP.out,HBB.out]
  exact ⟨HB1.out,_,_,⟨_,_,_,rfl⟩,rfl⟩
 ·rw [hC.first] at HNX
  obtain ⟨g,pay,st,sp⟩:=x
  have HC:=Lib.hid hC
  have hst:=hC.stop
  have hzl:=hC.len
  simp only at hst
  clear hC
  by_cases h4:pay.length=4
  ·obtain ⟨N,hN⟩:∃ N,N=num4 pay:=⟨_,rfl⟩
   have hNl:=num4_lt pay
   rw [←hN] at hNl
   have HN:=Lib.hid hN
   have H4:=Lib.hid h4
   clear hN
   go_enter Tryz.func98,Tryz.ntmps98
   go_wp2_with fail
   refine HNX.out.mono ?_
   rintro e w1 ⟨hb1,A1,c1,rfl,hu1⟩
   simp only at hu1
   rw [h4] at hu1 ⊢
   have HB1:=Lib.hid hb1
   have hs1:=Own.seg hu1
   have HNUM:=Lib.hid (num_any _ pay _ w1 hs1 (by omega))
   clear hb1 HNX hu1 hs1
   go_wp2_with fail
   refine HNUM.out.mono ?_
   rintro e w2 ⟨rfl,n2,hw2⟩
   rw [←HN.out]
   have HB2:Hid (Below w.heap.size w w2):=Lib.hid (by rw [hw2];exact below_drewN HB1.out n2)
   clear hw2 HNUM
   have hown:=Par.Own.new w2 w2.heap.size 24 #[] [] rfl (Nat.le_refl _) (by simp)
   have hb0:Below w2.heap.size w2 (w2.alloc (.cells #[] 24)):=(Below.refl _ w2).alloc (Nat.le_refl _) _
   have H0:Hid (Rowed w2 (zs.map (·.pay)) 0 _ [] _):=Lib.hid ⟨hb0,rfl,hown,fun i hi=>by omega⟩
   clear hown hb0
   go_wp2
   have hH:=H.out
   go_loopw [0,7,10,11] (fun bv nv ov iv wr=>∃ (k:Nat) (us:List Value) (Ak:Option Addr) (ck e n M:Nat),k≤N∧k≤zs.length∧M=b.length - e∧e+n≤b.length∧bv=.slice Ak M ck∧nv=.int .i64 (n:Nat)∧iv=.int .i64 (k:Nat)∧Hid (Seg w w.heap.size (.slice Ak M ck) (byteCells (b.drop e)))∧Hid (∀ y∈zs.take k,y.gen=g)∧Hid (e+n=E k)∧Hid (Rowed w2 (zs.map (·.pay)) k ov us wr)) (fun _ _ _ i _=>N - (intOf i).toNat)
   case atStart =>
    refine ⟨0,[],A,c,0,sp,b.length,by omega,by omega,by omega,by omega,rfl,rfl,rfl,Lib.hid hH,Lib.hid (by simp),Lib.hid ?_,H0⟩
    have:=HC.out.zero
    simp only at this
    omega
   case round =>
    obtain ⟨k,us,Ak,ck,e,n,M,hk,hkx,hM,hen,rfl,rfl,rfl,HSk,HGk,HEk,HRk⟩:=hrel
    obtain ⟨As,cs,hform⟩:=HRk.out.own.form
    rw [HRk.out.len] at hform
    subst hform
    have hzr:=HRk.out.below.size
    by_cases hlt:k < N
    ·have hsk:Seg w w.heap.size (.slice Ak (b.drop e).length ck) (byteCells (b.drop e)):=by rw [List.length_drop,←hM];exact HSk.out
     obtain ⟨A5,c5,e5,s5⟩:=seg_drop hsk n (by rw [List.length_drop];omega)
     rw [List.length_drop,←hM] at e5 s5
     rw [List.drop_drop] at s5
     obtain ⟨M5,hM5⟩:∃ M5,M5=M - n:=⟨_,rfl⟩
     rw [←hM5] at e5 s5
     have hsn:∀ w',(Instr.slice 24 (.slice Ak M ck) (some (.int .i64 (n:Nat))) none none).run Tryz.prog w'=.ok (.slice A5 M5 c5) w':=fun w'=>by
      have:=slice_from Ak M ck n w' (by omega)
      rw [e5] at this
      exact this
     have HBr:Hid (Below w.heap.size w wr):=Lib.hid (HB2.out.trans (HRk.out.below.mono HB2.out.size))
     have hsr:Seg wr wr.heap.size (.slice A5 (b.drop (e+n)).length c5) (byteCells (b.drop (e+n))):=by
      rw [List.length_drop,show b.length - (e+n)=M5 by omega]
      exact (s5.below HBr.out).more HBr.out.size
     have hnx:=next_any A5 c5 (b.drop (e+n)) wr hsr (by rw [List.length_drop];omega)
     rw [List.length_drop,show b.length - (e+n)=M5 by omega] at hnx
     have HM5:Hid (M5=b.length - (e+n)):=Lib.hid (by omega)
     have hch:=HC.out.next k hkx
     have HEE:=HEk.out
     rw [←HEE] at hch
     rw [hch] at hnx
     have HS5:=Lib.hid s5
     have HGR1:=Lib.hid (HC.out.grows k)
     have HMM:=Lib.hid hM
     clear hsr s5 hch HEE e5 hsk hM5 hM
     cases hy:zs[k]? with
     | none =>
      have hle:zs.length≤k:=by simpa using hy
      have hbo:baseOf b=none:=by rw [HC.out.base,if_neg (fun h=>by have:=h.2.2.2;simp only at this;rw [←HN.out] at this;omega)]
      have HBB:=Lib.hid hbo
      rw [hy] at hnx
      simp only [Option.map_none] at hnx
      have HNX:=Lib.hid hnx
      clear hnx hbo
      go_wp2_with fail
      refine HNX.out.mono ?_
      rintro e w4 ⟨hb4,g4,n4,A4,m4,c4,rfl⟩
      have HB4:=Lib.hid (HBr.out.trans (hb4.mono HBr.out.size))
      clear hb4 HNX
      go_wp2
      go_ret3
      rw [HP.out,HBB.out]
      exact ⟨HB4.out,_,_,⟨_,_,_,rfl⟩,rfl⟩
     | some y =>
      rw [hy] at hnx
      obtain ⟨hkl,hyk⟩:=List.getElem?_eq_some_iff.1 hy
      have HGY:=Lib.hid (HGR1.out y hy)
      have HYS:=Lib.hid (HGR1.out y hy).2.2
      have HYM:Hid (y∈zs):=Lib.hid (by rw [←hyk];exact List.getElem_mem hkl)
      have HYP:Hid ((zs.map (·.pay)).getD k []=y.pay):=Lib.hid (by simp [List.getD_eq_getElem?_getD,List.getElem?_map,hy])
      have HYT:Hid (zs.take (k+1)=zs.take k ++ [y]):=Lib.hid (by rw [List.take_succ_eq_append_getElem hkl,hyk])
      obtain ⟨gy,py,sty,spy⟩:=y
      try simp only at HGY
      try simp only at HYS
      try simp only at HYM
      try simp only at HYP
      try simp only at HYT
      rw [←HEk.out] at HGY
      have hgy:=HGY.out.1
      try simp only at hgy
      simp only [Option.map_some] at hnx
      clear hy hyk HGR1
      by_cases hge:gy=g
      ·subst hge
       obtain ⟨n',hn'⟩:∃ n',n'=spy - (e+n):=⟨_,rfl⟩
       rw [←hn'] at hnx
       have HN':=Lib.hid hn'
       clear hn'
       have HNX:=Lib.hid hnx
       clear hnx
       go_wp2_with fail
       refine HNX.out.mono ?_
       rintro e0 w4 ⟨hb4,A4,c4,rfl,hu4⟩
       simp only at hu4
       simp only
       have HB4:=Lib.hid hb4
       have hown2:=(HRk.out.own.below hb4).alloc (.cells #[.slice A4 py.length c4] 24)
       have hone:=one_slices (Own.outS hu4 (F:=fun _=>False) (fun _ h=>h.elim))
       have hsg2:=Seg.new w4 24 #[.slice A4 py.length c4] [.slice A4 py.length c4] rfl (by simp [maxLen])
       have hz2:=hb4.size
       have HLEN:=Lib.hid HRk.out.len
       have hlen:=HRk.out.len
       have HU4:=Lib.hid hu4
       clear hu4 hb4 HNX
       go_wp2_with (at_builtin;refine wpList_app _ rfl _ _ _ rfl w2.heap.size 24 _ rowE _ _ rfl hown2 _ _ _ rfl hsg2 (fun x hx=>by simp at hx;subst hx;exact hone) ?c1 ?c2 ?_)
       case c1=>simp;omega
       case c2=>simp;omega
       intro v5 w5 hown5 hg5 hat5
       have HR5:=Lib.hid (HRk.out.next HB4.out (by rw [HYP.out];exact HU4.out) _ hown5 hg5 hat5)
       clear hown5 hg5 hat5 hown2 hone hsg2 HU4 HB4
       obtain ⟨A6,c6,hform6⟩:=HR5.out.own.form
       subst hform6
       go_wp2
       go_roundw
       case rel =>
        refine ⟨k+1,_,A5,c5,e+n,n',M5,by omega,by omega,HM5.out,by have:=HYS.out;have:=HN'.out;omega,rfl,rfl,by go_num,HS5,Lib.hid ?_,Lib.hid ?_,HR5⟩
        ·intro z hz
         rw [HYT.out] at hz
         rcases List.mem_append.1 hz with hz|hz
         ·exact HGk.out z hz
         ·simp at hz;subst hz;rfl
        ·have:=HGY.out.2.1;have:=HN'.out;omega
       case measure=>simp [intOf];omega
      ·have hbo:baseOf b=none:=by rw [HC.out.base,if_neg (fun h=>hge (h.2.1 _ HYM.out))]
       have HBB:=Lib.hid hbo
       have hgi:¬ ((gy:Nat):Int)=(g:Nat):=by omega
       have HNX:=Lib.hid hnx
       clear hnx hbo
       go_wp2_with fail
       refine HNX.out.mono ?_
       rintro e0 w4 ⟨hb4,A4,c4,rfl,-⟩
       try simp only
       have HB4:=Lib.hid (HBr.out.trans (hb4.mono HBr.out.size))
       clear hb4 HNX
       go_wp2
       go_ret3
       rw [HP.out,HBB.out]
       exact ⟨HB4.out,_,_,⟨_,_,_,rfl⟩,rfl⟩
    ·have hkN:k=N:=by omega
     have HBr:Hid (Below w.heap.size w wr):=Lib.hid (HB2.out.trans (HRk.out.below.mono HB2.out.size))
     have HMM:=Lib.hid hM
     by_cases hen2:e+n=b.length
     ·have hMn:(M:Int)=(n:Nat):=by omega
      clear hM
      have hxl:zs.length=k:=by
       rcases Nat.lt_or_ge k zs.length with h|h
       ·have h1:=HC.out.grows k zs[k] (List.getElem?_eq_getElem h)
        rw [←HEk.out] at h1
        have h2:=h1.2.2
        omega
       ·omega
      have hbo:baseOf b=some (g,zs.map (·.pay)):=by
       rw [HC.out.base,if_pos]
       refine ⟨H4.out,?_,?_,?_⟩
       ·rw [←List.take_of_length_le (l:=zs) (i:=k) (by omega)];exact HGk.out
       ·have:=HEk.out
        rw [hxl];omega
       ·simp only;rw [←HN.out];omega
      have HBB:=Lib.hid hbo
      clear hbo
      go_wp2
      go_ret3
      rw [HP.out,HBB.out]
      refine ⟨HBr.out,_,rfl,⟨us,?_,?_,fun i hi=>?_⟩⟩
      ·rw [HRk.out.len];simp [hxl]
      ·have:=Own.outS HRk.out.own (F:=fun k=>k < w2.heap.size) (fun k hk=>hk)
       exact this.keep fun b hb=>⟨⟨by have:=hb.2;have:=HB2.out.size;omega,hb.1⟩,rfl⟩
      ·exact (HRk.out.cells i (by simp at hi;omega)).keep fun b hb=>⟨⟨by have:=hb.1;have:=HB2.out.size;omega,hb.2.1⟩,rfl⟩
     ·have hMn:¬ (M:Int)=(n:Nat):=by omega
      have hMf:((M:Int) == (n:Int))=false:=by simpa using hMn
      clear hM hMn
      have hbo:baseOf b=none:=by
       rw [HC.out.base,if_neg]
       intro h
       have h3:=h.2.2.2
       simp only at h3
       rw [←HN.out] at h3
       have h4:=h.2.2.1
       have h5:=HEk.out
       rw [h3,hkN.symm] at h4
       omega
      have HBB:=Lib.hid hbo
      clear hbo
      go_wp2
      go_ret3
      rw [HP.out,HBB.out]
      exact ⟨HBr.out,_,_,⟨_,_,_,rfl⟩,rfl⟩
  ·have hbo:baseOf b=none:=by rw [HC.out.base,if_neg (fun h=>h4 h.1)]
   have HBB:=Lib.hid hbo
   have hd4:¬ ((pay.length:Nat):Int)=4:=by omega
   clear HC hbo
   obtain ⟨M,hM⟩:∃ M,M=pay.length:=⟨_,rfl⟩
   have HM:=Lib.hid hM
   rw [←hM] at hd4
   clear h4 hst hM
   go_enter Tryz.func98,Tryz.ntmps98
   go_wp2_with fail
   refine HNX.out.mono ?_
   rintro e w1 ⟨hb1,A1,c1,rfl,-⟩
   simp only
   rw [←HM.out]
   have HB1:=Lib.hid hb1
   clear hb1 HNX
   go_wp2
   go_ret3
   rw [HP.out,HBB.out]
   exact ⟨HB1.out,_,_,⟨_,_,_,rfl⟩,rfl⟩
end Go.Proofs.YtaalbcfpacpgfaaGreat
