/- Texts I13 R5 of the proof, joined. -/
import Derived.Test.YtaalbcfpacpgfaaGreatZaI11
import Derived.Test.YtaalbcfpacpgfaaGreatZaR4
import Derived.Test.YtaalbcfpacpgfaaGreatZaV38
set_option linter.unusedVariables false
set_option linter.unusedSimpArgs false
namespace Go.Ix
open Go.RowKit Go.Lib Go.Vfs Go.Par Go.Typ
open Classical in
noncomputable def sameN (xs ys:List En):Bool:=decide (xs=ys)
theorem sameN_true {xs ys:List En} (h:xs=ys):sameN xs ys=true:=by simp [sameN,h]
theorem sameN_false {xs ys:List En} (h:¬ xs=ys):sameN xs ys=false:=by simp [sameN,h]
theorem getEn_ne {xs ys:List En} {k:Nat} (h1:k < xs.length) (h2:k < ys.length) (h:¬ xs[k]=ys[k]):¬ xs=ys:=fun e=>h (by subst e;rfl)
end Go.Ix
namespace Go.Proofs.YtaalbcfpacpgfaaGreat
open Go.RowKit Go.Lib Go.Vfs Go.Par Go.Typ Go.Shelf Go.Ix
set_option maxRecDepth 20000 in
set_option maxHeartbeats 4000000 in
theorem sameEntries_any (xs ys:List En) (u v:Value) (w:World) (hX:EntsAt (· < w.heap.size) w u xs) (hY:EntsAt (· < w.heap.size) w v ys) :
  Calls Tryz.prog 17 #[u,v] w fun e w'=>e=.returned (.bool (sameN xs ys))∧Below w.heap.size w w':=by
 obtain ⟨A,c,rfl,hc,hm⟩:=hX.form
 obtain ⟨A2,c2,rfl,hc2,hm2⟩:=hY.form
 have HX:=Lib.hid hX;have HY:=Lib.hid hY
 have hla:xs.length≤9223372036854775807:=by simp only [maxLen] at hm;omega
 have hlb:ys.length≤9223372036854775807:=by simp only [maxLen] at hm2;omega
 clear hX hc hm hY hc2 hm2
 by_cases hl:xs.length=ys.length
 rotate_left
 ·have HR:Hid (sameN xs ys=false):=Lib.hid (sameN_false fun e=>hl (by rw [e]))
  have h4:((xs.length:Int) != (ys.length:Int))=true:=by simp;omega
  clear hl
  go_enter Tryz.func17,Tryz.ntmps17
  go_wp2
  go_ret
  rw [HR.out]
  exact ⟨rfl,Below.refl _ _⟩
 have h4:((xs.length:Int) != (ys.length:Int))=false:=by simp [hl]
 have HL:=Lib.hid hl
 clear hl
 go_enter Tryz.func17,Tryz.ntmps17
 go_wp2
 clear h4
 go_loopw [5] (fun iv W=>∃ (k:Nat),k≤xs.length∧iv=.int .i64 k∧Hid (xs.take k=ys.take k)∧Hid (Below w.heap.size w W)) (fun iv _=>xs.length - (RowKit.intOf iv).toNat)
 case atStart=>exact ⟨0,by omega,rfl,Lib.hid (by simp),Lib.hid (Below.refl _ _)⟩
 case round =>
  obtain ⟨k,hk,rfl,HA,HB⟩:=hrel
  by_cases hlt:k < xs.length
  ·have hlt':k < ys.length:=by have:=HL.out;omega
   obtain ⟨b,off,A',c',rfl,hb,hns,ht,x0,x1,x2⟩:=(HX.out.blw HB.out).arg hlt
   obtain ⟨b',off',A2',c2',rfl,hb',hns',ht',y0,y1,y2⟩:=(HY.out.blw HB.out).arg hlt'
   have hd:Below wr.heap.size wr wr.drew:=(Below.refl wr.heap.size _).drew
   have hca:=sameExports_any xs[k].exs ys[k].exs _ _ wr.drew (ht.blw hd) (ht'.blw hd)
   have HNE:Hid (¬ xs[k]=ys[k]→sameN xs ys=false):=Lib.hid fun h=>sameN_false (getEn_ne hlt hlt' h)
   have HTK:Hid (xs[k]=ys[k]→xs.take (k+1)=ys.take (k+1)):=Lib.hid fun h=>by rw [List.take_succ_eq_append_getElem hlt,List.take_succ_eq_append_getElem hlt',HA.out,h]
   have HBD:Hid (Below w.heap.size w wr.drew):=Lib.hid (HB.out.trans (hd.mono HB.out.size))
   have HD:=Lib.hid hd
   clear ht ht' hns hns' hd
   generalize xs[k]=X at *
   generalize ys[k]=Y at *
   obtain ⟨q,hq⟩:∃ q,q=sameX X.exs Y.exs:=⟨_,rfl⟩
   rw [←hq] at hca
   have HQ:=Lib.hid hq
   have HCA:=Lib.hid hca
   have HSK:Hid (∀ W':World,Below wr.heap.size wr W'→W'.cell? ⟨b,off+k * 3,none⟩=some (.string X.uri)∧W'.cell? ⟨b,off+k * 3+1,none⟩=some (.int .i64 X.ver)∧W'.cell? ⟨b,off+k * 3+2,none⟩=some (.slice A' X.exs.length c')∧W'.cell? ⟨b',off'+k * 3,none⟩=some (.string Y.uri)∧W'.cell? ⟨b',off'+k * 3+1,none⟩=some (.int .i64 Y.ver)∧W'.cell? ⟨b',off'+k * 3+2,none⟩=some (.slice A2' Y.exs.length c2')) :=
    Lib.hid fun W' h=>⟨(h.cell (p:=⟨_,_,none⟩) hb).trans x0,(h.cell (p:=⟨_,_,none⟩) hb).trans x1,(h.cell (p:=⟨_,_,none⟩) hb).trans x2,
     (h.cell (p:=⟨_,_,none⟩) hb').trans y0,(h.cell (p:=⟨_,_,none⟩) hb').trans y1,(h.cell (p:=⟨_,_,none⟩) hb').trans y2⟩
   clear hca hq
   by_cases hn:X.uri=Y.uri
   rotate_left
   ·have HR:Hid (sameN xs ys=false):=Lib.hid (HNE.out fun e=>hn (by rw [e]))
    have hne:(X.uri.toList == Y.uri.toList)=false:=beqS_ne hn
    clear hn
    go_wp2_with fail
    go_quiet (fail)
    go_wp2
    go_ret
    rw [HR.out]
    exact ⟨rfl,below_drewN HB.out _⟩
   have hne:(X.uri.toList == Y.uri.toList)=true:=(beqS _ _).2 hn
   have HN:=Lib.hid hn
   clear hn
   by_cases hv:X.ver=Y.ver
   rotate_left
   ·have HR:Hid (sameN xs ys=false):=Lib.hid (HNE.out fun e=>hv (by rw [e]))
    have hve:(X.ver != Y.ver)=true:=by simpa using hv
    clear hv
    go_wp2_with fail
    go_quiet (fail)
    go_wp2
    go_ret
    rw [HR.out]
    exact ⟨rfl,below_drewN HB.out _⟩
   have hve:(X.ver != Y.ver)=false:=by simpa using hv
   have HV:=Lib.hid hv
   clear hv
   go_wp2_with fail
   go_region_held (fun W'=>W'.cell? ⟨b,off+k * 3,none⟩=some (.string X.uri)∧W'.cell? ⟨b,off+k * 3+1,none⟩=some (.int .i64 X.ver)∧W'.cell? ⟨b,off+k * 3+2,none⟩=some (.slice A' X.exs.length c')∧W'.cell? ⟨b',off'+k * 3,none⟩=some (.string Y.uri)∧W'.cell? ⟨b',off'+k * 3+1,none⟩=some (.int .i64 Y.ver)∧W'.cell? ⟨b',off'+k * 3+2,none⟩=some (.slice A2' Y.exs.length c2'))
    (first | exact HSK.out _ HD.out | exact HSK.out _ (by assumption)) ((go_at_call 59;refine HCA.out.mono ?_;rintro e w2 ⟨rfl,hb2⟩;have HB2:=HD.out.trans (hb2.mono HD.out.size)))
   have HB3:Hid (Below w.heap.size w w2):=Lib.hid (HB.out.trans (HB2.mono HB.out.size))
   cases q
   ·have HR:Hid (sameN xs ys=false):=Lib.hid (HNE.out fun e=>by have h:=HQ.out;rw [e,sameX_true rfl] at h;cases h)
    go_wp2
    go_ret
    rw [HR.out]
    exact ⟨rfl,HB3.out⟩
   ·have HXY:=Lib.hid (HTK.out (En.ext' HN.out HV.out (sameX_iff.1 HQ.out.symm)))
    go_wp2
    go_roundw
    case rel=>exact ⟨k+1,by omega,by go_num,HXY,HB3⟩
    case measure=>simp [RowKit.intOf];omega
  ·have hkl:k=xs.length:=by omega
   have HR:Hid (sameN xs ys=true):=Lib.hid (sameN_true (by
    have h:=HA.out
    rw [hkl,List.take_length] at h
    rw [h,HL.out,List.take_length]))
   go_wp2
   go_ret
   rw [HR.out]
   exact ⟨rfl,HB.out⟩
def sizeX (rs:List (List UInt8)):Nat:=(rs.map fun l=>1+l.length).sum
theorem sizeX_succ (rs:List (List UInt8)) (k:Nat) (h:k < rs.length):sizeX (rs.take (k+1))=sizeX (rs.take k)+(1+(rs.getD k []).length):=by
 unfold sizeX
 rw [List.take_succ_eq_append_getElem h,List.map_append,List.sum_append,List.getD_eq_getElem?_getD,List.getElem?_eq_getElem h]
 simp
theorem sizeX_le (rs:List (List UInt8)) (k:Nat):sizeX (rs.take k)≤sizeX rs:=by
 unfold sizeX
 conv=>rhs;rw [←List.take_append_drop k rs,List.map_append,List.sum_append]
 omega
theorem sizeX_eq (rs:List (List UInt8)):sizeX rs=rs.length+rs.flatten.length:=by
 unfold sizeX
 induction rs with
 | nil=>rfl
 | cons a rs ih=>simp only [List.map_cons,List.sum_cons,List.length_cons,List.flatten_cons,List.length_append,ih];omega
theorem sizeX_mem {rs:List (List UInt8)} {l:List UInt8} (h:l∈rs):l.length≤sizeX rs:=by
 induction rs with
 | nil=>cases h
 | cons a rs ih =>
  unfold sizeX at ih ⊢
  rw [List.map_cons,List.sum_cons]
  rcases List.mem_cons.1 h with rfl|h
  ·omega
  ·have:=ih h;omega
def fsOf (xs:List (List UInt8)):List File:=if xs=[] then [] else [⟨nLog,encR 0 xs,0⟩]
theorem fsOf_app (xs:List (List UInt8)) (L:List UInt8):appF nLog (frameB 0 L) (fsOf xs)=fsOf (xs ++ [L]):=by
 have e:fsOf (xs ++ [L])=[⟨nLog,encR 0 (xs ++ [L]),0⟩]:=by unfold fsOf;rw [if_neg (by simp)]
 rw [e,encR_snoc]
 by_cases h:xs=[]
 ·subst h;rfl
 ·unfold fsOf;rw [if_neg h]
  simp [appF,findL,withL,dropL,putL]
theorem fsOf_ref {xs:List (List UInt8)} (h:xs≠[]):stAppend ⟨-1,[]⟩ nLog [encR 0 xs].flatten=(⟨-1,fsOf xs⟩,0):=by
 have e:fsOf xs=[⟨nLog,encR 0 xs,0⟩]:=by unfold fsOf;rw [if_neg h]
 rw [e,show [encR 0 xs].flatten=encR 0 xs by simp]
 unfold stAppend
 rw [if_pos (by decide),do_on (by decide)]
 rfl
theorem fsOf_calm (xs:List (List UInt8)):Calm (fsOf xs) 1 (encR 0 xs).length:=by
 unfold fsOf
 split
 ·exact Calm.nil.mono (by omega) (by omega)
 ·exact ⟨by simp,by simp;decide,by simp,by simp⟩
theorem fsOf_open {xs:List (List UInt8)} (hp:∀ p∈xs,p.length≤65536):openSt ⟨-1,fsOf xs⟩=(⟨-1,fsOf xs⟩,.ok (0,[],xs)):=by
 have hv:V3 (fsOf xs) none none (lgOf 0 xs 0):=by
  unfold fsOf lgOf
  split
  ·exact V3.nil
  ·exact ⟨rfl,rfl,rfl⟩
 obtain ⟨h1,h2⟩:=logRecs_whole (g:=0) (by decide) hp 0
 rw [hv.opn0 (g:=0) (ps:=[]) rfl h2,h1]
theorem fsOf_find (xs:List (List UInt8)):stFind ⟨-1,fsOf xs⟩ nLog=if xs=[] then .error 11 else .ok ⟨nLog,encR 0 xs,0⟩:=by
 by_cases h:xs=[]
 ·subst h;rfl
 ·unfold stFind fsOf
  rw [if_pos (by decide),if_neg h,if_neg h]
  rfl
def PJ (W wr:World) (pj p bg:Nat) (o:Obj) (xs:List (List UInt8)):Prop:=∃ F G,JH W.heap.size W wr pj p ⟨-1,fsOf xs⟩ 0 [] xs F G∧¬ F bg∧¬ G bg∧wr.heap[bg]? = some o
section
variable {W wr w':World} {pj p bg:Nat} {o:Obj} {xs:List (List UInt8)}
theorem PJ.below (h:PJ W wr pj p bg o xs):Below W.heap.size W wr:=by
 obtain ⟨F,G,h1,-,-,-⟩:=h
 exact h1.below
theorem PJ.go (h:PJ W wr pj p bg o xs) (hb:Below wr.heap.size wr w'):PJ W w' pj p bg o xs:=by
 obtain ⟨F,G,h1,h2,h3,h4⟩:=h
 exact ⟨F,G,h1.go (Nat.le_refl _) hb,h2,h3,(hb.block _ (lt_blk h4)).trans h4⟩
theorem PJ.append (h:PJ W wr pj p bg o xs) {w2:World} (hb:Below wr.heap.size wr w2) {u:Value} {L:List UInt8} (hu:Par.Own w2 wr.heap.size 5 u (byteCells L)) (hs:sizeX (xs ++ [L])≤20000) :
  Calls Tryz.prog 11 #[.pointer (some ⟨pj,0,none⟩),u] w2 fun e w'=>e=.returned (.int .i64 0)∧Hid (PJ W w' pj p bg o (xs ++ [L])):=by
 obtain ⟨F,G,h0,h2,h3,h40⟩:=h
 have h1:=h0.go (Nat.le_refl _) hb
 have h4:=(hb.block _ (lt_blk h40)).trans h40
 have hbgl:=lt_blk h40
 have hz:=hb.size
 have hold:∀ k,F k→k < wr.heap.size:=fun k hk=>h0.lt k (.inl hk)
 have hsg:SegS (fun j=>j < w2.heap.size∧¬ F j) w2 u (byteCells L):=(own_seg hu).keep fun j hj=>⟨⟨(hu.lt j hj).2,fun hf=>by have:=hold j hf;have:=(hu.lt j hj).1;omega⟩,rfl⟩
 rw [sizeX_eq,List.length_append,List.flatten_append,List.length_append] at hs
 simp only [List.length_singleton,List.flatten_cons,List.flatten_nil,List.append_nil] at hs
 have hel:(encR 0 xs).length≤300000:=by rw [encR_len];omega
 refine (jappend_any h1.jf u L hsg (by omega) ((fsOf_calm xs).modest (st:=⟨-1,fsOf xs⟩) (show (-1:Int)≤9223372036854775807 by decide) (by omega) (by omega)) (by omega)).mono ?_
 rw [jAppend_onX]
 rintro e w' ⟨rfl,hp⟩
 obtain ⟨F',G',h5,hk,hgF,hgG⟩:=h1.op (Nat.le_refl _) hp
 rw [fsOf_app] at h5
 refine ⟨rfl,Lib.hid ⟨F',G',h5,fun hf=>?_,fun hg=>?_,(hk.block bg (by omega) (by rintro (a | a);exact h2 a;exact h3 a)).trans h4⟩⟩
 ·rcases hgF bg hf with a | a
  ·exact h2 a
  ·omega
 ·rcases hgG bg hg with a | a
  ·exact h3 a
  ·omega
theorem JH.write {F G:Nat→Prop} {st:St} (h:JH W.heap.size W wr pj p st 0 [] xs F G) (h2:¬ F bg) (h3:¬ G bg) (hb:W.heap.size≤bg) (hk:Kept (· = bg) wr w'):JH W.heap.size W w' pj p st 0 [] xs F G :=
 ⟨⟨h.jf.fs.keep fun k hf=>hk.block k (h.lt k (.inl hf)) (fun e=>h2 (e ▸ hf)),h.jf.js.block fun k hg=>hk.block k (h.lt k (.inr hg)) (fun e=>h3 (e ▸ hg)),h.jf.apart⟩,h.fnew,h.gnew,h.below.trans (hk.below h.below.size (fun k e=>by omega))⟩
def SX (W wr:World) (pj p bg:Nat) (A:Option Addr) (c:Nat) (xs:List (List UInt8)):Prop:=∃ F G,JH W.heap.size W wr pj p ⟨-1,fsOf xs⟩ 0 [] xs F G∧¬ F bg∧¬ G bg∧wr.heap[bg]? = some (.cells #[.int .i64 (-1),.slice A (fsOf xs).length c] 33 (0,0))∧RefS (fun k=>k < wr.heap.size∧¬ F k∧¬ G k∧k≠bg) wr (.slice A (fsOf xs).length c) (fsOf xs)
theorem SX.start (h:PJ W wr pj p bg (.cells #[.int .i64 (-1),.slice none 0 0] 33 (0,0)) []):SX W wr pj p bg none 0 []:=by
 obtain ⟨F,G,h1,h2,h3,h4⟩:=h
 exact ⟨F,G,h1,h2,h3,h4,RefS.nil _ _⟩
theorem SX.made (h:PJ W wr pj p bg (.cells #[.int .i64 (-1),.slice none 0 0] 33 (0,0)) xs) (hbg:W.heap.size≤bg) {w2 w3:World} (hb:Below wr.heap.size wr w2) (hb3:Below w2.heap.size w2 w3) {A:Option Addr} {c:Nat}
  (hr:RefS (New (fun _=>False) w2 w3) w3 (.slice A (fsOf xs).length c) (fsOf xs)) :
  SX W ((w3.setCell ⟨bg,0,none⟩ (.int .i64 (-1))).setCell ⟨bg,1,none⟩ (.slice A (fsOf xs).length c)) pj p bg A c xs:=by
 have hb2:Below wr.heap.size wr w3:=hb.trans (hb3.mono hb.size)
 obtain ⟨F,G,h1,h2,h3,h4⟩:=h
 have hbl:=lt_blk h4
 have hlt:=h1.lt
 have h1':=h1.go (Nat.le_refl _) hb2
 have h4':=(hb2.block _ hbl).trans h4
 have hk:Kept (· = bg) w3 ((w3.setCell ⟨bg,0,none⟩ (.int .i64 (-1))).setCell ⟨bg,1,none⟩ (.slice A (fsOf xs).length c)):=Kept.setCell (F:=(· = bg)) (p:=⟨bg,1,none⟩) (Kept.setCell (F:=(· = bg)) (p:=⟨bg,0,none⟩) (Kept.refl _ _) (.inl rfl) _) (.inl rfl) _
 have hz:=hb.size
 have hz3:=hb3.size
 have hks:=hk.size
 refine ⟨F,G,JH.write h1' h2 h3 hbg hk,h2,h3,by simpa using cells_put (cells_put h4' 0 (.int .i64 (-1))) 1 (.slice A (fsOf xs).length c),hr.keep fun b hb=>?_⟩
 rcases hb with hb|hb
 ·exact hb.elim
 ·refine ⟨⟨by omega,fun hf=>?_,fun hg=>?_,by omega⟩,hk.block b hb.2 (by omega)⟩
  ·have:=hlt b (.inl hf);omega
  ·have:=hlt b (.inr hg);omega
end
theorem rows_oneX {w:World} {A:Option Addr} {c:Nat} {L:List UInt8} (h:Seg w w.heap.size (.slice A L.length c) (byteCells L)):RowsAt (· < (w.alloc (.cells #[.slice A L.length c] 24)).heap.size) (w.alloc (.cells #[.slice A L.length c] 24)) (.slice (some ⟨w.heap.size,0,none⟩) 1 1) [L]:=by
 have hb:=box_below w (.cells #[.slice A L.length c] 24)
 refine ⟨[.slice A L.length c],rfl,?_,fun i hi=>?_⟩
 ·refine ⟨some ⟨w.heap.size,0,none⟩,1,rfl,Nat.le_refl _,by decide,fun _=>⟨w.heap.size,0,rfl,by simp,fun i hi=>?_⟩⟩
  have hi0:i=0:=by have:i < 1:=hi;omega
  subst hi0
  have h1:=heap_alloc_new w (.cells #[.slice A L.length c] 24)
  unfold World.cell?
  simp only [Nat.add_zero]
  rw [h1]
  rfl
 ·have hi0:i=0:=by have:i < 1:=hi;omega
  subst hi0
  exact (h.below hb).more (by simp)
end Go.Proofs.YtaalbcfpacpgfaaGreat
