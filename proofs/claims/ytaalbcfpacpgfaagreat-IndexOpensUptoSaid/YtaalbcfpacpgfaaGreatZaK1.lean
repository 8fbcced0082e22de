/- Texts V39 K1 of the proof, joined. -/
import Derived.Deep.RegionWith
import Derived.Deep.DeepCutAuto
import Derived.BigRegion
import Derived.Laws.BitsLemmas
import Derived.Test.YtaalbcfpacpgfaaGreatZaM5
import Derived.Test.YtaalbcfpacpgfaaGreatZaJF
set_option linter.unusedVariables false
set_option linter.unusedSimpArgs false
namespace Go.Proofs.YtaalbcfpacpgfaaGreat
open Go.RowKit Go.Lib Go.Vfs Go.Par
structure Box1 (w:World) (pow:Int) (v:Value) (W:World):Prop where
 below:Below w.heap.size w W
 size:w.heap.size+1≤W.heap.size
 h0:W.heap[w.heap.size]? = some (.cells #[.int .i64 pow,v] 33 (0,0))
theorem Box1.start (w:World) (pow:Int) (v:Value):Box1 w pow v (w.alloc (.cells #[.int .i64 pow,v] 33)):=⟨box_below w _,by simp,heap_alloc_new w _⟩
theorem Box1.go {w W W':World} {pow:Int} {v:Value} (h:Box1 w pow v W) (hb:Below W.heap.size W W'):Box1 w pow v W':=by
 have hz:=h.size
 have hzz:=hb.size
 exact ⟨h.below.trans (hb.mono (by omega)),by omega,(hb.block _ (by omega)).trans h.h0⟩
theorem Box1.cells {w W:World} {pow:Int} {v:Value} (h:Box1 w pow v W):W.cell? ⟨w.heap.size,0,none⟩=some (.int .i64 pow)∧W.cell? ⟨w.heap.size,1,none⟩=some v:=by
 have h0:=h.h0
 simp [World.cell?,h0]
theorem Box1.old {w W:World} {pow:Int} {v u:Value} {S:Nat→Prop} {fs:List File} (hS:∀ b,S b→b < w.heap.size) (h:Box1 w pow v W) (hr:RefS S w u fs):RefS S W u fs:=hr.keep fun b hb=>⟨hb,h.below.block b (hS b hb)⟩
theorem at_box1 {w:World} {S:Nat→Prop} {pd:Int} {A:Option Addr} {c:Nat} {fs:List File} {s:List UInt8} {f:File}
  (hf:findL File.name s fs=some f) (hS:∀ b,S b→b < w.heap.size) (h:RefS S w (.slice A fs.length c) fs) (W:World) (hW:Box1 w pd (.slice A fs.length c) W) :
  Calls Tryz.prog 52 #[.agg #[.int .i64 pd,.slice A fs.length c],.string ⟨s.toArray⟩] W fun e w5=>∃ (i b off:Nat) (Au:Option Addr) (cu:Nat),e=.returned (.int .i64 (i:Nat))∧A=some ⟨b,off,none⟩ ∧
   Hid (Box1 w pd (.slice A fs.length c) w5)∧i < fs.length ∧
   (w5.cell? ⟨w.heap.size,0,none⟩=some (.int .i64 pd)∧w5.cell? ⟨w.heap.size,1,none⟩=some (.slice A fs.length c)) ∧
   w5.cell? ⟨b,off+i * 3,none⟩=some (.string ⟨f.name.toArray⟩)∧w5.cell? ⟨b,off+i * 3+1,none⟩=some (.slice Au f.data.length cu)∧w5.cell? ⟨b,off+i * 3+2,none⟩=some (.int .i64 f.safe)∧Hid (Seg w5 w5.heap.size (.slice Au f.data.length cu) (byteCells f.data)):=by
 refine (rat_found (fun b hb=>by have:=hS b hb;have:=hW.size;omega) (hW.old hS h) hf).mono ?_
 rintro e w5 ⟨i,hi,rfl,hfi,hb5⟩
 have B5:=hW.go hb5
 obtain ⟨b,off,Au,cu,rfl,hb,g0,g1,g2,g3⟩:=found_cells h hS B5.below hi hfi
 have hz:=B5.size
 refine ⟨i,b,off,Au,cu,rfl,rfl,Lib.hid B5,hi,B5.cells,g0,g1,g2,Lib.hid ?_⟩
 have:SegS S w5 (.slice Au f.data.length cu) (byteCells f.data):=g3.keep fun b hb=>⟨hb,B5.below.block b (hS b hb)⟩
 exact this.seg fun b hb=>by have:=hS b hb;omega
set_option maxRecDepth 20000 in
set_option maxHeartbeats 2000000 in
theorem rread_any (st:St) (v:Value) (S:Nat→Prop) (w:World) (hS:∀ b,S b→b < w.heap.size) (h:RefS S w v st.files) (s:List UInt8) (hs:s.length≤9223372036854775807) (hd:∀ f∈st.files,f.data.length≤1000000) :
  Calls Tryz.prog 97 #[.agg #[.int .i64 st.power,v],.string ⟨s.toArray⟩] w (ReadPost w (stFind st s)):=by
 obtain ⟨pow,fs⟩:=st
 simp only at h hd ⊢
 obtain ⟨A,c,rfl,hc,hm⟩:=h.form
 have H:=Lib.hid h;clear h
 have HS:=Lib.hid hS;clear hS
 have HDL:=Lib.hid hd;clear hd
 have b1:=Box1.start w pow (.slice A fs.length c)
 have hck:=rcheck_any pow _ fs S _ (fun b hb=>by have:=HS.out b hb;have:=b1.size;omega) (b1.old HS.out H.out) s hs true
 have B1:=Lib.hid b1;have HCK:=Lib.hid hck;clear b1 hck
 cases hf:stFind ⟨pow,fs⟩ s with
 | error er =>
  obtain ⟨e1,e2⟩:=chk_err hf
  simp only at e1
  rw [e1] at HCK
  clear e1 hf
  obtain ⟨P,hP⟩:∃ P,P=ReadPost w (.error er):=⟨_,rfl⟩
  rw [←hP]
  have HP:=Lib.hid hP;clear hP
  go_enter Tryz.func97,Tryz.ntmps97
  go_wp2_with fail
  refine HCK.out.mono ?_
  rintro e w2 ⟨rfl,hb2⟩
  have B2:=Lib.hid (B1.out.go hb2)
  clear hb2 HCK B1
  obtain ⟨x0,x1⟩:=B2.out.cells
  go_wp2
  try go_ret2
  rw [HP.out]
  exact ⟨B2.out.below,rfl⟩
 | ok f =>
  obtain ⟨e1,e2⟩:=chk_ok hf
  simp only at e1 e2
  rw [e1] at HCK
  have HFL:=Lib.hid (HDL.out f (findL_inR e2))
  have HAT:=Lib.hid (at_box1 (pd:=pow) e2 HS.out H.out)
  clear e1 e2 hf
  obtain ⟨P,hP⟩:∃ P,P=ReadPost w (.ok f):=⟨_,rfl⟩
  rw [←hP]
  have HP:=Lib.hid hP;clear hP
  go_enter Tryz.func97,Tryz.ntmps97
  go_wp2_with fail
  refine HCK.out.mono ?_
  rintro e w2 ⟨rfl,hb2⟩
  have B2:=Lib.hid (B1.out.go hb2)
  obtain ⟨x0,x1⟩:=B2.out.cells
  clear hb2 HCK B1
  have HA1:=Lib.hid (HAT.out _ (B2.out.go ((Below.refl _ w2).drew)))
  clear HAT
  go_upto_region 4 with fail
  go_region_with (first
   | (go_at_call 52;refine HA1.out.mono ?_;rintro e w5 ⟨i,b,off,Au,cu,rfl,rfl,HB5,hi,⟨y0,y1⟩,g0,g1,g2,G3⟩)
   | (go_at_call 12;refine (copyBytes_any _ f.data _ _ G3.out (Nat.le_refl _) HFL.out).mono ?_;rintro e w6 ⟨u,rfl,hu,hb6⟩;obtain ⟨A6,c6,hf6⟩:=hu.form;subst hf6;have HU:=Lib.hid hu;have HB6:=Lib.hid hb6;clear hu hb6))
  all_goals (
   go_wp2_with fail
   go_ret2
   rw [HP.out]
   exact ⟨(HB5.out.below).trans (HB6.out.mono (by have:=HB5.out.size;omega)),_,rfl,HU.out.base (by have:=HB5.out.size;omega)⟩)
open Go.RowKit Go.Lib Go.Vfs Go.Par Go.Shelf
set_option maxRecDepth 20000 in
set_option maxHeartbeats 1000000 in
theorem put_any (n:Nat) (hn:n < 4294967296) (w:World) :
  Calls Tryz.prog 115 #[.int .i64 (n:Nat)] w fun e w'=>∃ A c,e=.returned (.slice A 4 c)∧Par.Own w' w.heap.size 5 (.slice A 4 c) (byteCells (be4 n))∧Below w.heap.size w w':=by
 go_enter Tryz.func115,Tryz.ntmps115
 go_wp2
 go_ret
 have hbc:byteCells (be4 n)=[.int .u8 ((n:Int) / 16777216),.int .u8 ((n:Int) / 65536 % 256),.int .u8 ((n:Int) / 256 % 256),.int .u8 ((n:Int) % 256)]:=by
  unfold byteCells be4
  simp only [List.map_cons,List.map_nil,u8_mod]
  have h0:(n:Int) / 16777216 % 256=(n:Int) / 16777216:=by omega
  have h0':((n / 16777216 % 256:Nat):Int)=(n:Int) / 16777216:=by omega
  first
   | (rw [←h0];rfl)
   | (rw [h0'];rfl)
   | (simp [h0];done)
 refine ⟨some ⟨w.heap.size,0,none⟩,4,rfl,?_,box_below w _⟩
 rw [hbc]
 exact Par.Own.new w w.heap.size 5 _ _ rfl (Nat.le_refl _) (by simp [maxLen])
theorem or_i64 (i x y:Nat) (hi:i < 32) (hx:x % 2 ^ i=0) (hy:y < 2 ^ i) (hl:x < 4294967296):bits .or .i64 (x:Int) (y:Int)=((x+y:Nat):Int):=by
 have h32:(2:Nat) ^ i≤2 ^ 32:=Nat.pow_le_pow_right (by omega) (by omega)
 have hk:∀ n:Int,0≤n→n < 2 ^ 32→IntKind.i64.wrap n=n:=fun n h0 h1=>by rw [IntKind.wrap_i64];omega
 rw [(bits_nat .i64 32 (by decide) hk x y (by omega) (by omega)).2,nat_join i x y hx hy]
theorem or4i (x0 x1 x2 x3:Nat) (h0:x0 < 256) (h1:x1 < 256) (h2:x2 < 256) (h3:x3 < 256) :
  bits .or .i64 (bits .or .i64 (bits .or .i64 ((x0:Int) * 16777216) ((x1:Int) * 65536)) ((x2:Int) * 256)) (x3:Int)=((x0 * 16777216+x1 * 65536+x2 * 256+x3:Nat):Int):=by
 rw [show (x0:Int) * 16777216=((x0 * 16777216:Nat):Int) by omega,show (x1:Int) * 65536=((x1 * 65536:Nat):Int) by omega,show (x2:Int) * 256=((x2 * 256:Nat):Int) by omega]
 rw [or_i64 24 _ _ (by omega) (by omega) (by omega) (by omega),or_i64 16 _ _ (by omega) (by omega) (by omega) (by omega),or_i64 8 _ _ (by omega) (by omega) (by omega) (by omega)]
set_option maxRecDepth 20000 in
set_option maxHeartbeats 1000000 in
theorem num_any (v:Value) (l:List UInt8) (B:Nat) (w:World) (hsg:Seg w B v (byteCells l)) (hl:4≤l.length) :
  Calls Tryz.prog 128 #[v] w fun e w'=>e=.returned (.int .i64 (num4 l:Nat))∧∃ n,w'=w.drewN n:=by
 obtain ⟨A,c,rfl,hc,hm,hat⟩:=hsg.open_bytes
 obtain ⟨b,off,x0,rfl,hb,hc0,hx0,Hx0⟩:=hat.byte (show 0 < l.length by omega)
 obtain ⟨_,_,x1,h1,-,hc1,hx1,Hx1⟩:=hat.byte (show 1 < l.length by omega)
 cases h1
 obtain ⟨_,_,x2,h2,-,hc2,hx2,Hx2⟩:=hat.byte (show 2 < l.length by omega)
 cases h2
 obtain ⟨_,_,x3,h3,-,hc3,hx3,Hx3⟩:=hat.byte (show 3 < l.length by omega)
 cases h3
 clear hat hsg
 have g0:0 < l.length:=by omega
 have g1:1 < l.length:=by omega
 have g2:2 < l.length:=by omega
 have g3:3 < l.length:=by omega
 simp only [Nat.add_zero] at hc0
 go_enter Tryz.func128,Tryz.ntmps128
 go_wp2
 go_quiet (fail)
 go_wp2
 go_ret
 refine ⟨?_,nq,rfl⟩
 have e:num4 l=x0 * 16777216+x1 * 65536+x2 * 256+x3:=by unfold num4;rw [Hx0.out,Hx1.out,Hx2.out,Hx3.out]
 rw [e,←or4i x0 x1 x2 x3 hx0 hx1 hx2 hx3]
 rfl
set_option maxRecDepth 20000 in
set_option maxHeartbeats 2000000 in
theorem rframe_any (gen:Nat) (hg:gen < 4294967296) (v:Value) (p:List UInt8) (w:World) (h:Seg w w.heap.size v (byteCells p)) (hp:p.length≤900000) :
  Calls Tryz.prog 113 #[.int .i64 (gen:Nat),v] w fun e w'=>∃ A c,e=.returned (.slice A (frameB gen p).length c)∧Par.Own w' w.heap.size 5 (.slice A (frameB gen p).length c) (byteCells (frameB gen p))∧Below w.heap.size w w':=by
 obtain ⟨A,c,rfl,hc,hm,-⟩:=h.open_bytes
 have H:=Lib.hid h;clear h
 obtain ⟨N,hN⟩:∃ N,N=p.length:=⟨_,rfl⟩
 rw [←hN] at hc hp H ⊢
 have HN:=Lib.hid hN
 clear hN
 go_enter Tryz.func113,Tryz.ntmps113
 go_wp2_with fail
 refine (put_any gen hg w).mono ?_
 rintro e w1 ⟨A1,c1,rfl,hu1,hb1⟩
 have U1:=Lib.hid hu1;have B1:=Lib.hid hb1
 clear hu1 hb1
 go_wp2_with fail
 refine (put_any N (by omega) w1).mono ?_
 rintro e w2 ⟨A2,c2,rfl,hu2,hb2⟩
 have hown1:=U1.out.below hb2
 have hsg2:=Own.seg hu2
 have B2:=Lib.hid (B1.out.trans (hb2.mono B1.out.size))
 have hz2:=B2.out.size
 clear hu2 hb2
 go_wp2_with (at_builtin;refine wpList_app _ rfl _ _ _ rfl w.heap.size 5 _ byteE _ _ rfl hown1 _ _ _ rfl hsg2 (one_bytes _) ?c1 ?c2 ?_)
 case c1=>rw [byteCells_length,byteCells_length];simp [be4_length]
 case c2=>exact hz2
 intro v3 w3 hown3 hg3 hat3
 have B3:=Lib.hid (below_app B2.out hown1 hg3 hz2)
 rw [←byteCells_append] at hown3
 obtain ⟨HD,hHD⟩:∃ HD,HD=be4 gen ++ be4 N:=⟨_,rfl⟩
 rw [←hHD] at hown3
 have HHD:=Lib.hid hHD
 have HDL:Hid (HD.length=8):=Lib.hid (by rw [hHD];rfl)
 obtain ⟨A3,c3,hf3⟩:=hown3.form
 rw [byteCells_length,HDL.out] at hf3
 have U3:=Lib.hid hown3
 have S3:=Lib.hid (Own.seg hown3)
 clear hown3 hg3 hat3 hown1 hsg2 hHD hz2
 subst hf3
 go_wp2_with fail
 refine (copyBytes_any _ HD w3.heap.size w3 S3.out (Nat.le_refl _) (by rw [HDL.out];omega)).mono ?_
 rintro e w4 ⟨u4,rfl,hu4,hb4⟩
 have B4:=Lib.hid (B3.out.trans (hb4.mono B3.out.size))
 have hsp:=(H.out.below B4.out).more B4.out.size
 obtain ⟨A4,c4,hf4⟩:=hu4.form
 rw [byteCells_length,HDL.out] at hf4
 have hz34:=hb4.size
 have HB4:=Lib.hid hb4
 clear hb4
 subst hf4
 go_wp2_with (at_builtin;refine wpList_app _ rfl _ _ _ rfl w3.heap.size 5 _ byteE _ _ rfl hu4 _ _ _ rfl hsp (one_bytes _) ?c1 ?c2 ?_)
 case c1=>rw [byteCells_length,byteCells_length,HDL.out,←HN.out];omega
 case c2=>exact hz34
 intro v5 w5 hown5 hg5 hat5
 rw [←byteCells_append] at hown5
 obtain ⟨AL,hAL⟩:∃ AL,AL=HD ++ p:=⟨_,rfl⟩
 rw [←hAL] at hown5
 have HAL:=Lib.hid hAL
 have B35:=Lib.hid (HB4.out.trans (own_grown hu4 hz34 hg5))
 have B5:=Lib.hid (B3.out.trans (B35.out.mono B3.out.size))
 have U5:=Lib.hid (U3.out.below B35.out)
 have ALl:Hid (AL.length=8+N):=Lib.hid (by rw [hAL,List.length_append,HDL.out,HN.out])
 obtain ⟨A5,c5,hf5⟩:=hown5.form
 rw [byteCells_length,ALl.out] at hf5
 have S5:=Lib.hid (Own.seg hown5)
 clear hown5 hg5 hat5 hu4 hsp hz34 hAL HB4 U3 S3
 subst hf5
 have hrs:=rsum_any _ AL w5.heap.size w5 S5.out
 have hcl:=crc_lt AL
 have HFB:Hid (frameB gen p=HD ++ be4 (crc AL) ++ p):=Lib.hid (by unfold frameB;rw [HAL.out,HHD.out,HN.out])
 generalize crc AL=C at *
 go_wp2_with fail
 refine hrs.mono ?_
 clear hrs
 rintro e w6 ⟨rfl,n6,hw6⟩
 have B56:Hid (Below w5.heap.size w5 w6):=Lib.hid (by rw [hw6];exact below_drewN (Below.refl _ _) n6)
 have B6:=Lib.hid (B5.out.trans (B56.out.mono B5.out.size))
 have U6:=Lib.hid (U5.out.below B56.out)
 clear hw6 S5
 go_wp2_with fail
 refine (put_any C hcl w6).mono ?_
 rintro e w7 ⟨A7,c7,rfl,hu7,hb7⟩
 have hown7:=U6.out.below hb7
 have hsg7:=Own.seg hu7
 have B7:=Lib.hid (B6.out.trans (hb7.mono B6.out.size))
 have hz7:=B7.out.size
 clear hu7 hb7 U5 U6
 go_wp2_with (at_builtin;refine wpList_app _ rfl _ _ _ rfl w.heap.size 5 _ byteE _ _ rfl hown7 _ _ _ rfl hsg7 (one_bytes _) ?c1 ?c2 ?_)
 case c1=>rw [byteCells_length,byteCells_length,HDL.out];simp [be4_length]
 case c2=>exact hz7
 intro v8 w8 hown8 hg8 hat8
 have B8:=Lib.hid (below_app B7.out hown7 hg8 hz7)
 rw [←byteCells_append] at hown8
 obtain ⟨OU,hOU⟩:∃ OU,OU=HD ++ be4 C:=⟨_,rfl⟩
 rw [←hOU] at hown8
 have OUl:Hid (OU.length=12):=Lib.hid (by rw [hOU,List.length_append,HDL.out];rfl)
 have HOU:=Lib.hid hOU
 have hz8:=B8.out.size
 have hsp8:=(H.out.below B8.out).more hz8
 obtain ⟨A8,c8,hf8⟩:=hown8.form
 rw [byteCells_length,OUl.out] at hf8
 clear hg8 hat8 hown7 hsg7 hz7 hOU
 subst hf8
 go_wp2_with (at_builtin;refine wpList_app _ rfl _ _ _ rfl w.heap.size 5 _ byteE _ _ rfl hown8 _ _ _ rfl hsp8 (one_bytes _) ?c1 ?c2 ?_)
 case c1=>rw [byteCells_length,byteCells_length,OUl.out,←HN.out];omega
 case c2=>exact hz8
 intro v9 w9 hown9 hg9 hat9
 have B9:=Lib.hid (below_app B8.out hown8 hg9 hz8)
 rw [←byteCells_append,HOU.out,←HFB.out] at hown9
 obtain ⟨A9,c9,hf9⟩:=hown9.form
 rw [byteCells_length] at hf9
 have U9:=Lib.hid hown9
 clear hown9 hg9 hat9 hown8 hsp8 hz8
 subst hf9
 go_wp2
 go_ret
 exact ⟨_,_,rfl,U9.out,B9.out⟩
end Go.Proofs.YtaalbcfpacpgfaaGreat
