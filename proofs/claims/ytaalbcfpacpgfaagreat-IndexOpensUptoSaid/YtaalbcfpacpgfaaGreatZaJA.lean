/- Merged of J1 J2 J3 J4. -/
import Derived.Laws.BitsAllLaws
import Derived.Deep.QuietTactic
import Derived.BigQuiet
import Derived.Lib.AppendZeros
import Derived.Test.YtaalbcfpacpgfaaGreatZaM3
set_option linter.unusedVariables false
set_option linter.unusedSimpArgs false
namespace Go.Par
def bitC (v:Nat):Nat:=if v % 2=1 then (v / 2) ^^^ 3988292384 else v / 2
def bitsC:Nat→Nat→Nat
 | 0,v=>v
 | j+1,v=>bitC (bitsC j v)
def byteC (v:Nat) (b:UInt8):Nat:=bitsC 8 (v ^^^ b.toNat)
def runC (v:Nat) (l:List UInt8):Nat:=l.foldl byteC v
def crc (l:List UInt8):Nat:=4294967295 - runC 4294967295 l
theorem xor_lt32 {a b:Nat} (ha:a < 4294967296) (hb:b < 4294967296):a ^^^ b < 4294967296:=Nat.xor_lt_two_pow (n:=32) ha hb
theorem bitC_lt {v:Nat} (h:v < 4294967296):bitC v < 4294967296:=by
 unfold bitC
 split
 ·exact xor_lt32 (by omega) (by omega)
 ·omega
theorem bitsC_lt {v:Nat} (h:v < 4294967296):∀ j,bitsC j v < 4294967296
 | 0=>h
 | j+1=>bitC_lt (bitsC_lt h j)
theorem byteC_lt {v:Nat} (h:v < 4294967296) (b:UInt8):byteC v b < 4294967296:=bitsC_lt (xor_lt32 h (by have:=b.toNat_lt;omega)) 8
theorem runC_lt {v:Nat} (h:v < 4294967296) (l:List UInt8):runC v l < 4294967296:=by
 induction l generalizing v with
 | nil=>exact h
 | cons b l ih=>exact ih (byteC_lt h b)
theorem runC_append (v:Nat) (a b:List UInt8):runC v (a ++ b)=runC (runC v a) b:=by simp [runC]
theorem runC_snoc (v:Nat) (l:List UInt8) (b:UInt8):runC v (l ++ [b])=byteC (runC v l) b:=by simp [runC]
theorem crc_lt (l:List UInt8):crc l < 4294967296:=by unfold crc;omega
end Go.Par
namespace Go.Proofs.YtaalbcfpacpgfaaGreat
open Go.RowKit Go.Lib Go.Vfs Go.Par
theorem bitsC_odd {V j:Nat} (h:bitsC j V % 2=1):bitsC (j+1) V=(bitsC j V / 2) ^^^ 3988292384:=by show bitC _=_;unfold bitC;rw [if_pos h]
theorem bitsC_even {V j:Nat} (h:¬ bitsC j V % 2=1):bitsC (j+1) V=bitsC j V / 2:=by show bitC _=_;unfold bitC;rw [if_neg h]
theorem nat_flip (V:Nat) (h:V < 4294967296):4294967295 ^^^ V=4294967295 - V:=by
 have h1:=BitVec.toNat_not (x:=BitVec.ofNat 32 V)
 rw [←BitVec.allOnes_xor,BitVec.toNat_xor] at h1
 have h2:(BitVec.ofNat 32 V).toNat=V:=by rw [BitVec.toNat_ofNat];exact Nat.mod_eq_of_lt h
 have h3:(BitVec.allOnes 32).toNat=4294967295:=by decide
 rw [h2,h3] at h1
 simpa using h1
theorem u32_flip (V:Nat) (h:V < 4294967296):bits .xor .u32 IntKind.u32.max (V:Int)=4294967295 - (V:Int):=by
 rw [show IntKind.u32.max=((4294967295:Nat):Int) by decide,u32_xor_nat _ _ (by omega) h,nat_flip V h]
 omega
theorem take_byte (l:List UInt8) (k x:Nat) (hlt:k < l.length) (hx:(l.getD k 0).toNat=x) (v:Nat):runC v (l.take (k+1))=bitsC 8 (runC v (l.take k) ^^^ x):=by
 rw [List.take_succ_eq_append_getElem hlt,runC_snoc]
 unfold byteC
 rw [show l[k].toNat=x by rw [←hx,List.getD_eq_getElem?_getD,List.getElem?_eq_getElem hlt];rfl]
set_option maxRecDepth 20000 in
set_option maxHeartbeats 4000000 in
theorem rsum_any (v:Value) (l:List UInt8) (B:Nat) (w:World) (hsg:Seg w B v (byteCells l)) :
  Calls Tryz.prog 144 #[v] w fun e w'=>e=.returned (.int .u32 (crc l:Nat))∧∃ n,w'=w.drewN n:=by
 obtain ⟨A,c,rfl,hc,hm,hat⟩:=hsg.open_bytes
 have HAT:=Lib.hid hat;clear hat hsg
 go_enter Tryz.func144,Tryz.ntmps144
 go_wp2
 go_loopw [3,4] (fun s i wr=>∃ k n:Nat,k≤l.length∧i=.int .i64 k∧s=.int .u32 (runC 4294967295 (l.take k):Nat)∧wr=w.drewN n) (fun _ i _=>l.length - (intOf i).toNat)
 case atStart=>exact ⟨0,0,by omega,rfl,rfl,rfl⟩
 case round =>
  obtain ⟨k,n,hk,rfl,rfl,rfl⟩:=hrel
  have hlv:=runC_lt (v:=4294967295) (by omega) (l.take k)
  obtain ⟨V,hV⟩:∃ V,V=runC 4294967295 (l.take k):=⟨_,rfl⟩
  rw [←hV] at hlv
  rw [←hV]
  by_cases hlt:k < l.length
  ·obtain ⟨b,off,x,rfl,hb,hcell,hx,Hx⟩:=HAT.out.byte hlt
   have hx1:bits .xor .u32 (V:Int) (x:Int)=((V ^^^ x:Nat):Int):=u32_xor_nat V x hlv (by omega)
   have hlX:V ^^^ x < 4294967296:=xor_lt32 hlv (by omega)
   have HN:Hid (runC 4294967295 (l.take (k+1))=bitsC 8 (V ^^^ x)):=Lib.hid (by rw [hV];exact take_byte l k x hlt Hx.out _)
   clear hV
   go_wp2
   clear hx1 hcell
   generalize V ^^^ x=X at *
   obtain ⟨wo,hwo⟩:∃ wo:World,wo=w.drewN n:=⟨_,rfl⟩
   rw [←hwo]
   have HWO:=Lib.hid hwo;clear hwo
   go_loopw [3,5] (fun s i wr=>∃ j:Nat,j≤8∧i=.int .i64 j∧s=.int .u32 (bitsC j X:Nat)∧wr=wo) (fun _ i _=>8 - (intOf i).toNat)
   case atStart=>exact ⟨0,by omega,rfl,rfl,rfl⟩
   case round =>
    obtain ⟨j,hj,rfl,rfl,rfl⟩:=hrel
    have hlY:=bitsC_lt hlX j
    by_cases hj8:j < 8
    ·have HO:=Lib.hid (@bitsC_odd X j);have HE:=Lib.hid (@bitsC_even X j)
     generalize bitsC j X=Y at *
     have hlY2:Y / 2 < 4294967296:=by omega
     have hx2:bits .xor .u32 ((Y:Int) / 2) 3988292384=(((Y / 2) ^^^ 3988292384:Nat):Int):=by rw [show (Y:Int) / 2=((Y / 2:Nat):Int) by omega];exact u32_xor_nat (Y / 2) 3988292384 hlY2 (by omega)
     by_cases hod:Y % 2=1
     ·go_wp2
      go_roundw
      case rel =>
       refine ⟨j+1,by omega,by go_num,?_,by first | rfl | trivial⟩
       rw [HO.out hod]
       try rfl
      case measure=>simp [intOf];omega
     ·go_wp2
      go_roundw
      case rel =>
       refine ⟨j+1,by omega,by go_num,?_,by first | rfl | trivial⟩
       rw [HE.out hod]
       try rfl
      case measure=>simp [intOf];omega
    ·have hj8':j=8:=by omega
     subst hj8'
     go_wp2
     go_roundw
     case rel=>exact ⟨k+1,n,by omega,by go_num,by rw [HN.out],HWO.out⟩
     case measure=>simp [intOf];omega
  ·have hkl:k=l.length:=by omega
   have HC:Hid (crc l=4294967295 - V):=Lib.hid (by rw [hV,hkl,List.take_length];rfl)
   clear hV hkl
   go_wp2
   go_ret
   refine ⟨?_,n,rfl⟩
   rw [HC.out,show ((4294967295 - V:Nat):Int)=4294967295 - (V:Int) by omega]
   rfl
theorem runC_flat (v:Nat) (ls:List (List UInt8)) (k:Nat) (hk:k < ls.length):runC v (ls.take (k+1)).flatten=runC (runC v (ls.take k).flatten) (ls.getD k []):=by
 rw [flat_succ ls k hk,runC_append]
set_option maxRecDepth 20000 in
set_option maxHeartbeats 4000000 in
theorem sum_any (v:Value) (ls:List (List UInt8)) (w:World) (h:RowsAt (· < w.heap.size) w v ls) :
  Calls Tryz.prog 89 #[v] w fun e w'=>e=.returned (.int .u32 (crc ls.flatten:Nat))∧∃ n,w'=w.drewN n:=by
 obtain ⟨vs,hvl,⟨A,c,rfl,hvc,hvm,hva⟩,hve⟩:=h
 have hvm':c≤9223372036854775807:=by simpa [maxLen] using hvm
 have HVA:=Lib.hid hva;have HVE:=Lib.hid hve;have HVL:=Lib.hid hvl
 clear hva hve hvl hvm
 go_enter Tryz.func89,Tryz.ntmps89
 go_wp2
 go_loopw [3,10] (fun s i wr=>∃ k n:Nat,k≤vs.length∧i=.int .i64 k∧s=.int .u32 (runC 4294967295 (ls.take k).flatten:Nat)∧wr=w.drewN n) (fun _ i _=>vs.length - (intOf i).toNat)
 case atStart=>exact ⟨0,0,by omega,rfl,rfl,rfl⟩
 case round =>
  obtain ⟨k,n,hk,rfl,rfl,rfl⟩:=hrel
  have hlU:=runC_lt (v:=4294967295) (by omega) (ls.take k).flatten
  by_cases hlt:k < vs.length
  ·obtain ⟨b,off,rfl,hb,hcell⟩:=HVA.out (by omega)
   replace hcell:=hcell k hlt
   have hvk:=HVE.out k (by rw [←HVL.out];exact hlt)
   have HRF:=Lib.hid (runC_flat 4294967295 ls k (by rw [←HVL.out];exact hlt))
   rw [List.getElem?_eq_getElem hlt] at hcell
   rw [show vs.getD k (.bool false)=vs[k] by simp [List.getD_eq_getElem?_getD,hlt]] at hvk
   generalize vs[k]=u at *
   generalize ls.getD k []=l at *
   generalize runC 4294967295 (ls.take k).flatten=U at *
   have hvk':Seg w w.heap.size u (byteCells l):=hvk
   obtain ⟨A2,c2,rfl,hc2,hm2,hat⟩:=hvk'.open_bytes
   have HAT:=Lib.hid hat;clear hat hvk hvk'
   go_wp2
   clear hcell
   go_loopw [3,16] (fun s i wr=>∃ m p:Nat,m≤l.length∧i=.int .i64 m∧s=.int .u32 (runC U (l.take m):Nat)∧wr=w.drewN p) (fun _ i _=>l.length - (intOf i).toNat)
   case atStart=>exact ⟨0,n,by omega,rfl,rfl,rfl⟩
   case round =>
    obtain ⟨m,q,hmk,rfl,rfl,rfl⟩:=hrel
    have hlv:=runC_lt hlU (l.take m)
    obtain ⟨V,hV⟩:∃ V,V=runC U (l.take m):=⟨_,rfl⟩
    rw [←hV] at hlv
    rw [←hV]
    by_cases hml:m < l.length
    ·obtain ⟨b2,off2,x,rfl,hb2,hcell,hx,Hx⟩:=HAT.out.byte hml
     have hx1:bits .xor .u32 (V:Int) (x:Int)=((V ^^^ x:Nat):Int):=u32_xor_nat V x hlv (by omega)
     have hlX:V ^^^ x < 4294967296:=xor_lt32 hlv (by omega)
     have HN:Hid (runC U (l.take (m+1))=bitsC 8 (V ^^^ x)):=Lib.hid (by rw [hV];exact take_byte l m x hml Hx.out _)
     clear hV
     go_wp2
     clear hx1 hcell
     generalize V ^^^ x=X at *
     obtain ⟨wo,hwo⟩:∃ wo:World,wo=w.drewN q:=⟨_,rfl⟩
     rw [←hwo]
     have HWO:=Lib.hid hwo;clear hwo
     go_loopw [3,24] (fun s i wr=>∃ j:Nat,j≤8∧i=.int .i64 j∧s=.int .u32 (bitsC j X:Nat)∧wr=wo) (fun _ i _=>8 - (intOf i).toNat)
     case atStart=>exact ⟨0,by omega,rfl,rfl,rfl⟩
     case round =>
      obtain ⟨j,hj,rfl,rfl,rfl⟩:=hrel
      have hlY:=bitsC_lt hlX j
      by_cases hj8:j < 8
      ·have HO:=Lib.hid (@bitsC_odd X j);have HE:=Lib.hid (@bitsC_even X j)
       generalize bitsC j X=Y at *
       have hlY2:Y / 2 < 4294967296:=by omega
       have hx2:bits .xor .u32 ((Y:Int) / 2) 3988292384=(((Y / 2) ^^^ 3988292384:Nat):Int):=by rw [show (Y:Int) / 2=((Y / 2:Nat):Int) by omega];exact u32_xor_nat (Y / 2) 3988292384 hlY2 (by omega)
       have hx3:bits .and .u32 (Y:Int) 1=((Y % 2:Nat):Int):=by rw [←nat_mask1];exact u32_and_nat Y 1 hlY (by omega)
       by_cases hod:Y % 2=1
       ·go_wp2
        go_roundw
        case rel =>
         refine ⟨j+1,by omega,by go_num,?_,by first | rfl | trivial⟩
         rw [HO.out hod]
         try rfl
        case measure=>simp [intOf];omega
       ·go_wp2
        go_roundw
        case rel =>
         refine ⟨j+1,by omega,by go_num,?_,by first | rfl | trivial⟩
         rw [HE.out hod]
         try rfl
        case measure=>simp [intOf];omega
      ·have hj8':j=8:=by omega
       subst hj8'
       go_wp2
       go_roundw
       case rel=>exact ⟨m+1,q,by omega,by go_num,by rw [HN.out],HWO.out⟩
       case measure=>simp [intOf];omega
    ·have hml':m=l.length:=by omega
     have HV2:Hid (runC U l=V):=Lib.hid (by rw [hV,hml',List.take_length])
     clear hV
     go_wp2
     go_roundw
     case rel=>exact ⟨k+1,q,by omega,by go_num,by rw [HRF.out,HV2.out],rfl⟩
     case measure=>simp [intOf];omega
  ·have hkl:k=vs.length:=by omega
   obtain ⟨V,hV⟩:∃ V,V=runC 4294967295 (ls.take k).flatten:=⟨_,rfl⟩
   rw [←hV] at hlU
   rw [←hV]
   have HC:Hid (crc ls.flatten=4294967295 - V):=Lib.hid (by rw [hV,hkl,HVL.out,List.take_length];rfl)
   clear hV hkl
   have hx4:=u32_flip V hlU
   go_wp2
   go_ret
   refine ⟨?_,n,rfl⟩
   rw [HC.out,show ((4294967295 - V:Nat):Int)=4294967295 - (V:Int) by omega]
   try rfl
end Go.Proofs.YtaalbcfpacpgfaaGreat
namespace Go.Par
def be4 (n:Nat):List UInt8:=[(n / 16777216 % 256).toUInt8,(n / 65536 % 256).toUInt8,(n / 256 % 256).toUInt8,(n % 256).toUInt8]
theorem be4_length (n:Nat):(be4 n).length=4:=rfl
def num4 (l:List UInt8):Nat:=(l.getD 0 0).toNat * 16777216+(l.getD 1 0).toNat * 65536+(l.getD 2 0).toNat * 256+(l.getD 3 0).toNat
theorem num4_lt (l:List UInt8):num4 l < 4294967296:=by
 unfold num4
 have h0:=(l.getD 0 0).toNat_lt;have h1:=(l.getD 1 0).toNat_lt;have h2:=(l.getD 2 0).toNat_lt;have h3:=(l.getD 3 0).toNat_lt
 omega
theorem u8_mod (n:Nat):((n % 256).toUInt8).toNat=n % 256:=by simp [Nat.toUInt8,UInt8.toNat_ofNat']
theorem num4_be4 (n:Nat) (h:n < 4294967296) (r:List UInt8):num4 (be4 n ++ r)=n:=by
 unfold num4 be4
 simp
 omega
end Go.Par
namespace Go.Proofs.YtaalbcfpacpgfaaGreat
open Go.RowKit Go.Lib Go.Vfs Go.Par
set_option maxRecDepth 20000 in
set_option maxHeartbeats 1000000 in
theorem number_any (n:Nat) (hn:n < 4294967296) (w:World) :
  Calls Tryz.prog 88 #[.int .u32 (n:Nat)] w fun e w'=>∃ A c,e=.returned (.slice A 4 c)∧Par.Own w' w.heap.size 5 (.slice A 4 c) (byteCells (be4 n))∧Below w.heap.size w w':=by
 go_enter Tryz.func88,Tryz.ntmps88
 go_wp2
 go_ret
 have hbc:byteCells (be4 n)=[.int .u8 ((n:Int) / 16777216),.int .u8 ((n:Int) / 65536 % 256),.int .u8 ((n:Int) / 256 % 256),.int .u8 ((n:Int) % 256)]:=by
  unfold byteCells be4
  simp only [List.map_cons,List.map_nil,u8_mod]
  rw [show n / 16777216 % 256=n / 16777216 by omega]
  rfl
 refine ⟨some ⟨w.heap.size,0,none⟩,4,rfl,?_,box_below w _⟩
 rw [hbc]
 exact Par.Own.new w w.heap.size 5 _ _ rfl (Nat.le_refl _) (by simp [maxLen])
theorem or_nat32 (i x y:Nat) (hi:i < 32) (hx:x % 2 ^ i=0) (hy:y < 2 ^ i) (hl:x < 4294967296):bits .or .u32 (x:Int) (y:Int)=((x+y:Nat):Int):=by
 have h32:(2:Nat) ^ i≤2 ^ 32:=Nat.pow_le_pow_right (by omega) (by omega)
 rw [u32_or_nat x y hl (by omega),nat_join i x y hx hy]
theorem or4 (x0 x1 x2 x3:Nat) (h0:x0 < 256) (h1:x1 < 256) (h2:x2 < 256) (h3:x3 < 256) :
  bits .or .u32 (bits .or .u32 (bits .or .u32 ((x0:Int) * 16777216) ((x1:Int) * 65536)) ((x2:Int) * 256)) (x3:Int)=((x0 * 16777216+x1 * 65536+x2 * 256+x3:Nat):Int):=by
 rw [show (x0:Int) * 16777216=((x0 * 16777216:Nat):Int) by omega,show (x1:Int) * 65536=((x1 * 65536:Nat):Int) by omega,show (x2:Int) * 256=((x2 * 256:Nat):Int) by omega]
 rw [or_nat32 24 _ _ (by omega) (by omega) (by omega) (by omega),or_nat32 16 _ _ (by omega) (by omega) (by omega) (by omega),or_nat32 8 _ _ (by omega) (by omega) (by omega) (by omega)]
set_option maxRecDepth 20000 in
set_option maxHeartbeats 1000000 in
theorem value_any (v:Value) (l:List UInt8) (B:Nat) (w:World) (hsg:Seg w B v (byteCells l)) (hl:4≤l.length) :
  Calls Tryz.prog 83 #[v] w fun e w'=>e=.returned (.int .u32 (num4 l:Nat))∧∃ n,w'=w.drewN n:=by
 obtain ⟨A,c,rfl,hc,hm,hat⟩:=hsg.open_bytes
 obtain ⟨b,off,x0,rfl,hb,hc0,hx0,Hx0⟩:=hat.byte (show 0 < l.length by omega)
 obtain ⟨_,_,x1,h1,-,hc1,hx1,Hx1⟩:=hat.byte (show 1 < l.length by omega)
 cases h1
 obtain ⟨_,_,x2,h2,-,hc2,hx2,Hx2⟩:=hat.byte (show 2 < l.length by omega)
 cases h2
 obtain ⟨_,_,x3,h3,-,hc3,hx3,Hx3⟩:=hat.byte (show 3 < l.length by omega)
 cases h3
 clear hat hsg
 have g0:0 < l.length:=by omega
 have g1:1 < l.length:=by omega
 have g2:2 < l.length:=by omega
 have g3:3 < l.length:=by omega
 simp only [Nat.add_zero] at hc0
 go_enter Tryz.func83,Tryz.ntmps83
 go_wp2
 go_quiet (fail)
 go_wp2
 go_ret
 refine ⟨?_,nq,rfl⟩
 have e:num4 l=x0 * 16777216+x1 * 65536+x2 * 256+x3:=by unfold num4;rw [Hx0.out,Hx1.out,Hx2.out,Hx3.out]
 rw [e,←or4 x0 x1 x2 x3 hx0 hx1 hx2 hx3]
 rfl
def frameB (gen:Nat) (p:List UInt8):List UInt8:=be4 gen ++ be4 p.length ++ be4 (crc (be4 gen ++ be4 p.length ++ p)) ++ p
theorem frameB_length (gen:Nat) (p:List UInt8):(frameB gen p).length=12+p.length:=by unfold frameB;simp [be4_length];omega
set_option maxRecDepth 20000 in
set_option maxHeartbeats 1000000 in
theorem grow_any (n:Nat) (hn:n≤2147483648) (w:World) :
  Calls Tryz.prog 124 #[.slice none 0 0,.int .i64 (n:Nat)] w fun e w'=>∃ A c,e=.returned (.slice A 0 c)∧Par.Own w' w.heap.size 5 (.slice A 0 c) []∧Below w.heap.size w w':=by
 by_cases h0:n=0
 ·subst h0
  go_enter Tryz.func124,Tryz.ntmps124
  go_wp2
  go_ret
  exact ⟨none,0,rfl,Par.Own.nil _ _ _,Below.refl _ _⟩
 ·obtain ⟨i,bytes,hi,hz,hsz,hby,hbb⟩:=byteE.info
  have hr:=Lib.run_append_nil_zeros (P:=Tryz.prog) w 24 3 24 5 i (.int .u8 0) .i64 .i64 Tryz.underlying24 Tryz.underlying3 hi hz n (by omega) (by omega) (by omega) (Nat.le_trans (Nat.mul_le_mul hn (by omega:i.bytes≤64)) (by decide))
  have hge:=grownCap_ge w n 0 5
  have hle:=grownCap_le_maxLen w n 0 5 (by unfold maxLen;omega)
  have hp:(0:Int) < (n:Int):=by omega
  have hsl0:=fun w'=>slice_front none 0 0 0 w' (Nat.le_refl _)
  have hzl:(Builtin.zeroCells (Value.int IntKind.u8 0).cells n ++ Builtin.zeroCells (Value.int IntKind.u8 0).cells (grownCap w n 0 5 - n)).size=grownCap w n 0 5:=by
   have hz1:(Value.int IntKind.u8 0).cells.size=1:=rfl
   simp only [Array.size_append,size_zeroCells,hz1]
   omega
  have HO:Hid (∀ A c,A=some ⟨w.heap.size,0,none⟩→c=grownCap w n 0 5→Par.Own (w.drew.alloc (.cells (Builtin.zeroCells (Value.int IntKind.u8 0).cells n ++ Builtin.zeroCells (Value.int IntKind.u8 0).cells (grownCap w n 0 5 - n)) 5)) w.heap.size 5 (.slice A 0 c) []):=Lib.hid (by
   rintro A c rfl rfl
   exact ⟨rfl,.inr ⟨w.heap.size,_,_,rfl,Nat.le_refl _,heap_alloc_new w.drew _,Nat.zero_le _,hle,by rw [hzl];omega,by simp⟩⟩)
  generalize hX:Builtin.zeroCells (Value.int IntKind.u8 0).cells n ++ Builtin.zeroCells (Value.int IntKind.u8 0).cells (grownCap w n 0 5 - n)=X at *
  generalize hG:grownCap w n 0 5=G at *
  have hsl1:=fun w'=>slice_front (some ⟨w.heap.size,0,none⟩) n G 0 w' (Nat.zero_le _)
  simp only [Int.natCast_zero] at hsl0 hsl1
  clear hX hG hzl hge hle h0 hi hz hsz hby
  go_enter Tryz.func124,Tryz.ntmps124
  go_wp2_with (at_builtin;refine Lib.wpList_append_run _ rfl _ _ _ _ rfl _ _ rfl rfl _ _ hr ?_)
  clear hr
  go_wp2
  go_ret
  exact ⟨_,_,rfl,HO.out _ _ rfl rfl,((Below.refl _ w).drew).alloc (Nat.le_refl _) _⟩
theorem RowsAt.open_ {w:World} {v:Value} {ls:List (List UInt8)} (h:RowsAt (· < w.heap.size) w v ls):∃ A c,v=.slice A ls.length c∧ls.length≤c∧c≤9223372036854775807 ∧
  Hid (∀ (W:World),Below w.heap.size w W→∀ k,k < ls.length→∃ b off Ak ck,A=some ⟨b,off,none⟩∧b < w.heap.size∧W.cell? ⟨b,off+k,none⟩=some (.slice Ak (ls.getD k []).length ck)∧Seg W w.heap.size (.slice Ak (ls.getD k []).length ck) (byteCells (ls.getD k []))):=by
 obtain ⟨vs,hvl,⟨A,c,rfl,hvc,hvm,hva⟩,hve⟩:=h
 refine ⟨A,c,by rw [hvl],by omega,by simpa [maxLen] using hvm,Lib.hid fun W hb k hk=>?_⟩
 obtain ⟨b,off,rfl,hbb,hcell⟩:=hva (by omega)
 have hvk:Seg W w.heap.size (vs.getD k (.bool false)) (byteCells (ls.getD k [])):=Seg.below (B:=w.heap.size) (hve k hk) hb
 obtain ⟨Ak,ck,hf,-⟩:=hvk.open_bytes
 refine ⟨b,off,Ak,ck,rfl,hbb,?_,by rw [←hf];exact hvk⟩
 rw [hb.cell (p:=⟨b,off+k,none⟩) hbb,hcell k (by omega),←hf,List.getD_eq_getElem?_getD,List.getElem?_eq_getElem (by omega)]
 rfl
set_option maxRecDepth 20000 in
set_option maxHeartbeats 2000000 in
theorem concat_any (v:Value) (ls:List (List UInt8)) (w:World) (h:RowsAt (· < w.heap.size) w v ls) (hl:ls.flatten.length≤1000000) :
  Calls Tryz.prog 90 #[v] w fun e w'=>∃ A c,e=.returned (.slice A ls.flatten.length c)∧Par.Own w' w.heap.size 5 (.slice A ls.flatten.length c) (byteCells ls.flatten)∧Below w.heap.size w w':=by
 obtain ⟨A,c,rfl,hc,hm,HR⟩:=h.open_
 clear h
 go_enter Tryz.func90,Tryz.ntmps90
 go_wp2
 go_loopw [3,11] (fun s i wr=>∃ k:Nat,k≤ls.length∧i=.int .i64 k∧s=.int .i64 (((ls.take k).flatten).length:Nat)∧wr=w) (fun _ i _=>ls.length - (intOf i).toNat)
 case atStart=>exact ⟨0,by omega,rfl,rfl,rfl⟩
 case round =>
  obtain ⟨k,hk,rfl,rfl,rfl⟩:=hrel
  by_cases hlt:k < ls.length
  ·obtain ⟨b,off,Ak,ck,rfl,hb,hcell,-⟩:=HR.out wr (Below.refl _ _) k hlt
   have HF:=Lib.hid (flat_succ ls k hlt)
   have hle:=flat_le ls k hlt
   generalize (ls.take k).flatten=D at *
   generalize ls.getD k []=L at *
   have hnn:¬ (D.length:Int)+(L.length:Int) < 0:=by omega
   go_wp2
   go_roundw
   case rel=>exact ⟨k+1,by omega,by go_num,by rw [HF.out,List.length_append];go_num,by first | rfl | trivial⟩
   case measure=>simp [intOf];omega
  ·have hkl:k=ls.length:=by omega
   have HN:Hid ((ls.take k).flatten.length=ls.flatten.length):=Lib.hid (by rw [hkl,List.take_length])
   rw [HN.out]
   clear hkl
   obtain ⟨wo,rfl⟩:∃ wo:World,wo=wr:=⟨_,rfl⟩
   generalize hNL:ls.flatten.length=N at *
   have HNL:=Lib.hid hNL;clear hNL
   go_wp2_with fail
   refine (grow_any N (by omega) wo).mono ?_
   rintro e w1 ⟨A1,c1,rfl,hu1,hb1⟩
   have HU1:=Lib.hid hu1;have HB1:=Lib.hid hb1
   clear hu1 hb1 HN
   go_wp2
   go_loopw [6,27] (fun s i wx=>∃ k:Nat,k≤ls.length∧i=.int .i64 k∧Hid (Par.Own wx wo.heap.size 5 s (byteCells (ls.take k).flatten))∧Hid (Below wo.heap.size wo wx)) (fun _ i _=>ls.length - (intOf i).toNat)
   case atStart=>exact ⟨0,by omega,rfl,HU1,HB1⟩
   case round =>
    obtain ⟨m,hmk,rfl,HU,HB⟩:=hrel
    by_cases hlm:m < ls.length
    ·obtain ⟨b,off,Ak,ck,rfl,hb,hcell,hseg⟩:=HR.out _ HB.out m hlm
     have HF:=Lib.hid (flat_succ ls m hlm)
     have hle:=flat_le ls m hlm
     generalize (ls.take m).flatten=D at *
     generalize ls.getD m []=L at *
     have hown:=HU.out
     have hz:=HB.out.size
     obtain ⟨As,cs,hf⟩:=hown.form
     rw [byteCells_length] at hf
     subst hf
     go_wp2_with (at_builtin;refine wpList_app _ rfl _ _ _ rfl wo.heap.size 5 _ byteE _ _ rfl hown _ _ _ rfl hseg (one_bytes _) ?c1 ?c2 ?_)
     case c1=>rw [byteCells_length,byteCells_length];have:=HNL.out;omega
     case c2=>exact hz
     intro v3 w3 hown4 hg3 hat3
     have HB3:=Lib.hid (below_app HB.out hown hg3 hz)
     rw [←byteCells_append,←HF.out] at hown4
     have HU3:=Lib.hid hown4
     clear hown4 hg3 hat3 hown hseg hcell HU
     go_wp2
     go_roundw
     case rel=>exact ⟨m+1,by omega,by go_num,HU3,HB3⟩
     case measure=>simp [intOf];omega
    ·have hml:m=ls.length:=by omega
     have hU:=HU.out
     rw [hml,List.take_length] at hU
     obtain ⟨As,cs,hf⟩:=hU.form
     rw [byteCells_length] at hf
     have HU2:=Lib.hid hU
     clear hU HU hml
     subst hf
     go_wp2
     go_ret
     exact ⟨_,_,rfl,HU2.out,HB.out⟩
theorem RowsAt.fresh (w:World) (us:List Value) (cs:Array Value) (hcs:cs=us.toArray) (ls:List (List UInt8)) (hl:us.length=ls.length) (hs:∀ i,i < ls.length→Seg w w.heap.size (us.getD i (.bool false)) (byteCells (ls.getD i []))) (hm:us.length≤1000) :
  RowsAt (· < (w.alloc (.cells cs 24)).heap.size) (w.alloc (.cells cs 24)) (.slice (some ⟨w.heap.size,0,none⟩) ls.length ls.length) ls:=by
 have hb:=box_below w (.cells cs 24)
 refine ⟨us,hl,?_,fun i hi=>?_⟩
 ·have:=Seg.new w 24 cs us hcs (by unfold maxLen;omega)
  rw [hl] at this
  rw [World.size_alloc]
  exact this
 ·have:=((hs i hi).below hb).more hb.size
  exact this
set_option maxRecDepth 20000 in
set_option maxHeartbeats 2000000 in
theorem framed_any (gen:Nat) (hg:gen < 4294967296) (v:Value) (p:List UInt8) (w:World) (h:Seg w w.heap.size v (byteCells p)) (hp:p.length≤900000) :
  Calls Tryz.prog 47 #[.int .u32 (gen:Nat),v] w fun e w'=>∃ A c,e=.returned (.slice A (frameB gen p).length c)∧Par.Own w' w.heap.size 5 (.slice A (frameB gen p).length c) (byteCells (frameB gen p))∧Below w.heap.size w w':=by
 obtain ⟨A,c,rfl,hc,hm,-⟩:=h.open_bytes
 have H:=Lib.hid h;clear h
 go_enter Tryz.func47,Tryz.ntmps47
 go_wp2_with fail
 refine (number_any p.length (by omega) w).mono ?_
 rintro e w1 ⟨A1,c1,rfl,hu1,hb1⟩
 have S1:=Lib.hid (Own.seg hu1);have B1:=Lib.hid hb1
 clear hu1 hb1
 go_wp2_with fail
 refine (number_any gen hg w1).mono ?_
 rintro e w2 ⟨A2,c2,rfl,hu2,hb2⟩
 have S2:=Lib.hid (Own.seg hu2);have B2:=Lib.hid hb2
 have S12:=Lib.hid ((S1.out.below hb2).more hb2.size)
 have B02:=Lib.hid (B1.out.trans (hb2.mono B1.out.size))
 have P2:=Lib.hid ((H.out.below B02.out).more B02.out.size)
 clear hu2 hb2 S1 B1
 have R2:=Lib.hid (RowsAt.fresh w2 [.slice A2 4 c2,.slice A1 4 c1,.slice A p.length c] #[.slice A2 4 c2,.slice A1 4 c1,.slice A p.length c] rfl [be4 gen,be4 p.length,p] rfl (fun i hi=>by
  simp at hi
  rcases (show i=0∨i=1∨i=2 by omega) with rfl|rfl|rfl
  ·exact S2.out
  ·exact S12.out
  ·exact P2.out) (by simp))
 go_wp2_with fail
 refine (sum_any _ _ _ R2.out).mono ?_
 rintro e w3 ⟨rfl,n3,rfl⟩
 have hfl:[be4 gen,be4 p.length,p].flatten=be4 gen ++ be4 p.length ++ p:=by simp
 rw [hfl]
 clear hfl R2
 have hcl:=crc_lt (be4 gen ++ be4 p.length ++ p)
 have HFB:Hid (frameB gen p=[be4 gen,be4 p.length,be4 (crc (be4 gen ++ be4 p.length ++ p)),p].flatten):=Lib.hid (by unfold frameB;simp)
 generalize crc (be4 gen ++ be4 p.length ++ p)=C at *
 obtain ⟨w3,hw3⟩:∃ w3,w3=(w2.alloc (.cells #[.slice A2 4 c2,.slice A1 4 c1,.slice A p.length c] 24)).drewN n3:=⟨_,rfl⟩
 have b23:Below w2.heap.size w2 w3:=by rw [hw3];exact below_drewN (box_below w2 _) n3
 rw [←hw3]
 clear hw3
 go_wp2_with fail
 refine (number_any C hcl w3).mono ?_
 rintro e w4 ⟨A4,c4,rfl,hu4,hb4⟩
 have S4:=Lib.hid (Own.seg hu4)
 have hb24:=b23.trans (hb4.mono b23.size)
 have B04:=Lib.hid (B02.out.trans (hb24.mono B02.out.size))
 have R4:=Lib.hid (RowsAt.fresh w4 [.slice A2 4 c2,.slice A1 4 c1,.slice A4 4 c4,.slice A p.length c] #[.slice A2 4 c2,.slice A1 4 c1,.slice A4 4 c4,.slice A p.length c] rfl [be4 gen,be4 p.length,be4 C,p] rfl (fun i hi=>by
  simp at hi
  rcases (show i=0∨i=1∨i=2∨i=3 by omega) with rfl|rfl|rfl|rfl
  ·exact (S2.out.below hb24).more hb24.size
  ·exact (S12.out.below hb24).more hb24.size
  ·exact S4.out
  ·exact (P2.out.below hb24).more hb24.size) (by simp))
 clear hu4 hb4 hb24 b23 S2 S12 P2 S4
 have HL:Hid ([be4 gen,be4 p.length,be4 C,p].flatten.length≤1000000):=Lib.hid (by simp [be4_length];omega)
 go_wp2_with fail
 refine (concat_any _ _ _ R4.out HL.out).mono ?_
 rintro e w5 ⟨A5,c5,rfl,hu5,hb5⟩
 rw [←HFB.out] at hu5 ⊢
 have HU5:=Lib.hid hu5
 have B05:=Lib.hid (B04.out.trans (((box_below w4 _).trans (hb5.mono (box_below w4 (.cells #[.slice A2 4 c2,.slice A1 4 c1,.slice A4 4 c4,.slice A p.length c] 24)).size)).mono B04.out.size))
 have hz5:=B04.out.size
 clear hu5 hb5 R4 HL
 go_wp2
 go_ret
 exact ⟨_,_,rfl,HU5.out.base (by simp;omega),B05.out⟩
def IdxPost (w:World) (xs:List (List UInt8)) (s:List UInt8) (e:Ending) (w':World):Prop:=∃ (i:Int) (n:Nat),e=.returned (.int .i64 i)∧decide (0≤i)=decide (s∈xs)∧w'=w.drewN n
set_option maxRecDepth 20000 in
set_option maxHeartbeats 1000000 in
theorem index_any (v:Value) (xs:List (List UInt8)) (B:Nat) (w:World) (h:Seg w B v (strs xs)) (s:List UInt8) :
  Calls Tryz.prog 122 #[v,.string ⟨s.toArray⟩] w (IdxPost w xs s):=by
 obtain ⟨A,c,rfl,hc,hm,ha⟩:=Seg.open_strs h
 have HA:=Lib.hid ha;clear ha h
 go_enter Tryz.func122,Tryz.ntmps122
 go_wp2
 go_loopw [8] (fun i wr=>∃ k n:Nat,k≤xs.length∧i=.int .i64 k∧Hid (∀ j,j < k→xs.getD j []≠s)∧wr=w.drewN n) (fun i _=>xs.length - (intOf i).toNat)
 case atStart=>exact ⟨0,0,by omega,rfl,Lib.hid (fun j hj=>by omega),rfl⟩
 case round =>
  obtain ⟨k,n,hk,rfl,HN,rfl⟩:=hrel
  by_cases hlt:k < xs.length
  ·obtain ⟨b,off,x,rfl,hb,hc1,Hx⟩:=At.str HA.out hlt
   by_cases he:s=x
   ·subst he
    go_wp2
    go_ret
    refine ⟨k,n,rfl,?_,rfl⟩
    rw [decide_eq_true (by omega),decide_eq_true]
    rw [←Hx.out,List.getD_eq_getElem?_getD,List.getElem?_eq_getElem hlt]
    exact List.getElem_mem hlt
   ·have hbe:(s == x)=false:=beq_eq_false_iff_ne.2 he
    have He:=Lib.hid he;clear he
    go_wp2
    go_roundw
    case rel=>exact ⟨k+1,n,by omega,by go_num,Lib.hid (fun j hj=>by
     by_cases hjk:j < k
     ·exact HN.out j hjk
     ·have:j=k:=by omega
      subst this
      rw [Hx.out];exact fun e=>He.out e.symm),by first | rfl | trivial⟩
    case measure=>simp [intOf];omega
  ·go_wp2
   go_ret
   refine ⟨-1,n,rfl,?_,rfl⟩
   rw [decide_eq_false (by omega),decide_eq_false]
   intro hs
   obtain ⟨j,hj,e⟩:=List.getElem_of_mem hs
   exact HN.out j (by omega) (by rw [List.getD_eq_getElem?_getD,List.getElem?_eq_getElem hj];exact e)
set_option maxRecDepth 20000 in
theorem contains_any (v:Value) (xs:List (List UInt8)) (B:Nat) (w:World) (h:Seg w B v (strs xs)) (s:List UInt8) :
  Calls Tryz.prog 78 #[v,.string ⟨s.toArray⟩] w fun e w'=>e=.returned (.bool (decide (s∈xs)))∧∃ n,w'=w.drewN n:=by
 have hi:=index_any v xs B w h s
 obtain ⟨A,c,rfl,hc,hm,ha⟩:=Seg.open_strs h
 have HI:=Lib.hid hi;clear hi ha h
 go_enter Tryz.func78,Tryz.ntmps78
 go_wp2_with fail
 refine HI.out.mono ?_
 rintro e w2 ⟨i,n,rfl,hd,rfl⟩
 have HD:=Lib.hid hd;clear hd
 go_wp2
 go_ret
 exact ⟨by rw [←HD.out];rfl,n,rfl⟩
def hasF (fs:List File) (s:List UInt8):Bool:=decide (s∈fs.map File.name)
theorem hasF_find (fs:List File) (s:List UInt8):hasF fs s=(findL File.name s fs).isSome:=by
 unfold hasF
 cases hf:findL File.name s fs with
 | none =>
  have:=findL_none hf
  simp
  exact fun x hx e=>this x hx e
 | some f =>
  obtain ⟨h1,h2⟩:=findL_some hf
  simp
  exact ⟨f,h1,h2⟩
set_option maxRecDepth 20000 in
set_option maxHeartbeats 1000000 in
theorem has_any (w:World) (p:Nat) (st:St) (F:Nat→Prop) (h:Fsy w p st F) (hfl:st.files.length≤100000) (hnl:∀ f∈st.files,f.name.length≤100000) (s:List UInt8) :
  Calls Tryz.prog 41 #[.pointer (some ⟨p,0,none⟩),.string ⟨s.toArray⟩] w fun e w'=>e=.returned (.bool (hasF st.files s))∧Below w.heap.size w w':=by
 have hn:=names_any w p st F h hfl hnl
 have HN:=Lib.hid hn;clear hn h
 go_enter Tryz.func41,Tryz.ntmps41
 go_wp2_with fail
 refine HN.out.mono ?_
 rintro e w2 ⟨v2,rfl,hv2,hb2⟩
 have hct:=contains_any v2 _ _ w2 (Own.seg hv2) s
 rw [show decide (s∈st.files.map File.name)=hasF st.files s from rfl] at hct
 obtain ⟨r,hr⟩:∃ r,r=hasF st.files s:=⟨_,rfl⟩
 rw [←hr] at hct
 have HRR:=Lib.hid hr;clear hr
 obtain ⟨A2,c2,hf2⟩:=hv2.form
 have HC:=Lib.hid hct;have HB:=Lib.hid hb2
 clear hct hb2 hv2
 subst hf2
 go_wp2_with fail
 refine HC.out.mono ?_
 rintro e w3 ⟨rfl,n3,rfl⟩
 go_wp2
 go_ret
 exact ⟨by rw [←HRR.out];rfl,below_drewN HB.out n3⟩
set_option maxRecDepth 20000 in
set_option maxHeartbeats 400000 in
theorem clone_none (c:Nat) (w:World):Calls Tryz.prog 48 #[.slice none 0 c] w fun e w'=>e=.returned (.slice none 0 0)∧w=w':=by
 have hnil:=fun (W:World)=>Lib.run_eql_slice_nil (P:=Tryz.prog) W 24 5 none 0 c 0 0 Tryz.underlying24
 go_enter Tryz.func48,Tryz.ntmps48
 go_wp2
 go_ret
 exact ⟨rfl,rfl⟩
theorem clone_seg (v:Value) (l:List UInt8) (w:World) (h:Seg w w.heap.size v (byteCells l)) (hl:l.length≤2147483648) :
  Calls Tryz.prog 48 #[v] w fun e w'=>∃ u,e=.returned u∧Par.Own w' w.heap.size 5 u (byteCells l)∧Below w.heap.size w w':=by
 obtain ⟨A,c,rfl,hc,hm,ha⟩:=h.open_bytes
 cases A with
 | none =>
  have h0:l=[]:=by
   cases l with
   | nil=>rfl
   | cons x l=>obtain ⟨b,off,e,-⟩:=ha 0 (by simp);cases e
  subst h0
  refine (clone_none c w).mono ?_
  rintro e w' ⟨rfl,rfl⟩
  exact ⟨_,rfl,Par.Own.nil _ _ _,Below.refl _ _⟩
 | some a=>exact clone_some a _ c l _ w h (Nat.le_refl _) hl
theorem Rowed.rows {w:World} {ls:List (List UInt8)} {v:Value} {us:List Value} {wr:World} (h:Rowed w ls ls.length v us wr):RowsAt (fun b=>w.heap.size≤b∧b < wr.heap.size) wr v ls:=by
 refine ⟨us,h.len,?_,fun i hi=>(h.cells i hi).keep fun b hb=>⟨⟨hb.1,hb.2.1⟩,rfl⟩⟩
 have:=Own.outS h.own (F:=fun k=>k < w.heap.size) (fun k hk=>hk)
 exact this.keep fun b hb=>⟨⟨by have:=hb.2;omega,hb.1⟩,rfl⟩
set_option maxRecDepth 20000 in
set_option maxHeartbeats 2000000 in
theorem copies_any (v:Value) (ls:List (List UInt8)) (w:World) (hsg:RowsAt (· < w.heap.size) w v ls) (hl:ls.length≤1048576) (hll:∀ l∈ls,l.length≤1000000) :
  Calls Tryz.prog 93 #[v] w fun e w'=>∃ u us,e=.returned u∧Rowed w ls ls.length u us w':=by
 obtain ⟨A,c,rfl,hc,hm,HR⟩:=hsg.open_
 have HLL:=Lib.hid hll;clear hll hsg
 have H0:Hid (Rowed w ls 0 (.slice none 0 0) [] w):=Lib.hid ⟨Below.refl _ _,rfl,Par.Own.nil _ _ _,fun i hi=>by omega⟩
 go_enter Tryz.func93,Tryz.ntmps93
 go_wp2
 go_loopw [3,8] (fun s i wr=>∃ (k:Nat) (us:List Value),k≤ls.length∧i=.int .i64 k∧Hid (Rowed w ls k s us wr)) (fun _ i _=>ls.length - (intOf i).toNat)
 case atStart=>exact ⟨0,[],by omega,rfl,H0⟩
 case round =>
  obtain ⟨k,us,hk,rfl,HRk⟩:=hrel
  obtain ⟨As,cs,hform⟩:=HRk.out.own.form
  rw [HRk.out.len] at hform
  subst hform
  have hz:=HRk.out.below.size
  by_cases hlt:k < ls.length
  ·obtain ⟨b,off,Au,cu,rfl,hb,hck,hsk⟩:=HR.out wr HRk.out.below k hlt
   have hL:(ls.getD k []).length≤1000000:=by
    rw [List.getD_eq_getElem?_getD,List.getElem?_eq_getElem hlt]
    exact HLL.out _ (List.getElem_mem hlt)
   generalize hLe:ls.getD k []=L at *
   have HLe:=Lib.hid hLe
   have HSK:=Lib.hid (hsk.more hz)
   clear hsk hLe
   go_wp2_with fail
   refine (clone_seg _ L wr HSK.out (by omega)).mono ?_
   rintro e w2 ⟨u2,rfl,hu2,hb2⟩
   have hown2:=(HRk.out.own.below hb2).alloc (.cells #[u2] 24)
   have hone:=one_slices (Own.outS hu2 (F:=fun _=>False) (fun _ h=>h.elim))
   have hsg2:=Seg.new w2 24 #[u2] [u2] rfl (by simp [maxLen])
   obtain ⟨A2,c2,hform2⟩:=hu2.form
   have HU2:=Lib.hid hu2;have HB2:=Lib.hid hb2
   have hz2:=hb2.size
   have hlen:=HRk.out.len
   clear hu2 hb2 HSK
   subst hform2
   go_wp2_with (at_builtin;refine wpList_app _ rfl _ _ _ rfl w.heap.size 24 _ rowE _ _ rfl hown2 _ _ _ rfl hsg2 (fun x hx=>by simp at hx;subst hx;exact hone) ?c1 ?c2 ?_)
   case c1=>simp;omega
   case c2=>simp;omega
   intro v3 w3 hown4 hg3 hat3
   have HN:=Lib.hid (HRk.out.next HB2.out (by rw [HLe.out];exact HU2.out) _ hown4 hg3 hat3)
   clear hown4 hg3 hat3 hlen
   obtain ⟨A3,c3,hform3⟩:=HN.out.own.form
   subst hform3
   clear HU2 HB2 hown2 hone hsg2 hck
   go_wp2
   go_roundw
   case rel=>exact ⟨k+1,_,by omega,by go_num,HN⟩
   case measure=>simp [intOf];omega
  ·have hkl:k=ls.length:=by omega
   have HKL:=Lib.hid hkl;clear hkl
   go_wp2
   go_ret
   refine ⟨_,us,rfl,?_⟩
   rw [←HKL.out]
   exact HKL.out ▸ HRk.out
end Go.Proofs.YtaalbcfpacpgfaaGreat
