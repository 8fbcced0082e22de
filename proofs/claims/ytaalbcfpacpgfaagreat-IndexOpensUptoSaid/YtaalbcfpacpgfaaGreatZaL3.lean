/- Texts L1 L2 L3 of the proof, joined. -/
import Derived.Test.YtaalbcfpacpgfaaGreatZaTA
set_option linter.unusedVariables false
set_option linter.unusedSimpArgs false
namespace Go.Typ
def whiteN (n:Nat):Bool:=decide (n=32∨n=9∨n=10∨n=13)
end Go.Typ
namespace Go.Proofs.YtaalbcfpacpgfaaGreat
open Go.RowKit Go.Lib Go.Vfs Go.Par Go.Typ
theorem r8small_any (x:Nat) (w:World):Calls Tryz.prog 195 #[.int .u8 x] w fun e w'=>e=.returned (.bool (smallN x))∧w'=w:=by
 by_cases h1:(97:Int)≤x
 ·by_cases h2:(x:Int)≤122
  ·have h:smallN x=true:=decide_eq_true (by omega)
   rw [h];clear h
   go_enter Tryz.func195,Tryz.ntmps195
   go_wp2
   go_ret
   exact ⟨rfl,rfl⟩
  ·have h:smallN x=false:=decide_eq_false (by omega)
   rw [h];clear h
   go_enter Tryz.func195,Tryz.ntmps195
   go_wp2
   go_ret
   exact ⟨rfl,rfl⟩
 ·have h:smallN x=false:=decide_eq_false (by omega)
  rw [h];clear h
  go_enter Tryz.func195,Tryz.ntmps195
  go_wp2
  go_ret
  exact ⟨rfl,rfl⟩
theorem r8great_any (x:Nat) (w:World):Calls Tryz.prog 196 #[.int .u8 x] w fun e w'=>e=.returned (.bool (greatN x))∧w'=w:=by
 by_cases h1:(65:Int)≤x
 ·by_cases h2:(x:Int)≤90
  ·have h:greatN x=true:=decide_eq_true (by omega)
   rw [h];clear h
   go_enter Tryz.func196,Tryz.ntmps196
   go_wp2
   go_ret
   exact ⟨rfl,rfl⟩
  ·have h:greatN x=false:=decide_eq_false (by omega)
   rw [h];clear h
   go_enter Tryz.func196,Tryz.ntmps196
   go_wp2
   go_ret
   exact ⟨rfl,rfl⟩
 ·have h:greatN x=false:=decide_eq_false (by omega)
  rw [h];clear h
  go_enter Tryz.func196,Tryz.ntmps196
  go_wp2
  go_ret
  exact ⟨rfl,rfl⟩
theorem r8digit_any (x:Nat) (w:World):Calls Tryz.prog 197 #[.int .u8 x] w fun e w'=>e=.returned (.bool (digitN x))∧w'=w:=by
 by_cases h1:(48:Int)≤x
 ·by_cases h2:(x:Int)≤57
  ·have h:digitN x=true:=decide_eq_true (by omega)
   rw [h];clear h
   go_enter Tryz.func197,Tryz.ntmps197
   go_wp2
   go_ret
   exact ⟨rfl,rfl⟩
  ·have h:digitN x=false:=decide_eq_false (by omega)
   rw [h];clear h
   go_enter Tryz.func197,Tryz.ntmps197
   go_wp2
   go_ret
   exact ⟨rfl,rfl⟩
 ·have h:digitN x=false:=decide_eq_false (by omega)
  rw [h];clear h
  go_enter Tryz.func197,Tryz.ntmps197
  go_wp2
  go_ret
  exact ⟨rfl,rfl⟩
theorem r8white_any (x:Nat) (w:World):Calls Tryz.prog 180 #[.int .u8 x] w fun e w'=>e=.returned (.bool (whiteN x))∧w'=w:=by
 have key:∀ c:Nat,((x:Int) == (c:Int))=decide (x=c):=fun c=>by
  by_cases h:x=c
  ·subst h;simp
  ·have:¬ (x:Int)=c:=by omega
   simp [h,this]
 have g1:((x:Int) == 32)=decide (x=32):=key 32
 have g2:((x:Int) == 9)=decide (x=9):=key 9
 have g3:((x:Int) == 10)=decide (x=10):=key 10
 have g4:((x:Int) == 13)=decide (x=13):=key 13
 have HN:Hid (whiteN x=(decide (x=32) || decide (x=9) || decide (x=10) || decide (x=13))):=Lib.hid (by unfold whiteN;simp only [Bool.decide_or,Bool.or_assoc])
 rw [HN.out]
 clear key
 go_enter Tryz.func180,Tryz.ntmps180
 go_wp2
 all_goals go_ret
 all_goals refine ⟨congrArg (fun b=>Ending.returned (.bool b)) (?_:_=_),rfl⟩
 all_goals simp_all
end Go.Proofs.YtaalbcfpacpgfaaGreat
namespace Go.Typ
def atB (s:ByteArray) (i:Nat) (wd:List UInt8):Bool:=wd.isPrefixOf (s.data.toList.drop i)
end Go.Typ
namespace Go.Proofs.YtaalbcfpacpgfaaGreat
open Go.RowKit Go.Lib Go.Vfs Go.Par Go.Typ
theorem ext_list (s:ByteArray) (i j:Nat):(s.extract i j).data.toList=(s.data.toList.drop i).take (j - i):=by
 rw [ByteArray.data_extract,Array.toList_extract]
theorem ext_eq (s wd:ByteArray) (i:Nat) (h:i+wd.size≤s.size):(s.extract i (i+wd.size)=wd)↔atB s i wd.data.toList=true:=by
 have hl:wd.data.toList.length=wd.size:=by rw [Array.length_toList];rfl
 unfold atB
 rw [List.isPrefixOf_iff_prefix]
 constructor
 ·intro e
  have:wd.data.toList=(s.data.toList.drop i).take wd.size:=by rw [←e,ext_list,e,Nat.add_sub_cancel_left]
  rw [this];exact List.take_prefix _ _
 ·intro h
  have e:=List.prefix_iff_eq_take.1 h
  apply ByteArray.ext
  apply Array.toList_inj.mp
  rw [ext_list,Nat.add_sub_cancel_left,e,hl]
theorem atB_len {s:ByteArray} {i:Nat} {wd:List UInt8} (h:atB s i wd=true) (hw:0 < wd.length):i+wd.length≤s.size:=by
 unfold atB at h
 rw [List.isPrefixOf_iff_prefix] at h
 have:=h.length_le
 have hs:s.data.toList.length=s.size:=by rw [Array.length_toList];rfl
 rw [List.length_drop,hs] at this
 omega
set_option maxRecDepth 20000 in
set_option maxHeartbeats 1000000 in
theorem r8at_any (s wd:ByteArray) (i:Nat) (hs:s.size≤9223372036854775000) (hi:i≤s.size) (hw:wd.size≤100) (hw0:0 < wd.size) (w:World) :
  Calls Tryz.prog 181 #[.string s,.int .i64 i,.string wd] w fun e w'=>e=.returned (.bool (atB s i wd.data.toList))∧∃ n,w'=w.drewN n:=by
 have hl:wd.data.toList.length=wd.size:=by rw [Array.length_toList];rfl
 by_cases h:i+wd.size≤s.size
 ·have hq:=ext_eq s wd i h
  have hii:((i:Int)+(wd.size:Int)≤(s.size:Int)):=by omega
  have hcmp:((s.extract i (i+wd.size)).toList == wd.toList)=atB s i wd.data.toList:=by
   rw [Bool.eq_iff_iff,beq_iff_eq,ByteArray.toList_eq,ByteArray.toList_eq,←hq]
   exact ⟨fun e=>ByteArray.ext (Array.toList_inj.mp e),fun e=>by rw [e]⟩
  clear hq
  go_enter Tryz.func181,Tryz.ntmps181
  go_wp2
  go_ret
  exact ⟨by rw [←hcmp];rfl,0,rfl⟩
 ·have hq:atB s i wd.data.toList=false:=by
   cases hb:atB s i wd.data.toList with
   | false=>rfl
   | true=>have:=atB_len hb (by omega);omega
  have hii:¬ ((i:Int)+(wd.size:Int)≤(s.size:Int)):=by omega
  rw [hq]
  clear hq
  go_enter Tryz.func181,Tryz.ntmps181
  go_wp2
  go_ret
  exact ⟨rfl,0,rfl⟩
set_option maxRecDepth 20000 in
set_option maxHeartbeats 1000000 in
theorem remark_any (s:ByteArray) (i:Nat) (hs:s.size≤9223372036854775000) (hi:i≤s.size) (w:World) :
  Calls Tryz.prog 182 #[.string s,.int .i64 i] w fun e w'=>∃ j:Nat,e=.returned (.int .i64 j)∧(j=0∨(i < j∧j≤s.size))∧∃ n,w'=w.drewN n:=by
 go_enter Tryz.func182,Tryz.ntmps182
 go_wp2
 go_loopw [1,5] (fun iv dv W=>∃ (k:Nat) (d:Int),iv=.int .i64 k∧dv=.int .i64 d∧i≤k∧k≤s.size∧-(k:Int)≤d∧d≤(k:Int)∧∃ n,W=w.drewN n) (fun iv _ _=>s.size - (RowKit.intOf iv).toNat)
 case atStart=>exact ⟨i,0,rfl,rfl,Nat.le_refl _,hi,by omega,by omega,0,rfl⟩
 case round =>
  obtain ⟨k,d,rfl,rfl,hik,hk,hd1,hd2,n0,rfl⟩:=hrel
  by_cases hlt:k < s.size
  ·have hlti:(k:Int) < (s.size:Int):=by omega
   have H1:=Lib.hid (r8at_any s ⟨#[40,42]⟩ k hs hk (by decide) (by decide) (w.drewN n0))
   obtain ⟨b1,hb1⟩:∃ b1,b1=atB s k [40,42]:=⟨_,rfl⟩
   rw [show (⟨#[40,42]⟩:ByteArray).data.toList=[40,42] from rfl,←hb1] at H1
   have HB1:=Lib.hid hb1
   clear hb1
   go_wp2_with fail
   refine H1.out.mono ?_
   rintro e w1 ⟨rfl,n1,rfl⟩
   cases b1 with
   | true =>
    have hle:=atB_len HB1.out.symm (by decide)
    simp only [List.length_cons,List.length_nil] at hle
    go_wp2
    go_roundw
    case rel=>exact ⟨k+2,d+1,by go_num,rfl,by omega,by omega,by omega,by omega,n0+n1,rfl⟩
    case measure=>simp [RowKit.intOf];omega
   | false =>
    have H2:=Lib.hid (r8at_any s ⟨#[42,41]⟩ k hs hk (by decide) (by decide) (w.drewN (n0+n1)))
    obtain ⟨b2,hb2⟩:∃ b2,b2=atB s k [42,41]:=⟨_,rfl⟩
    rw [show (⟨#[42,41]⟩:ByteArray).data.toList=[42,41] from rfl,←hb2] at H2
    have HB2:=Lib.hid hb2
    clear hb2
    go_wp2_with fail
    refine H2.out.mono ?_
    rintro e w2 ⟨rfl,n2,rfl⟩
    cases b2 with
    | true =>
     have hle:=atB_len HB2.out.symm (by decide)
     simp only [List.length_cons,List.length_nil] at hle
     by_cases h0:d=1
     ·subst h0
      go_wp2
      go_ret
      exact ⟨k+2,by go_num,.inr ⟨by omega,by omega⟩,n0+n1+n2,rfl⟩
     ·have g0:(d - 1 == 0)=false:=by simp;omega
      go_wp2
      go_roundw
      case rel=>exact ⟨k+2,d - 1,by go_num,rfl,by omega,by omega,by omega,by omega,n0+n1+n2,rfl⟩
      case measure=>simp [RowKit.intOf];omega
    | false =>
     go_wp2
     go_roundw
     case rel=>exact ⟨k+1,d,by go_num,rfl,by omega,by omega,by omega,by omega,n0+n1+n2,rfl⟩
     case measure=>simp [RowKit.intOf];omega
  ·have hlti:¬ ((k:Int) < (s.size:Int)):=by omega
   go_wp2
   go_ret
   exact ⟨0,rfl,.inl rfl,n0,rfl⟩
end Go.Proofs.YtaalbcfpacpgfaaGreat
