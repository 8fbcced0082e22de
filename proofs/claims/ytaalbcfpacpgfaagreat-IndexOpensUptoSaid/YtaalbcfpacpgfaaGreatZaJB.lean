/- Merged of J5 J6 J7 J8. -/
import Derived.OrdersHeld
import Derived.RangeFuncNested
import Derived.RangeFuncBound
import Derived.RangeFuncCalls
import Derived.RangeFuncLeaves
import Derived.RangeFuncFrom
import Derived.Shelf.Abstract
import Derived.OwnWalkIn
import Derived.TacticsInMore
import Derived.LoopNIn
import Derived.LoopIn
import Derived.Deep.RegionHeld3
import Derived.RangeFuncWrites
import Derived.Maps.OwnIn
import Derived.Test.YtaalbcfpacpgfaaGreatZaJA
import Derived.Test.YtaalbcfpacpgfaaGreatZaM4
set_option linter.unusedVariables false
set_option linter.unusedSimpArgs false
namespace Go.Proofs.YtaalbcfpacpgfaaGreat
open Go.RowKit Go.Lib Go.Vfs Go.Par Go.Shelf
section
variable {P:Program} {ops:Array Oper} {md:Region.Mode} {l n:Nat} {Q:Exit→Act→World→Prop}
theorem operIn_of_wp {o:Oper} (hnd:∀ c,o.op≠.defer c) {a:Act} {w:World} {K:Act→World→Prop} (h:o.wp P a w K Q):o.wpIn (Fence.wide.inRound l) n P a w K Q:=by
 unfold Oper.wpIn
 refine ⟨fun _ _=>trivial,?_⟩
 rw [show (Fence.wide.inRound l).round=some l from rfl,Oper.semAt_some l a.eval o hnd]
 unfold Oper.wp at h
 generalize (execOp a.eval o).run P w=r at *
 cases r with
 | ok m w' =>
  cases m <;> simp only [Oper.upon] at h <;> simp only [Oper.uponIn]
  case value=>exact h
  case skip=>exact h
  case defer=>exact h
  case enter f args=>exact ⟨(fun h=>by cases h),CallsIn.inRound l (callsIn_wide.2 h)⟩
  case row row args =>
   refine ⟨(fun h=>by cases h),?_⟩
   have:RowsIn Fence.wide (n - 1) P row args w' fun v w''=>K (a.put o.dst v) w'':=fun c cs _=>let ⟨v,w2,r,s⟩:=h c cs;⟨v,w2,r,stepsIn_wide.2 s⟩
   exact this
 | halt x w'=>cases x <;> simp only [Oper.upon] at h <;> simp only [Oper.uponIn] <;> exact h
theorem wpOpIn_of_wpOp (hnd:noDefer ops.toList=true) (hL:¬ LetsOut Q) {i:Nat} {a:Act} {K:Act→World→Prop} {w:World} (hh:wpOp P ops Q i K a w):wpOpIn (Fence.wide.inRound l) n P ops Q i K a w:=by
 unfold wpOp at hh
 unfold wpOpIn
 split
 ·rename_i ho;simp only [ho] at hh;exact hh
 ·rename_i o ho
  simp only [ho] at hh
  split
  ·rename_i hw
   simp only [hw,if_true] at hh
   rcases hh with hh|⟨_,hh⟩
   ·exact operIn_of_wp (noDefer_at hnd (by simpa using ho)) hh
   ·exact absurd hh hL
  ·rename_i hw;simp only [hw] at hh;exact ⟨fun _ _=>trivial,hh⟩
theorem wpAnyIn_of_any (hnd:noDefer ops.toList=true) (hL:¬ LetsOut Q):∀ (fuel:Nat) (listed:Array Bool) (a:Act) (w:World),wpAny P md ops Q fuel listed a w→wpAnyIn (Fence.wide.inRound l) n P md ops Q fuel listed a w
 | 0,_,_,_,h=>h
 | fuel+1,_,_,_,h=>⟨h.1,fun i hi=>wpOpIn_mono (fun a' w' h'=>wpAnyIn_of_any hnd hL fuel _ a' w' h') (wpOpIn_of_wpOp hnd hL (h.2 i hi))⟩
theorem wpIn_round_held {id:Nat} {a:Act} {w:World} {S:World→Prop} (hm:P.follows .mixedOrders=true) (hnd:noDefer ops.toList=true) (hL:¬ LetsOut Q)
  (h:wpAnyH P .any ops Q S ops.size (Array.replicate ops.size false) a w.drew):(Code.region id ops true).wpIn (Fence.wide.inRound l) n P Q a w :=
 wpIn_region_any hm (wpAnyIn_of_any hnd hL _ _ _ _ (wpAny_of_held _ _ _ _ h))
end
theorem slice_lh (A:Option Addr) (n c l h:Nat) (w:World) (hlh:l≤h) (hh:h≤c):(Instr.slice 24 (.slice A n c) (some (.int .i64 (l:Int))) (some (.int .i64 (h:Int))) none).run Tryz.prog w=.ok (sliced A l h c 1) w:=by
 have ht':Tryz.prog.underlying 24=some (.slice (Tryz.prog.elem 24)):=by simp [Program.elem,Tryz.underlying24]
 have he:Tryz.prog.elem 24=5:=by simp [Program.elem,Tryz.underlying24]
 rw [run_slice_lh w 24 _ _ _ ht' .i64 .i64 _ _ (by omega) (by omega) (by omega),he,Tryz.sizeOf5]
 simp [Result.andThen]
theorem seg_mid {w:World} {B:Nat} {A:Option Addr} {c:Nat} {b:List UInt8} (hs:Seg w B (.slice A b.length c) (byteCells b)) (l h:Nat) (hlh:l≤h) (hh:h≤b.length) :
  h≤c∧∃ A2 c2,sliced A l h c 1=.slice A2 (h - l) c2∧Seg w B (.slice A2 (h - l) c2) (byteCells ((b.drop l).take (h - l))):=by
 obtain ⟨h1,h2⟩:=seg_take hs h hh
 have hl:(b.take h).length=h:=by simp;omega
 have h3:Seg w B (.slice A (b.take h).length c) (byteCells (b.take h)):=by rw [hl];exact h2
 obtain ⟨A2,c2,h4,h5⟩:=seg_drop h3 l (by omega)
 rw [hl,List.drop_take] at h5
 rw [hl] at h4
 exact ⟨h1,A2,c2,h4,h5⟩
structure Fr where
 gen:Nat
 pay:List UInt8
 start:Nat
 stop:Nat
def frAt (b:List UInt8) (i:Nat):Option Fr :=
 if b.length < i+12 then none
 else if 65536 < num4 (b.drop (i+4))∨b.length < i+12+num4 (b.drop (i+4)) then none
 else if crc ((b.drop i).take 8 ++ (b.drop (i+12)).take (num4 (b.drop (i+4))))≠num4 (b.drop (i+8)) then none
 else some ⟨num4 (b.drop i),(b.drop (i+12)).take (num4 (b.drop (i+4))),i,i+12+num4 (b.drop (i+4))⟩
theorem frAt_some {b:List UInt8} {i:Nat} {x:Fr} (h:frAt b i=some x):x.start=i∧x.stop=i+12+x.pay.length∧x.stop≤b.length∧x.pay=(b.drop (i+12)).take x.pay.length∧x.gen < 4294967296∧x.pay.length≤65536:=by
 unfold frAt at h
 split at h
 ·cases h
 split at h
 ·cases h
 split at h
 ·cases h
 cases h
 rename_i h1 h2 h3
 have hl:((b.drop (i+12)).take (num4 (b.drop (i+4)))).length=num4 (b.drop (i+4)):=by simp;omega
 refine ⟨rfl,by simp only [hl],by simp only;omega,by simp only [hl],num4_lt _,by simp only [hl];omega⟩
abbrev FrOf (b:List UInt8):={ x:Fr // frAt b x.start=some x }
def frsF (b:List UInt8):Nat→Nat→List (FrOf b)
 | 0,_=>[]
 | f+1,i=>match h:frAt b i with
  | none=>[]
  | some x=>⟨x,by rw [(frAt_some h).1];exact h⟩ :: frsF b f x.stop
def frs (b:List UInt8):List (FrOf b):=frsF b (b.length+1) 0
theorem frsF_none {b:List UInt8} {f i:Nat} (h:frAt b i=none):frsF b f i=[]:=by
 cases f with
 | zero=>rfl
 | succ f =>
  unfold frsF
  split
  ·rfl
  ·rename_i h2;rw [h] at h2;cases h2
theorem frsF_some {b:List UInt8} {f i:Nat} {x:Fr} (h:frAt b i=some x):frsF b (f+1) i=⟨x,by rw [(frAt_some h).1];exact h⟩ :: frsF b f x.stop:=by
 conv=>lhs;unfold frsF
 split
 ·rename_i h2;rw [h] at h2;cases h2
 ·rename_i y h2
  rw [h] at h2
  cases h2
  rfl
def encFr {b:List UInt8} (A:Option Addr) (c:Nat) (x:FrOf b):Array Value:=#[.agg #[.int .u32 x.1.gen,sliced A (x.1.start+12) x.1.stop c 1,.int .i64 x.1.stop]]
def KpS (K:Nat→Prop) (W W':World):Prop:=W.heap.size≤W'.heap.size∧∀ k,K k→W'.heap[k]? = W.heap[k]?
theorem KpS.t {K:Nat→Prop} {A B C:World} (h:KpS K A B) (k:KpS K B C):KpS K A C:=⟨Nat.le_trans h.1 k.1,fun i hi=>(k.2 i hi).trans (h.2 i hi)⟩
theorem KpS.below {K:Nat→Prop} {W W':World} {B:Nat} (h:Below B W W') (hK:∀ k,K k→k < B):KpS K W W':=⟨h.size,fun k hk=>h.block k (hK k hk)⟩
attribute [local go_sem] Oper.semAt_some
set_option maxRecDepth 100000 in
set_option maxHeartbeats 4000000 in
theorem frames_stops (w:World) (A:Option Addr) (c:Nat) (b:List UInt8) (K:Nat→Prop) (hseg:SegS K w (.slice A b.length c) (byteCells b)) (Bn:Nat) (hKB:K Bn) (hKlt:∀ k,K k→k < w.heap.size)
  (hc:w.heap[Bn]? = some (.cells #[.slice A b.length c] 24 (0,0))) (hl:b.length≤2000000) :
  SeqStopsK Fence.wide 6 Tryz.prog 123 #[.pointer (some ⟨Bn,0,none⟩)] (encFr (b:=b) A c) (KpS K) (fun ys=>ys=frs b) (fun pre=>pre <+: frs b) (frs b).length w:=by
 intro l J Jx W hW hJ hJx hY h0
 have HS:=Lib.hid hseg;have HC:=Lib.hid hc;have HW:=Lib.hid hW;have HK:=Lib.hid hKlt
 have HKW:Hid (KpS K w W):=Lib.hid (KpS.below hW hKlt)
 clear hseg hc hW hKlt
 have hfV:Fence.wide.fn 83:=trivial
 have hfS:Fence.wide.fn 89:=trivial
 refine callsIn_of_wp Tryz.func123 rfl trivial ?_ rfl
 simp only [Tryz.ntmps123,List.size_toArray,List.length_cons,List.length_nil,Nat.reduceAdd,Nat.reduceSub,Array.replicate_succ,Array.replicate_zero,List.push_toArray,List.append_toArray,List.nil_append,List.cons_append]
 gi_wp2
 gi_loopw [3] (fun i wr=>∃ (k f:Nat) (pre:List (FrOf b)),k≤b.length∧b.length < k+f∧i=.int .i64 k∧Hid (frs b=pre ++ frsF b f k)∧Hid (KpS K w wr)∧J pre wr∧W.heap.size≤wr.heap.size) (fun i _=>b.length - (intOf i).toNat)
 case atStart=>exact ⟨0,b.length+1,[],by omega,by omega,rfl,Lib.hid rfl,HKW,h0,Nat.le_refl _⟩
 case round =>
  obtain ⟨k,f,pre,hk,hf,rfl,HP,HKr,hJr,hzr⟩:=hrel
  have hB:wr.heap[Bn]? = some (.cells #[.slice A b.length c] 24 (0,0)):=(HKr.out.2 Bn hKB).trans HC.out
  have cB:wr.cell? ⟨Bn,0,none⟩=some (.slice A b.length c):=by simp [World.cell?,hB]
  have hsg:Seg wr wr.heap.size (.slice A b.length c) (byteCells b):=(HS.out.keep (S':=K) fun x hx=>⟨hx,HKr.out.2 x hx⟩).seg fun x hx=>by have:=HK.out x hx;have:=HKr.out.1;omega
  have HSG:=Lib.hid hsg
  clear hB hsg
  by_cases h12:b.length < k+12
  ·have HE:Hid (frs b=pre):=Lib.hid (by rw [HP.out,frsF_none (by unfold frAt;rw [if_pos h12])];simp)
   have hd:¬ (12:Int)≤(b.length:Int) - (k:Int):=by omega
   gi_wp2
   go_end0
   exact ⟨⟨_,rfl⟩,.inl (by first | exact ⟨pre,HE.out.symm,hJr⟩ | (rw [HE.out];exact hJr))⟩
  ·have hd:(12:Int)≤(b.length:Int) - (k:Int):=by omega
   have hBW:Bn < wr.heap.size:=World.block_lt_of_cell? _ _ cB
   have HVAL:Hid (∀ (m:Nat),m+4≤b.length→∃ Am cm,(∀ w',(Instr.slice 24 (.slice A b.length c) (some (.int .i64 (m:Int))) none none).run Tryz.prog w'=.ok (.slice Am (b.length - m) cm) w')∧∀ X,Below wr.heap.size wr X→Calls Tryz.prog 83 #[.slice Am (b.length - m) cm] X fun e w'=>e=.returned (.int .u32 (num4 (b.drop m):Nat))∧Hid (Below wr.heap.size wr w')∧w'.cell? ⟨Bn,0,none⟩=some (.slice A b.length c)):=Lib.hid fun m hm=>by
    obtain ⟨Am,cm,em,sm⟩:=seg_drop HSG.out m (by omega)
    refine ⟨Am,cm,fun w'=>by rw [slice_from A b.length c m w' (by omega),em],fun X hX=>?_⟩
    refine (value_any _ _ _ X (sm.below hX) (by simp;omega)).mono ?_
    rintro e w' ⟨rfl,n,rfl⟩
    exact ⟨rfl,Lib.hid (below_drewN hX n),(hX.cell (p:=⟨Bn,0,none⟩) hBW).trans cB⟩
   obtain ⟨A4,c4,hs4,hv4⟩:=HVAL.out (k+4) (by omega)
   rw [show ((k+4:Nat):Int)=(k:Int)+4 by omega] at hs4
   have HV4:=Lib.hid (hv4 wr (Below.refl _ _))
   clear hv4
   have hN:=num4_lt (b.drop (k+4))
   obtain ⟨N,hNe⟩:∃ N,N=num4 (b.drop (k+4)):=⟨_,rfl⟩
   rw [←hNe] at HV4 hN
   have HNE:=Lib.hid hNe;clear hNe
   have HJR:=Lib.hid hJr;clear hJr
   by_cases hbig:65536 < N
   ·have HE:Hid (frs b=pre):=Lib.hid (by rw [HP.out,frsF_none (by unfold frAt;rw [if_neg h12,if_pos (.inl (by rw [←HNE.out];exact hbig))])];simp)
    have hd1:(65536:Int) < (N:Int):=by omega
    gi_wp2_with (gi_at_call 83;refine (callsIn_wide.2 HV4.out).mono ?_;rintro e w1 ⟨rfl,HB1,cB1⟩)
    have hJ1:=hJ _ _ _ none HJR.out ⟨HB1.out.os,HB1.out.tape,HB1.out.output,HB1.out.size,fun k hk _=>HB1.out.block k hk⟩ (fun r e=>by cases e)
    refine bodyPost_ret (results_none rfl _ _ _) rfl ?_
    exact ⟨⟨_,rfl⟩,.inl (by first | exact ⟨pre,HE.out.symm,hJ1⟩ | (rw [HE.out];exact hJ1))⟩
   by_cases hlong:b.length < k+12+N
   ·have HE:Hid (frs b=pre):=Lib.hid (by rw [HP.out,frsF_none (by unfold frAt;rw [if_neg h12,if_pos (.inr (by rw [←HNE.out];exact hlong))])];simp)
    have hd1:¬ (65536:Int) < (N:Int):=by omega
    have hd2:(b.length:Int) - (k:Int) - 12 < (N:Int):=by omega
    gi_wp2_with (gi_at_call 83;refine (callsIn_wide.2 HV4.out).mono ?_;rintro e w1 ⟨rfl,HB1,cB1⟩)
    have hJ1:=hJ _ _ _ none HJR.out ⟨HB1.out.os,HB1.out.tape,HB1.out.output,HB1.out.size,fun k hk _=>HB1.out.block k hk⟩ (fun r e=>by cases e)
    refine bodyPost_ret (results_none rfl _ _ _) rfl ?_
    exact ⟨⟨_,rfl⟩,.inl (by first | exact ⟨pre,HE.out.symm,hJ1⟩ | (rw [HE.out];exact hJ1))⟩
   have hd1:¬ (65536:Int) < (N:Int):=by omega
   have hd2:¬ (b.length:Int) - (k:Int) - 12 < (N:Int):=by omega
   obtain ⟨hc5,A5,c5,e5,s5⟩:=seg_mid HSG.out (k+12) (k+12+N) (by omega) (by omega)
   obtain ⟨hc8,A8,c8,e8,s8⟩:=seg_mid HSG.out k (k+8) (by omega) (by omega)
   rw [show k+12+N - (k+12)=N by omega] at e5 s5
   rw [show k+8 - k=8 by omega] at e8 s8
   have hs5:∀ w',(Instr.slice 24 (.slice A b.length c) (some (.int .i64 ((k:Int)+12))) (some (.int .i64 ((k:Int)+12+(N:Int)))) none).run Tryz.prog w'=.ok (.slice A5 N c5) w':=fun w'=>by
    have:=slice_lh A b.length c (k+12) (k+12+N) w' (by omega) hc5
    rwa [e5,show ((k+12:Nat):Int)=(k:Int)+12 by omega,show ((k+12+N:Nat):Int)=(k:Int)+12+(N:Int) by omega] at this
   have hs8:∀ w',(Instr.slice 24 (.slice A b.length c) (some (.int .i64 (k:Int))) (some (.int .i64 ((k:Int)+8))) none).run Tryz.prog w'=.ok (.slice A8 8 c8) w':=fun w'=>by
    have:=slice_lh A b.length c k (k+8) w' (by omega) hc8
    rwa [e8,show ((k+8:Nat):Int)=(k:Int)+8 by omega] at this
   have HSUM:Hid (∀ X,Below wr.heap.size wr X→Calls Tryz.prog 89 #[.slice (some ⟨X.heap.size,0,none⟩) 2 2] ((X.alloc (.cells #[.slice A8 8 c8,.slice A5 N c5] 24)).drew) fun e w'=>e=.returned (.int .u32 (crc ((b.drop k).take 8 ++ (b.drop (k+12)).take N):Nat))∧Hid (Below wr.heap.size wr w')∧w'.cell? ⟨Bn,0,none⟩=some (.slice A b.length c)):=Lib.hid fun X hX=>by
    have r:=RowsAt.fresh X [.slice A8 8 c8,.slice A5 N c5] #[.slice A8 8 c8,.slice A5 N c5] rfl [(b.drop k).take 8,(b.drop (k+12)).take N] rfl (fun i hi=>by
     simp at hi
     rcases (show i=0∨i=1 by omega) with rfl|rfl
     ·exact (s8.below hX).more hX.size
     ·exact (s5.below hX).more hX.size) (by simp)
    refine (sum_any _ _ ((X.alloc (.cells #[.slice A8 8 c8,.slice A5 N c5] 24)).drew) r).mono ?_
    rintro e w' ⟨rfl,n,rfl⟩
    have hb2:Below wr.heap.size wr (X.alloc (.cells #[.slice A8 8 c8,.slice A5 N c5] 24)):=hX.alloc hX.size _
    exact ⟨by simp,Lib.hid (below_drewN hb2.drew n),(hb2.cell (p:=⟨Bn,0,none⟩) hBW).trans cB⟩
   obtain ⟨A9,c9,hs9,hv9⟩:=HVAL.out (k+8) (by omega)
   rw [show ((k+8:Nat):Int)=(k:Int)+8 by omega] at hs9
   have HV9:=Lib.hid hv9
   obtain ⟨A0,c0,hs0,hv0⟩:=HVAL.out k (by omega)
   have HV0:=Lib.hid hv0
   have HE5:=Lib.hid e5
   clear hv9 hv0 s5 s8 e5 e8 HVAL
   have hC:=crc_lt ((b.drop k).take 8 ++ (b.drop (k+12)).take N)
   have hM:=num4_lt (b.drop (k+8))
   obtain ⟨C,hCe⟩:∃ C,C=crc ((b.drop k).take 8 ++ (b.drop (k+12)).take N):=⟨_,rfl⟩
   obtain ⟨M,hMe⟩:∃ M,M=num4 (b.drop (k+8)):=⟨_,rfl⟩
   rw [←hCe] at HSUM hC
   rw [←hMe] at HV9 hM
   have HCE:=Lib.hid hCe;have HME:=Lib.hid hMe
   clear hCe hMe
   gi_wp2_with (gi_at_call 83;refine (callsIn_wide.2 HV4.out).mono ?_;rintro e w1 ⟨rfl,HB1,cB1⟩)
   clear hs4 HV4 hs5 cB
   refine wpIn_wide.2 ?_
   have hw8:IntKind.i64.wrap ((k:Int)+8)=(k:Int)+8:=IntWalk.i64_in _ (by omega)
   go_region_held3 (fun w'=>w'.cell? ⟨Bn,0,none⟩=some (.slice A b.length c)) (first | go_keep | assumption) (first
    | (go_at_call 89;refine (HSUM.out w1 HB1.out).mono ?_;rintro e w2 ⟨rfl,HB2,cB2⟩)
    | (go_at_call 83;refine (HV9.out _ HB2.out).mono ?_;rintro e w3 ⟨rfl,HB3,cB3⟩))
   clear hw8 hs8 hs9 HSUM HV9 hd1 hd2
   have hJ3:=hJ _ _ _ none HJR.out ⟨HB3.out.os,HB3.out.tape,HB3.out.output,HB3.out.size,fun k hk _=>HB3.out.block k hk⟩ (fun r e=>by cases e)
   have HJ3:=Lib.hid hJ3;clear hJ3
   by_cases hCM:C=M
   ·have HX:Hid (frAt b k=some ⟨num4 (b.drop k),(b.drop (k+12)).take N,k,k+12+N⟩):=Lib.hid (by
     unfold frAt
     rw [if_neg h12,←HNE.out,if_neg (by omega),←HCE.out,←HME.out,if_neg (by simpa using hCM)])
    obtain ⟨f',rfl⟩:∃ f',f=f'+1:=⟨f - 1,by omega⟩
    obtain ⟨x0,hx0,hx1⟩:∃ x0:FrOf b,x0.1=⟨num4 (b.drop k),(b.drop (k+12)).take N,k,k+12+N⟩∧frs b=(pre ++ [x0]) ++ frsF b f' (k+12+N):=⟨⟨_,HX.out⟩,rfl,by rw [HP.out,frsF_some HX.out];simp⟩
    have HP2:=Lib.hid hx1;clear hx1
    have hpre:pre.length < (frs b).length:=by rw [HP2.out];simp
    have hcm:((C:Int) != (M:Int))=false:=by simp [hCM]
    have hG:=num4_lt (b.drop k)
    obtain ⟨G,hGe⟩:∃ G,G=num4 (b.drop k):=⟨_,rfl⟩
    rw [←hGe] at HV0 hG hx0
    have HGE:=Lib.hid hGe;clear hGe
    have HX0:=Lib.hid hx0;clear hx0
    have HV0':=Lib.hid (HV0.out w3 HB3.out)
    have HCM:=Lib.hid hCM
    clear hCM cB1 cB2 HV0
    gi_wp2_with (gi_at_call 83;refine (callsIn_wide.2 HV0'.out).mono ?_;rintro e w7 ⟨rfl,HB7,cB7⟩)
    have hJ7:=hJ _ _ _ none HJR.out ⟨HB7.out.os,HB7.out.tape,HB7.out.output,HB7.out.size,fun k hk _=>HB7.out.block k hk⟩ (fun r e=>by cases e)
    obtain ⟨fn,tmps,assign,body,hy,hR⟩:=hY pre x0 w7 hJ7 hpre
    dsimp only [encFr] at hy
    rw [HX0.out] at hy
    simp only at hy
    rw [HE5.out,show ((k+12+N:Nat):Int)=(k:Int)+12+(N:Int) by omega] at hy
    clear hJ7 cB7 cB3
    rw [hy,Oper.uponIn_round]
    refine ⟨(fun h=>by cases h),?_⟩
    refine hR.mono ?_
    rintro e W3 (⟨rfl,hJ3,hk3⟩|⟨rfl,hJx3⟩)
    ·have HK3:Hid (KpS K w W3):=Lib.hid ((HKr.out.t (KpS.below HB7.out (fun x hx=>by have:=HK.out x hx;have:=HKr.out.1;omega))).t hk3)
     have hz3:W.heap.size≤W3.heap.size:=by have:=hk3.1;have:=HB7.out.size;omega
     clear hk3 hy hR
     gi_wp2
     go_roundw
     case rel=>exact ⟨k+12+N,f',_,by omega,by omega,by go_num,HP2,HK3,hJ3,hz3⟩
     case measure=>simp [intOf];omega
    ·clear hy hR
     gi_wp2
     refine bodyPost_ret (results_none rfl _ _ _) rfl ?_
     exact ⟨⟨_,rfl⟩,.inr ⟨_,⟨_,HP2.out.symm⟩,hJx3⟩⟩
   ·have HE:Hid (frs b=pre):=Lib.hid (by
     rw [HP.out,frsF_none (by unfold frAt;rw [if_neg h12,←HNE.out,if_neg (by omega),←HCE.out,←HME.out,if_pos hCM])];simp)
    have hcm:((C:Int) != (M:Int))=true:=by simp;omega
    clear hCM
    gi_wp2
    refine bodyPost_ret (results_none rfl _ _ _) rfl ?_
    exact ⟨⟨_,rfl⟩,.inl (by first | exact ⟨pre,HE.out.symm,HJ3.out⟩ | (rw [HE.out];exact HJ3.out))⟩
open Go.RowKit Go.Lib Go.Vfs Go.Par
theorem four_setCell {w:World} {b:Nat} {u0 u1 u2 u3:Value} {t:TypeId} (h:w.heap[b]? = some (.cells #[u0,u1,u2,u3] t (0,0))) (x:Value) :
  (w.setCell ⟨b,1,none⟩ x).heap[b]? = some (.cells #[u0,x,u2,u3] t (0,0))∧(w.setCell ⟨b,2,none⟩ x).heap[b]? = some (.cells #[u0,u1,x,u3] t (0,0))∧(w.setCell ⟨b,3,none⟩ x).heap[b]? = some (.cells #[u0,u1,u2,x] t (0,0)):=by
 refine ⟨?_,?_,?_⟩
 all_goals
  simp only [World.setCell,Array.getElem?_modify,h]
  simp
theorem four_cells {W:World} {b:Nat} {u0 u1 u2 u3:Value} {t:TypeId} (h:W.heap[b]? = some (.cells #[u0,u1,u2,u3] t (0,0))) :
  (W.cell? ⟨b,0,none⟩=some u0∧W.cell? ⟨b,1,none⟩=some u1∧W.cell? ⟨b,2,none⟩=some u2∧W.cell? ⟨b,3,none⟩=some u3)∧W.frozen? ⟨b,1,none⟩=false∧W.frozen? ⟨b,2,none⟩=false∧W.frozen? ⟨b,3,none⟩=false:=by
 simp [World.cell?,World.frozen?,h]
theorem setCell_block {w:World} {a:Addr} {x:Value} {k:Nat} (h:k≠a.block):(w.setCell a x).heap[k]? = w.heap[k]?:=Below.heap_setCell _ _ _ _ h
theorem setCell_cel {w:World} {b i:Nat} {x:Value} {k:Nat} {o:Obj} (h:w.heap[k]? = some o) (hc:o.isCells=true):∃ o',(w.setCell ⟨b,i,none⟩ x).heap[k]? = some o'∧o'.isCells=true:=by
 by_cases hk:k=b
 ·subst hk
  cases o <;> simp [Obj.isCells] at hc
  rename_i cs t fz
  have e:(w.setCell ⟨k,i,none⟩ x).heap[k]? = some (.cells (cs.setIfInBounds i x) t fz):=by
   simp [World.setCell,Array.getElem?_modify,h]
  exact ⟨_,e,rfl⟩
 ·exact ⟨o,(setCell_block hk).trans h,hc⟩
def JD (G:Nat→Prop) (pj:Nat) (bv lv:Value) (b:Nat):Prop:=G b∧b≠pj∧bv.ownBlock≠some b∧lv.ownBlock≠some b
structure JV (w:World) (pj p gen:Nat) (bv lv:Value) (bs us:List Value) (base log:List (List UInt8)) (G:Nat→Prop):Prop where
 head:w.heap[pj]? = some (.cells #[.pointer (some ⟨p,0,none⟩),.int .u32 (gen:Nat),bv,lv] 95 (0,0))
 bown:w.ownsRow 0 24 1 bv base.length bs
 lown:w.ownsRow 0 24 1 lv log.length us
 bdat:∀ i,i < base.length→SegS (JD G pj bv lv) w (bs.getD i (.bool false)) (byteCells (base.getD i []))
 ldat:∀ i,i < log.length→SegS (JD G pj bv lv) w (us.getD i (.bool false)) (byteCells (log.getD i []))
 gpj:G pj
 gb:∀ g,bv.ownBlock=some g→G g∧g≠pj
 gl:∀ g,lv.ownBlock=some g→G g∧g≠pj∧bv.ownBlock≠some g
 cel:∀ k,G k→∃ o,w.heap[k]? = some o∧o.isCells=true
 gen_lt:gen < 4294967296
section
variable {w w' X:World} {pj p gen:Nat} {bv lv:Value} {bs us:List Value} {base log:List (List UInt8)} {G:Nat→Prop}
theorem JV.lt (h:JV w pj p gen bv lv bs us base log G):∀ k,G k→k < w.heap.size:=fun k hk=>by
 obtain ⟨o,ho,-⟩:=h.cel k hk
 exact lt_of_block ho
theorem JV.block (h:JV w pj p gen bv lv bs us base log G) (hk:∀ k,G k→w'.heap[k]? = w.heap[k]?):JV w' pj p gen bv lv bs us base log G :=
 ⟨(hk _ h.gpj).trans h.head,ownsRow_block h.bown (fun g hg=>hk g (h.gb g hg).1),ownsRow_block h.lown (fun g hg=>hk g (h.gl g hg).1),fun i hi=>(h.bdat i hi).keep fun b hb=>⟨hb,hk b hb.1⟩,fun i hi=>(h.ldat i hi).keep fun b hb=>⟨hb,hk b hb.1⟩,h.gpj,h.gb,h.gl,
  fun k hg=>by obtain ⟨o,ho,hc⟩:=h.cel k hg;exact ⟨o,(hk k hg).trans ho,hc⟩,h.gen_lt⟩
theorem JV.go (h:JV w pj p gen bv lv bs us base log G) (hb:Below w.heap.size w w'):JV w' pj p gen bv lv bs us base log G:=h.block fun k hk=>hb.block k (h.lt k hk)
theorem JV.kept (h:JV w pj p gen bv lv bs us base log G) {F:Nat→Prop} (hK:Kept F w w') (hd:∀ k,G k→¬ F k):JV w' pj p gen bv lv bs us base log G:=h.block fun k hk=>hK.block k (h.lt k hk) (hd k hk)
theorem JV.walk (h:JV w pj p gen bv lv bs us base log G) {row:Option Nat} (hg:w.grownBy w' row) (hr:∀ r,row=some r→∃ o:Obj,w.heap[r]? = some o∧o.isCells=false):JV w' pj p gen bv lv bs us base log G:=h.block fun k hk=>by
 obtain ⟨o,ho,hc⟩:=h.cel k hk
 refine hg.block k (lt_of_block ho) (fun e=>?_)
 obtain ⟨o',ho',hc'⟩:=hr k e.symm
 rw [ho] at ho'
 cases ho'
 rw [hc] at hc'
 cases hc'
theorem JV.cells (h:JV w pj p gen bv lv bs us base log G):(w.cell? ⟨pj,0,none⟩=some (.pointer (some ⟨p,0,none⟩))∧w.cell? ⟨pj,1,none⟩=some (.int .u32 (gen:Nat))∧w.cell? ⟨pj,2,none⟩=some bv∧w.cell? ⟨pj,3,none⟩=some lv)∧w.frozen? ⟨pj,1,none⟩=false∧w.frozen? ⟨pj,2,none⟩=false∧w.frozen? ⟨pj,3,none⟩=false:=four_cells h.head
theorem own_cel {base':Nat} {e:TypeId} {v:Value} {n:Nat} {xs:List Value} (h:w.ownsRow base' e 1 v n xs):∀ g,v.ownBlock=some g→∃ o,w.heap[g]? = some o∧o.isCells=true:=by
 intro g hg
 rcases h.2 with ⟨rfl,_⟩|⟨g',cap,cur,rfl,_,hh,_⟩
 ·cases hg
 ·cases hg
  exact ⟨_,hh,rfl⟩
theorem seg_own {base':Nat} {v:Value} {l:List UInt8} (h:Par.Own w base' 5 v (byteCells l)):SegS (fun b=>v.ownBlock=some b) w v (byteCells l):=by
 have hl:=h.lt
 rcases h.2 with ⟨rfl,h0⟩|⟨g,cap,cur,rfl,hg,hh,hnc,hcm,hsz,htake⟩
 ·have:byteCells l=[]:=List.eq_nil_of_length_eq_zero h0
  rw [this]
  exact ⟨none,0,rfl,by simp,by simp [maxLen],fun h=>by simp at h⟩
 ·refine ⟨_,cap,rfl,hnc,hcm,fun _=>⟨g,0,rfl,rfl,fun i hi=>?_⟩⟩
  have hc:=World.ownsRow.cells (g:=g) h rfl i ((byteCells l)[i]'hi) (List.getElem?_eq_getElem hi)
  rw [←add_addr,hc,List.getElem?_eq_getElem hi]
theorem getD_snoc_lt {α:Type} (l:List α) (x d:α) (i:Nat) (h:i < l.length):(l ++ [x]).getD i d=l.getD i d:=by simp [List.getD_eq_getElem?_getD,List.getElem?_append,h]
theorem getD_snoc_eq {α:Type} (l:List α) (x d:α):(l ++ [x]).getD l.length d=x:=by simp [List.getD_eq_getElem?_getD]
theorem JV.pushL (h:JV X pj p gen bv lv bs us base log G) {w5:World} {u2:Value} {l2:List UInt8} {B:Nat} (hu:Par.Own X B 5 u2 (byteCells l2)) (hN:∀ g,u2.ownBlock=some g→¬ G g) {lv':Value}
  (hown:w5.ownsRow 0 24 1 lv' (log.length+1) (us ++ [u2])) (hg:X.grownBy w5 lv.ownBlock) (hat:lv'.ownBlock=lv.ownBlock∨lv'.ownBlock=some X.heap.size) :
  JV (w5.setCell ⟨pj,3,none⟩ lv') pj p gen bv lv' bs (us ++ [u2]) base (log ++ [l2]) (fun b=>(G b∧lv.ownBlock≠some b)∨u2.ownBlock=some b∨lv'.ownBlock=some b):=by
 have hlt:=h.lt
 have hul:=hu.lt
 have hpj:=h.gpj
 have same:∀ k,k < X.heap.size→lv.ownBlock≠some k→w5.heap[k]? = X.heap[k]?:=fun k hk hn=>hg.block k hk (fun e=>hn e.symm)
 have hlpj:lv.ownBlock≠some pj:=fun e=>(h.gl pj e).2.1 rfl
 have hl'pj:lv'.ownBlock≠some pj:=fun e=>by
  rcases hat with e1|e1
  ·exact hlpj (e1.symm.trans e)
  ·rw [e1] at e;cases e;have:=hlt _ hpj;omega
 have old:∀ b,JD G pj bv lv b→JD (fun b=>(G b∧lv.ownBlock≠some b)∨u2.ownBlock=some b∨lv'.ownBlock=some b) pj bv lv' b∧(w5.setCell ⟨pj,3,none⟩ lv').heap[b]? = X.heap[b]?:=fun b ⟨b1,b2,b3,b4⟩=>by
  have hb:=hlt b b1
  refine ⟨⟨.inl ⟨b1,b4⟩,b2,b3,fun e=>?_⟩,(setCell_block b2).trans (same b hb b4)⟩
  rcases hat with e1|e1
  ·exact b4 (e1.symm.trans e)
  ·rw [e1] at e;cases e;omega
 have nw:∀ b,u2.ownBlock=some b→JD (fun b=>(G b∧lv.ownBlock≠some b)∨u2.ownBlock=some b∨lv'.ownBlock=some b) pj bv lv' b∧(w5.setCell ⟨pj,3,none⟩ lv').heap[b]? = X.heap[b]?:=fun b hb=>by
  have hbl:=(hul b hb).2
  have hnG:=hN b hb
  have h1:b≠pj:=fun e=>hnG (e ▸ hpj)
  have h2:lv.ownBlock≠some b:=fun e=>hnG (h.gl b e).1
  refine ⟨⟨.inr (.inl hb),h1,fun e=>hnG (h.gb b e).1,fun e=>?_⟩,(setCell_block h1).trans (same b hbl h2)⟩
  rcases hat with e1|e1
  ·exact h2 (e1.symm.trans e)
  ·rw [e1] at e;cases e;omega
 have hll:us.length=log.length:=by have:=h.lown.1;simpa using this
 refine ⟨(four_setCell ((same pj (hlt _ hpj) hlpj).trans h.head) lv').2.2,?_,?_,fun i hi=>(h.bdat i hi).keep old,fun i hi=>?_,.inl ⟨hpj,hlpj⟩,fun g e=>⟨.inl ⟨(h.gb g e).1,fun e2=>(h.gl g e2).2.2 e⟩,(h.gb g e).2⟩,fun g e=>⟨.inr (.inr e),fun e2=>hl'pj (e2 ▸ e),fun e2=>?_⟩,fun k hk=>?_,h.gen_lt⟩
 ·exact ownsRow_block h.bown fun g e=>(setCell_block (h.gb g e).2).trans (same g (hlt g (h.gb g e).1) (fun e2=>(h.gl g e2).2.2 e))
 ·rw [List.length_append]
  exact ownsRow_block hown fun g e=>setCell_block (fun (e2:g=pj)=>hl'pj (e2 ▸ e))
 ·by_cases hil:i < log.length
  ·rw [getD_snoc_lt _ _ _ _ (by omega),getD_snoc_lt _ _ _ _ hil]
   exact (h.ldat i hil).keep old
  ·have:i=log.length:=by simp at hi;omega
   subst this
   rw [getD_snoc_eq,←hll,getD_snoc_eq]
   exact (seg_own hu).keep nw
 ·rcases hat with e1 | e1
  ·exact (h.gl g (e1 ▸ e)).2.2 e2
  ·rw [e1] at e;cases e;have:=hlt _ (h.gb _ e2).1;omega
 ·rcases hk with hk | hk | hk
  ·obtain ⟨o,ho,hc⟩:=h.cel k hk.1
   exact setCell_cel ((same k (hlt k hk.1) hk.2).trans ho) hc
  ·obtain ⟨o,ho,hc⟩:=own_cel hu k hk
   exact setCell_cel ((same k (hul k hk).2 (fun e=>hN k hk (h.gl k e).1)).trans ho) hc
  ·obtain ⟨o,ho,hc⟩:=own_cel hown k hk
   exact setCell_cel ho hc
theorem JV.pushB (h:JV X pj p gen bv lv bs us base log G) {w5:World} {u2:Value} {l2:List UInt8} {B:Nat} (hu:Par.Own X B 5 u2 (byteCells l2)) (hN:∀ g,u2.ownBlock=some g→¬ G g) {bv':Value}
  (hown:w5.ownsRow 0 24 1 bv' (base.length+1) (bs ++ [u2])) (hg:X.grownBy w5 bv.ownBlock) (hat:bv'.ownBlock=bv.ownBlock∨bv'.ownBlock=some X.heap.size) :
  JV (w5.setCell ⟨pj,2,none⟩ bv') pj p gen bv' lv (bs ++ [u2]) us (base ++ [l2]) log (fun b=>(G b∧bv.ownBlock≠some b)∨u2.ownBlock=some b∨bv'.ownBlock=some b):=by
 have hlt:=h.lt
 have hul:=hu.lt
 have hpj:=h.gpj
 have same:∀ k,k < X.heap.size→bv.ownBlock≠some k→w5.heap[k]? = X.heap[k]?:=fun k hk hn=>hg.block k hk (fun e=>hn e.symm)
 have hbpj:bv.ownBlock≠some pj:=fun e=>(h.gb pj e).2 rfl
 have hb'pj:bv'.ownBlock≠some pj:=fun e=>by
  rcases hat with e1|e1
  ·exact hbpj (e1.symm.trans e)
  ·rw [e1] at e;cases e;have:=hlt _ hpj;omega
 have old:∀ b,JD G pj bv lv b→JD (fun b=>(G b∧bv.ownBlock≠some b)∨u2.ownBlock=some b∨bv'.ownBlock=some b) pj bv' lv b∧(w5.setCell ⟨pj,2,none⟩ bv').heap[b]? = X.heap[b]?:=fun b ⟨b1,b2,b3,b4⟩=>by
  have hb:=hlt b b1
  refine ⟨⟨.inl ⟨b1,b3⟩,b2,fun e=>?_,b4⟩,(setCell_block b2).trans (same b hb b3)⟩
  rcases hat with e1|e1
  ·exact b3 (e1.symm.trans e)
  ·rw [e1] at e;cases e;omega
 have nw:∀ b,u2.ownBlock=some b→JD (fun b=>(G b∧bv.ownBlock≠some b)∨u2.ownBlock=some b∨bv'.ownBlock=some b) pj bv' lv b∧(w5.setCell ⟨pj,2,none⟩ bv').heap[b]? = X.heap[b]?:=fun b hb=>by
  have hbl:=(hul b hb).2
  have hnG:=hN b hb
  have h1:b≠pj:=fun e=>hnG (e ▸ hpj)
  have h2:bv.ownBlock≠some b:=fun e=>hnG (h.gb b e).1
  refine ⟨⟨.inr (.inl hb),h1,fun e=>?_,fun e=>hnG (h.gl b e).1⟩,(setCell_block h1).trans (same b hbl h2)⟩
  rcases hat with e1|e1
  ·exact h2 (e1.symm.trans e)
  ·rw [e1] at e;cases e;omega
 have hll:bs.length=base.length:=by have:=h.bown.1;simpa using this
 refine ⟨(four_setCell ((same pj (hlt _ hpj) hbpj).trans h.head) bv').2.1,?_,?_,fun i hi=>?_,fun i hi=>(h.ldat i hi).keep old,.inl ⟨hpj,hbpj⟩,fun g e=>⟨.inr (.inr e),fun e2=>hb'pj (e2 ▸ e)⟩,fun g e=>⟨.inl ⟨(h.gl g e).1,(h.gl g e).2.2⟩,(h.gl g e).2.1,fun e2=>?_⟩,fun k hk=>?_,h.gen_lt⟩
 ·rw [List.length_append]
  exact ownsRow_block hown fun g e=>setCell_block (fun (e2:g=pj)=>hb'pj (e2 ▸ e))
 ·exact ownsRow_block h.lown fun g e=>(setCell_block (h.gl g e).2.1).trans (same g (hlt g (h.gl g e).1) (h.gl g e).2.2)
 ·by_cases hil:i < base.length
  ·rw [getD_snoc_lt _ _ _ _ (by omega),getD_snoc_lt _ _ _ _ hil]
   exact (h.bdat i hil).keep old
  ·have:i=base.length:=by simp at hi;omega
   subst this
   rw [getD_snoc_eq,←hll,getD_snoc_eq]
   exact (seg_own hu).keep nw
 ·rcases hat with e1 | e1
  ·exact (h.gl g e).2.2 (e1 ▸ e2)
  ·rw [e1] at e2;cases e2;have:=hlt _ (h.gl _ e).1;omega
 ·rcases hk with hk | hk | hk
  ·obtain ⟨o,ho,hc⟩:=h.cel k hk.1
   exact setCell_cel ((same k (hlt k hk.1) hk.2).trans ho) hc
  ·obtain ⟨o,ho,hc⟩:=own_cel hu k hk
   exact setCell_cel ((same k (hul k hk).2 (fun e=>hN k hk (h.gb k e).1)).trans ho) hc
  ·obtain ⟨o,ho,hc⟩:=own_cel hown k hk
   exact setCell_cel ho hc
theorem JV.setGen (h:JV w pj p gen bv lv bs us base log G) (gen':Nat) (hg:gen' < 4294967296):JV (w.setCell ⟨pj,1,none⟩ (.int .u32 (gen':Nat))) pj p gen' bv lv bs us base log G:=by
 have same:∀ k,k≠pj→(w.setCell ⟨pj,1,none⟩ (.int .u32 (gen':Nat))).heap[k]? = w.heap[k]?:=fun k hk=>setCell_block hk
 refine ⟨(four_setCell h.head _).1,ownsRow_block h.bown fun g e=>same g (h.gb g e).2,ownsRow_block h.lown fun g e=>same g (h.gl g e).2.1,fun i hi=>(h.bdat i hi).keep fun b hb=>⟨hb,same b hb.2.1⟩,fun i hi=>(h.ldat i hi).keep fun b hb=>⟨hb,same b hb.2.1⟩,h.gpj,h.gb,h.gl,fun k hk=>?_,hg⟩
 obtain ⟨o,ho,hc⟩:=h.cel k hk
 exact setCell_cel ho hc
end
attribute [local go_sem] Oper.semAt_some
section
variable {b:List UInt8}
def endOf (l:List (FrOf b)):Nat:=(l.getLast?.map (·.1.stop)).getD 0
def sameGen (gen:Nat) (l:List (FrOf b)):List (FrOf b):=l.takeWhile fun x=>x.1.gen == gen
def pays (l:List (FrOf b)):List (List UInt8):=l.map (·.1.pay)
theorem endOf_snoc (l:List (FrOf b)) (x:FrOf b):endOf (l ++ [x])=x.1.stop:=by simp [endOf]
theorem pays_snoc (l:List (FrOf b)) (x:FrOf b):pays (l ++ [x])=pays l ++ [x.1.pay]:=by simp [pays]
theorem sameGen_all {gen:Nat} {l:List (FrOf b)} (h:∀ x∈l,x.1.gen=gen):sameGen gen l=l:=by
 unfold sameGen
 induction l with
 | nil=>rfl
 | cons x l ih=>rw [List.takeWhile_cons,if_pos (by simpa using h x (by simp)),ih (fun y hy=>h y (by simp [hy]))]
theorem sameGen_cut {gen:Nat} {l pre:List (FrOf b)} {x:FrOf b} (h:∀ y∈pre,y.1.gen=gen) (hx:x.1.gen≠gen) (hp:pre ++ [x] <+: l):sameGen gen l=pre:=by
 obtain ⟨r,rfl⟩:=hp
 unfold sameGen
 rw [List.append_assoc]
 induction pre with
 | nil=>simp [hx]
 | cons y pre ih=>rw [List.cons_append,List.takeWhile_cons,if_pos (by simpa using h y (by simp)),ih (fun z hz=>h z (by simp [hz]))]
end
set_option maxRecDepth 20000 in
theorem frames_any (A:Option Addr) (n c:Nat) (w:World):Calls Tryz.prog 82 #[.slice A n c] w fun e w'=>e=.returned (.func (.func 123) #[] #[.pointer (some ⟨w.heap.size,0,none⟩)])∧w'=w.alloc (.cells #[.slice A n c] 24):=by
 go_enter Tryz.func82,Tryz.ntmps82
 go_wp2
 go_ret
 exact ⟨rfl,rfl⟩
section
variable {P:Program} {ops:Array Oper} {Q:Exit→Act→World→Prop}
theorem wpOp_of {i:Nat} {o:Oper} {K:Act→World→Prop} {a:Act} {w:World} (ho:ops[i]? = some o) (hw:Region.wanted o (yielded ops a.tmps)=true) (h:∀ K':Act→World→Prop,(∀ a w,K a w→K' a w)→o.wp P a w K' Q):wpOp P ops Q i K a w:=by
 unfold wpOp
 simp only [ho,hw,if_true]
 exact .inl (h _ fun _ _ h=>h)
end
def RK (w:World) (G:Nat→Prop) (k:Nat):Prop:=k=w.heap.size+2∨(k < w.heap.size∧¬ G k)
theorem three_cellsJ {W:World} {b:Nat} {u0 u1 u2:Value} {t:TypeId} (h:W.heap[b]? = some (.cells #[u0,u1,u2] t (0,0))):W.cell? ⟨b,0,none⟩=some u0∧W.cell? ⟨b,1,none⟩=some u1∧W.cell? ⟨b,2,none⟩=some u2:=by
 simp [World.cell?,h]
theorem one_cellJ {W:World} {b:Nat} {u0:Value} {t:TypeId} (h:W.heap[b]? = some (.cells #[u0] t (0,0))):W.cell? ⟨b,0,none⟩=some u0∧W.frozen? ⟨b,0,none⟩=false:=by
 simp [World.cell?,World.frozen?,h]
theorem one_setJ {w:World} {b:Nat} {u x:Value} {t:TypeId} (h:w.heap[b]? = some (.cells #[u] t (0,0))):(w.setCell ⟨b,0,none⟩ x).heap[b]? = some (.cells #[x] t (0,0)):=by
 have hlt:=lt_of_block h
 have h':w.heap[b]=.cells #[u] t (0,0):=by simpa [Array.getElem?_eq_getElem hlt] using h
 show (w.heap.modify b _)[b]? = _
 rw [Array.getElem?_eq_getElem (by simpa using hlt),Array.getElem_modify_self,h']
 rfl
theorem sliced_form (A:Option Addr) (l h c:Nat):∃ A' c',sliced A l h c 1=.slice A' (h - l) c':=⟨_,_,rfl⟩
structure RLI (w:World) (pj p gen:Nat) (bv:Value) (bs:List Value) (base log:List (List UInt8)) (G:Nat→Prop) (A:Option Addr) (c:Nat) (b:List UInt8) (pre:List (FrOf b)) (W:World):Prop where
 c0:W.heap[w.heap.size]? = some (.cells #[.pointer (some ⟨pj,0,none⟩)] 27 (0,0))
 c1:W.heap[w.heap.size+1]? = some (.cells #[.int .i64 (endOf pre:Nat)] 3 (0,0))
 c2:W.heap[w.heap.size+2]? = some (.cells #[.slice A b.length c] 24 (0,0))
 jv:∃ lv us G',JV W pj p gen bv lv bs us base (log ++ pays pre) G'∧∀ k,G' k→G k∨w.heap.size+3≤k
 kept:Kept G w W
 same:∀ x∈pre,x.1.gen=gen
 size:w.heap.size+3≤W.heap.size
section
variable {w W W':World} {pj p gen:Nat} {bv:Value} {bs:List Value} {base log:List (List UInt8)} {G:Nat→Prop} {A:Option Addr} {c:Nat} {b:List UInt8} {pre:List (FrOf b)}
theorem RLI.walk (h:RLI w pj p gen bv bs base log G A c b pre W) (hG:∀ k,G k→k < w.heap.size) {row:Option Nat} (hg:W.grownBy W' row) (hr:∀ r,row=some r→w.heap.size+3≤r∧∃ o:Obj,W.heap[r]? = some o∧o.isCells=false):RLI w pj p gen bv bs base log G A c b pre W':=by
 have hz:=h.size
 have low:∀ k,k < w.heap.size+3→W'.heap[k]? = W.heap[k]?:=fun k hk=>hg.block k (by omega) (fun e=>by have:=(hr k e.symm).1;omega)
 obtain ⟨lv,us,G',h1,h2⟩:=h.jv
 exact ⟨(low _ (by omega)).trans h.c0,(low _ (by omega)).trans h.c1,(low _ (by omega)).trans h.c2,⟨lv,us,G',h1.walk hg (fun r e=>(hr r e).2),h2⟩,h.kept.grown hg (fun k e=>.inr (by have:=(hr k e).1;omega)),h.same,by have:=hg.size;omega⟩
theorem RLI.go (h:RLI w pj p gen bv bs base log G A c b pre W) (hb:Below W.heap.size W W'):RLI w pj p gen bv bs base log G A c b pre W':=by
 have hz:=h.size
 obtain ⟨lv,us,G',h1,h2⟩:=h.jv
 exact ⟨(hb.block _ (by omega)).trans h.c0,(hb.block _ (by omega)).trans h.c1,(hb.block _ (by omega)).trans h.c2,⟨lv,us,G',h1.go hb,h2⟩,h.kept.trans' (Kept.of_below hb),h.same,by have:=hb.size;omega⟩
end
theorem frsF_length (b:List UInt8):∀ f i,(frsF b f i).length≤f
 | 0,_=>by simp [frsF]
 | f+1,i=>by
  unfold frsF
  split
  ·simp
  ·have:=frsF_length b f;simp;exact this _
theorem frs_length (b:List UInt8):(frs b).length≤b.length+1:=frsF_length b _ _
theorem Own.formR {w:World} {base:Nat} {e:TypeId} {size:Nat} {v:Value} {n:Nat} {xs:List Value} (h:w.ownsRow base e size v n xs):∃ A c,v=.slice A n c:=by
 rcases h.2 with ⟨rfl,h0⟩|⟨g,cap,cur,rfl,_⟩
 ·exact ⟨none,0,by rw [h0]⟩
 ·exact ⟨_,cap,rfl⟩
theorem grown_cell {X Y:World} {row:Option Nat} (hg:X.grownBy Y row) {k i:Nat} {v:Value} (hc:X.cell? ⟨k,i,none⟩=some v) (hn:row≠some k):Y.cell? ⟨k,i,none⟩=some v :=
 (World.cell?_of_block (a:=⟨k,i,none⟩) (hg.block k (World.block_lt_of_cell? _ _ hc) (fun e=>hn e.symm))).trans hc
theorem row_not {w:World} {v:Value} {n:Nat} {xs:List Value} (h:w.ownsRow 0 24 1 v n xs) {k:Nat} {cs:Array Value} {t:TypeId} {fz:Nat × Nat} (hk:w.heap[k]? = some (.cells cs t fz)) (ht:t≠24):v.ownBlock≠some k:=by
 intro e
 rcases h.2 with ⟨rfl,_⟩|⟨g,cap,cur,rfl,_,hh,_⟩
 ·cases e
 ·cases e
  rw [hh] at hk
  injection hk with hk
  injection hk with h1 h2 h3
  exact ht h2.symm
theorem RLI.next {w W X w2 w5:World} {pj p gen:Nat} {bv lv1 lv' u2:Value} {bs us1:List Value} {base log:List (List UInt8)} {G G1:Nat→Prop} {A:Option Addr} {c:Nat} {b:List UInt8} {pre:List (FrOf b)} (h:RLI w pj p gen bv bs base log G A c b pre W)
  (hG:∀ k,G k→k < w.heap.size) (hjv:JV W pj p gen bv lv1 bs us1 base (log ++ pays pre) G1) (hG1:∀ k,G1 k→G k∨w.heap.size+3≤k) (hb:Below W.heap.size W X) (hb2:Below X.heap.size X w2) (x:FrOf b) (hx:x.1.gen=gen)
  (hu:Par.Own w2 X.heap.size 5 u2 (byteCells x.1.pay)) (o:Obj) (hown:w5.ownsRow 0 24 1 lv' (us1.length+1) (us1 ++ [u2])) (hg:(w2.alloc o).grownBy w5 lv1.ownBlock) (hat:lv'.ownBlock=lv1.ownBlock∨lv'.ownBlock=some (w2.heap.size+1)) :
  KeepsFrom (w.heap.size+3) W ((w5.setCell ⟨pj,3,none⟩ lv').setCell ⟨w.heap.size+1,0,none⟩ (.int .i64 (x.1.stop:Nat)))∧KpS (RK w G) W ((w5.setCell ⟨pj,3,none⟩ lv').setCell ⟨w.heap.size+1,0,none⟩ (.int .i64 (x.1.stop:Nat))) ∧
   RLI w pj p gen bv bs base log G A c b (pre ++ [x]) ((w5.setCell ⟨pj,3,none⟩ lv').setCell ⟨w.heap.size+1,0,none⟩ (.int .i64 (x.1.stop:Nat))):=by
 have hz:=h.size
 have hzb:=hb.size
 have hzb2:=hb2.size
 have hzg:=hg.size
 simp only [World.size_alloc] at hzg
 have hpj:G1 pj:=hjv.gpj
 have b4:Below W.heap.size W (w2.alloc o):=(hb.trans (hb2.mono hzb)).alloc (by omega) o
 have hjv4:=hjv.go b4
 have hul:us1.length=(log ++ pays pre).length:=by have:=hjv.lown.1;simpa using this
 rw [hul] at hown
 have hu4:Par.Own (w2.alloc o) X.heap.size 5 u2 (byteCells x.1.pay):=hu.alloc o
 have hjv5:=hjv4.pushL hu4 (fun g e hg1=>by have:=(hu.lt g e).1;have:=hjv.lt g hg1;omega) hown hg (by simpa using hat)
 obtain ⟨oj,hoj,hcj⟩:=hjv.cel pj hpj
 have hpjlt:=hjv.lt pj hpj
 have hll:∀ k,lv1.ownBlock=some k→G1 k∧k≠pj:=fun k e=>⟨(hjv.gl k e).1,(hjv.gl k e).2.1⟩
 have hpjs:G pj∨w.heap.size+3≤pj:=hG1 pj hpj
 have n1:pj≠w.heap.size+1:=by rcases hpjs with h1 | h1;(have:=hG pj h1;omega);omega
 have same:∀ k,k < W.heap.size→k≠pj→k≠w.heap.size+1→lv1.ownBlock≠some k→((w5.setCell ⟨pj,3,none⟩ lv').setCell ⟨w.heap.size+1,0,none⟩ (.int .i64 (x.1.stop:Nat))).heap[k]? = W.heap[k]?:=fun k hk h1 h2 h3=>by
  rw [setCell_block h2,setCell_block h1,hg.block k (by simp;omega) (fun e=>h3 e.symm)]
  exact b4.block k hk
 have hszF:((w5.setCell ⟨pj,3,none⟩ lv').setCell ⟨w.heap.size+1,0,none⟩ (.int .i64 (x.1.stop:Nat))).heap.size=w5.heap.size:=by simp [World.setCell]
 have low:∀ k,k < w.heap.size+3→¬ G k→k≠w.heap.size+1→((w5.setCell ⟨pj,3,none⟩ lv').setCell ⟨w.heap.size+1,0,none⟩ (.int .i64 (x.1.stop:Nat))).heap[k]? = W.heap[k]?:=fun k hk hn h1=>by
  refine same k (by omega) (fun e=>?_) h1 (fun e=>?_)
  ·subst e;rcases hpjs with h2 | h2;exact hn h2;omega
  ·rcases hG1 k (hll k e).1 with h2 | h2;exact hn h2;omega
 refine ⟨⟨by omega,fun k ob hB hk hc=>?_⟩,⟨by omega,fun k hk=>?_⟩,⟨?_,?_,?_,⟨lv',us1 ++ [u2],fun b=>(G1 b∧lv1.ownBlock≠some b)∨u2.ownBlock=some b∨lv'.ownBlock=some b,?_,fun k hk=>?_⟩,?_,fun y hy=>?_,by omega⟩⟩
 ·refine (same k (lt_of_block hk) (fun e=>?_) (by omega) (fun e=>?_)).trans hk
  ·subst e;rw [hoj] at hk;cases hk;rw [hcj] at hc;cases hc
  ·obtain ⟨o2,ho2,hc2⟩:=own_cel hjv.lown k e
   rw [ho2] at hk;cases hk;rw [hc2] at hc;cases hc
 ·rcases hk with rfl | ⟨hk,hn⟩
  ·exact low _ (by omega) (fun hg1=>by have:=hG _ hg1;omega) (by omega)
  ·exact low k (by omega) hn (by omega)
 ·exact (low _ (by omega) (fun hg1=>by have:=hG _ hg1;omega) (by omega)).trans h.c0
 ·rw [endOf_snoc]
  have e1:(w5.setCell ⟨pj,3,none⟩ lv').heap[w.heap.size+1]? = some (.cells #[.int .i64 (endOf pre:Nat)] 3 (0,0)):=by
   rw [setCell_block (Ne.symm n1),hg.block _ (by simp;omega) (fun e=>?_),b4.block _ (by omega)]
   ·exact h.c1
   ·rcases hG1 _ (hll _ e.symm).1 with h2 | h2
    ·have:=hG _ h2;omega
    ·omega
  exact one_setJ e1
 ·exact (low _ (by omega) (fun hg1=>by have:=hG _ hg1;omega) (by omega)).trans h.c2
 ·rw [pays_snoc,←List.append_assoc]
  refine hjv5.block fun k hk=>setCell_block (fun (e:k=w.heap.size+1)=>?_)
  subst e
  rcases hk with ⟨hk,-⟩|hk|hk
  ·rcases hG1 _ hk with h2 | h2
   ·have:=hG _ h2;omega
   ·omega
  ·have:=(hu.lt _ hk).1;omega
  ·rcases hat with e1 | e1
   ·rcases hG1 _ (hll _ (e1 ▸ hk)).1 with h2 | h2
    ·have:=hG _ h2;omega
    ·omega
   ·rw [e1] at hk;injection hk with hk;omega
 ·rcases hk with ⟨hk,-⟩ | hk | hk
  ·exact hG1 k hk
  ·right;have:=(hu.lt k hk).1;omega
  ·rcases hat with e1 | e1
   ·exact hG1 k (hll k (e1 ▸ hk)).1
   ·rw [e1] at hk;cases hk;right;omega
 ·have hK5:Kept G w w5:=(h.kept.trans' (Kept.of_below b4)).grown hg (fun k e=>by rcases hG1 k (hll k e).1 with h2 | h2;exact .inl h2;right;omega)
  exact (hK5.setCell (p:=⟨pj,3,none⟩) (by rcases hpjs with h2 | h2;exact .inl h2;right;simp;omega) _).setCell (p:=⟨w.heap.size+1,0,none⟩) (.inr (by simp)) _
 ·rcases List.mem_append.1 hy with hy | hy
  ·exact h.same y hy
  ·simp at hy;subst hy;exact hx
def AxF (w:World) {b:List UInt8} (A:Option Addr) (c:Nat) (T:FrOf b→Nat→Array Value) (x:FrOf b) (a':Act) (W:World):Prop :=
 ∃ bx,w.heap.size+3≤bx∧a'={ tmps:=T x bx,defers:=[] }∧W.heap[bx]? = some (.cells #[.int .u32 (x.1.gen:Nat),sliced A (x.1.start+12) x.1.stop c 1,.int .i64 (x.1.stop:Nat)] 147 (0,0))
set_option maxRecDepth 100000 in
set_option maxHeartbeats 4000000 in
theorem readLog_any (w:World) (pj p gen:Nat) (bv lv:Value) (bs us:List Value) (base log:List (List UInt8)) (G:Nat→Prop) (h:JV w pj p gen bv lv bs us base log G) (A:Option Addr) (c:Nat) (b:List UInt8)
  (hb:SegS (fun x=>x < w.heap.size∧¬ G x) w (.slice A b.length c) (byteCells b)) (hl:b.length≤2000000) (hll:log.length≤100000) :
  Calls Tryz.prog 44 #[.pointer (some ⟨pj,0,none⟩),.slice A b.length c] w fun e w'=>∃ lv' us' G',e=.returned (.int .i64 (endOf (sameGen gen (frs b)):Nat))∧JV w' pj p gen bv lv' bs us' base (log ++ pays (sameGen gen (frs b))) G'∧Kept G w w'∧Grows w G G':=by
 have hG:=h.lt
 obtain ⟨W0,hW0⟩:∃ W0,W0=((w.alloc (.cells #[.pointer (some ⟨pj,0,none⟩)] 27)).alloc (.cells #[.int .i64 0] 3)).alloc (.cells #[.slice A b.length c] 24):=⟨_,rfl⟩
 have hs0:W0.heap.size=w.heap.size+3:=by rw [hW0];simp
 have hb0:Below w.heap.size w W0:=by rw [hW0];exact (((box_below w _).alloc (by simp) _)).alloc (by simp;omega) _
 have k0:W0.heap[w.heap.size]? = some (.cells #[.pointer (some ⟨pj,0,none⟩)] 27 (0,0)):=by
  rw [hW0,Below.heap_alloc _ _ _ (by simp;omega),Below.heap_alloc _ _ _ (by simp)];exact heap_alloc_new w _
 have k1:W0.heap[w.heap.size+1]? = some (.cells #[.int .i64 0] 3 (0,0)):=by
  rw [hW0,Below.heap_alloc _ _ _ (by simp)]
  have:=heap_alloc_new (w.alloc (.cells #[.pointer (some ⟨pj,0,none⟩)] 27)) (.cells #[.int .i64 0] 3)
  simpa using this
 have k2:W0.heap[w.heap.size+2]? = some (.cells #[.slice A b.length c] 24 (0,0)):=by
  rw [hW0]
  have:=heap_alloc_new ((w.alloc (.cells #[.pointer (some ⟨pj,0,none⟩)] 27)).alloc (.cells #[.int .i64 0] 3)) (.cells #[.slice A b.length c] 24)
  simpa using this
 have hseg0:SegS (RK w G) W0 (.slice A b.length c) (byteCells b):=hb.keep fun x hx=>⟨.inr hx,hb0.block x hx.1⟩
 have hRK:∀ k,RK w G k→k < W0.heap.size:=fun k hk=>by rcases hk with rfl | hk <;> omega
 have HSEQ:=Lib.hid (frames_stops W0 A c b (RK w G) hseg0 (w.heap.size+2) (.inl rfl) hRK k2 hl)
 have HI0:Hid (RLI w pj p gen bv bs base log G A c b [] W0):=Lib.hid ⟨k0,k1,k2,⟨lv,us,G,by have:=h.go hb0;simpa [pays] using this,fun k hk=>.inl hk⟩,Kept.of_below hb0,by simp,by omega⟩
 have HBS:=Lib.hid hb;have HRK:=Lib.hid hRK;have HG:=Lib.hid hG
 clear k0 k1 k2 hseg0 hRK h hb hG
 refine (callsIn_wide (n:=7)).1 ?_
 refine callsIn_of_wp_marks Tryz.func44 rfl trivial ?_ rfl
 simp only [Tryz.ntmps44,List.size_toArray,List.length_cons,List.length_nil,Nat.reduceAdd,Nat.reduceSub,Array.replicate_succ,Array.replicate_zero,List.push_toArray,List.append_toArray,List.nil_append,List.cons_append]
 gi_wp2_with (refine ⟨trivial,?_⟩;gi_at_call 82;refine (callsIn_wide.2 (frames_any _ _ _ _)).mono ?_;rintro e w1 ⟨rfl,rfl⟩)
 rw [←hW0]
 clear hW0
 refine wpIn_rangeFunc_ownH (F:=Fence.wide) rfl (by omega) (gf:=123) (lb:=#[.pointer (some ⟨w.heap.size+1+1,0,none⟩)]) rfl trivial (enters_of Tryz.func123 (by kernel_rfl) rfl)
  HSEQ.out (fun h k=>h.t k) ?hKb (Below.refl _ _) (fun _=>rfl)
  (fun pre W=>RLI w pj p gen bv bs base log G A c b pre W)
  (fun cd xs W=>cd=.exit 0∧∃ pre x,xs=pre ++ [x]∧RLI w pj p gen bv bs base log G A c b pre W∧x.1.gen≠gen) ?hI ?hIx HI0.out
  (AxF w A c (fun (x:FrOf b) bx=>#[.pointer (some ⟨pj,0,none⟩),.slice A b.length c,.pointer (some ⟨w.heap.size,0,none⟩),undef,.int .i64 0,.pointer (some ⟨w.heap.size+1,0,none⟩),.pointer (some ⟨bx,0,none⟩),.slice A b.length c,.func (.func 123) #[] #[.pointer (some ⟨w.heap.size+1+1,0,none⟩)],.agg #[.int .u32 (x.1.gen:Nat),sliced A (x.1.start+12) x.1.stop c 1,.int .i64 (x.1.stop:Nat)],undef,undef,undef,undef,undef,undef,undef,undef,undef,undef,undef,undef,undef,undef,undef,undef,undef,undef,undef,undef,undef,undef])) ?hAx ?assign ?body ?done ?stop
 case hKb =>
  intro W l o o' hl hget hcl hwl
  exact ⟨by simp,fun k hk=>World.putObj_heap_other (by have:=HRK.out k hk;omega)⟩
 case hI =>
  intro pre X Y row hs hg hr
  exact hs.walk HG.out hg (fun r e=>⟨by have:=(hr r e).1;omega,(hr r e).2⟩)
 case hIx =>
  rintro cd xs X Y row ⟨h1,pre,x,h2,h3,h4⟩ hg hr
  exact ⟨h1,pre,x,h2,h3.walk HG.out hg (fun r e=>⟨by have:=(hr r e).1;omega,(hr r e).2⟩),h4⟩
 case hAx =>
  rintro x a' _ X Y row ⟨bx,h1,h2,h3⟩ hg hr
  refine ⟨bx,h1,h2,(hg.block bx (lt_of_block h3) (fun e=>?_)).trans h3⟩
  obtain ⟨o,ho,hc⟩:=(hr bx e.symm).2
  rw [h3] at ho
  cases ho
  cases hc
 case assign =>
  intro l pre x W K hIW hK
  obtain ⟨A5,c5,e5⟩:=sliced_form A (x.1.start+12) x.1.stop c
  have hfin:=hK { tmps:=#[.pointer (some ⟨pj,0,none⟩),.slice A b.length c,.pointer (some ⟨w.heap.size,0,none⟩),undef,.int .i64 0,.pointer (some ⟨w.heap.size+1,0,none⟩),.pointer (some ⟨W.heap.size,0,none⟩),.slice A b.length c,.func (.func 123) #[] #[.pointer (some ⟨w.heap.size+1+1,0,none⟩)],.agg #[.int .u32 (x.1.gen:Nat),.slice A5 (x.1.stop - (x.1.start+12)) c5,.int .i64 (x.1.stop:Nat)],undef,undef,undef,undef,undef,undef,undef,undef,undef,undef,undef,undef,undef,undef,undef,undef,undef,undef,undef,undef,undef,undef],defers:=[] } (W.alloc (.cells #[.int .u32 (x.1.gen:Nat),.slice A5 (x.1.stop - (x.1.start+12)) c5,.int .i64 (x.1.stop:Nat)] 147)) ⟨by simp,fun k o _ hk _=>(Below.heap_alloc _ _ _ (lt_of_block hk)).trans hk⟩ (KpS.below (box_below W _) (fun k hk=>by have:=HRK.out k hk;have:=hIW.size;omega)) (hIW.go (box_below W _)) ⟨W.heap.size,hIW.size,by dsimp only;rw [e5],by rw [e5];exact heap_alloc_new W _⟩
  have HF:=Lib.hid hfin
  clear hK hfin
  dsimp only [encFr]
  rw [e5]
  clear e5
  gi_wp2
  exact HF.out
 case body =>
  rintro l pre x a' W hl0 hloop hIW ⟨bx,hbx,rfl,hxb⟩ hlen
  obtain ⟨hx1,hx2,hx3,hx4,hx5,hx6⟩:=frAt_some x.2
  have hzW:=hIW.size
  have hsb:Seg W W.heap.size (.slice A b.length c) (byteCells b):=(HBS.out.keep (S':=fun k=>k < w.heap.size) fun k hk=>⟨hk.1,hIW.kept.block k hk.1 hk.2⟩).seg fun k hk=>by omega
  obtain ⟨-,A5,c5,e5,s5⟩:=seg_mid hsb (x.1.start+12) x.1.stop (by omega) (by omega)
  rw [show x.1.stop - (x.1.start+12)=x.1.pay.length by omega] at e5 s5
  rw [←hx4] at s5
  rw [e5] at hxb
  dsimp only
  rw [e5]
  obtain ⟨x0,xx1,xx2⟩:=three_cellsJ hxb
  obtain ⟨p0,-⟩:=one_cellJ hIW.c0
  obtain ⟨lv1,us1,G1,hjv,hG1⟩:=hIW.jv
  obtain ⟨⟨j0,j1,j2,j3⟩,jf1,jf2,jf3⟩:=hjv.cells
  have HS5:=Lib.hid s5;have HJV:=Lib.hid hjv;have HI:=Lib.hid hIW;have HXB:=Lib.hid hxb;have HX2:=Lib.hid hx2
  clear hsb e5 s5 hjv hxb hx1 hx2 hx4 hIW
  by_cases hg:x.1.gen=gen
  ·have hne:((x.1.gen:Int) != (gen:Int))=false:=by simp [hg]
   gi_wp2
   refine wpIn_round_quiet (by kernel_rfl) (by kernel_rfl) (by kernel_rfl) ?_
   repeat (any_goals (first | go_big_quiet_step (fail) | quiet_step (fail)))
   all_goals (refine wpQuiet_nil ?_;intro _ hw';obtain ⟨nq,hw''⟩:=hw';subst hw'')
   gi_wp2
   obtain ⟨X,hX⟩:∃ X,X=W.drewN nq:=⟨_,rfl⟩
   have bWX:Below W.heap.size W X:=by rw [hX];exact below_drewN (Below.refl _ W) nq
   rw [←hX]
   have HBX:=Lib.hid bWX
   have p0X:X.cell? ⟨w.heap.size,0,none⟩=some (.pointer (some ⟨pj,0,none⟩)):=by rw [hX];exact p0
   have xxX:X.cell? ⟨bx,1,none⟩=some (.slice A5 x.1.pay.length c5):=by rw [hX];exact xx1
   have j3X:X.cell? ⟨pj,3,none⟩=some lv1:=by rw [hX];exact j3
   have HS0:Hid (X.drew.cell? ⟨w.heap.size,0,none⟩=some (.pointer (some ⟨pj,0,none⟩))∧X.drew.cell? ⟨bx,1,none⟩=some (.slice A5 x.1.pay.length c5)):=Lib.hid ⟨p0X,xxX⟩
   have HCL:Hid (Calls Tryz.prog 48 #[.slice A5 x.1.pay.length c5] X.drew fun e w2=>∃ A2 c2,e=.returned (.slice A2 x.1.pay.length c2)∧Hid (Par.Own w2 X.heap.size 5 (.slice A2 x.1.pay.length c2) (byteCells x.1.pay))∧Hid (Below X.heap.size X w2)∧(w2.cell? ⟨w.heap.size,0,none⟩=some (.pointer (some ⟨pj,0,none⟩))∧w2.cell? ⟨bx,1,none⟩=some (.slice A5 x.1.pay.length c5))∧w2.cell? ⟨pj,3,none⟩=some lv1):=Lib.hid (by
    refine (clone_seg _ x.1.pay X.drew ((HS5.out.below bWX).more bWX.size) (by omega)).mono ?_
    rintro e w2 ⟨u2,rfl,hu2,hb2⟩
    obtain ⟨A2,c2,hf2⟩:=hu2.form
    rw [byteCells_length] at hf2
    subst hf2
    have hb3:Below X.heap.size X w2:=((Below.refl _ X).drew).trans hb2
    exact ⟨A2,c2,rfl,Lib.hid hu2,Lib.hid hb3,⟨(hb3.cell (p:=⟨w.heap.size,0,none⟩) (World.block_lt_of_cell? _ _ p0X)).trans p0X,(hb3.cell (p:=⟨bx,1,none⟩) (World.block_lt_of_cell? _ _ xxX)).trans xxX⟩,(hb3.cell (p:=⟨pj,3,none⟩) (World.block_lt_of_cell? _ _ j3X)).trans j3X⟩)
   obtain ⟨NL,hNL⟩:∃ NL,NL=(log ++ pays pre).length:=⟨_,rfl⟩
   have HLEN:Hid (us1.length=NL):=Lib.hid (by rw [hNL];have:=HJV.out.lown.1;simpa using this)
   have HFL:Hid (NL≤3000000):=Lib.hid (by rw [hNL];have:=frs_length b;simp [pays];omega)
   have HNL:=Lib.hid hNL
   have HN0:Hid (lv1.ownBlock≠some w.heap.size):=Lib.hid fun e=>by rcases hG1 _ (HJV.out.gl _ e).1 with h2 | h2;(have:=HG.out _ h2;omega);omega
   have HN2:Hid (lv1.ownBlock≠some (w.heap.size+1)):=Lib.hid fun e=>by rcases hG1 _ (HJV.out.gl _ e).1 with h2 | h2;(have:=HG.out _ h2;omega);omega
   have HN1:Hid (lv1.ownBlock≠some bx):=Lib.hid (row_not HJV.out.lown HXB.out (by decide))
   have HN3:Hid (lv1.ownBlock≠some pj):=Lib.hid fun e=>(HJV.out.gl _ e).2.1 rfl
   have HNB:Hid (bx≠pj):=Lib.hid fun e=>by
    have h1:=HXB.out
    have h2:=HJV.out.head
    rw [e,h2] at h1
    injection h1 with h1
    injection h1 with h1 h3 h4
    exact absurd h3 (by decide)
   have HNA:Hid (w.heap.size≠pj):=Lib.hid fun e=>by rcases hG1 _ HJV.out.gpj with h2 | h2;(have:=HG.out _ h2;omega);omega
   have HNC:Hid (w.heap.size+1≠pj):=Lib.hid fun e=>by rcases hG1 _ HJV.out.gpj with h2 | h2;(have:=HG.out _ h2;omega);omega
   have HS0':=Lib.hid hs0
   obtain ⟨A1,c1,hlvf⟩:=Own.formR HJV.out.lown
   rw [←hNL] at hlvf
   have HGX:=Lib.hid hg
   clear hNL hg
   subst hlvf
   clear hX bWX hne p0 x0 xx1 xx2 j0 j1 j2 j3 jf1 jf2 jf3
   refine wpIn_round_held (S:=fun w'=>w'.cell? ⟨w.heap.size,0,none⟩=some (.pointer (some ⟨pj,0,none⟩))∧w'.cell? ⟨bx,1,none⟩=some (.slice A5 x.1.pay.length c5)) (by kernel_rfl) (by kernel_rfl) (by rintro ⟨_,_,h⟩;exact h) ?_
   refine wpAnyH_take (i:=0) (v:=.pointer (some ⟨pj,0,none⟩)) rfl (by kernel_rfl) (by kernel_rfl) (by kernel_rfl) (fun _ _ _ h=>h) (Or.inl ⟨by rfl,fun w' hS=>by obtain ⟨s0,s1⟩:=hS;go_simp⟩) HS0.out ?_
   refine wpAnyH_take (i:=1) (v:=.pointer (some ⟨pj,0,none⟩)) rfl (by kernel_rfl) (by kernel_rfl) (by kernel_rfl) (fun _ _ _ h=>h) (Or.inl ⟨by rfl,fun w' hS=>by obtain ⟨s0,s1⟩:=hS;go_simp⟩) HS0.out ?_
   refine wpAnyH_take (i:=2) (v:=.pointer (some ⟨pj,0,none⟩)) rfl (by kernel_rfl) (by kernel_rfl) (by kernel_rfl) (fun _ _ _ h=>h) (Or.inl ⟨by rfl,fun w' hS=>by obtain ⟨s0,s1⟩:=hS;go_simp⟩) HS0.out ?_
   refine wpAnyH_take (i:=3) (v:=.pointer (some ⟨pj,3,none⟩)) rfl (by kernel_rfl) (by kernel_rfl) (by kernel_rfl) (fun _ _ _ h=>h) (Or.inl ⟨by rfl,fun w' hS=>by obtain ⟨s0,s1⟩:=hS;go_simp⟩) HS0.out ?_
   refine wpAnyH_take (i:=5) (v:=.pointer (some ⟨bx,1,none⟩)) rfl (by kernel_rfl) (by kernel_rfl) (by kernel_rfl) (fun _ _ _ h=>h) (Or.inl ⟨by rfl,fun w' hS=>by obtain ⟨s0,s1⟩:=hS;go_simp⟩) HS0.out ?_
   refine wpAnyH_take (i:=6) (v:=.slice A5 x.1.pay.length c5) rfl (by kernel_rfl) (by kernel_rfl) (by kernel_rfl) (fun _ _ _ h=>h) (Or.inl ⟨by rfl,fun w' hS=>by obtain ⟨s0,s1⟩:=hS;go_simp⟩) HS0.out ?_
   refine wpAnyH_all (rs:=[4,7]) (by kernel_rfl) (by simp) ?_
   intro i hi
   simp only [List.mem_cons,List.not_mem_nil,or_false] at hi
   rcases hi with rfl|rfl
   ·refine wpOp_of rfl rfl (fun K hK=>?_)
    go_simp
    refine hK _ _ ⟨HS0.out,?_⟩
    clear hK K
    refine wpAnyH_all (rs:=[7]) (by kernel_rfl) (by simp) ?_
    intro i hi
    simp only [List.mem_cons,List.not_mem_nil,or_false] at hi
    subst hi
    refine wpOp_of rfl rfl (fun K hK=>?_)
    go_simp
    refine HCL.out.mono ?_
    rintro e w2 ⟨A2,c2,rfl,HU2,HB2,⟨q0,q1⟩,q3⟩
    refine hK _ _ ⟨⟨q0,q1⟩,?_⟩
    clear hK K
    have q0':=Lib.cell?_alloc_some (.cells #[.slice A2 x.1.pay.length c2] 24) q0
    have q1':=Lib.cell?_alloc_some (.cells #[.slice A2 x.1.pay.length c2] 24) q1
    have q3':=Lib.cell?_alloc_some (.cells #[.slice A2 x.1.pay.length c2] 24) q3
    have B4:Hid (Below W.heap.size W (w2.alloc (.cells #[.slice A2 x.1.pay.length c2] 24))):=Lib.hid ((HBX.out.trans (HB2.out.mono HBX.out.size)).alloc (by have:=HBX.out.size;have:=HB2.out.size;omega) _)
    have hown4:Par.Own (w2.alloc (.cells #[.slice A2 x.1.pay.length c2] 24)) 0 24 (.slice A1 NL c1) us1:=by
     have:=(HJV.out.go B4.out).lown
     rw [←HNL.out] at this
     unfold Par.Own
     rw [HLEN.out]
     exact this
    have HO4:=Lib.hid hown4
    clear hown4
    refine wpAnyH_all (rs:=[8]) (by kernel_rfl) (by simp) ?_
    intro i hi
    simp only [List.mem_cons,List.not_mem_nil,or_false] at hi
    subst hi
    refine wpOp_of rfl rfl (fun K hK=>?_)
    go_simp
    refine hK _ _ ⟨⟨q0',q1'⟩,?_⟩
    clear hK K
    refine wpAnyH_all (rs:=[9]) (by kernel_rfl) (by simp) ?_
    intro i hi
    simp only [List.mem_cons,List.not_mem_nil,or_false] at hi
    subst hi
    refine wpOp_of rfl rfl (fun K hK=>?_)
    refine wp_app _ (.tmp 21) (.tmp 25) 22 rfl 0 24 _ rowE (.slice A1 NL c1) us1 rfl HO4.out _ _ [.slice A2 x.1.pay.length c2] rfl (Seg.new w2 24 #[.slice A2 x.1.pay.length c2] [.slice A2 x.1.pay.length c2] rfl (by simp [maxLen])) (fun y hy=>by simp at hy;subst hy;rfl) (by have:=HLEN.out;have:=HFL.out;simp only [List.length_cons,List.length_nil];omega) (Nat.zero_le _) (fun v3 w5 h2 h3 h4=>?_)
    have g0:=grown_cell h3 q0' (fun e=>HN0.out e)
    have g1:=grown_cell h3 q1' (fun e=>HN1.out e)
    have g3:=grown_cell h3 q3' (fun e=>HN3.out e)
    have HS5':Hid (w5.cell? ⟨w.heap.size,0,none⟩=some (.pointer (some ⟨pj,0,none⟩))∧w5.cell? ⟨bx,1,none⟩=some (.slice A5 x.1.pay.length c5)):=Lib.hid ⟨g0,g1⟩
    refine hK _ _ ⟨HS5'.out,?_⟩
    clear hK K
    obtain ⟨A3,c3,hf3⟩:=h2.form
    have hr3:w5.ownsRow 0 24 1 v3 (us1.length+1) (us1 ++ [.slice A2 x.1.pay.length c2]):=by have:=h2;unfold Par.Own at this;rw [List.length_append] at this;exact this
    have HNX:=Lib.hid (HI.out.next HG.out HJV.out hG1 HBX.out HB2.out x HGX.out HU2.out _ hr3 h3 (by simpa using h4))
    have hh3:=h3.block pj (by have:=HJV.out.lt pj HJV.out.gpj;have:=B4.out.size;omega) (fun e=>HN3.out e.symm)
    have hj5:w5.heap[pj]? = some (.cells #[.pointer (some ⟨p,0,none⟩),.int .u32 (gen:Nat),bv,.slice A1 NL c1] 95 (0,0)):=hh3.trans ((B4.out.block pj (HJV.out.lt pj HJV.out.gpj)).trans HJV.out.head)
    obtain ⟨-,-,-,jf3⟩:=four_cells hj5
    have hxb5:w5.heap[bx]? = some (.cells #[.int .u32 (x.1.gen:Nat),.slice A5 x.1.pay.length c5,.int .i64 (x.1.stop:Nat)] 147 (0,0)):=(h3.block bx (by have:=lt_of_block HXB.out;have:=B4.out.size;omega) (fun e=>HN1.out e.symm)).trans ((B4.out.block bx (lt_of_block HXB.out)).trans HXB.out)
    have hc15:w5.heap[w.heap.size+1]? = some (.cells #[.int .i64 (endOf pre:Nat)] 3 (0,0)):=(h3.block _ (by have:=HI.out.size;have:=B4.out.size;omega) (fun e=>HN2.out e.symm)).trans ((B4.out.block _ (by have:=HI.out.size;omega)).trans HI.out.c1)
    have HXF:=Lib.hid ((setCell_block (a:=⟨pj,3,none⟩) (x:=v3) HNB.out).trans hxb5)
    have HCF:=Lib.hid ((setCell_block (a:=⟨pj,3,none⟩) (x:=v3) HNC.out).trans hc15)
    clear h2 h3 h4 hr3 hh3 hj5 hxb5 hc15 HO4 HU2 q0 q1 q3 q0' q1' q3'
    have hf3':v3=.slice A3 (us1.length+1) c3:=by rw [hf3,List.length_append];rfl
    clear hf3
    subst hf3'
    refine wpAnyH_take (i:=10) (v:=.pointer (some ⟨pj,0,none⟩)) rfl (by kernel_rfl) (by kernel_rfl) (by kernel_rfl) (fun _ _ _ h=>h) (Or.inl ⟨by rfl,fun w' hS=>by obtain ⟨s0,s1⟩:=hS;go_simp⟩) HS5'.out ?_
    refine wpAnyH_take (i:=11) (v:=.pointer (some ⟨pj,3,none⟩)) rfl (by kernel_rfl) (by kernel_rfl) (by kernel_rfl) (fun _ _ _ h=>h) (Or.inl ⟨by rfl,fun w' hS=>by obtain ⟨s0,s1⟩:=hS;go_simp⟩) HS5'.out ?_
    refine wpAnyH_all (rs:=[12]) (by kernel_rfl) (by simp) ?_
    intro i hi
    simp only [List.mem_cons,List.not_mem_nil,or_false] at hi
    subst hi
    refine wpOp_of rfl rfl (fun K hK=>?_)
    go_simp
    refine hK _ _ ⟨⟨(World.cell?_setCell_other _ _ _ _ (fun e=>HNA.out (by injection e with e1;exact e1.symm))).trans HS5'.out.1,(World.cell?_setCell_other _ _ _ _ (fun e=>HNB.out (by injection e with e1;exact e1.symm))).trans HS5'.out.2⟩,?_⟩
    clear hK K
    refine wpAnyH_done (by kernel_rfl) ?_ _
    obtain ⟨-,-,f2⟩:=three_cellsJ HXF.out
    obtain ⟨f5,f6⟩:=one_cellJ HCF.out
    clear g0 g1 g3 jf3
    gi_wp2
    have:=HNX.out
    rw [←HS0'.out] at this
    exact this
   ·refine wpOp_of rfl rfl (fun K hK=>?_)
    go_simp
    refine HCL.out.mono ?_
    rintro e w2 ⟨A2,c2,rfl,HU2,HB2,⟨q0,q1⟩,q3⟩
    refine hK _ _ ⟨⟨q0,q1⟩,?_⟩
    clear hK K
    have q0':=Lib.cell?_alloc_some (.cells #[.slice A2 x.1.pay.length c2] 24) q0
    have q1':=Lib.cell?_alloc_some (.cells #[.slice A2 x.1.pay.length c2] 24) q1
    have q3':=Lib.cell?_alloc_some (.cells #[.slice A2 x.1.pay.length c2] 24) q3
    have B4:Hid (Below W.heap.size W (w2.alloc (.cells #[.slice A2 x.1.pay.length c2] 24))):=Lib.hid ((HBX.out.trans (HB2.out.mono HBX.out.size)).alloc (by have:=HBX.out.size;have:=HB2.out.size;omega) _)
    have hown4:Par.Own (w2.alloc (.cells #[.slice A2 x.1.pay.length c2] 24)) 0 24 (.slice A1 NL c1) us1:=by
     have:=(HJV.out.go B4.out).lown
     rw [←HNL.out] at this
     unfold Par.Own
     rw [HLEN.out]
     exact this
    have HO4:=Lib.hid hown4
    clear hown4
    refine wpAnyH_all (rs:=[4,8]) (by kernel_rfl) (by simp) ?_
    intro i hi
    simp only [List.mem_cons,List.not_mem_nil,or_false] at hi
    rcases hi with rfl|rfl
    ·refine wpOp_of rfl rfl (fun K hK=>?_)
     go_simp
     refine hK _ _ ⟨⟨q0,q1⟩,?_⟩
     clear hK K
     refine wpAnyH_all (rs:=[8]) (by kernel_rfl) (by simp) ?_
     intro i hi
     simp only [List.mem_cons,List.not_mem_nil,or_false] at hi
     subst hi
     refine wpOp_of rfl rfl (fun K hK=>?_)
     go_simp
     refine hK _ _ ⟨⟨q0',q1'⟩,?_⟩
     clear hK K
     refine wpAnyH_all (rs:=[9]) (by kernel_rfl) (by simp) ?_
     intro i hi
     simp only [List.mem_cons,List.not_mem_nil,or_false] at hi
     subst hi
     refine wpOp_of rfl rfl (fun K hK=>?_)
     refine wp_app _ (.tmp 21) (.tmp 25) 22 rfl 0 24 _ rowE (.slice A1 NL c1) us1 rfl HO4.out _ _ [.slice A2 x.1.pay.length c2] rfl (Seg.new w2 24 #[.slice A2 x.1.pay.length c2] [.slice A2 x.1.pay.length c2] rfl (by simp [maxLen])) (fun y hy=>by simp at hy;subst hy;rfl) (by have:=HLEN.out;have:=HFL.out;simp only [List.length_cons,List.length_nil];omega) (Nat.zero_le _) (fun v3 w5 h2 h3 h4=>?_)
     have g0:=grown_cell h3 q0' (fun e=>HN0.out e)
     have g1:=grown_cell h3 q1' (fun e=>HN1.out e)
     have g3:=grown_cell h3 q3' (fun e=>HN3.out e)
     have HS5':Hid (w5.cell? ⟨w.heap.size,0,none⟩=some (.pointer (some ⟨pj,0,none⟩))∧w5.cell? ⟨bx,1,none⟩=some (.slice A5 x.1.pay.length c5)):=Lib.hid ⟨g0,g1⟩
     refine hK _ _ ⟨HS5'.out,?_⟩
     clear hK K
     obtain ⟨A3,c3,hf3⟩:=h2.form
     have hr3:w5.ownsRow 0 24 1 v3 (us1.length+1) (us1 ++ [.slice A2 x.1.pay.length c2]):=by have:=h2;unfold Par.Own at this;rw [List.length_append] at this;exact this
     have HNX:=Lib.hid (HI.out.next HG.out HJV.out hG1 HBX.out HB2.out x HGX.out HU2.out _ hr3 h3 (by simpa using h4))
     have hh3:=h3.block pj (by have:=HJV.out.lt pj HJV.out.gpj;have:=B4.out.size;omega) (fun e=>HN3.out e.symm)
     have hj5:w5.heap[pj]? = some (.cells #[.pointer (some ⟨p,0,none⟩),.int .u32 (gen:Nat),bv,.slice A1 NL c1] 95 (0,0)):=hh3.trans ((B4.out.block pj (HJV.out.lt pj HJV.out.gpj)).trans HJV.out.head)
     obtain ⟨-,-,-,jf3⟩:=four_cells hj5
     have hxb5:w5.heap[bx]? = some (.cells #[.int .u32 (x.1.gen:Nat),.slice A5 x.1.pay.length c5,.int .i64 (x.1.stop:Nat)] 147 (0,0)):=(h3.block bx (by have:=lt_of_block HXB.out;have:=B4.out.size;omega) (fun e=>HN1.out e.symm)).trans ((B4.out.block bx (lt_of_block HXB.out)).trans HXB.out)
     have hc15:w5.heap[w.heap.size+1]? = some (.cells #[.int .i64 (endOf pre:Nat)] 3 (0,0)):=(h3.block _ (by have:=HI.out.size;have:=B4.out.size;omega) (fun e=>HN2.out e.symm)).trans ((B4.out.block _ (by have:=HI.out.size;omega)).trans HI.out.c1)
     have HXF:=Lib.hid ((setCell_block (a:=⟨pj,3,none⟩) (x:=v3) HNB.out).trans hxb5)
     have HCF:=Lib.hid ((setCell_block (a:=⟨pj,3,none⟩) (x:=v3) HNC.out).trans hc15)
     clear h2 h3 h4 hr3 hh3 hj5 hxb5 hc15 HO4 HU2 q0 q1 q3 q0' q1' q3'
     have hf3':v3=.slice A3 (us1.length+1) c3:=by rw [hf3,List.length_append];rfl
     clear hf3
     subst hf3'
     refine wpAnyH_take (i:=10) (v:=.pointer (some ⟨pj,0,none⟩)) rfl (by kernel_rfl) (by kernel_rfl) (by kernel_rfl) (fun _ _ _ h=>h) (Or.inl ⟨by rfl,fun w' hS=>by obtain ⟨s0,s1⟩:=hS;go_simp⟩) HS5'.out ?_
     refine wpAnyH_take (i:=11) (v:=.pointer (some ⟨pj,3,none⟩)) rfl (by kernel_rfl) (by kernel_rfl) (by kernel_rfl) (fun _ _ _ h=>h) (Or.inl ⟨by rfl,fun w' hS=>by obtain ⟨s0,s1⟩:=hS;go_simp⟩) HS5'.out ?_
     refine wpAnyH_all (rs:=[12]) (by kernel_rfl) (by simp) ?_
     intro i hi
     simp only [List.mem_cons,List.not_mem_nil,or_false] at hi
     subst hi
     refine wpOp_of rfl rfl (fun K hK=>?_)
     go_simp
     refine hK _ _ ⟨⟨(World.cell?_setCell_other _ _ _ _ (fun e=>HNA.out (by injection e with e1;exact e1.symm))).trans HS5'.out.1,(World.cell?_setCell_other _ _ _ _ (fun e=>HNB.out (by injection e with e1;exact e1.symm))).trans HS5'.out.2⟩,?_⟩
     clear hK K
     refine wpAnyH_done (by kernel_rfl) ?_ _
     obtain ⟨-,-,f2⟩:=three_cellsJ HXF.out
     obtain ⟨f5,f6⟩:=one_cellJ HCF.out
     clear g0 g1 g3 jf3
     gi_wp2
     have:=HNX.out
     rw [←HS0'.out] at this
     exact this
    ·refine wpOp_of rfl rfl (fun K hK=>?_)
     go_simp
     refine hK _ _ ⟨⟨q0',q1'⟩,?_⟩
     clear hK K
     refine wpAnyH_all (rs:=[4]) (by kernel_rfl) (by simp) ?_
     intro i hi
     simp only [List.mem_cons,List.not_mem_nil,or_false] at hi
     subst hi
     refine wpOp_of rfl rfl (fun K hK=>?_)
     go_simp
     refine hK _ _ ⟨⟨q0',q1'⟩,?_⟩
     clear hK K
     refine wpAnyH_all (rs:=[9]) (by kernel_rfl) (by simp) ?_
     intro i hi
     simp only [List.mem_cons,List.not_mem_nil,or_false] at hi
     subst hi
     refine wpOp_of rfl rfl (fun K hK=>?_)
     refine wp_app _ (.tmp 21) (.tmp 25) 22 rfl 0 24 _ rowE (.slice A1 NL c1) us1 rfl HO4.out _ _ [.slice A2 x.1.pay.length c2] rfl (Seg.new w2 24 #[.slice A2 x.1.pay.length c2] [.slice A2 x.1.pay.length c2] rfl (by simp [maxLen])) (fun y hy=>by simp at hy;subst hy;rfl) (by have:=HLEN.out;have:=HFL.out;simp only [List.length_cons,List.length_nil];omega) (Nat.zero_le _) (fun v3 w5 h2 h3 h4=>?_)
     have g0:=grown_cell h3 q0' (fun e=>HN0.out e)
     have g1:=grown_cell h3 q1' (fun e=>HN1.out e)
     have g3:=grown_cell h3 q3' (fun e=>HN3.out e)
     have HS5':Hid (w5.cell? ⟨w.heap.size,0,none⟩=some (.pointer (some ⟨pj,0,none⟩))∧w5.cell? ⟨bx,1,none⟩=some (.slice A5 x.1.pay.length c5)):=Lib.hid ⟨g0,g1⟩
     refine hK _ _ ⟨HS5'.out,?_⟩
     clear hK K
     obtain ⟨A3,c3,hf3⟩:=h2.form
     have hr3:w5.ownsRow 0 24 1 v3 (us1.length+1) (us1 ++ [.slice A2 x.1.pay.length c2]):=by have:=h2;unfold Par.Own at this;rw [List.length_append] at this;exact this
     have HNX:=Lib.hid (HI.out.next HG.out HJV.out hG1 HBX.out HB2.out x HGX.out HU2.out _ hr3 h3 (by simpa using h4))
     have hh3:=h3.block pj (by have:=HJV.out.lt pj HJV.out.gpj;have:=B4.out.size;omega) (fun e=>HN3.out e.symm)
     have hj5:w5.heap[pj]? = some (.cells #[.pointer (some ⟨p,0,none⟩),.int .u32 (gen:Nat),bv,.slice A1 NL c1] 95 (0,0)):=hh3.trans ((B4.out.block pj (HJV.out.lt pj HJV.out.gpj)).trans HJV.out.head)
     obtain ⟨-,-,-,jf3⟩:=four_cells hj5
     have hxb5:w5.heap[bx]? = some (.cells #[.int .u32 (x.1.gen:Nat),.slice A5 x.1.pay.length c5,.int .i64 (x.1.stop:Nat)] 147 (0,0)):=(h3.block bx (by have:=lt_of_block HXB.out;have:=B4.out.size;omega) (fun e=>HN1.out e.symm)).trans ((B4.out.block bx (lt_of_block HXB.out)).trans HXB.out)
     have hc15:w5.heap[w.heap.size+1]? = some (.cells #[.int .i64 (endOf pre:Nat)] 3 (0,0)):=(h3.block _ (by have:=HI.out.size;have:=B4.out.size;omega) (fun e=>HN2.out e.symm)).trans ((B4.out.block _ (by have:=HI.out.size;omega)).trans HI.out.c1)
     have HXF:=Lib.hid ((setCell_block (a:=⟨pj,3,none⟩) (x:=v3) HNB.out).trans hxb5)
     have HCF:=Lib.hid ((setCell_block (a:=⟨pj,3,none⟩) (x:=v3) HNC.out).trans hc15)
     clear h2 h3 h4 hr3 hh3 hj5 hxb5 hc15 HO4 HU2 q0 q1 q3 q0' q1' q3'
     have hf3':v3=.slice A3 (us1.length+1) c3:=by rw [hf3,List.length_append];rfl
     clear hf3
     subst hf3'
     refine wpAnyH_take (i:=10) (v:=.pointer (some ⟨pj,0,none⟩)) rfl (by kernel_rfl) (by kernel_rfl) (by kernel_rfl) (fun _ _ _ h=>h) (Or.inl ⟨by rfl,fun w' hS=>by obtain ⟨s0,s1⟩:=hS;go_simp⟩) HS5'.out ?_
     refine wpAnyH_take (i:=11) (v:=.pointer (some ⟨pj,3,none⟩)) rfl (by kernel_rfl) (by kernel_rfl) (by kernel_rfl) (fun _ _ _ h=>h) (Or.inl ⟨by rfl,fun w' hS=>by obtain ⟨s0,s1⟩:=hS;go_simp⟩) HS5'.out ?_
     refine wpAnyH_all (rs:=[12]) (by kernel_rfl) (by simp) ?_
     intro i hi
     simp only [List.mem_cons,List.not_mem_nil,or_false] at hi
     subst hi
     refine wpOp_of rfl rfl (fun K hK=>?_)
     go_simp
     refine hK _ _ ⟨⟨(World.cell?_setCell_other _ _ _ _ (fun e=>HNA.out (by injection e with e1;exact e1.symm))).trans HS5'.out.1,(World.cell?_setCell_other _ _ _ _ (fun e=>HNB.out (by injection e with e1;exact e1.symm))).trans HS5'.out.2⟩,?_⟩
     clear hK K
     refine wpAnyH_done (by kernel_rfl) ?_ _
     obtain ⟨-,-,f2⟩:=three_cellsJ HXF.out
     obtain ⟨f5,f6⟩:=one_cellJ HCF.out
     clear g0 g1 g3 jf3
     gi_wp2
     have:=HNX.out
     rw [←HS0'.out] at this
     exact this
  ·have hne:((x.1.gen:Int) != (gen:Int))=true:=by simp;omega
   gi_wp2
   refine wpIn_round_quiet (by kernel_rfl) (by kernel_rfl) (by kernel_rfl) ?_
   repeat (any_goals (first | go_big_quiet_step (fail) | quiet_step (fail)))
   all_goals (refine wpQuiet_nil ?_;intro _ hw';obtain ⟨nq,hw''⟩:=hw';subst hw'')
   gi_wp2
   have hb:=below_drewN (Below.refl W.heap.size W) nq
   exact ⟨⟨hb.size,fun k o _ hk _=>(hb.block k (lt_of_block hk)).trans hk⟩,rfl,pre,x,rfl,HI.out.go hb,hg⟩
 case done =>
  rintro D ys W hD rfl hIW hK
  have c5:W.cell? ⟨w.heap.size+1,0,none⟩=some (.int .i64 (endOf (frs b):Nat)):=by have:=hIW.c1;simp [World.cell?,this]
  have HE:Hid (sameGen gen (frs b)=frs b):=Lib.hid (sameGen_all hIW.same)
  have HI:=Lib.hid hIW;clear hIW
  gi_wp2
  refine ⟨by simp,.inl ⟨_,_,rfl,run_takeDeferred hK,?_⟩⟩
  have hY:=HI.out.walk HG.out (grownBy_putObj' W D (.deferred none)) (fun r e=>by cases e;exact ⟨by omega,_,hK,rfl⟩)
  obtain ⟨lv',us',G',h1,h2⟩:=hY.jv
  refine ⟨_,results_tmp rfl _ _ _,lv',us',G',by rw [HE.out];rfl,by rw [HE.out];exact h1,hY.kept,fun k hk=>(h2 k hk).imp id (fun h=>by omega)⟩
 case stop =>
  rintro D cd xs W hD hSp ⟨rfl,pre,x,rfl,hIW,hx⟩ hK
  have c5:W.cell? ⟨w.heap.size+1,0,none⟩=some (.int .i64 (endOf pre:Nat)):=by have:=hIW.c1;simp [World.cell?,this]
  have HE:Hid (sameGen gen (frs b)=pre):=Lib.hid (sameGen_cut hIW.same hx hSp)
  have HI:=Lib.hid hIW;clear hIW hx hSp
  gi_wp2
  refine ⟨by simp,.inl ⟨_,_,rfl,run_takeDeferred hK,?_⟩⟩
  have hY:=HI.out.walk HG.out (grownBy_putObj' W D (.deferred none)) (fun r e=>by cases e;exact ⟨by omega,_,hK,rfl⟩)
  obtain ⟨lv',us',G',h1,h2⟩:=hY.jv
  refine ⟨_,results_tmp rfl _ _ _,lv',us',G',by rw [HE.out];rfl,by rw [HE.out];exact h1,hY.kept,fun k hk=>(h2 k hk).imp id (fun h=>by omega)⟩
end Go.Proofs.YtaalbcfpacpgfaaGreat
