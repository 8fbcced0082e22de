/- Texts L9 L10 of the proof, joined. -/
import Derived.Deep.CutBlock
import Derived.Deep.DeepCutAuto
import Derived.Test.YtaalbcfpacpgfaaGreatZaL8
import Derived.Test.YtaalbcfpacpgfaaGreatZaTY
set_option linter.unusedVariables false
set_option linter.unusedSimpArgs false
namespace Go.Typ
mutual
def countT:Ty→Int
 | .mk _ _ _ ts=>countL ts 1
def countL:List Ty→Int→Int
 | [],n=>n
 | a :: ts,n=>if n≤300 then countL ts (n+countT a) else n
end
theorem countT_eq (T:Ty):countT T=countL T.args 1:=by cases T;rfl
theorem countL_stop {ts:List Ty} {n:Int} (h:¬ n≤300):countL ts n=n:=by
 cases ts with
 | nil=>rfl
 | cons a ts=>simp only [countL,if_neg h]
theorem countL_step {ts:List Ty} {k:Nat} {n:Int} (hk:k < ts.length) (h:n≤300):countL (ts.drop k) n=countL (ts.drop (k+1)) (n+countT ts[k]):=by
 rw [List.drop_eq_getElem_cons hk,countL,if_pos h]
theorem countL_end {ts:List Ty} {k:Nat} {n:Int} (hk:ts.length≤k):countL (ts.drop k) n=n:=by
 rw [List.drop_of_length_le hk,countL]
def CntOk (p:Nat) (c:Int):Prop:=1≤c∧c≤p∧(c=p∨300 < c)
theorem countL_ok {ts:List Ty} (ih:∀ a∈ts,CntOk a.parts (countT a)):∀ (n:Int) (p:Nat),CntOk p n→CntOk (p+partsL ts) (countL ts n):=by
 induction ts with
 | nil=>intro n p h;simpa [partsL,countL] using h
 | cons a ts ih2 =>
  intro n p h
  obtain ⟨h1,h2,h3⟩:=h
  have ha:=ih a (by simp)
  obtain ⟨a1,a2,a3⟩:=ha
  simp only [countL,partsL]
  split
  ·have:=ih2 (fun b hb=>ih b (by simp [hb])) (n+countT a) (p+a.parts) ⟨by omega,by omega,by omega⟩
   rw [←Nat.add_assoc];exact this
  ·exact ⟨h1,by omega,by omega⟩
theorem countT_ok (T:Ty):CntOk T.parts (countT T):=by
 induction T using Ty.ind with
 | h T ih =>
  rw [countT_eq,T.parts_eq]
  refine countL_ok (fun a ha=>?_) 1 1 ⟨by omega,by omega,by omega⟩
  obtain ⟨i,hi,rfl⟩:=List.getElem_of_mem ha
  exact ih i hi
def fitsA (T:Ty):Bool:=T.list.all fitsT
theorem listL_all {p:Ty→Bool}:∀ ts:List Ty,(listL ts).all p=ts.all fun a=>a.list.all p
 | []=>rfl
 | a :: ts=>by rw [listL,List.all_append,listL_all ts,List.all_cons]
theorem fitsA_eq (T:Ty):fitsA T=(fitsT T && T.args.all fitsA):=by
 unfold fitsA
 rw [T.list_eq,List.all_cons,listL_all]
end Go.Typ
namespace Go.Proofs.YtaalbcfpacpgfaaGreat
open Go.RowKit Go.Lib Go.Vfs Go.Par Go.Typ
set_option maxRecDepth 20000 in
set_option maxHeartbeats 400000 in
theorem count_any (T:Ty):∀ (v:Value) (w:World),TyAt (· < w.heap.size) w v T→T.parts≤1099511627776 →
  Calls Tryz.prog 200 #[v] w fun e w'=>e=.returned (.int .i64 (countT T))∧Below w.heap.size w w':=by
 induction T using Ty.ind with
 | h T ih =>
  intro v w hT hp
  have IH:=Lib.hid ih
  clear ih
  obtain ⟨A,c,rfl,hc,hm,hn⟩:=hT.form
  have HT:=Lib.hid hT
  have HP:=Lib.hid hp
  have hla:T.args.length≤1099511627776:=by have:=length_parts T.args;rw [T.parts_eq] at hp;omega
  clear hT hp
  unfold tyV
  obtain ⟨W1,hW1⟩:∃ W1,W1=w.alloc (.cells #[.int .i64 T.kind,.int .i64 T.num,.string T.name,.slice A T.args.length c] 61):=⟨_,rfl⟩
  have hbox:W1.heap[w.heap.size]? = some (.cells #[.int .i64 T.kind,.int .i64 T.num,.string T.name,.slice A T.args.length c] 61 (0,0)):=by rw [hW1];exact heap_alloc_new _ _
  have HB1:Hid (Below w.heap.size w W1):=Lib.hid (by rw [hW1];exact (Below.refl _ _).alloc (Nat.le_refl _) _)
  have HZ1:Hid (W1.heap.size=w.heap.size+1):=Lib.hid (by rw [hW1];simp)
  have HBX:=Lib.hid hbox
  clear hbox
  have hst:countL (T.args.drop 0) 1=countT T:=by rw [List.drop_zero,countT_eq]
  have HST:=Lib.hid hst
  clear hst
  go_enter Tryz.func200,Tryz.ntmps200
  go_wp2
  rw [←hW1]
  go_loopw [3,4] (fun nv iv W=>∃ (k:Nat) (n:Int),k≤T.args.length∧nv=.int .i64 n∧iv=.int .i64 k∧Hid (countL (T.args.drop k) n=countT T)∧(1≤n∧n≤2199023255552)∧Hid (n≤300→(n:Int)≤300)∧Hid (Below W1.heap.size W1 W)) (fun nv iv _=>T.args.length - (RowKit.intOf iv).toNat)
  case atStart=>exact ⟨0,_,by omega,rfl,rfl,HST,by omega,Lib.hid (fun h=>h),Lib.hid (Below.refl _ _)⟩
  case round =>
   obtain ⟨k,n,hk,rfl,rfl,HW,hn1,-,HB⟩:=hrel
   have hbox:wr.heap[w.heap.size]? = some (.cells #[.int .i64 T.kind,.int .i64 T.num,.string T.name,.slice A T.args.length c] 61 (0,0)):=by
    rw [HB.out.block _ (by have:=HZ1.out;omega)];exact HBX.out
   obtain ⟨y0,y1,y2,y3⟩:=box4 hbox
   by_cases hlt:k < T.args.length
   ·by_cases hnm:n≤300
    ·obtain ⟨b,off,A',c',rfl,hb,ht,z0,z1,z2,z3⟩:=HT.out.arg hlt
     have hbw:Below w.heap.size w wr:=HB1.out.trans (HB.out.mono HB1.out.size)
     have x0:=(hbw.cell (p:=⟨b,off+k * 4,none⟩) hb).trans z0
     have x1:=(hbw.cell (p:=⟨b,off+k * 4+1,none⟩) hb).trans z1
     have x2:=(hbw.cell (p:=⟨b,off+k * 4+2,none⟩) hb).trans z2
     have x3:=(hbw.cell (p:=⟨b,off+k * 4+3,none⟩) hb).trans z3
     have hpa:=Ty.parts_arg hlt
     have hpl:=HP.out
     have hca:=IH.out k hlt _ wr (ht.keep fun g hg=>⟨Nat.lt_of_lt_of_le hg hbw.size,hbw.block g hg⟩) (by omega)
     have hbd:=countT_ok T.args[k]
     have hbd2:1≤countT T.args[k]∧countT T.args[k]≤1099511627776:=⟨hbd.1,by have:=hbd.2.1;omega⟩
     have HS:=Lib.hid (countL_step (ts:=T.args) hlt hnm)
     clear z0 z1 z2 z3 ht hbox hpa hpl hbd
     generalize T.args[k]=U at *
     obtain ⟨q,hq⟩:∃ q,q=countT U:=⟨_,rfl⟩
     rw [←hq] at hbd2 hca HS
     unfold tyV at hca
     have HCA:=Lib.hid hca
     clear hca hq
     go_wp2_with (go_at_call 200;refine HCA.out.mono ?_;rintro e w2 ⟨rfl,HB2⟩)
     go_roundw
     case rel=>exact ⟨k+1,n+q,by omega,by go_num,by go_num,Lib.hid (HS.out.symm.trans HW.out),⟨by omega,by omega⟩,Lib.hid (fun h=>h),Lib.hid (HB.out.trans (HB2.mono HB.out.size))⟩
     case measure=>simp [RowKit.intOf];omega
    ·have hres:=HW.out
     rw [countL_stop hnm] at hres
     have HRES:=Lib.hid hres
     clear hres
     go_wp2
     go_ret
     exact ⟨by rw [←HRES.out];rfl,HB1.out.trans (HB.out.mono HB1.out.size)⟩
   ·have hres:=HW.out
    rw [countL_end (by omega)] at hres
    have HRES:=Lib.hid hres
    clear hres
    go_wp2
    go_ret
    exact ⟨by rw [←HRES.out];rfl,HB1.out.trans (HB.out.mono HB1.out.size)⟩
set_option maxRecDepth 20000 in
set_option maxHeartbeats 2000000 in
theorem r12right_any (T:Ty):∀ (v:Value) (w:World),TyAt (· < w.heap.size) w v T→NmB 1000000000 T →
  Calls Tryz.prog 201 #[v] w fun e w'=>e=.returned (.bool (fitsA T))∧Below w.heap.size w w':=by
 induction T using Ty.ind with
 | h T ih =>
  intro v w hT hnb
  have IH:=Lib.hid ih
  clear ih
  obtain ⟨A,c,rfl,hc,hm,hn⟩:=hT.form
  have HT:=Lib.hid hT
  have HNB:=Lib.hid hnb
  have hla:T.args.length≤9223372036854775807:=by simp only [maxLen] at hm;omega
  have HK:Hid (∀ W,Calls Tryz.prog 148 #[.string T.name] W fun e w'=>∃ z,e=.returned (.int .i64 z)∧(z=1↔nameOk T.name.data.toList=true)∧Below W.heap.size W w'):=Lib.hid fun W=>r8kind_any T.name (hnb T (by rw [T.list_eq];exact List.mem_cons_self)) W
  obtain ⟨r,hr⟩:∃ r,r=fitsT T:=⟨_,rfl⟩
  have HRA:Hid (fitsA T=(r && T.args.all fitsA)):=Lib.hid (by rw [hr];exact fitsA_eq T)
  unfold fitsT at hr
  have HR:=Lib.hid hr
  obtain ⟨W1,hW1⟩:∃ W1,W1=w.alloc (.cells #[.int .i64 T.kind,.int .i64 T.num,.string T.name,.slice A T.args.length c] 61):=⟨_,rfl⟩
  have hbx:W1.heap[w.heap.size]? = some (.cells #[.int .i64 T.kind,.int .i64 T.num,.string T.name,.slice A T.args.length c] 61 (0,0)):=by rw [hW1];exact heap_alloc_new _ _
  have HB1:Hid (Below w.heap.size w W1):=Lib.hid (by rw [hW1];exact (Below.refl _ _).alloc (Nat.le_refl _) _)
  have HZ1:Hid (W1.heap.size=w.heap.size+1):=Lib.hid (by rw [hW1];simp)
  have HBX:=Lib.hid hbx
  obtain ⟨y0,y1,y2,y3⟩:=box4 hbx
  rw [hW1] at y0 y1 y2 y3
  clear hr hT hc hm hn hnb hbx
  unfold tyV
  go_enter Tryz.func201,Tryz.ntmps201
  go_upto_block 0 with fail
  rw [←hW1]
  rw [←hW1] at y0 y1 y2 y3
  clear hW1
  go_cut [3] (fun v W=>v=.bool r∧Hid (Below W1.heap.size W1 W))
  case first =>
   by_cases k1:T.kind=1
   ·have g1:(T.kind == 1)=true:=by simp [k1]
    have K1:=Lib.hid k1
    clear k1
    go_wp2
    all_goals (go_meet;refine ⟨congrArg Value.bool ?_,Lib.hid (Below.refl _ _)⟩;rw [HR.out])
    all_goals first | (simp [*,K1.out,beq_zero,beq_two];done) | (simp [*,K1.out,beq_zero,beq_two];omega)
   by_cases k2:T.kind=2
   ·have g1:(T.kind == 1)=false:=by simp [k1]
    have g2:(T.kind == 2)=true:=by simp [k2]
    have K1:=Lib.hid k2
    clear k1 k2
    cases hzb:(T.num == 0) with
    | true =>
     have hz0:T.num=0:=by simpa using hzb
     have HZ0:=Lib.hid hz0
     clear hz0
     go_wp2_with (go_at_call 148;refine (HK.out _).mono ?_;rintro e w2 ⟨z,rfl,hz,HB2⟩;have hz1:(z == 1)=nameOk T.name.data.toList:=by (rw [Bool.eq_iff_iff,←hz];simp))
     go_meet
     refine ⟨congrArg Value.bool ?_,Lib.hid (by assumption)⟩
     rw [HR.out]
     simp [K1.out,HZ0.out]
    | false =>
     have hz0:¬ T.num=0:=by simpa using hzb
     have HZ0:=Lib.hid hz0
     clear hz0
     go_wp2
     go_meet
     refine ⟨congrArg Value.bool ?_,Lib.hid (Below.refl _ _)⟩
     rw [HR.out]
     simp [K1.out,HZ0.out]
   by_cases k3:T.kind=3
   ·have g1:(T.kind == 1)=false:=by simp [k1]
    have g2:(T.kind == 2)=false:=by simp [k2]
    have g3:(T.kind == 3)=true:=by simp [k3]
    have K1:=Lib.hid k3
    clear k1 k2 k3
    cases hzb:(T.num == 0) with
    | true =>
     have hz0:T.num=0:=by simpa using hzb
     have HZ0:=Lib.hid hz0
     clear hz0
     go_wp2
     all_goals (go_meet;refine ⟨congrArg Value.bool ?_,Lib.hid (Below.refl _ _)⟩;rw [HR.out])
     all_goals first | (simp [*,K1.out,HZ0.out,beq_zero,beq_two];done) | (simp [*,K1.out,HZ0.out,beq_zero,beq_two];omega)
    | false =>
     have hz0:¬ T.num=0:=by simpa using hzb
     have HZ0:=Lib.hid hz0
     clear hz0
     go_wp2
     go_meet
     refine ⟨congrArg Value.bool ?_,Lib.hid (Below.refl _ _)⟩
     rw [HR.out]
     simp [K1.out,HZ0.out]
   by_cases k4:T.kind=4
   ·have g1:(T.kind == 1)=false:=by simp [k1]
    have g2:(T.kind == 2)=false:=by simp [k2]
    have g3:(T.kind == 3)=false:=by simp [k3]
    have g4:(T.kind == 4)=true:=by simp [k4]
    have K1:=Lib.hid k4
    clear k1 k2 k3 k4
    cases hzb:(T.num == 0) with
    | true =>
     have hz0:T.num=0:=by simpa using hzb
     have HZ0:=Lib.hid hz0
     clear hz0
     go_wp2
     all_goals (go_meet;refine ⟨congrArg Value.bool ?_,Lib.hid (Below.refl _ _)⟩;rw [HR.out])
     all_goals first | (simp [*,K1.out,HZ0.out,beq_zero,beq_two];done) | (simp [*,K1.out,HZ0.out,beq_zero,beq_two];omega)
    | false =>
     have hz0:¬ T.num=0:=by simpa using hzb
     have HZ0:=Lib.hid hz0
     clear hz0
     go_wp2
     go_meet
     refine ⟨congrArg Value.bool ?_,Lib.hid (Below.refl _ _)⟩
     rw [HR.out]
     simp [K1.out,HZ0.out]
   have g1:(T.kind == 1)=false:=by simpa using k1
   have g2:(T.kind == 2)=false:=by simpa using k2
   have g3:(T.kind == 3)=false:=by simpa using k3
   have g4:(T.kind == 4)=false:=by simpa using k4
   have HR2:Hid (r=false):=Lib.hid (by rw [HR.out];simp [k1,k2,k3,k4])
   clear k1 k2 k3 k4
   go_wp2
   go_meet
   exact ⟨by rw [HR2.out],Lib.hid (Below.refl _ _)⟩
  case rest =>
   obtain ⟨rfl,HBC⟩:=hcut
   clear HK HR y0 y1 y2 y3
   go_wp2_with fail
   go_loopw [3,4] (fun ov iv W=>∃ (k:Nat) (ok:Bool),k≤T.args.length∧ov=.bool ok∧iv=.int .i64 k∧Hid (fitsA T=(ok && (T.args.drop k).all fitsA))∧Hid (Below W1.heap.size W1 W)) (fun _ iv _=>T.args.length - (RowKit.intOf iv).toNat)
   case atStart=>exact ⟨0,r,by omega,rfl,rfl,HRA,HBC⟩
   case round =>
    obtain ⟨k,ok,hk,rfl,rfl,HW,HB⟩:=hrel
    have hbox:wr.heap[w.heap.size]? = some (.cells #[.int .i64 T.kind,.int .i64 T.num,.string T.name,.slice A T.args.length c] 61 (0,0)):=by
     rw [HB.out.block _ (by have:=HZ1.out;omega)];exact HBX.out
    obtain ⟨y0,y1,y2,y3⟩:=box4 hbox
    by_cases hlt:k < T.args.length
    ·cases ok with
     | true =>
      obtain ⟨b,off,A',c',rfl,hb,ht,z0,z1,z2,z3⟩:=HT.out.arg hlt
      have hbw:Below w.heap.size w wr:=HB1.out.trans (HB.out.mono HB1.out.size)
      have x0:=(hbw.cell (p:=⟨b,off+k * 4,none⟩) hb).trans z0
      have x1:=(hbw.cell (p:=⟨b,off+k * 4+1,none⟩) hb).trans z1
      have x2:=(hbw.cell (p:=⟨b,off+k * 4+2,none⟩) hb).trans z2
      have x3:=(hbw.cell (p:=⟨b,off+k * 4+3,none⟩) hb).trans z3
      have hca:=IH.out k hlt _ wr (ht.keep fun g hg=>⟨Nat.lt_of_lt_of_le hg hbw.size,hbw.block g hg⟩) (fun x hx=>HNB.out x (by
       rw [T.list_eq]
       exact List.mem_cons_of_mem _ (mem_listL (List.getElem_mem hlt) hx)))
      have HS:Hid (fitsA T=(fitsA T.args[k] && (T.args.drop (k+1)).all fitsA)):=Lib.hid (by
       rw [HW.out,List.drop_eq_getElem_cons hlt,List.all_cons,Bool.true_and])
      clear z0 z1 z2 z3 ht hbox
      generalize T.args[k]=U at *
      obtain ⟨q,hq⟩:∃ q,q=fitsA U:=⟨_,rfl⟩
      rw [←hq] at hca HS
      unfold tyV at hca
      have HCA:=Lib.hid hca
      clear hca hq
      go_wp2_with (go_at_call 201;refine HCA.out.mono ?_;rintro e w2 ⟨rfl,HB2⟩)
      go_roundw
      case rel=>exact ⟨k+1,q,by omega,rfl,by go_num,HS,Lib.hid (HB.out.trans (HB2.mono HB.out.size))⟩
      case measure=>simp [RowKit.intOf];omega
     | false =>
      have HRES:Hid (fitsA T=false):=Lib.hid (by rw [HW.out,Bool.false_and])
      go_wp2
      go_ret
      exact ⟨by rw [HRES.out];rfl,HB1.out.trans (HB.out.mono HB1.out.size)⟩
    ·have HRES:Hid (fitsA T=ok):=Lib.hid (by rw [HW.out,List.drop_of_length_le (by omega)];simp)
     go_wp2
     go_ret
     exact ⟨by rw [HRES.out];rfl,HB1.out.trans (HB.out.mono HB1.out.size)⟩
set_option maxRecDepth 20000 in
set_option maxHeartbeats 1000000 in
theorem r12Right_any (T:Ty) (v:Value) (w:World) (hT:TyAt (· < w.heap.size) w v T) (hp:T.parts≤1099511627776) (hn:NmB 1000000000 T) :
  Calls Tryz.prog 184 #[v] w fun e w'=>e=.returned (.bool (rightT T))∧Below w.heap.size w w':=by
 obtain ⟨A,c,rfl,-⟩:=hT.form
 obtain ⟨W1,hW1⟩:∃ W1,W1=w.alloc (.cells #[.int .i64 T.kind,.int .i64 T.num,.string T.name,.slice A T.args.length c] 61):=⟨_,rfl⟩
 have hbx:W1.heap[w.heap.size]? = some (.cells #[.int .i64 T.kind,.int .i64 T.num,.string T.name,.slice A T.args.length c] 61 (0,0)):=by rw [hW1];exact heap_alloc_new _ _
 have hb1:Below w.heap.size w W1:=by rw [hW1];exact (Below.refl _ _).alloc (Nat.le_refl _) _
 have HB1:=Lib.hid hb1
 have HBX:=Lib.hid hbx
 have hT1:=hT.blw hb1
 have hc1:=count_any T _ W1 hT1 hp
 have HC2:Hid (∀ W,Below W1.heap.size W1 W→Calls Tryz.prog 201 #[tyV T.kind T.num T.name A T.args.length c] W fun e w'=>e=.returned (.bool (fitsA T))∧Below W.heap.size W w'):=Lib.hid fun W hW=>r12right_any T _ W (hT1.blw hW) hn
 have HCT:=Lib.hid (countT_ok T)
 have HRT:Hid (rightT T=(decide (T.parts≤300) && fitsA T)):=Lib.hid rfl
 obtain ⟨y0,y1,y2,y3⟩:=box4 hbx
 rw [hW1] at y0 y1 y2 y3
 unfold tyV at hc1 HC2 ⊢
 have HC1:=Lib.hid hc1
 clear hT hbx hb1 hT1 hc1
 go_enter Tryz.func184,Tryz.ntmps184
 go_wp2_with fail
 rw [←hW1]
 clear hW1 y0 y1 y2 y3
 refine HC1.out.mono ?_
 rintro e w2 ⟨rfl,hb2⟩
 have HB2:Hid (Below W1.heap.size W1 w2):=Lib.hid hb2
 obtain ⟨y0,y1,y2,y3⟩:=box4 ((hb2.block _ (lt_blk HBX.out)).trans HBX.out)
 clear hb2
 by_cases h3:T.parts≤300
 ·have hle:countT T≤300:=by have:=HCT.out;rcases this with ⟨_,h1,_⟩;omega
  have HRR:Hid (rightT T=fitsA T):=Lib.hid (by rw [HRT.out,decide_eq_true h3,Bool.true_and])
  clear HCT
  generalize countT T=ct at *
  go_wp2_with fail
  refine (HC2.out _ HB2.out).mono ?_
  rintro e w3 ⟨rfl,hb3⟩
  have HB3:=Lib.hid (HB1.out.trans ((HB2.out.trans (hb3.mono HB2.out.size)).mono HB1.out.size))
  clear hb3
  go_wp2
  go_ret
  exact ⟨by rw [HRR.out];rfl,HB3.out⟩
 ·have hle:¬ countT T≤300:=by have:=HCT.out;rcases this with ⟨_,h1,h2⟩;omega
  have HRR:Hid (rightT T=false):=Lib.hid (by rw [HRT.out,decide_eq_false h3,Bool.false_and])
  clear HCT
  generalize countT T=ct at *
  go_wp2
  go_ret
  exact ⟨by rw [HRR.out];rfl,HB1.out.trans (HB2.out.mono HB1.out.size)⟩
end Go.Proofs.YtaalbcfpacpgfaaGreat
