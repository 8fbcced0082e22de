/- The reference's Closed and small. -/
import Derived.Test.YtaalbcfpacpgfaaGreatZaXA
import Derived.Test.YtaalbcfpacpgfaaGreatZaL12
set_option linter.unusedVariables false
set_option linter.unusedSimpArgs false
namespace Go.Typ
open Go.RowKit Go.Lib Go.Vfs Go.Par
def rng (m:Nat):List Int:=(List.range m).map fun (n:Nat)=>(n:Int)
theorem rng_len (m:Nat):(rng m).length=m:=by simp [rng]
theorem rng_succ (m:Nat):rng (m+1)=rng m ++ [(m:Int)]:=by simp [rng,List.range_succ]
theorem rng_mem {m:Nat} {n:Int}:n∈rng m↔0≤n∧n < m:=by
 unfold rng
 rw [List.mem_map]
 constructor
 ·rintro ⟨k,hk,rfl⟩;have:=List.mem_range.1 hk;omega
 ·rintro ⟨h1,h2⟩;exact ⟨n.toNat,List.mem_range.2 (by omega),by omega⟩
theorem rng_idx:∀ {m:Nat} {n:Int},n∈rng m→((rng m).idxOf n:Int)=n
 | 0,n,h=>by simp [rng] at h
 | m+1,n,h=>by
  rw [rng_succ] at h ⊢
  by_cases h1:n∈rng m
  ·rw [idxOf_left h1];exact rng_idx h1
  ·rcases List.mem_append.1 h with h2 | h2
   ·exact absurd h2 h1
   ·rw [List.mem_singleton.1 h2] at h1 ⊢
    rw [idxOf_snoc h1,rng_len]
theorem closeL_ris:∀ (ts:List Ty),(∀ t∈ts,∀ m:Nat,((risT t m).1=true→0≤(risT t m).2∧closeT t (rng m)=(t,rng (risT t m).2.toNat))∧((risT t m).1=false→(closeT t (rng m)).1≠t))→∀ m:Nat,
  ((risL ts m).1=true→0≤(risL ts m).2∧closeL ts (rng m)=(ts,rng (risL ts m).2.toNat))∧((risL ts m).1=false→(closeL ts (rng m)).1≠ts)
 | [],_,m=>by
  refine ⟨fun _=>⟨by rw [risL];exact Int.natCast_nonneg m,?_⟩,fun h=>?_⟩
  ·rw [risL,closeL];simp
  ·rw [risL] at h;cases h
 | t :: ts,h,m=>by
  have ht:=h t (by simp) m
  rw [risL,closeL]
  cases hb:(risT t m).1 with
  | false =>
   rw [if_neg (by decide)]
   refine ⟨(fun h=>by cases h),fun _ e=>?_⟩
   injection e with e1 _
   exact ht.2 hb e1
  | true =>
   rw [if_pos rfl]
   obtain ⟨h0,he⟩:=ht.1 hb
   obtain ⟨j,hj⟩:∃ j:Nat,(risT t m).2=j:=⟨(risT t m).2.toNat,by omega⟩
   rw [he,hj,Int.toNat_natCast]
   have hr:=closeL_ris ts (fun a ha=>h a (by simp [ha])) j
   refine ⟨fun h1=>?_,fun h1 e=>?_⟩
   ·obtain ⟨h2,h3⟩:=hr.1 h1
    refine ⟨h2,?_⟩
    rw [h3]
   ·injection e with _ e2
    exact hr.2 h1 e2
theorem closeT_ris (T:Ty):FitAll T→∀ m:Nat,((risT T m).1=true→0≤(risT T m).2∧closeT T (rng m)=(T,rng (risT T m).2.toNat))∧((risT T m).1=false→(closeT T (rng m)).1≠T):=by
 induction T using Ty.ind with
 | h T ih =>
  intro hF m
  rw [risT_eq,closeT_eq]
  by_cases k1:T.kind=1
  ·rw [if_pos k1,if_pos k1]
   rcases fits_kinds hF.self with ⟨_,h0,h1,h2,h3⟩|⟨h,_⟩|⟨h,_⟩|⟨h,_⟩
   ·have ha:T.args=[]:=List.eq_nil_of_length_eq_zero h3
    have hnm:T.name=⟨#[]⟩:=by
     apply ByteArray.ext;apply Array.toList_inj.mp;rw [←ByteArray.toList_eq];exact h2
    have hT:T=.mk 1 T.num ⟨#[]⟩ []:=by
     obtain ⟨k,n,s,ts⟩:=T
     simp only [Ty.kind,Ty.num,Ty.name,Ty.args] at *
     subst k1 ha hnm;rfl
    by_cases e:T.num=m
    ·rw [if_pos e]
     have hno:(m:Int) ∉ rng m:=fun h=>by have:=rng_mem.1 h;omega
     refine ⟨fun _=>⟨by show (0:Int)≤m+1;omega,?_⟩,fun h=>by cases h⟩
     rw [e,idxOf_new hno,rng_len]
     have e2:((m:Int)+1).toNat=m+1:=by omega
     rw [e2,rng_succ]
     refine Prod.ext ?_ ?_
     ·show Ty.mk 1 (m:Int) ⟨#[]⟩ []=T
      rw [hT,e]
     ·show metV (rng m) (m:Int)=rng m ++ [(m:Int)]
      unfold metV;rw [if_neg hno]
    ·rw [if_neg e]
     by_cases hl:T.num < m
     ·have hin:T.num∈rng m:=rng_mem.2 ⟨h0,hl⟩
      refine ⟨fun _=>⟨by show (0:Int)≤m;omega,?_⟩,fun h=>?_⟩
      ·rw [Int.toNat_natCast]
       refine Prod.ext ?_ ?_
       ·show Ty.mk 1 (((rng m).idxOf T.num:Nat):Int) ⟨#[]⟩ []=T
        rw [rng_idx hin,←hT]
       ·show metV (rng m) T.num=rng m
        unfold metV;rw [if_pos hin]
      ·rw [decide_eq_true hl] at h;cases h
     ·refine ⟨fun h=>?_,fun _ e2=>?_⟩
      ·rw [decide_eq_false hl] at h;cases h
      ·have hno:T.num ∉ rng m:=fun h=>by have:=rng_mem.1 h;omega
       have e3:Ty.mk 1 (((rng m).idxOf T.num:Nat):Int) ⟨#[]⟩ []=T:=e2
       rw [idxOf_new hno,rng_len] at e3
       have:=congrArg Ty.num e3
       exact e this.symm
   ·omega
   ·omega
   ·omega
  ·rw [if_neg k1,if_neg k1]
   have hr:=closeL_ris T.args (fun t ht=>by obtain ⟨i,hi,rfl⟩:=List.getElem_of_mem ht;exact ih i hi (hF.arg hi)) m
   have h0:=fit_num0 hF.self k1
   refine ⟨fun h=>?_,fun h e=>?_⟩
   ·obtain ⟨h1,h2⟩:=hr.1 h
    refine ⟨h1,?_⟩
    rw [h2]
    refine Prod.ext ?_ rfl
    show Ty.mk T.kind 0 T.name T.args=T
    rw [←h0,←T.eta]
   ·have:=congrArg Ty.args e
    exact hr.2 h this
end Go.Typ
namespace Go.Proofs.YtaalbcfpacpgfaaGreat
open Go.RowKit Go.Lib Go.Vfs Go.Par Go.Typ Go.Shelf
theorem closed_same (T:Ty) (h:rightT T=true):closedT T=same (closeR T) T:=by
 have hF:=(rightT_iff.1 h).2
 have hk:=closeT_ris T hF 0
 have e0:rng 0=[]:=rfl
 unfold closedT closeR
 rw [if_pos h,h,Bool.true_and]
 rw [e0] at hk
 cases hb:(risT T 0).1 with
 | true =>
  have h1:=(hk.1 hb).2
  rw [h1]
  exact (same_true rfl).symm
 | false=>exact (same_false (hk.2 hb)).symm
set_option maxRecDepth 20000 in
set_option maxHeartbeats 1000000 in
theorem rclosed_any (T:Ty) (v:Value) (w:World) (hT:TyAt (· < w.heap.size) w v T) (hp:T.parts≤1099511627776) (hn:NmB 1000000000 T) :
  Calls Tryz.prog 149 #[v] w fun e w'=>e=.returned (.bool (closedT T))∧Below w.heap.size w w':=by
 obtain ⟨A,c,rfl,-⟩:=hT.form
 obtain ⟨W1,hW1⟩:∃ W1,W1=w.alloc (.cells #[.int .i64 T.kind,.int .i64 T.num,.string T.name,.slice A T.args.length c] 61):=⟨_,rfl⟩
 have hx:BX w w.heap.size T A c W1:=by rw [hW1];exact BX.new (Below.refl _ _) hT
 have HX:=Lib.hid hx
 have HCL:=Lib.hid (rclose_any T _ W1 hx.ty hp hn)
 obtain ⟨y0,y1,y2,y3⟩:=box4 hx.box
 rw [hW1] at y0 y1 y2 y3
 unfold tyV at HCL ⊢
 clear hT hx hp hn
 go_enter Tryz.func149,Tryz.ntmps149
 go_wp2_with fail
 rw [←hW1]
 clear hW1 y0 y1 y2 y3
 refine HCL.out.mono ?_
 rintro e w2 ⟨R,A2,c2,rfl,hR2,hb2,hR⟩
 have hx2:=HX.out.t hb2
 obtain ⟨W2,hW2⟩:∃ W2,W2=w2.alloc (.cells #[.int .i64 R.kind,.int .i64 R.num,.string R.name,.slice A2 R.args.length c2] 61):=⟨_,rfl⟩
 have hb3:Below w2.heap.size w2 W2:=by rw [hW2];exact (Below.refl _ _).alloc (Nat.le_refl _) _
 have hx3:=hx2.t hb3
 have ha3:BX w w2.heap.size R A2 c2 W2:=by rw [hW2];exact BX.new hx2.below (TyAt.sub hR2 fun g hg=>hg.2)
 have HB3:=Lib.hid hx3.below
 cases hr:rightT T with
 | false =>
  have HE:Hid (closedT T=false):=Lib.hid (by unfold closedT;rw [hr];rfl)
  rw [if_neg (by decide)]
  clear hr hR2 hb2 hR hx2 hb3 hx3 ha3
  unfold tyV
  go_wp2
  go_ret
  rw [HE.out,←hW2]
  exact ⟨rfl,HB3.out⟩
 | true =>
  have HE:Hid (closedT T=same R T):=Lib.hid (by rw [hR];exact closed_same T hr)
  rw [if_pos rfl]
  have hss:=sameType_any R T _ _ W2 ha3.ty hx3.ty
  obtain ⟨y0,y1,y2,y3⟩:=box4 hx3.box
  obtain ⟨z0,z1,z2,z3⟩:=box4 ha3.box
  rw [hW2] at y0 y1 y2 y3 z0 z1 z2 z3
  unfold tyV at hss ⊢
  have HSS:=Lib.hid hss
  clear hr hR2 hb2 hR hx2 hb3 hx3 ha3 hss
  go_wp2_with fail
  rw [←hW2]
  clear hW2 y0 y1 y2 y3 z0 z1 z2 z3
  refine HSS.out.mono ?_
  rintro e w4 ⟨rfl,hb4⟩
  have HB4:=Lib.hid (HB3.out.trans (hb4.mono HB3.out.size))
  clear hb4
  go_wp2
  go_ret
  rw [HE.out]
  exact ⟨rfl,HB4.out⟩
set_option maxRecDepth 20000 in
set_option maxHeartbeats 1000000 in
theorem r14small_any (T:Ty):∀ (v:Value) (w:World),TyAt (· < w.heap.size) w v T→Calls Tryz.prog 150 #[v] w fun e w'=>e=.returned (.bool (shortT T))∧Below w.heap.size w w':=by
 induction T using Ty.ind with
 | h T ih =>
  intro v w hT
  have IH:=Lib.hid ih
  clear ih
  obtain ⟨A,c,rfl,hc,hm,hn⟩:=hT.form
  have hla:T.args.length≤9223372036854775807:=by simp only [maxLen] at hm;omega
  obtain ⟨W1,hW1⟩:∃ W1,W1=w.alloc (.cells #[.int .i64 T.kind,.int .i64 T.num,.string T.name,.slice A T.args.length c] 61):=⟨_,rfl⟩
  have hb1:Below w.heap.size w W1:=by rw [hW1];exact (Below.refl _ _).alloc (Nat.le_refl _) _
  have hbx:W1.heap[w.heap.size]? = some (.cells #[.int .i64 T.kind,.int .i64 T.num,.string T.name,.slice A T.args.length c] 61 (0,0)):=by rw [hW1];exact heap_alloc_new _ _
  have HT1:=Lib.hid (hT.blw hb1);have HB1:=Lib.hid hb1;have HBX:=Lib.hid hbx
  have HZ1:Hid (W1.heap.size=w.heap.size+1):=Lib.hid (by rw [hW1];simp)
  obtain ⟨y0,y1,y2,y3⟩:=box4 hbx
  rw [hW1] at y0 y1 y2 y3
  have hln:T.name.size≤9223372036854775807:=hn
  obtain ⟨r,hr⟩:∃ r,r=(decide (T.name.size≤255) && decide (T.args.length≤255)):=⟨_,rfl⟩
  have HRA:Hid (shortT T=(r && shortL T.args)):=Lib.hid (by rw [shortT_eq,hr,Bool.and_assoc])
  have HR:=Lib.hid hr
  clear hT hbx hb1 hc hm hn hr
  unfold tyV
  go_enter Tryz.func150,Tryz.ntmps150
  go_upto_region 1 with fail
  rw [←hW1]
  rw [←hW1] at y0 y1 y2 y3
  clear hW1
  go_cut [3] (fun v W=>v=.bool r∧W=W1)
  case first =>
   by_cases h1:T.name.size≤255
   ·have g1:(T.name.size:Int)≤255:=by omega
    by_cases h2:T.args.length≤255
    ·have g2:(T.args.length:Int)≤255:=by omega
     have HRR:Hid (r=true):=Lib.hid (by rw [HR.out,decide_eq_true h1,decide_eq_true h2];rfl)
     clear h1 h2
     go_wp2_with fail
     go_meet
     exact ⟨by rw [HRR.out],rfl⟩
    ·have g2:¬ (T.args.length:Int)≤255:=by omega
     have HRR:Hid (r=false):=Lib.hid (by rw [HR.out,decide_eq_false h2,Bool.and_false])
     clear h1 h2
     go_wp2_with fail
     go_meet
     exact ⟨by rw [HRR.out],rfl⟩
   ·have g1:¬ (T.name.size:Int)≤255:=by omega
    have HRR:Hid (r=false):=Lib.hid (by rw [HR.out,decide_eq_false h1,Bool.false_and])
    clear h1
    go_wp2_with fail
    go_meet
    exact ⟨by rw [HRR.out],rfl⟩
  case rest =>
   obtain ⟨rfl,rfl⟩:=hcut
   clear y0 y1 y2 y3 HR
   go_wp2_with fail
   go_loopw [3,4] (fun ov iv W=>∃ (k:Nat) (ok:Bool),k≤T.args.length∧ov=.bool ok∧iv=.int .i64 k∧Hid (shortT T=(ok && shortL (T.args.drop k)))∧Hid (Below wc.heap.size wc W)) (fun _ iv _=>T.args.length - (RowKit.intOf iv).toNat)
   case atStart=>exact ⟨0,r,by omega,rfl,rfl,HRA,Lib.hid (Below.refl _ _)⟩
   case round =>
    obtain ⟨k,ok,hk,rfl,rfl,HW,HB⟩:=hrel
    have hbox:wr.heap[w.heap.size]? = some (.cells #[.int .i64 T.kind,.int .i64 T.num,.string T.name,.slice A T.args.length c] 61 (0,0)):=by
     rw [HB.out.block _ (by have:=HZ1.out;omega)];exact HBX.out
    obtain ⟨y0,y1,y2,y3⟩:=box4 hbox
    by_cases hlt:k < T.args.length
    ·cases ok with
     | true =>
      obtain ⟨b,off,A',c',rfl,hb,ht,x0,x1,x2,x3⟩:=(HT1.out.blw HB.out).arg hlt
      have hca:=IH.out k hlt _ wr ht
      have HS:Hid (shortT T=(shortT T.args[k] && shortL (T.args.drop (k+1)))):=Lib.hid (by rw [HW.out,shortL_step hlt,Bool.true_and])
      clear ht hbox
      generalize T.args[k]=U at *
      obtain ⟨q,hq⟩:∃ q,q=shortT U:=⟨_,rfl⟩
      rw [←hq] at hca HS
      unfold tyV at hca
      have HCA:=Lib.hid hca
      clear hca hq
      go_wp2_with (go_at_call 150;refine HCA.out.mono ?_;rintro e w2 ⟨rfl,HB2⟩)
      go_roundw
      case rel=>exact ⟨k+1,q,by omega,rfl,by go_num,HS,Lib.hid (HB.out.trans (HB2.mono HB.out.size))⟩
      case measure=>simp [RowKit.intOf];omega
     | false =>
      have HRES:Hid (shortT T=false):=Lib.hid (by rw [HW.out,Bool.false_and])
      go_wp2
      go_ret
      exact ⟨by rw [HRES.out];rfl,HB1.out.trans (HB.out.mono HB1.out.size)⟩
    ·have HRES:Hid (shortT T=ok):=Lib.hid (by rw [HW.out,List.drop_of_length_le (by omega),shortL,Bool.and_true])
     go_wp2
     go_ret
     exact ⟨by rw [HRES.out];rfl,HB1.out.trans (HB.out.mono HB1.out.size)⟩
end Go.Proofs.YtaalbcfpacpgfaaGreat
