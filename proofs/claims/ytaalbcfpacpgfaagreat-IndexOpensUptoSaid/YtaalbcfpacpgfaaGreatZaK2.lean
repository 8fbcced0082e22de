/- The reference's frames: next. -/
import Derived.Test.YtaalbcfpacpgfaaGreatZaK1
import Derived.Test.YtaalbcfpacpgfaaGreatZaJE
set_option linter.unusedVariables false
set_option linter.unusedSimpArgs false
namespace Go.Proofs.YtaalbcfpacpgfaaGreat
open Go.RowKit Go.Lib Go.Vfs Go.Par Go.Shelf
theorem results_tmp4 {fn:Func} {t u v x:Tmp} (h:fn.results=#[.tmp t,.tmp u,.tmp v,.tmp x]) (tmps:Array Value) (P:Program) (w:World) :
  (results fn tmps).run P w=.ok (.tuple #[tmps.getD t undef,tmps.getD u undef,tmps.getD v undef,tmps.getD x undef]) w:=by
 simp [results,h]
theorem be4_inj {a b:Nat} (ha:a < 4294967296) (hb:b < 4294967296) (h:be4 a=be4 b):a=b:=by
 have h1:=num4_be4 a ha []
 have h2:=num4_be4 b hb []
 rw [h,h2] at h1
 exact h1.symm
theorem frame_iff {b:List UInt8} {n:Nat} (hn:num4 (b.drop 4)=n) (hl:12+n≤b.length):frameB (num4 b) ((b.drop 12).take n)=b.take (12+n)↔crc (b.take 8 ++ (b.drop 12).take n)=num4 (b.drop 8):=by
 have hpl:((b.drop 12).take n).length=n:=by simp;omega
 obtain ⟨x0,x1,x2,r,l0,l1,l2,hb⟩:∃ x0 x1 x2 r:List UInt8,x0.length=4∧x1.length=4∧x2.length=4∧b=x0 ++ (x1 ++ (x2 ++ r)) :=
  ⟨b.take 4,(b.drop 4).take 4,((b.drop 4).drop 4).take 4,((b.drop 4).drop 4).drop 4,by simp;omega,by simp;omega,by simp;omega,by rw [List.take_append_drop,List.take_append_drop,List.take_append_drop]⟩
 have d4:b.drop 4=x1 ++ (x2 ++ r):=by rw [hb,←l0];simp
 have d8:b.drop 8=x2 ++ r:=by rw [show (8:Nat)=4+4 from rfl,←List.drop_drop,d4,←l1];simp
 have d12:b.drop 12=r:=by rw [show (12:Nat)=8+4 from rfl,←List.drop_drop,d8,←l2];simp
 have hG:=num4_lt b
 have hN:=num4_lt (b.drop 4)
 have hM:=num4_lt (b.drop 8)
 have e0:x0=be4 (num4 b):=num4_list hG x0 (x1 ++ (x2 ++ r)) l0 (by rw [←hb])
 have e1:x1=be4 n:=num4_list (by omega) x1 (x2 ++ r) l1 (by rw [←d4,hn])
 have e2:x2=be4 (num4 (b.drop 8)):=num4_list hM x2 r l2 (by rw [←d8])
 have t8:b.take 8=be4 (num4 b) ++ be4 n:=by
  rw [←e0,←e1]
  conv=>lhs;rw [hb]
  rw [←List.append_assoc,show (8:Nat)=(x0 ++ x1).length by rw [List.length_append];omega,List.take_left]
 have tn:b.take (12+n)=be4 (num4 b) ++ be4 n ++ be4 (num4 (b.drop 8)) ++ (b.drop 12).take n:=by
  rw [←e0,←e1,←e2,d12]
  conv=>lhs;rw [hb]
  rw [show x0 ++ (x1 ++ (x2 ++ r))=(x0 ++ x1 ++ x2) ++ r by simp,List.take_append,List.take_of_length_le (by simp;omega)]
  congr 2
  simp;omega
 have hc:=crc_lt (be4 (num4 b) ++ be4 n ++ (b.drop 12).take n)
 rw [tn,t8]
 unfold frameB
 rw [hpl]
 constructor
 ·intro h
  have h1:=List.append_cancel_right h
  have h2:=List.append_cancel_left h1
  exact be4_inj hc hM h2
 ·intro h
  rw [h]
def NextPost (w:World) (o:Option Fr) (e:Ending) (w':World):Prop:=Below w.heap.size w w'∧match o with
 | none=>∃ (g n:Int) (A:Option Addr) (m c:Nat),e=.returned (.tuple #[.int .i64 g,.slice A m c,.int .i64 n,.bool false])
 | some x=>∃ A c,e=.returned (.tuple #[.int .i64 (x.gen:Nat),.slice A x.pay.length c,.int .i64 (x.stop:Nat),.bool true])∧Par.Own w' w.heap.size 5 (.slice A x.pay.length c) (byteCells x.pay)
set_option maxRecDepth 20000 in
set_option maxHeartbeats 2000000 in
theorem next_any (A:Option Addr) (c:Nat) (b:List UInt8) (w:World) (h:Seg w w.heap.size (.slice A b.length c) (byteCells b)) (hl:b.length≤800000) :
  Calls Tryz.prog 99 #[.slice A b.length c] w (NextPost w (frAt b 0)):=by
 have H:=Lib.hid h
 clear h
 by_cases h12:b.length < 12
 ·have HE:Hid (frAt b 0=none):=Lib.hid (by unfold frAt;rw [if_pos (by omega)])
  rw [HE.out]
  have hd:(b.length:Int) < 12:=by omega
  go_enter Tryz.func99,Tryz.ntmps99
  go_wp2
  refine bodyPost_ret (results_tmp4 rfl _ _ _) rfl ?_
  exact ⟨Below.refl _ _,0,0,none,0,0,rfl⟩
 have hd:¬ (b.length:Int) < 12:=by omega
 obtain ⟨Am,cm,em,sm⟩:=seg_drop H.out 4 (by omega)
 have hs4:∀ w',(Instr.slice 24 (.slice A b.length c) (some (.int .i64 4)) none none).run Tryz.prog w'=.ok (.slice Am (b.length - 4) cm) w':=fun w'=>by
  have:=slice_from A b.length c 4 w' (by omega)
  rw [em] at this
  exact this
 obtain ⟨N,hNe⟩:∃ N,N=num4 (b.drop 4):=⟨_,rfl⟩
 have hN:=num4_lt (b.drop 4)
 rw [←hNe] at hN
 have HNE:=Lib.hid hNe
 have HV4:Hid (Calls Tryz.prog 128 #[.slice Am (b.length - 4) cm] w fun e w'=>e=.returned (.int .i64 (N:Nat))∧Hid (Below w.heap.size w w')):=Lib.hid (by
  refine (num_any _ _ _ w sm (by simp;omega)).mono ?_
  rintro e w' ⟨rfl,n,rfl⟩
  exact ⟨by rw [hNe],Lib.hid (below_drewN (Below.refl _ _) n)⟩)
 have hn0:frAt b 0=if 65536 < N∨b.length < 12+N then none else if crc (b.take 8 ++ (b.drop 12).take N)≠num4 (b.drop 8) then none else some ⟨num4 b,(b.drop 12).take N,0,12+N⟩:=by
  unfold frAt
  simp only [Nat.zero_add,List.drop_zero]
  rw [if_neg (by omega),←hNe]
 have HN0:=Lib.hid hn0
 clear hNe hn0 sm em
 by_cases hbig:65536 < N
 ·have HE:Hid (frAt b 0=none):=Lib.hid (by rw [HN0.out,if_pos (.inl hbig)])
  rw [HE.out]
  have hd1:(65536:Int) < (N:Int):=by omega
  go_enter Tryz.func99,Tryz.ntmps99
  go_wp2_with fail
  refine HV4.out.mono ?_
  rintro e w1 ⟨rfl,HB1⟩
  go_wp2
  refine bodyPost_ret (results_tmp4 rfl _ _ _) rfl ?_
  exact ⟨HB1.out,0,0,none,0,0,rfl⟩
 have hd1:¬ (65536:Int) < (N:Int):=by omega
 by_cases hlong:b.length < 12+N
 ·have HE:Hid (frAt b 0=none):=Lib.hid (by rw [HN0.out,if_pos (.inr hlong)])
  rw [HE.out]
  have hd2:(b.length:Int) < 12+(N:Int):=by omega
  go_enter Tryz.func99,Tryz.ntmps99
  go_wp2_with fail
  refine HV4.out.mono ?_
  rintro e w1 ⟨rfl,HB1⟩
  go_wp2
  refine bodyPost_ret (results_tmp4 rfl _ _ _) rfl ?_
  exact ⟨HB1.out,0,0,none,0,0,rfl⟩
 have hd2:¬ (b.length:Int) < 12+(N:Int):=by omega
 have HN1:Hid (frAt b 0=if crc (b.take 8 ++ (b.drop 12).take N)≠num4 (b.drop 8) then none else some ⟨num4 b,(b.drop 12).take N,0,12+N⟩):=Lib.hid (by rw [HN0.out,if_neg (by omega)])
 obtain ⟨hc5,A5,c5,e5,s5⟩:=seg_mid H.out 12 (12+N) (by omega) (by omega)
 rw [show 12+N - 12=N by omega] at e5 s5
 have hs5:∀ w',(Instr.slice 24 (.slice A b.length c) (some (.int .i64 12)) (some (.int .i64 (12+(N:Int)))) none).run Tryz.prog w'=.ok (.slice A5 N c5) w':=fun w'=>by
  have:=slice_lh A b.length c 12 (12+N) w' (by omega) hc5
  rw [e5,show ((12+N:Nat):Int)=12+(N:Int) by omega] at this
  exact this
 have hw12:IntKind.i64.wrap (12+(N:Int))=12+(N:Int):=IntWalk.i64_in _ (by omega)
 have hs6:∀ w',(Instr.slice 24 (.slice A b.length c) none (some (.int .i64 (12+(N:Int)))) none).run Tryz.prog w'=.ok (.slice A (12+N) c) w':=fun w'=>by
  have:=slice_front A b.length c (12+N) w' hc5
  rw [show ((12+N:Nat):Int)=12+(N:Int) by omega] at this
  exact this
 obtain ⟨hct,sft⟩:=seg_take H.out (12+N) (by omega)
 obtain ⟨p,hp⟩:∃ p,p=(b.drop 12).take N:=⟨_,rfl⟩
 have hpl:p.length=N:=by rw [hp];simp;omega
 rw [←hp] at s5 HN1
 have HP:=Lib.hid hp;have HS5:=Lib.hid s5;have HST:=Lib.hid sft;have HPL:=Lib.hid hpl
 have hgl:=num4_lt b
 have HG:Hid (Calls Tryz.prog 128 #[.slice A b.length c] w fun e w'=>e=.returned (.int .i64 (num4 b:Nat))∧True):=Lib.hid ((num_any _ _ _ w H.out (by omega)).mono fun e w' h=>⟨h.1,trivial⟩)
 have HNUM:Hid (∀ X,Below w.heap.size w X→Calls Tryz.prog 128 #[.slice A b.length c] X fun e w'=>e=.returned (.int .i64 (num4 b:Nat))∧Hid (Below X.heap.size X w')):=Lib.hid fun X hX=>by
  refine (num_any _ _ _ X (H.out.below hX) (by omega)).mono ?_
  rintro e w' ⟨rfl,n,rfl⟩
  exact ⟨rfl,Lib.hid (below_drewN (Below.refl _ _) n)⟩
 have HFI:Hid (frameB (num4 b) p=b.take (12+N)↔crc (b.take 8 ++ p)=num4 (b.drop 8)):=Lib.hid (by rw [hp];exact frame_iff HNE.out.symm (by omega))
 generalize num4 b=g at *
 clear hp s5 sft hpl HN0 HG hc5 hct
 go_enter Tryz.func99,Tryz.ntmps99
 go_wp2_with fail
 refine HV4.out.mono ?_
 rintro e w1 ⟨rfl,HB1⟩
 clear HV4
 go_wp2_with fail
 refine (copyBytes_any _ p w.heap.size w1 (HS5.out.below HB1.out) HB1.out.size (by have:=HPL.out;omega)).mono ?_
 rintro e w2 ⟨u2,rfl,hu2,hb2⟩
 have HB2:=Lib.hid (HB1.out.trans (hb2.mono HB1.out.size))
 obtain ⟨A2,c2,hf2⟩:=hu2.form
 rw [byteCells_length,HPL.out] at hf2
 have HU2:=Lib.hid hu2
 clear hu2 hb2
 subst hf2
 go_wp2_with fail
 refine (HNUM.out w2 HB2.out).mono ?_
 rintro e w3 ⟨rfl,HB23⟩
 have HB3:=Lib.hid (HB2.out.trans (HB23.out.mono HB2.out.size))
 have HU3:=Lib.hid (HU2.out.below HB23.out)
 have HBZ:Hid (Below w3.heap.size w3 w3.drew):=Lib.hid (Below.refl _ w3).drew
 have HFR:=Lib.hid (rframe_any g hgl (.slice A2 N c2) p w3.drew (Own.seg HU3.out) (by have:=HPL.out;omega))
 clear HNUM HU2 hs4 hs5
 go_upto_region 8 with fail
 refine wp_region_held (S:=fun _=>True) (by kernel_rfl) ?_
 refine wpAnyH_take (i:=0) (v:=.int .i64 (g:Nat)) rfl (by kernel_rfl) (by kernel_rfl) (by kernel_rfl) (fun _ _ _ h=>h) (Or.inl ⟨by rfl,fun w' hS=>by go_simp⟩) trivial ?_
 refine wpAnyH_take (i:=1) (v:=.slice A2 N c2) rfl (by kernel_rfl) (by kernel_rfl) (by kernel_rfl) (fun _ _ _ h=>h) (Or.inl ⟨by rfl,fun w' hS=>by go_simp⟩) trivial ?_
 refine wpAnyH_take (i:=2) (v:=.int .i64 (N:Nat)) rfl (by kernel_rfl) (by kernel_rfl) (by kernel_rfl) (fun _ _ _ h=>h) (Or.inl ⟨by rfl,fun w' hS=>by go_simp⟩) trivial ?_
 refine wpAnyH_take (i:=3) (v:=.int .i64 (12+(N:Int))) rfl (by kernel_rfl) (by kernel_rfl) (by kernel_rfl) (fun _ _ _ h=>h) (Or.inl ⟨by rfl,fun w' hS=>by go_simp⟩) trivial ?_
 refine wpAnyH_take (i:=4) (v:=.int .i64 (g:Nat)) rfl (by kernel_rfl) (by kernel_rfl) (by kernel_rfl) (fun _ _ _ h=>h) (Or.inl ⟨by rfl,fun w' hS=>by go_simp⟩) trivial ?_
 refine wpAnyH_take (i:=5) (v:=.slice A2 N c2) rfl (by kernel_rfl) (by kernel_rfl) (by kernel_rfl) (fun _ _ _ h=>h) (Or.inl ⟨by rfl,fun w' hS=>by go_simp⟩) trivial ?_
 refine wpAnyH_take (i:=7) (v:=.slice A b.length c) rfl (by kernel_rfl) (by kernel_rfl) (by kernel_rfl) (fun _ _ _ h=>h) (Or.inl ⟨by rfl,fun w' hS=>by go_simp⟩) trivial ?_
 refine wpAnyH_take (i:=8) (v:=.int .i64 (N:Nat)) rfl (by kernel_rfl) (by kernel_rfl) (by kernel_rfl) (fun _ _ _ h=>h) (Or.inl ⟨by rfl,fun w' hS=>by go_simp⟩) trivial ?_
 refine wpAnyH_take (i:=9) (v:=.int .i64 (12+(N:Int))) rfl (by kernel_rfl) (by kernel_rfl) (by kernel_rfl) (fun _ _ _ h=>h) (Or.inl ⟨by rfl,fun w' hS=>by go_simp⟩) trivial ?_
 refine wpAnyH_take (i:=10) (v:=.slice A (12+N) c) rfl (by kernel_rfl) (by kernel_rfl) (by kernel_rfl) (fun _ _ _ h=>h) (Or.inl ⟨by rfl,fun w' hS=>by go_simp⟩) trivial ?_
 refine wpAnyH_all (rs:=[6]) (by kernel_rfl) (by simp) ?_
 intro i hi
 simp only [List.mem_cons,List.not_mem_nil,or_false] at hi
 subst hi
 refine wpOp_of rfl rfl (fun K hK=>?_)
 go_simp
 refine HFR.out.mono ?_
 rintro e w4 ⟨A4,c4,rfl,hu4,hb4⟩
 have HB4:=Lib.hid (HB3.out.trans ((HBZ.out.trans hb4).mono HB3.out.size))
 have HB34:=Lib.hid (HBZ.out.trans hb4)
 have hs4:=Own.seg hu4
 have hst:=(HST.out.below HB4.out).more HB4.out.size
 have HS4:=Lib.hid hs4;have HSTT:=Lib.hid hst
 clear hu4 hb4 HFR hs4 hst
 refine hK _ _ ⟨trivial,?_⟩
 clear hK K
 refine wpAnyH_all (rs:=[11]) (by kernel_rfl) (by simp) ?_
 intro i hi
 simp only [List.mem_cons,List.not_mem_nil,or_false] at hi
 subst hi
 refine wpOp_of rfl rfl (fun K hK=>?_)
 go_simp
 have hsb:=sameBytes_any _ _ _ _ w4.heap.size w4 HS4.out HSTT.out
 obtain ⟨D,hD⟩:∃ D,D=decide (frameB g p=b.take (12+N)):=⟨_,rfl⟩
 rw [←hD] at hsb
 have HD:=Lib.hid hD
 clear hD
 refine hsb.mono ?_
 rintro e w5 ⟨rfl,n5,hw5⟩
 have HB5:=Lib.hid (show Below w.heap.size w w5 by rw [hw5];exact below_drewN HB4.out n5)
 have HU5:Hid (Par.Own w5 w.heap.size 5 (.slice A2 N c2) (byteCells p)):=Lib.hid (by rw [hw5];exact ((HU3.out.below HB34.out).base HB1.out.size))
 clear hsb hw5 HS4 HSTT
 refine hK _ _ ⟨trivial,?_⟩
 clear hK K
 refine wpAnyH_take (i:=12) (v:=.int .i64 (g:Nat)) rfl (by kernel_rfl) (by kernel_rfl) (by kernel_rfl) (fun _ _ _ h=>h) (Or.inl ⟨by rfl,fun w' hS=>by go_simp⟩) trivial ?_
 refine wpAnyH_take (i:=13) (v:=.slice A2 N c2) rfl (by kernel_rfl) (by kernel_rfl) (by kernel_rfl) (fun _ _ _ h=>h) (Or.inl ⟨by rfl,fun w' hS=>by go_simp⟩) trivial ?_
 refine wpAnyH_take (i:=14) (v:=.int .i64 (12+(N:Int))) rfl (by kernel_rfl) (by kernel_rfl) (by kernel_rfl) (fun _ _ _ h=>h) (Or.inl ⟨by rfl,fun w' hS=>by go_simp⟩) trivial ?_
 refine wpAnyH_take (i:=15) (v:=.bool D) rfl (by kernel_rfl) (by kernel_rfl) (by kernel_rfl) (fun _ _ _ h=>h) (Or.inl ⟨by rfl,fun w' hS=>by go_simp⟩) trivial ?_
 refine wpAnyH_done (by kernel_rfl) ?_ _
 cases D
 ·have hc:crc (b.take 8 ++ p)≠num4 (b.drop 8):=fun h=>by
   have:=HFI.out.2 h
   have h2:=HD.out
   rw [decide_eq_true this] at h2
   cases h2
  have HE:Hid (frAt b 0=none):=Lib.hid (by rw [HN1.out,if_pos hc])
  clear hc
  go_wp2
  refine bodyPost_ret (results_tmp4 rfl _ _ _) rfl ?_
  rw [HE.out]
  exact ⟨HB5.out,_,_,_,_,_,rfl⟩
 ·have hc:crc (b.take 8 ++ p)=num4 (b.drop 8):=HFI.out.1 (of_decide_eq_true HD.out.symm)
  have HE:Hid (frAt b 0=some ⟨g,p,0,12+N⟩):=Lib.hid (by rw [HN1.out,if_neg (by simpa using hc)])
  clear hc
  go_wp2
  refine bodyPost_ret (results_tmp4 rfl _ _ _) rfl ?_
  rw [HE.out]
  refine ⟨HB5.out,A2,c2,?_,by simp only;rw [HPL.out];exact HU5.out⟩
  simp only
  rw [HPL.out,show ((12+N:Nat):Int)=12+(N:Int) by omega]
  rfl
end Go.Proofs.YtaalbcfpacpgfaaGreat
